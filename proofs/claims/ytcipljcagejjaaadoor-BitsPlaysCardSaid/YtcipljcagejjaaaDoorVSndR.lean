/- A loop over a function's values: its proposition gives its contract. -/
import Derived.Test.YtcipljcagejjaaaDoorVSnd9
import Derived.RangeFuncRecord
set_option linter.unusedVariables false
namespace Go.V
structure EvX (l : Nat) (w w' : World) : Prop where
  os : w'.os = w.os
  tape : w'.tape = w.tape
  output : w'.output = w.output
  size : w.heap.size ≤ w'.heap.size
  dfr : ∀ (b : Nat) (d : Option (List Deferred)), w.heap[b]? = some (Obj.deferred d) → w'.heap[b]? = some (Obj.deferred d)
  lop : ∀ (b : Nat) (d : Loop), b ≠ l → w.heap[b]? = some (Obj.loop d) → w'.heap[b]? = some (Obj.loop d)
theorem EvX.trans {l : Nat} {a b c : World} (h : EvX l a b) (k : EvX l b c) : EvX l a c :=
  ⟨k.os.trans h.os, k.tape.trans h.tape, k.output.trans h.output, Nat.le_trans h.size k.size, fun x d hx => k.dfr x d (h.dfr x d hx), fun x d hl hx => k.lop x d hl (h.lop x d hl hx)⟩
theorem EvX.of {l : Nat} {a b : World} (h : Ev a b) : EvX l a b := ⟨h.os, h.tape, h.output, h.size, h.dfr, fun x d _ hx => h.lop x d hx⟩
theorem EvXOk (l : Nat) : EOk (EvX l) := ⟨fun h k => h.trans k, fun _ _ h => .of h, fun h k d hd => h.dfr k d hd, fun h => h.size⟩
theorem EvX.putObj {l : Nat} {w : World} {r r' : Loop} (h : w.heap[l]? = some (.loop r)) : EvX l w (w.putObj l (.loop r')) := by
  refine ⟨rfl, rfl, rfl, by simp, fun b d hb => ?_, fun b d hne hb => ?_⟩
  · rw [World.putObj_heap_other]; exact hb
    intro e; subst e; rw [h] at hb; cases hb
  · rw [World.putObj_heap_other hne]; exact hb
theorem Ev.ofX {l : Nat} {a b : World} (h : EvX l a b) (hl : a.heap.size ≤ l) : Ev a b :=
  ⟨h.os, h.tape, h.output, h.size, h.dfr, fun x d hx => h.lop x d (fun e => by have := (Array.getElem?_eq_some_iff.1 hx).1; omega) hx⟩
theorem Ev.back {l : Nat} {a b c : World} (h1 : Ev a b) (h : EvX l b c) (hl : a.heap.size ≤ l) : Ev a c :=
  ⟨h.os.trans h1.os, h.tape.trans h1.tape, h.output.trans h1.output, Nat.le_trans h1.size h.size, fun x d hx => h.dfr x d (h1.dfr x d hx),
    fun x d hx => h.lop x d (fun e => by have := (Array.getElem?_eq_some_iff.1 hx).1; omega) (h1.lop x d hx)⟩
theorem St.putObj {w : World} {b : Nat} {o : Obj} {L : List Asn} (h : St w (blk b o :: L)) (o' : Obj) (ho : notD o' = true := by rfl) : St (w.putObj b o') (blk b o' :: L) := h.setObj o' ho
theorem St.alloc {w : World} {L : List Asn} (h : St w L) (o : Obj) (ho : notD o = true := by rfl) : St (w.alloc o) (blk w.heap.size o :: L) := h.push o ho
theorem St.allocD {w : World} {L : List Asn} (h : St w L) (d : Option (List Deferred)) : St (w.alloc (.deferred d)) L := h.eq (hp_pushD w d)

theorem C_exall {c : Cs} {q p : Value → Prop} (h : c.ex q) (ha : c.all p) : ∃ v, q v ∧ p v := by
  cases c <;> simp only [Cs.ex, Cs.all] at h ha
  case slice => obtain ⟨a, l, c, h⟩ := h; exact ⟨_, h, ha _ _ _⟩
  case fn => obtain ⟨a, l, h⟩ := h; exact ⟨_, h, ha _ _⟩
  all_goals (obtain ⟨a, h⟩ := h; exact ⟨_, h, ha _⟩)
theorem exC_all {l : List Cs} : ∀ {q p : List Value → Prop}, exC l q → allC l p → ∃ vs, q vs ∧ p vs := by
  induction l with
  | nil => exact fun h k => ⟨[], h, k⟩
  | cons c l ih => intro q p h k; obtain ⟨v, h, k⟩ := C_exall h k; obtain ⟨vs, h, k⟩ := ih h k; exact ⟨v :: vs, h, k⟩
theorem S1_exall {c : S1} {q p : Value → Prop} (h : c.ex q) (ha : c.all p) : ∃ v, q v ∧ p v := by
  cases c with
  | one c => exact C_exall h ha
  | agg l => obtain ⟨vs, h, k⟩ := exC_all h ha; exact ⟨_, h, k⟩
theorem exS_all {l : List S1} : ∀ {q p : List Value → Prop}, exS l q → allS l p → ∃ vs, vs.length = l.length ∧ q vs ∧ p vs := by
  induction l with
  | nil => exact fun h k => ⟨[], rfl, h, k⟩
  | cons c l ih => intro q p h k; obtain ⟨v, h, k⟩ := S1_exall h k; obtain ⟨vs, hl, h, k⟩ := ih h k; exact ⟨v :: vs, by simp [hl], h, k⟩
theorem allE_mem {p : Nat → Prop} : ∀ {l : List Nat}, allE l p → ∀ j, memN j l = true → p j
  | [], _, j, h => by simp [memN] at h
  | [a], h, j, hj => by
    simp only [memN, Bool.or_false] at hj
    rw [Nat.eq_of_beq_eq_true hj]; exact h
  | a :: b :: l, h, j, hj => by
    obtain ⟨h1, h2⟩ := h
    by_cases e : Nat.beq j a = true
    · rw [Nat.eq_of_beq_eq_true e]; exact h1
    · refine allE_mem h2 j ?_
      rw [memN] at hj
      simpa [e] using hj
theorem shs_len : ∀ lv, (shs lv).length = lv.length
  | [] => rfl
  | _ :: l => by simp [shs, shs_len l]
theorem sameN_len : ∀ {ps : List Nat} {lv : List (Nat × S1)}, sameN ps lv = true → ps.length = lv.length
  | [], [], _ => rfl
  | [], _ :: _, h => by simp [sameN] at h
  | _ :: _, [], h => by simp [sameN] at h
  | a :: l, (b, c) :: m, h => by simp only [sameN, Bool.and_eq_true] at h; simp [sameN_len h.2]
theorem fold_updS {N : Nat} {d : List Deferred} : ∀ (ps : List Nat) (lv : List (Nat × S1)) (vs : List Value) (fr : Fr), sameN ps lv = true → vs.length = lv.length →
    (ps.zip vs).foldl (fun (t : Array Value) (x : Nat × Value) => t.setIfInBounds x.1 x.2) (actOf N fr d).tmps = (actOf N (updS N fr lv vs) d).tmps
  | [], [], vs, fr, _, hl => by simp [updS]
  | [], _ :: _, _, _, h, _ => by simp [sameN] at h
  | _ :: _, [], _, _, h, _ => by simp [sameN] at h
  | a :: l, (b, c) :: m, [], fr, h, hl => by simp at hl
  | a :: l, (b, c) :: m, v :: vs, fr, h, hl => by
    simp only [sameN, Bool.and_eq_true] at h
    have hab := Nat.eq_of_beq_eq_true h.1
    subst hab
    simp only [List.zip_cons_cons, List.foldl_cons, updS]
    have := put_act N fr d (some a) v
    rw [← fold_updS l m vs _ h.2 (by simpa using hl), ← this]
    rfl
section
variable {P : Program} {Ty : TypeId → Option TyI} {Fn : FuncId → Bool} {E : World → World → Prop} {N : Nat} {k : Nat} {rf : Bool}
theorem rng_sound (hrf : rf = true) (hT : TyOk P Ty) (hF : FnOk P Fn) (hE : EOk E) (hEE : ∀ a b, E a b → Ev a b) (A : Ann) {f : Operand} {ps : Array Tmp} {a b : Code} {fr : Fr} {w : World} {n r : Fr → World → Prop} {x : Nat → Fr → World → Prop} {ds : List Deferred}
    (iha : ∀ (ro : Option Nat) (k : Nat) (fr : Fr) (w : World) (n r : Fr → World → Prop) (x : Nat → Fr → World → Prop), den P Ty Fn E N A a fr w n r x → Fits N fr → ∀ ds, a.wpIn (wf ro) k P (QN rf E N (wrs a) fr w ds n r x) (actOf N fr ds) w)
    (ihb : ∀ (ro : Option Nat) (k : Nat) (fr : Fr) (w : World) (n r : Fr → World → Prop) (x : Nat → Fr → World → Prop), den P Ty Fn E N A b fr w n r x → Fits N fr → ∀ ds, b.wpIn (wf ro) k P (QN rf E N (wrs b) fr w ds n r x) (actOf N fr ds) w)
    {g : FuncId} {first cap : Array Value} {lv : List (Nat × S1)} (hv : ev fr f = .func (.func g) first cap) (hg : Fn g = true) (hps : sameN ps.toList lv = true)
    (h : rngV P g first.toList cap.toList (shs lv) (exitsOf b) w
          (fun vs w K => den P Ty Fn E N A a (updS N fr lv vs) w K (fun _ _ => False) (fun _ _ _ => False))
          (fun fr1 w n' r' x' => den P Ty Fn E N A b fr1 w (fun _ w => n' w) (fun _ w => r' w) (fun j _ w => x' j w)) (n fr) (r fr) (fun j => x j fr))
    (hf : Fits N fr) : (Code.rangeFunc f ps a b).wpIn (wf none) k P (QN rf E N [] fr w ds n r x) (actOf N fr ds) w := by
  obtain ⟨xs, D, Q, J, Jr, Jx0, L, h0, hQL, hI, hty, hrd0, hn, hr, hx0⟩ := h
  let Jx : Nat → Asn := fun j => sta [pu (memN j (exitsOf b) = true), Jx0 j]
  have jx : ∀ j w L, St w (Jx j :: L) ↔ ifT (memN j (exitsOf b)) (St w (Jx0 j :: L)) := fun j w L => by
    rw [ifT_iff]; exact St.flat.trans St.pu
  have hx : ∀ j w', St w' (Jx j :: D :: L) → x j fr w' := fun j w' hs => by
    obtain ⟨h1, h2⟩ := ifT_iff.1 ((jx j w' _).1 hs)
    exact allE_mem hx0 j h1 w' h2
  have hrd : ∀ i, allS (shs lv) fun vs => xs[i]? = some vs → ∀ L' w, Sup L' L → St w (J i :: L') →
      den P Ty Fn E N A a (updS N fr lv vs) w (fun fr1 w1 => ∃ M : Asn, St w1 (M :: L') ∧ ∀ L' w, Sup L' L → St w (M :: L') →
        den P Ty Fn E N A b fr1 w (fun _ w' => St w' (J (i + 1) :: L')) (fun _ w' => St w' (Jr :: L')) (fun j _ w' => St w' (Jx j :: L'))) (fun _ _ => False) (fun _ _ _ => False) := fun i => by
    have e : (fun (L : List Asn) (j : Nat) (_ : Fr) (w' : World) => St w' (Jx j :: L)) = fun L j _ w' => ifT (memN j (exitsOf b)) (St w' (Jx0 j :: L)) := by
      funext L j _ w'; exact propext (jx j w' L)
    have := hrd0 i
    have e2 : ∀ L : List Asn, (fun (j : Nat) (_ : Fr) (w' : World) => St w' (Jx j :: L)) = fun j _ w' => ifT (memN j (exitsOf b)) (St w' (Jx0 j :: L)) := fun L => congrFun e L
    simp only [e2]
    exact this
  refine wpIn_rangeFunc fun fn _ => ?_
  let rec0 : Loop := { state := .ready, pending := none, fn, tmps := (actOf N fr ds).tmps, params := ps, assign := a, body := b, defers := w.heap.size }
  let w1 : World := (w.alloc (.deferred (some []))).alloc (.loop rec0)
  have hl : w.heap.size + 1 = (w.alloc (.deferred (some []))).heap.size := by simp
  have ew1 : Ev w w1 := (Ev.push w _).trans (Ev.push _ _)
  have he : (f : Operand) = f := rfl
  have e2 : first ++ (#[.func (.yield (w.heap.size + 1)) #[] #[]] : Array Value) ++ cap = ⟨app3 first.toList [.func (.yield (w.heap.size + 1)) #[] #[]] cap.toList⟩ := by
    apply Array.ext'; simp [app3_eq]
  have hev : (actOf N fr ds).eval f = .func (.func g) first cap := by rw [ev_act N fr ds hf]; exact hv
  refine ⟨w.heap.size + 1, [mk1 w.heap.size], w1, ⟨.fn (.func g) cap, first ++ #[.func (.yield (w.heap.size + 1)) #[] #[]]⟩, w1, g, ⟨app3 first.toList [.func (.yield (w.heap.size + 1)) #[] #[]] cap.toList⟩, w1,
    run_enterLoop_outer fn _ ps a b, ?_, fun _ _ => trivial, ?_, fun h => (by cases h), ?_⟩
  · simp only [resolve, rangeCall, List.map_toArray, List.map_cons, List.map_nil, hev, Deferred.ofValue, Sem.run_pure, Sem.run_bind, Result.andThen_ok]
    rfl
  · simp only [invoke, e2, run_callFunc hF hg]
  · have hcall : RunE P (EvX (w.heap.size + 1)) g (app3 first.toList [.func (.yield (w.heap.size + 1)) #[] #[]] cap.toList) w1 _ :=
      hI (w.heap.size + 1) (EvX (w.heap.size + 1)) (EvXOk _) (fun i => sta [J i, blk (w.heap.size + 1) (.loop rec0)])
        (ex fun c : Option Nat => match c with
          | none => sta [Jr, blk (w.heap.size + 1) (.loop { rec0 with state := .done, pending := some .ret })]
          | some j => sta [Jx j, blk (w.heap.size + 1) (.loop { rec0 with state := .done, pending := some (.exit j) })])
        L w1 ?_ hQL ?_
    · refine callsIn_wide.2 ?_
      refine Calls.mono hcall ?_
      rintro e w3 ⟨v, rfl, hX, hQ⟩
      have fin : ∀ (st : LoopState) (pd : Option Code) (M : Asn), st ≠ .busy → St w3 (M :: blk (w.heap.size + 1) (.loop { rec0 with state := st, pending := pd }) :: D :: L) →
          ∃ w4, (Instr.endLoop (w.heap.size + 1)).run P w3 = .ok pd w4 ∧ St w4 (M :: D :: L) ∧ E w w4 ∧ Mk rf w w4 [mk1 w.heap.size] := by
        intro st pd M hst hs
        have hs' := hs.swap
        have hg := hs'.get
        refine ⟨_, run_endLoop hg hst, (hs'.putObj _).tail, ?_, ?_⟩
        · exact hE.ofEv _ _ (ew1.back (hX.trans (EvX.putObj hg)) (by omega))
        · refine ⟨fun h => (by rw [hrf] at h; cases h), [w.heap.size], rfl, by simp, fun d hd => ?_⟩
          simp only [List.mem_singleton] at hd
          subst hd
          refine ⟨Nat.le_refl _, ?_⟩
          refine (hX.trans (EvX.putObj hg)).dfr _ _ ?_
          show ((w.heap.push _).push _)[w.heap.size]? = _
          rw [Array.getElem?_push, if_neg (by simp), Array.getElem?_push, if_pos rfl]
      have qn : ∀ w4, E w w4 → Mk rf w w4 [mk1 w.heap.size] → ∀ {p : Prop}, p → ∃ fr' ds', { (actOf N fr ds) with defers := [mk1 w.heap.size] ++ (actOf N fr ds).defers } = actOf N fr' (ds' ++ ds) ∧ Fits N fr' ∧ Agr [] fr fr' ∧ E w w4 ∧ Mk rf w w4 ds' ∧ (fr' = fr ∧ p) :=
        fun w4 h1 h2 _ hp => ⟨fr, [mk1 w.heap.size], rfl, hf, Agr.refl _ _, h1, h2, rfl, hp⟩
      rcases hQ with hQ | hQ
      · have hQ := St.flat.1 hQ
        obtain ⟨w4, h1, h2, h3, h4⟩ := fin .ready none _ (by intro h; cases h) hQ
        refine ⟨none, w4, h1, ?_⟩
        obtain ⟨fr', ds', g1, g2, g3, g4, g5, rfl, g6⟩ := qn w4 h3 h4 (hn w4 h2)
        exact ⟨_, ds', g1, g2, g3, g4, g5, g6⟩
      · obtain ⟨c, hQ⟩ := St.ex.1 hQ
        cases c with
        | none =>
          have hQ := St.flat.1 hQ
          obtain ⟨w4, h1, h2, h3, h4⟩ := fin .done (some .ret) _ (by intro h; cases h) hQ
          refine ⟨some .ret, w4, h1, wpIn_ret ?_⟩
          obtain ⟨fr', ds', g1, g2, g3, g4, g5, rfl, g6⟩ := qn w4 h3 h4 (hr w4 h2)
          exact ⟨_, ds', g1, g2, g3, g4, g5, g6⟩
        | some j =>
          have hQ := St.flat.1 hQ
          obtain ⟨w4, h1, h2, h3, h4⟩ := fin .done (some (.exit j)) _ (by intro h; cases h) hQ
          refine ⟨some (.exit j), w4, h1, wpIn_exit ?_⟩
          obtain ⟨fr', ds', g1, g2, g3, g4, g5, rfl, g6⟩ := qn w4 h3 h4 (hx j w4 h2)
          exact ⟨_, ds', g1, g2, g3, g4, g5, g6⟩
    · have h1 := (h0.allocD (some [])).alloc (.loop rec0)
      rw [← hl] at h1
      refine St.flat.2 ?_
      exact h1.swap
    · intro i as hi L' w' hsup hs
      have hs1 := St.flat.1 hs
      have hg := hs1.swap.get
      obtain ⟨vs, hvl, hve, hvs⟩ := exS_all (hty as (List.mem_of_getElem? hi)) (hrd i)
      subst hve
      have hlen : as.length = lv.length := by rw [hvl, shs_len]
      have hpl := sameN_len hps
      have hden := hvs hi (blk (w.heap.size + 1) (.loop rec0) :: L') w' (fun h hh => hsup h (starL_tail hh)) hs1
      refine ⟨fn, (actOf N (updS N fr lv as) []).tmps, a, b, ?_, ?_⟩
      · have hy := run_yield (P := P) (args := ⟨as⟩) hg (by show as.length = ps.size; rw [hlen, ← hpl]; simp)
        rw [hy]
        have hz : (ps.zip (⟨as⟩ : Array Value)).foldl (fun (t : Array Value) (x : Nat × Value) => t.setIfInBounds x.1 x.2) (actOf N fr ds).tmps = (actOf N (updS N fr lv as) []).tmps := by
          rw [show (actOf N (updS N fr lv as) []).tmps = (actOf N (updS N fr lv as) ds).tmps from rfl, ← fold_updS ps.toList lv as fr hps hlen, ← Array.foldl_toList]
          congr 1
          simp
        show Result.ok (Next.round (w.heap.size + 1) fn ((ps.zip (⟨as⟩ : Array Value)).foldl (fun (t : Array Value) (x : Nat × Value) => t.setIfInBounds x.1 x.2) (actOf N fr ds).tmps) a b) w' = _
        rw [hz]
      · refine roundIn_of_wpIn trivial ?_
        have hfit : Fits N (updS N fr lv as) := fits_updS lv _ hf
        refine wpIn_mono (iha (some (w.heap.size + 1)) 0 _ w' _ _ _ hden hfit []) fun e a1 w1' hq => ?_
        cases e with
        | normal =>
          obtain ⟨fr1, ds1, rfl, q2, q3, q4, q5, M, q6, q7⟩ := hq
          have hs2 := q6.swap
          have hg2 := hs2.get
          refine ⟨_, run_beginRound hg2 rfl, ?_⟩
          have hs3 := (hs2.putObj (.loop { rec0 with state := .busy })).swap
          have hx3 : EvX (w.heap.size + 1) w' (w1'.putObj (w.heap.size + 1) (.loop { rec0 with state := .busy })) := (EvX.of (hEE _ _ q4)).trans (EvX.putObj hg2)
          refine wpIn_mono (ihb (some (w.heap.size + 1)) 0 _ _ _ _ _ (q7 _ _ (fun h hh => hsup h (starL_tail hh)) hs3) q2 _) fun e a2 w2 hq => ?_
          cases e with
          | normal =>
            obtain ⟨fr2, ds2, rfl, p2, p3, p4, p5, p6⟩ := hq
            have hs4 := p6.swap
            have hg4 := hs4.get
            refine ⟨_, _, run_endRound none hg4, _, rfl, (hx3.trans (EvX.of (hEE _ _ p4))).trans (EvX.putObj hg4), .inl ⟨rfl, St.flat.2 (hs4.putObj _).swap⟩⟩
          | ret =>
            obtain ⟨fr2, ds2, rfl, p2, p3, p4, p5, p6⟩ := hq
            have hs4 := p6.swap
            have hg4 := hs4.get
            refine ⟨_, _, run_endRound (some .ret) hg4, _, rfl, (hx3.trans (EvX.of (hEE _ _ p4))).trans (EvX.putObj hg4), .inr ⟨rfl, St.ex.2 ⟨none, St.flat.2 (hs4.putObj _).swap⟩⟩⟩
          | exit j =>
            obtain ⟨fr2, ds2, rfl, p2, p3, p4, p5, p6⟩ := hq
            have hs4 := p6.swap
            have hg4 := hs4.get
            refine ⟨_, _, run_endRound (some (.exit j)) hg4, _, rfl, (hx3.trans (EvX.of (hEE _ _ p4))).trans (EvX.putObj hg4), .inr ⟨rfl, St.ex.2 ⟨some j, St.flat.2 (hs4.putObj _).swap⟩⟩⟩
          | goto l => exact hq.elim
          | panic ch => exact hq.elim
          | outgrown => exact hq.elim
        | ret => obtain ⟨_, _, _, _, _, _, _, hh⟩ := hq; exact hh.elim
        | exit j => obtain ⟨_, _, _, _, _, _, _, hh⟩ := hq; exact hh.elim
        | goto l => exact hq.elim
        | panic ch => exact hq.elim
        | outgrown => exact hq.elim
end
end Go.V
