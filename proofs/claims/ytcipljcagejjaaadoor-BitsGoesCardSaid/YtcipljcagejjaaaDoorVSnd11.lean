/- A function's contract. -/
import Derived.Test.YtcipljcagejjaaaDoorVSnd10
set_option linter.unusedVariables false
namespace Go.V
section
variable {P : Program} {Ty : TypeId → Option TyI} {Fn : FuncId → Bool} {E : World → World → Prop} {N : Nat}
theorem loads_hp {w w' : World} (h : hp w' = hp w) {a : Addr} {i : TyI} {v : Value} (hl : Loads w a i v) : Loads w' a i v := by
  unfold Loads at *
  split at hl
  · rename_i hk; obtain ⟨vs, h1, h2⟩ := hl; exact ⟨vs, by rw [rowAt_hp h]; exact h1, h2⟩
  · rename_i hk; show w'.cell? a = _; rw [cell_hp h]; exact hl
def resM (tmps : Array Value) : ResultVar → Sem Value
  | .tmp t => pure (tmps.getD t undef)
  | .cell a t => do loadVar t (← asAddr (tmps.getD a undef))
theorem go_sound (hT : TyOk P Ty) {fr : Fr} {ds : List Deferred} {w : World} (hf : Fits N fr) : ∀ (l : List ResultVar) (k : List Value → Prop), resV.go Ty fr w l k →
    ∃ vs, (∀ w', hp w' = hp w → (l.mapM (resM (actOf N fr ds).tmps)).run P w' = .ok vs w') ∧ k vs
  | [], k, h => ⟨[], fun w' _ => rfl, h⟩
  | .tmp t :: l, k, h => by
    obtain ⟨vs, h1, h2⟩ := go_sound hT hf l _ h
    refine ⟨_, fun w' hw => ?_, h2⟩
    rw [List.mapM_cons, Sem.run_bind]
    show (Sem.run P (pure ((actOf N fr ds).tmps.getD t undef)) w').andThen _ = _
    simp only [Sem.run_pure, Result.andThen_ok, Sem.run_bind]
    rw [h1 w' hw, actOf_get N fr ds hf]
    simp
  | .cell a t :: l, k, h => by
    unfold resV.go at h
    split at h
    · rename_i p i ha hi
      obtain ⟨ad, hp', h5⟩ := nn_elim h
      subst hp'
      obtain ⟨v, hl, h6⟩ := ldv_elim h5
      obtain ⟨vs, h1, h2⟩ := go_sound hT hf l _ h6
      refine ⟨_, fun w' hw => ?_, h2⟩
      rw [List.mapM_cons, Sem.run_bind]
      show (Sem.run P (do loadVar t (← asAddr ((actOf N fr ds).tmps.getD a undef))) w').andThen _ = _
      simp only [Sem.run_bind, actOf_get N fr ds hf, ha, asAddr, Sem.run_pure, Result.andThen_ok]
      rw [run_loads hT hi (loads_hp hw hl)]
      simp only [Result.andThen_ok, Sem.run_bind]
      rw [h1 w' hw]
      simp
    · exact h.elim
theorem res_sound (hT : TyOk P Ty) {fn : Func} {fr : Fr} {ds : List Deferred} {w : World} (hf : Fits N fr) {R : Value → Prop} (h : resV P Ty fn.results.toList fr w R) :
    ∃ v, (∀ w', hp w' = hp w → (results fn (actOf N fr ds).tmps).run P w' = .ok v w') ∧ R v := by
  obtain ⟨vs, h1, h2⟩ := go_sound (ds := ds) hT hf _ _ h
  refine ⟨if h : vs.length = 1 then vs[0] else .tuple ⟨vs⟩, fun w' hw => ?_, ?_⟩
  · have he : results fn (actOf N fr ds).tmps = (do let vs ← fn.results.mapM (resM (actOf N fr ds).tmps); pure (if h : vs.size = 1 then vs[0] else .tuple vs)) := by
      unfold results
      congr 2
    rw [he, Array.mapM_eq_mapM_toList, map_eq_pure_bind]
    simp only [Sem.run_bind]
    rw [h1 w' hw]
    simp
  · split at h2
    · simpa using h2
    · rename_i hne
      split
      · rename_i hl
        cases vs with
        | nil => simp at hl
        | cons v l => cases l with
          | nil => exact absurd rfl (hne v)
          | cons _ _ => simp at hl
      · exact h2
/- the marks are come to -/
theorem marks_sound {F : Fence} {n : Nat} {fn : Func} {tmps : Array Value} {R : Ending → World → Prop} {w0 : World} (hE : EOk E) : ∀ (Ds : List Nat) (w : World), Ds.Nodup → (∀ D ∈ Ds, w0.heap.size ≤ D ∧ w.heap[D]? = some (Obj.deferred (some []))) → Ev w0 w →
    (∀ w', hp w' = hp w → Ev w0 w' → ∃ v, (results fn tmps).run P w' = .ok v w' ∧ R (.returned v) w') → LeavesInM F n P fn tmps R (Ds.map mk1) .returning w
  | [], w, _, _, he, h => h w rfl he
  | D :: Ds, w, hn, hD, he, h => by
    obtain ⟨h1, h2⟩ := hD D (by simp)
    rw [List.nodup_cons] at hn
    refine ⟨(by intro h; cases h), .inl ⟨D, _, rfl, run_takeDeferred h2, ?_⟩⟩
    have hhp : hp (w.putObj D (.deferred none)) = hp w := hp_setD h2
    have he' : Ev w0 (w.putObj D (.deferred none)) := by
      refine ⟨he.os, he.tape, he.output, by simpa using he.size, fun b d hb => ?_, fun b d hb => ?_⟩
      · rw [World.putObj_heap_other]; exact he.dfr _ _ hb
        have := (Array.getElem?_eq_some_iff.1 hb).1; omega
      · rw [World.putObj_heap_other]; exact he.lop _ _ hb
        have := (Array.getElem?_eq_some_iff.1 hb).1; omega
    refine marks_sound hE Ds _ hn.2 (fun D' h' => ?_) he' fun w' g1 g2 => h w' (g1.trans hhp) g2
    refine ⟨(hD D' (by simp [h'])).1, ?_⟩
    rw [World.putObj_heap_other]
    · exact (hD D' (by simp [h'])).2
    · intro e; subst e; exact hn.1 h'
theorem numS_get : ∀ (l : List Value) (i t : Nat), getS (numS i l) t = if i ≤ t then (l[t - i]?).getD undef else undef
  | [], i, t => by simp [numS, getS]
  | v :: l, i, t => by
    simp only [numS]
    rw [getS_cons, numS_get l (i + 1) t]
    by_cases h : i = t
    · subst h; simp
    · rw [if_neg h]
      by_cases h2 : i + 1 ≤ t
      · rw [if_pos h2, if_pos (by omega)]
        have : t - i = (t - (i + 1)) + 1 := by omega
        rw [this]; simp
      · rw [if_neg h2, if_neg (by omega)]
theorem run_of (hT : TyOk P Ty) (hF : FnOk P Fn) (hm : P.follows .mixedOrders = true) {f : FuncId} {fn : Func} (hfn : P.funcs[f]? = some fn) (A : Ann) (hE : EOk E)
    (hro : (match fn.body with | some c => hasRF c | none => false) = true → ∀ a b, E a b → Ev a b) {args : List Value} {w : World} {R : Value → World → Prop}
    (h : fnV P Ty Fn E A fn args w R) : RunE P E f args w R := by
  unfold fnV at h
  cases hb : fn.body with
  | none => rw [hb] at h; exact h.elim
  | some c =>
    rw [hb] at h hro
    dsimp only at h hro
    obtain ⟨hle, h⟩ := bif_elim h
    have hle := leL_eq _ _ hle
    refine callsIn_wide.1 (callsIn_of_wp_marks (F := Fence.wide) (n := 0) hfn hb trivial ?_)
    have ha : ({ tmps := (⟨args⟩ : Array Value) ++ Array.replicate (fn.ntmps - (⟨args⟩ : Array Value).size) undef, defers := [] } : Act) = actOf fn.ntmps (numS 0 args) [] := by
      simp only [actOf, Act.mk.injEq, and_true]
      apply Array.ext'
      apply List.ext_getElem?
      intro i
      simp only [Array.toList_append, Array.toList_replicate, List.getElem?_map]
      by_cases hi : i < args.length
      · rw [List.getElem?_append_left hi, List.getElem?_range (by omega)]
        simp [numS_get, hi]
      · rw [List.getElem?_append_right (by omega)]
        by_cases hi2 : i < fn.ntmps
        · rw [List.getElem?_range hi2]
          have : args[i]? = none := List.getElem?_eq_none (by omega)
          have h3 : i - args.length < fn.ntmps - args.length := by omega
          simp [numS_get, this, h3]
        · have : (List.range fn.ntmps)[i]? = none := List.getElem?_eq_none (by simp; omega)
          rw [this]; simp; omega
    rw [ha]
    have hfit : Fits fn.ntmps (numS 0 args) := fun t ht => by
      rw [numS_get, if_pos (Nat.zero_le _), List.getElem?_eq_none (by omega)]; rfl
    have fin : ∀ a' w', (∃ fr ds', a' = actOf fn.ntmps fr (ds' ++ []) ∧ Fits fn.ntmps fr ∧ Agr (wrs c) (numS 0 args) fr ∧ E w w' ∧ Mk (hasRF c) w w' ds' ∧ resV P Ty fn.results.toList fr w' fun v => retV c R v w') →
        LeavesInM Fence.wide 0 P fn a'.tmps (fun e w' => ∃ v, e = .returned v ∧ E w w' ∧ R v w') a'.defers .returning w' := by
      rintro a' w' ⟨fr, ds', rfl, h1, h2, h3, ⟨h0, Ds, rfl, h4, h5⟩, h6⟩
      obtain ⟨v, g1, g2⟩ := res_sound (ds := (Ds.map mk1) ++ []) hT h1 h6
      show LeavesInM Fence.wide 0 P fn (actOf fn.ntmps fr (Ds.map mk1 ++ [])).tmps _ (Ds.map mk1 ++ []) .returning w'
      cases hrf : hasRF c with
      | true =>
        have hEE := hro hrf
        simp only [retV, hrf, cond_true] at g2
        generalize (actOf fn.ntmps fr (Ds.map mk1 ++ [])).tmps = tm at g1
        rw [List.append_nil]
        exact marks_sound hE Ds w' h4 h5 (hEE _ _ h3) fun w2 k1 k2 => ⟨v, g1 w2 k1, v, rfl, hE.ofEv _ _ k2, g2 w2 k1⟩
      | false =>
        simp only [retV, hrf, cond_false] at g2
        have hd := h0 hrf
        generalize (actOf fn.ntmps fr (Ds.map mk1 ++ [])).tmps = tm at g1
        rw [hd]
        exact ⟨v, g1 w' rfl, v, rfl, h3, g2⟩
    refine wpIn_mono (den_sound hT hF hE hm A c none (fun hh => ⟨rfl, hh, hro hh⟩) 0 _ w _ _ _ h hfit []) fun e a' w' hq => ?_
    cases e with
    | normal => exact fin a' w' hq
    | ret => exact fin a' w' hq
    | exit i => obtain ⟨_, _, _, _, _, _, _, hh⟩ := hq; exact hh.elim
    | goto l => exact hq.elim
    | panic ch => exact hq.elim
    | outgrown => exact hq.elim
def bodyRF (fn : Func) : Bool := match fn.body with | some c => hasRF c | none => false
theorem run_ev (hT : TyOk P Ty) (hF : FnOk P Fn) (hm : P.follows .mixedOrders = true) {f : FuncId} {fn : Func} (hfn : P.funcs[f]? = some fn) (A : Ann) {args : List Value} {w : World} {R : Value → World → Prop}
    (h : fnV P Ty Fn Ev A fn args w R) : Run P f args w R := run_of hT hF hm hfn A EvOk (fun _ _ _ h => h) h
theorem run_gen (hT : TyOk P Ty) (hF : FnOk P Fn) (hm : P.follows .mixedOrders = true) {f : FuncId} {fn : Func} (hfn : P.funcs[f]? = some fn) (A : Ann) (hE : EOk E) (hb : bodyRF fn = false) {args : List Value} {w : World} {R : Value → World → Prop}
    (h : fnV P Ty Fn E A fn args w R) : RunE P E f args w R := run_of hT hF hm hfn A hE (fun h => absurd (hb.symm.trans h) (by simp)) h
end
end Go.V
