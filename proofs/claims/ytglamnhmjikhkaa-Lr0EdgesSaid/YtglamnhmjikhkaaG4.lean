/- Texts of this claim, one behind the other. -/
import Derived.Test.YtglamnhmjikhkaaG3
import Derived.Test.YtglamnhmjikhkaaG2
import Derived.Test.YtglamnhmjikhkaaRows
import Derived.WalkKit
import Derived.ProofKit
import Derived.OpenShut
import Derived.Carry
import Derived.OpenVars
import Derived.Deep.DeepHandedRow
import Derived.Lib.LaidTab
set_option linter.unusedVariables false
namespace Go.V
def Res (g : GramT) (ss : List SQ) (ask int f : Int) : Prop :=
  (¬ClosedP g ∧ ss = [] ∧ ask = 0 ∧ int = 0 ∧ f = 1) ∨ (ClosedP g ∧ BigP g ∧ ss = [] ∧ ask = 0 ∧ int = 0 ∧ f = 11) ∨ (ClosedP g ∧ AutI g ss ∧ ask = 1 + (totE (esOf ss) : Int) ∧ int = (ss.length : Int) ∧ f = 0)
theorem Res.one {g : GramT} {ss ss' : List SQ} {a i f a' i' f' : Int} (h : Res g ss a i f) (h' : Res g ss' a' i' f') : ksOf ss = ksOf ss' ∧ esOf ss = esOf ss' ∧ a = a' ∧ i = i' ∧ f = f' ∧ ss.length = ss'.length := by
  rcases h with ⟨h1, rfl, rfl, rfl, rfl⟩ | ⟨h1, hb, rfl, rfl, rfl, rfl⟩ | ⟨h1, hA, rfl, rfl, rfl⟩
  · rcases h' with ⟨h2, rfl, rfl, rfl, rfl⟩ | ⟨h2, _⟩ | ⟨h2, _⟩
    · exact ⟨rfl, rfl, rfl, rfl, rfl, rfl⟩
    · exact absurd h2 h1
    · exact absurd h2 h1
  · rcases h' with ⟨h2, _⟩ | ⟨h2, _, rfl, rfl, rfl, rfl⟩ | ⟨h2, hA, _⟩
    · exact absurd h1 h2
    · exact ⟨rfl, rfl, rfl, rfl, rfl, rfl⟩
    · exact (done_big hA.dn hb).elim
  · rcases h' with ⟨h2, _⟩ | ⟨h2, hb, _⟩ | ⟨h2, hA', rfl, rfl, rfl⟩
    · exact absurd h1 h2
    · exact (done_big hA.dn hb).elim
    · have e := done_one hA.dn hA'.dn
      have e2 : esOf ss = esOf ss' := by rw [hA.es, hA'.es, e]
      refine ⟨by rw [hA.ks, hA'.ks, e], e2, by rw [e2], by rw [e], rfl, e⟩
theorem AutI.klen {g : GramT} {ss : List SQ} (hc : ClosedP g) (h : AutI g ss) : ∀ q ∈ ss, q.1.2.length ≤ 29100 ∧ q.2.2.length ≤ 130 := fun q hq => by
  obtain ⟨hT, hN, hP, hP2, _, _⟩ := hc.sizes
  have hI := bst_inv (g := g) (by omega) ss.length
  obtain ⟨j, hj⟩ := List.getElem?_of_mem hq
  have e : (bst g ss.length).1[j]? = some q.1.2 := by rw [← h.ks]; unfold ksOf; rw [List.getElem?_map, hj]; rfl
  have e2 : (bst g ss.length).2[j]? = some q.2.2 := by rw [← h.es]; unfold esOf; rw [List.getElem?_map, hj]; rfl
  have hm := List.mem_of_getElem? e
  have hjl := (List.getElem?_eq_some_iff.1 hj).1
  have h256 := h.dn.2.1
  refine ⟨kern_len hP (hI.srt _ hm) (hI.fit _ hm) fun x hx => by have := hI.dots j _ e x hx; omega, ?_⟩
  have key : ∀ i, ∀ es ∈ (bst g i).2, es.length ≤ g.T + g.N := by
    intro i
    induction i with
    | zero => intro es hes; simp [bst] at hes
    | succ i ih =>
      intro es hes
      cases hi : (bst g i).1[i]? with
      | none => rw [bst_none hi] at hes; exact ih es hes
      | some K =>
        rw [bst_succ hi] at hes
        rcases List.mem_append.1 hes with hes | hes
        · exact ih es hes
        · rw [List.mem_singleton] at hes
          subst hes
          rw [bsy_len2]
          have := List.length_filter_le (fun s => decide (kern g K (s : Nat) ≠ [])) (List.range (g.T + g.N))
          rw [List.length_range] at this
          simpa [symsOf] using this
  have := key _ _ (List.mem_of_getElem? e2)
  omega
theorem Res.klen {g : GramT} {ss : List SQ} {a i f : Int} (h : Res g ss a i f) : (∀ q ∈ ss, q.1.2.length ≤ 29100 ∧ q.2.2.length ≤ 130) ∧ ss.length ≤ 256 := by
  rcases h with ⟨_, rfl, _⟩ | ⟨_, _, rfl, _⟩ | ⟨hc, hA, _⟩
  · exact ⟨fun q hq => by simp at hq, by simp⟩
  · exact ⟨fun q hq => by simp at hq, by simp⟩
  · exact ⟨hA.klen hc, hA.dn.2.1⟩
theorem ssV_kset {ss : List SQ} {i : Nat} {q : SQ} (hq : ss[i]? = some q) (k : Lq ItemT) : (ssV ss).set (i * 2) (slQ k) = ssV (ss.set i (k, q.2)) :=
  fm_set (f := stV) (n := 2) (fun _ => rfl) ss i 0 q (k, q.2) _ hq (by decide) rfl
theorem ks_kset {ss : List SQ} {i : Nat} {q : SQ} (hq : ss[i]? = some q) (k : Lq ItemT) : kOw (ss.set i (k, q.2)) = (kOw ss).set i (owQ 2 tv k) ∧ eOw (ss.set i (k, q.2)) = eOw ss := by
  refine ⟨?_, ?_⟩
  · unfold kOw; rw [List.map_set]
  · unfold eOw; rw [List.map_set]
    exact set_same (by rw [List.getElem?_map, hq]; rfl)
theorem ssV_ksame {ss : List SQ} {i : Nat} {q : SQ} (hq : ss[i]? = some q) {xs : List ItemT} (hl : xs.length = q.1.2.length) : ssV (ss.set i ((q.1.1, xs), q.2)) = ssV ss := by
  rw [← ssV_kset hq (q.1.1, xs)]
  refine set_same ?_
  have e : slQ (q.1.1, xs) = slQ q.1 := by unfold slQ; rw [hl]
  rw [e]
  have := (fm_set (f := stV) (n := 2) (fun _ => rfl) ss i 0 q q (slQ q.1) hq (by decide) rfl)
  rw [set_same hq] at this
  have hlt : i * 2 < (ssV ss).length := by rw [ssV_len]; have := (List.getElem?_eq_some_iff.1 hq).1; omega
  have h2 : ((ssV ss).set (i * 2 + 0) (slQ q.1))[i * 2]? = some (slQ q.1) := List.getElem?_set_self hlt
  rw [show ssV ss = ss.flatMap stV from rfl, this] at h2
  exact h2
theorem ssV_esame {ss : List SQ} {i : Nat} {q : SQ} (hq : ss[i]? = some q) {xs : List EdgeT} (hl : xs.length = q.2.2.length) : ssV (ss.set i (q.1, (q.2.1, xs))) = ssV ss := by
  rw [← ssV_set hq (q.2.1, xs)]
  refine set_same ?_
  have e : slQ (q.2.1, xs) = slQ q.2 := by unfold slQ; rw [hl]
  rw [e]
  have := (fm_set (f := stV) (n := 2) (fun _ => rfl) ss i 1 q q (slQ q.2) hq (by decide) rfl)
  rw [set_same hq] at this
  have hlt : i * 2 + 1 < (ssV ss).length := by rw [ssV_len]; have := (List.getElem?_eq_some_iff.1 hq).1; omega
  have h2 : ((ssV ss).set (i * 2 + 1) (slQ q.2))[i * 2 + 1]? = some (slQ q.2) := List.getElem?_set_self hlt
  rw [show ssV ss = ss.flatMap stV from rfl, this] at h2
  exact h2
theorem ev2_set {xs : List EdgeT} {i : Nat} {x : EdgeT} (hi : i < xs.length) : (ev2 xs).take (i * 2) ++ [.int .i64 x.sym, .int .i64 x.to] ++ (ev2 xs).drop (i * 2 + 2) = ev2 (xs.set i x) := by
  rw [List.set_eq_take_append_cons_drop, if_pos hi]
  have ap : ∀ a b : List EdgeT, ev2 (a ++ b) = ev2 a ++ ev2 b := fun a b => List.flatMap_append
  have e1 : ev2 xs = ev2 (xs.take i) ++ ev2 (xs.drop i) := by rw [← ap, List.take_append_drop]
  have e2 : ev2 xs = ev2 (xs.take (i + 1)) ++ ev2 (xs.drop (i + 1)) := by rw [← ap, List.take_append_drop]
  have l1 : (ev2 (xs.take i)).length = i * 2 := by rw [ev2_len, List.length_take]; omega
  have l2 : (ev2 (xs.take (i + 1))).length = i * 2 + 2 := by rw [ev2_len, List.length_take]; omega
  have t1 : (ev2 xs).take (i * 2) = ev2 (xs.take i) := by rw [e1, List.take_left' l1]
  have t2 : (ev2 xs).drop (i * 2 + 2) = ev2 (xs.drop (i + 1)) := by rw [e2, List.drop_left' l2]
  rw [t1, t2, ap]
  show _ = _ ++ (encE x ++ ev2 (xs.drop (i + 1)))
  simp [encE]
end Go.V
namespace Go.Proofs.Ytglamnhmjikhkaa
open Go.V
section
variable {w : World} {L : List Asn} {g : GramT} {x : GA}
theorem y_BuildR (hg : gR (hp w) g x) (hb : okG g) : Run Try.prog n_lr0_Build [.agg ⟨x.cells⟩] w fun v w' => ∃ (o : Option Addr) (c : Nat) (ss : List SQ) (ask int f : Int), v = .tuple #[.agg #[.slice o ss.length c, .int .i64 ask, .int .i64 int], .int .i64 f] ∧ Res g ss ask int f ∧ St w' (own 2 o ss.length c (ssV ss) :: sta (kOw ss) :: sta (eOw ss) :: all w) := by
  refine (y_Build hg hb).mono ?_
  have z : ∀ {w' : World}, Gr w w' → St w' (own 2 none 0 0 (ssV []) :: sta (kOw []) :: sta (eOw []) :: all w) := fun gr => own_nil 2 ((St.flat (M := [])).2 ((St.flat (M := [])).2 (St.here gr)))
  rintro _ w' (⟨hn, rfl, gr⟩ | ⟨hc, hbig, rfl, gr⟩ | ⟨hc, o, ss, hA, rfl, h⟩)
  · exact ⟨none, 0, [], 0, 0, 1, rfl, .inl ⟨hn, rfl, rfl, rfl, rfl⟩, z gr⟩
  · exact ⟨none, 0, [], 0, 0, 11, rfl, .inr (.inl ⟨hc, hbig, rfl, rfl, rfl, rfl⟩), z gr⟩
  · exact ⟨o, _, ss, _, _, 0, rfl, .inr (.inr ⟨hc, hA, rfl, rfl, rfl⟩), h⟩
theorem d_BuildR (hg : gR (hp w) g x) (hb : okG g) : Run Try.prog n_presageref09_Build [.agg ⟨x.cells⟩] w fun v w' => ∃ (o : Option Addr) (c : Nat) (ss : List SQ) (ask int f : Int), v = .tuple #[.agg #[.slice o ss.length c, .int .i64 ask, .int .i64 int], .int .i64 f] ∧ Res g ss ask int f ∧ St w' (own 2 o ss.length c (ssV ss) :: sta (kOw ss) :: sta (eOw ss) :: all w) := by
  refine (d_Build hg hb).mono ?_
  have z : ∀ {w' : World}, Gr w w' → St w' (own 2 none 0 0 (ssV []) :: sta (kOw []) :: sta (eOw []) :: all w) := fun gr => own_nil 2 ((St.flat (M := [])).2 ((St.flat (M := [])).2 (St.here gr)))
  rintro _ w' (⟨hn, rfl, gr⟩ | ⟨hc, hbig, rfl, gr⟩ | ⟨hc, o, c, ss, hA, rfl, h⟩)
  · exact ⟨none, 0, [], 0, 0, 1, rfl, .inl ⟨hn, rfl, rfl, rfl, rfl⟩, z gr⟩
  · exact ⟨none, 0, [], 0, 0, 11, rfl, .inr (.inl ⟨hc, hbig, rfl, rfl, rfl, rfl⟩), z gr⟩
  · exact ⟨o, _, ss, _, _, 0, rfl, .inr (.inr ⟨hc, hA, rfl, rfl, rfl⟩), h⟩
theorem neEdge (w : World) (xo yo : Operand) (x : EdgeT) : Sem.run Try.prog (cmpS .neq ty_api_Edge xo yo (.agg ⟨encE x⟩) (.agg ⟨encE x⟩)) w = .ok (.bool false) w := by
  have ht : Try.prog.underlying ty_api_Edge = some (.struct (Try.prog.fieldsOf ty_api_Edge)) := by kernel_rfl
  have hi : Try.prog.underlying ty_int = some (.int .i64) := und_int
  have hf : (Try.prog.fieldsOf ty_api_Edge).toList = [{ name := "Sym", type := ty_int, offset := 0, embedded := false, tag := "", pkgPath := "", byteOffset := 0 }, { name := "To", type := ty_int, offset := 1, embedded := false, tag := "", pkgPath := "", byteOffset := 8 }] := by kernel_rfl
  have p0 : ∀ (v u : Value) (w : World), (part ty_int #[v, u] 0).run Try.prog w = .ok v w := fun v u w => by simp [part, run_isAgg hi, kdOf, Kd.isAgg]
  have p1 : ∀ (v u : Value) (w : World), (part ty_int #[v, u] 1).run Try.prog w = .ok u w := fun v u w => by simp [part, run_isAgg hi, kdOf, Kd.isAgg]
  have eqI : ∀ n m d w, (Op.equalIn (d + 1) ty_int (.int .i64 n) (.int .i64 m)).run Try.prog w = .ok (n == m) w := fun n m d w => run_equalIn_int w d _ _ _ _ _ hi
  have key : (Op.equalIn (9998 + 1 + 1) ty_api_Edge (.agg ⟨encE x⟩) (.agg ⟨encE x⟩)).run Try.prog w = .ok true w := by
    unfold encE
    rw [run_equalIn_agg w (9998 + 1) ty_api_Edge _ _ ht sih_api_Edge, hf]
    unfold Op.eqFields
    simp only [ne_eq, String.reduceEq, not_false_eq_true, if_true, Sem.run_bind, p0, Result.andThen_ok, eqI, beq_self_eq_true, Bool.not_true, Bool.false_eq_true, if_false]
    unfold Op.eqFields
    simp only [ne_eq, String.reduceEq, not_false_eq_true, if_true, Sem.run_bind, p1, Result.andThen_ok, eqI, beq_self_eq_true, Bool.not_true, Bool.false_eq_true, if_false]
    unfold Op.eqFields
    simp
  unfold cmpS
  rw [Sem.run_bind, run_eqGuard_agg w _ _ _ _ _ _ eqg_api_Edge]
  simp only [Result.andThen_ok]
  rw [run_neq_struct]
  show ((Op.equalIn (9998 + 1 + 1) ty_api_Edge (.agg ⟨encE x⟩) (.agg ⟨encE x⟩)).run Try.prog w).andThen _ = _
  rw [key]
  rfl
set_option maxHeartbeats 1000000 in
theorem d_SameA {o o' : Option Addr} {c c' : Nat} {ss ss' : List SQ} {ask int : Int} (hs : stRd (hp w) ss o) (hs' : stRd (hp w) ss' o') (hk : ksOf ss = ksOf ss') (he : esOf ss = esOf ss') (hn : ss.length ≤ 300) (hB : ∀ q ∈ ss, q.1.2.length ≤ 29100 ∧ q.2.2.length ≤ 130) :
    Run Try.prog n_presageref09_Same [.agg #[.slice o ss.length c, .int .i64 ask, .int .i64 int], .agg #[.slice o' ss'.length c', .int .i64 ask, .int .i64 int]] w fun v w' => v = .bool true ∧ Gr w w' := by
  have hl : ss.length = ss'.length := by have := congrArg List.length hk; rwa [ksOf_len, ksOf_len] at this
  refine run_presageref09_Same _ _ _ _ _ _ _ _ _ _ w _ (newC_i (St.all w) fun k1 w1 h => newC_i h fun k2 w2 h => ?_)
  have r1 : rowH (hp w2) (aM k1) [.slice o ss.length c, .int .i64 ask, .int .i64 int] := rdCel 1 h.l
  have r2 : rowH (hp w2) (aM k2) [.slice o' ss'.length c', .int .i64 ask, .int .i64 int] := rdCel 0 h.l
  have g2 : Gr w w2 := rdH 2 h.l
  have hs := hs.mono g2
  have hs' := hs'.mono g2
  clear h
  refine ⟨fun b w' => b = false ∧ Gr w2 w', ⟨_, r1.cell (sub.refl _) (j := 1) rfl, _, r2.cell (sub.refl _) (j := 1) rfl, br_f (by simp) ⟨_, r1.cell (sub.refl _) (j := 2) rfl, _, r2.cell (sub.refl _) (j := 2) rfl, br_f (by simp) ⟨_, _, _, r1.cell0 (sub.refl _), _, _, _, r2.cell0 (sub.refl _), by rw [hl]; simp, Gr.refl _⟩⟩⟩, ?_⟩
  rintro _ _ w3 ⟨rfl, g3⟩
  refine br_f rfl ⟨fun z w' => ∃ i : Nat, z = i ∧ i ≤ ss.length ∧ Gr w2 w', fun z _ => ss.length - z.toNat, ⟨0, rfl, Nat.zero_le _, g3⟩, ?_⟩
  rintro _ _ w4 ⟨i, rfl, hi, g4⟩
  refine ⟨_, _, _, r1.cell0 g4, br_intro (fun h1 => ?_) fun h1 => ⟨rfl, g2.trans g4⟩⟩
  have h1 : i < ss.length := by have := of_decide_eq_true h1; omega
  have hq : ss[i]? = some ss[i] := List.getElem?_eq_getElem h1
  have hq' : ss'[i]? = some (ss'[i]'(by omega)) := List.getElem?_eq_getElem (by omega)
  have eK : (ss[i]).1.2 = (ss'[i]'(by omega)).1.2 := by
    have := congrArg (fun l => l[i]?) hk
    unfold ksOf at this
    simp only [List.getElem?_map, hq, hq', Option.map_some, Option.some.injEq] at this
    exact this
  have eE : (ss[i]).2.2 = (ss'[i]'(by omega)).2.2 := by
    have := congrArg (fun l => l[i]?) he
    unfold esOf at this
    simp only [List.getElem?_map, hq, hq', Option.map_some, Option.some.injEq] at this
    exact this
  have hBq := hB _ (List.mem_of_getElem? hq)
  generalize ss[i] = q at *
  generalize ss'[i]'(by omega) = q' at *
  obtain ⟨ad, rfl, rs, rk, re⟩ := hs i q hq
  obtain ⟨ad', rfl, rs', rk', re'⟩ := hs' i q' hq'
  refine ⟨_, _, _, r1.cell0 g4, idx_n rfl h1 ⟨_, _, _, _, _, _, rs.at g4 rfl, newC_i (St.all w4) fun k15 w5 h => stR_i h rfl (by simp [oneC]) fun w6 h => ?_⟩⟩
  have g6 : Gr w2 w6 := g4.trans h.gone1
  refine ⟨_, _, _, r2.cell0 g6, idx_n rfl (by omega) ⟨_, _, _, _, _, _, rs'.at g6 rfl, newC_i h fun k22 w7 h => stR_i h rfl (by simp [oneC]) fun w8 h => ?_⟩⟩
  have g8 : Gr w2 w8 := g4.trans (rdH 2 h.l)
  have r15 : rowH (hp w8) (aM k15) [slQ q.1, slQ q.2] := rdCel 1 h.l
  have r22 : rowH (hp w8) (aM k22) [slQ q'.1, slQ q'.2] := rdCel 0 h.l
  clear h
  refine ⟨_, _, _, r15.cell0 (sub.refl _), _, _, _, r22.cell0 (sub.refl _), (d_SameItems (rk.mono g8) (rk'.mono g8) (by omega)).mono ?_⟩
  rintro _ w9 ⟨rfl, e9⟩
  have g89 : Gr w8 w9 := Gr.of_eq e9
  have g9 := g8.trans g89
  refine ⟨_, rfl, fun b w' => b = false ∧ w' = w9, ?_, ?_⟩
  · rw [decide_eq_true eK]
    exact br_f rfl ⟨_, _, _, r15.cell g89 (j := 1) rfl, _, _, _, r22.cell g89 (j := 1) rfl, by rw [eE]; simp, rfl⟩
  rintro _ b w10 ⟨rfl, e10⟩
  rw [e10]
  refine br_f rfl ⟨fun z w' => ∃ k : Nat, z = k ∧ k ≤ q.2.2.length ∧ Gr w9 w', fun z _ => q.2.2.length - z.toNat, ⟨0, rfl, Nat.zero_le _, Gr.refl _⟩, ?_⟩
  rintro _ _ w11 ⟨k, rfl, hk', g11⟩
  refine ⟨_, _, _, r15.cell (g89.trans g11) (j := 1) rfl, br_intro (fun h2 => ?_) fun h2 => ?_⟩
  · have h2 : k < q.2.2.length := by have := of_decide_eq_true h2; omega
    intro w12 hd
    have g12 : Gr w9 w12 := g11.trans (Gr.drawn hd)
    obtain ⟨u, ed, hu, hue, ru⟩ := rdEd_get re h2
    obtain ⟨u', ed', hu', hue', ru'⟩ := rdEd_get re' (by rw [← eE]; exact h2)
    rw [eE, hu'] at hu
    cases hu
    refine ⟨fun v => Gr w12 v, Gr.refl _, _, _, _, fun v s => r15.cell (g89.trans (g12.trans s)) (j := 1) rfl, idx_n hue h2 ⟨_, _, fun v s => ru.at (sub.trans g9 (sub.trans g12 s)) rfl, _, _, _, fun v s => r22.cell (g89.trans (g12.trans s)) (j := 1) rfl, idx_n hue' (by rw [← eE]; exact h2) ⟨_, _, fun v s => ru'.at (sub.trans g9 (sub.trans g12 s)) rfl, _, fun v _ => neEdge v _ _ u, _, rfl, br_f rfl ⟨⟨by omega, by omega⟩, ⟨k + 1, by simp, h2, g12⟩, msr h2⟩⟩⟩⟩
  · exact ⟨⟨by omega, by omega⟩, ⟨i + 1, by simp, h1, g9.trans g11⟩, msr h1⟩
end
end Go.Proofs.Ytglamnhmjikhkaa
set_option linter.unusedVariables false
namespace Go.Proofs.Ytglamnhmjikhkaa
open Go.V
section
variable {w : World} {L : List Asn} {g : GramT} {x : GA}
theorem w_kern {n c i k : Nat} {o : Option Addr} {ss : List SQ} {q : SQ} {y : ItemT} {X : World → Prop} (hq : ss[i]? = some q) (hk : k < q.1.2.length) (h : St w (own 2 o n c (ssV ss) :: sta (kOw ss) :: L))
    (hX : ∀ w', St w' (own 2 o n c (ssV (ss.set i ((q.1.1, q.1.2.set k y), q.2))) :: sta (kOw (ss.set i ((q.1.1, q.1.2.set k y), q.2))) :: L) → X w') : idx q.1.1.1 q.1.2.length (k : Int) 2 fun a => stR w a [.int .i64 y.prod, .int .i64 y.dot] X := by
  have hil := (List.getElem?_eq_some_iff.1 hq).1
  have h := St.staGet (h.pick 2 [1, 0]) (kOw_get hq)
  have h : St w (own 2 q.1.1.1 q.1.2.length q.1.1.2 (tv q.1.2) :: sta ((kOw ss).take i ++ (kOw ss).drop (i + 1)) :: own 2 o n c (ssV ss) :: L) := h
  obtain ⟨ad, ha⟩ := own_addr h (by rw [tv_len]; omega)
  refine idx_n ha hk ?_
  rw [mulS_eq]
  refine own_stR (i := k * 2) h ha (by rw [tv_len]; simp; omega) (by simp [oneC]) (by simp) fun w' h => hX w' ?_
  rw [show (k * 2 + [Value.int .i64 y.prod, Value.int .i64 y.dot].length) = k * 2 + 2 from rfl, tv_set hk] at h
  have e := ssV_ksame hq (xs := q.1.2.set k y) (by simp)
  have e2 := ks_kset hq (q.1.1, q.1.2.set k y)
  rw [e, e2.1]
  have e3 : owQ 2 tv (q.1.1, q.1.2.set k y) = own 2 q.1.1.1 q.1.2.length q.1.1.2 (tv (q.1.2.set k y)) := by unfold owQ; rw [List.length_set]
  rw [← e3] at h
  exact (St.staPut (M := kOw ss) (n := i) (by unfold kOw; rw [List.length_map]; exact hil) h).swap
theorem w_edge {n c i k : Nat} {o : Option Addr} {ss : List SQ} {q : SQ} {y : EdgeT} {X : World → Prop} (hq : ss[i]? = some q) (hk : k < q.2.2.length) (h : St w (own 2 o n c (ssV ss) :: sta (eOw ss) :: L))
    (hX : ∀ w', St w' (own 2 o n c (ssV (ss.set i (q.1, (q.2.1, q.2.2.set k y)))) :: sta (eOw (ss.set i (q.1, (q.2.1, q.2.2.set k y)))) :: L) → X w') : idx q.2.1.1 q.2.2.length (k : Int) 2 fun a => stR w a [.int .i64 y.sym, .int .i64 y.to] X := by
  have hil := (List.getElem?_eq_some_iff.1 hq).1
  have h := St.staGet (h.pick 2 [1, 0]) (eOw_get hq)
  have h : St w (own 2 q.2.1.1 q.2.2.length q.2.1.2 (ev2 q.2.2) :: sta ((eOw ss).take i ++ (eOw ss).drop (i + 1)) :: own 2 o n c (ssV ss) :: L) := h
  obtain ⟨ad, ha⟩ := own_addr h (by rw [ev2_len]; omega)
  refine idx_n ha hk ?_
  rw [mulS_eq]
  refine own_stR (i := k * 2) h ha (by rw [ev2_len]; simp; omega) (by simp [oneC]) (by simp) fun w' h => hX w' ?_
  rw [show (k * 2 + [Value.int .i64 y.sym, Value.int .i64 y.to].length) = k * 2 + 2 from rfl, ev2_set hk] at h
  have e := ssV_esame hq (xs := q.2.2.set k y) (by simp)
  have e2 := ks_set hq (q.2.1, q.2.2.set k y)
  rw [e, e2.2.2.2]
  have e3 : owQ 2 ev2 (q.2.1, q.2.2.set k y) = own 2 q.2.1.1 q.2.2.length q.2.1.2 (ev2 (q.2.2.set k y)) := by unfold owQ; rw [List.length_set]
  rw [← e3] at h
  exact (St.staPut (M := eOw ss) (n := i) (by unfold eOw; rw [List.length_map]; exact hil) h).swap
theorem d_kern {kt c i : Nat} {s t : Int} {o : Option Addr} {rest : List Value} {ss : List SQ} {q : SQ} {X : World → Prop} (h : St w (cel kt (.slice o ss.length c :: rest) :: own 2 o ss.length c (ssV ss) :: sta (kOw ss) :: L)) (hq : ss[i]? = some q) (hsz : q.1.2.length ≤ 100000)
    (hX : ∀ (w' : World) (E : Lq ItemT), E.2 = q.1.2 ++ [⟨s, t⟩] → St w' (cel kt (.slice o ss.length c :: rest) :: own 2 o ss.length c (ssV (ss.set i (E, q.2))) :: sta (kOw (ss.set i (E, q.2))) :: L) → X w') :
    ∀ w1, drawn w w1 → ∃ C : World → Prop, C w1 ∧ ∃ o1 k1 k2, (∀ u, C u → u.cell? (aM kt) = some (vS o1 k1 k2)) ∧ ∃ o2 k3 k4, (∀ u, C u → u.cell? (aM kt) = some (vS o2 k3 k4)) ∧ idx o2 k3 (i : Int) 2 fun a2 => ∃ o3 k5 k6, (∀ u, C u → u.cell? a2 = some (vS o3 k5 k6)) ∧
      new w1 (oC [.int .i64 s, .int .i64 t] ty_api_Item) fun k7 w2 => C w2 ∧ RunS Try.prog (apB ty_s_api_Item (Array.mk [vS o3 k5 k6, vS (some (aM k7)) 1 1])) w2 fun v w3 => ∃ o4 k8 k9, v = vS o4 k8 k9 ∧ C w3 ∧ idx o1 k1 (i : Int) 2 fun a3 => st1 w3 a3 (vS o4 k8 k9) X := by
  intro w1 hd
  have h := h.eq (drawn_hp hd)
  have hil := (List.getElem?_eq_some_iff.1 hq).1
  obtain ⟨ad, rfl, _⟩ := st_row (rdOv 1 h.l) hq
  have cA : ∀ {u : World} {L' : List Asn}, St u (cel kt (.slice (some ad) ss.length c :: rest) :: L') → u.cell? (aM kt) = some (vS (some ad) ss.length c) := fun h => (rdCel 0 h.l).cell0 (sub.refl _)
  have cB : ∀ {u : World} {L' : List Asn}, St u (own 2 (some ad) ss.length c (ssV ss) :: L') → u.cell? (ad.add (mulS i 2)) = some (slQ q.1) := fun h => by
    obtain ⟨ad', e, r⟩ := st_row (rdOv 0 h.l) hq
    cases e
    exact r.cell0 (sub.refl _)
  refine ⟨fun u => u.cell? (aM kt) = some (vS (some ad) ss.length c) ∧ u.cell? (ad.add (mulS i 2)) = some (slQ q.1), ⟨cA h, cB (h.pick 2 [1])⟩, _, _, _, fun u hu => hu.1, _, _, _, fun u hu => hu.1, idx_n rfl hil ⟨_, _, _, fun u hu => hu.2, ?_⟩⟩
  have h := St.staGet (h.pick 3 [2, 0, 1]) (kOw_get hq)
  refine newC_i h fun k7 w2 h => ⟨⟨cA (h.pick 4 [3]), cB (h.pick 5 [4])⟩, ?_⟩
  have z1 : (q.1.2.length + 1) * 16 ≤ 140737488355328 ∧ q.1.2.length < 9223372036854775807 := by omega
  refine (app_one (us := tv q.1.2) tyOk (rfl : kdOfT Ty _ = .slice _) (rfl : kdOfT Ty _ = .slice _) rfl rfl rfl h rfl (by simp [oneC]) z1.1 z1.2).mono ?_
  rintro _ w3 ⟨o4, c4, rfl, h⟩
  refine ⟨_, _, _, rfl, ⟨cA (h.pick 4 [3]), cB (h.pick 5 [4])⟩, idx_n rfl hil ?_⟩
  rw [mulS_eq]
  refine own_st1 (h.pick 5 [4, 0, 2, 3]) rfl (by rw [ssV_len]; omega) fun w4 h => ?_
  have e1 := ssV_kset hq ((o4, c4), q.1.2 ++ [⟨s, t⟩])
  have e2 := ks_kset hq ((o4, c4), q.1.2 ++ [⟨s, t⟩])
  have e3 : (q.1.2 ++ [(⟨s, t⟩ : ItemT)]).length = q.1.2.length + 1 := by simp
  have e4 : tv (q.1.2 ++ [⟨s, t⟩]) = tv q.1.2 ++ [.int .i64 s, .int .i64 t] := by rw [tv_app]; rfl
  refine hX w4 ((o4, c4), q.1.2 ++ [⟨s, t⟩]) rfl ?_
  rw [← e1, e2.1]
  have h := St.staPut (M := kOw ss) (n := i) (by unfold kOw; rw [List.length_map]; exact hil) (h.pick 4 [1, 2, 0, 3])
  unfold owQ slQ
  rw [e3, e4]
  exact h.pick 3 [2, 1, 0]
def lens (ss : List SQ) (i : Nat) : Prop := ∀ (j : Nat) q, i ≤ j → ss[j]? = some q → q.1.2.length ≤ 29100 ∧ q.2.2.length ≤ 130
theorem lens_set {ss : List SQ} {i : Nat} {q r : SQ} (h : lens ss i) (hq : ss[i]? = some q) (h1 : r.1.2.length = q.1.2.length) (h2 : r.2.2.length = q.2.2.length) : lens (ss.set i r) i := fun j p hj hp => by
  by_cases e : j = i
  · subst e
    rw [List.getElem?_set_self (List.getElem?_eq_some_iff.1 hq).1] at hp
    cases hp
    rw [h1, h2]; exact h j q hj hq
  · rw [List.getElem?_set_ne (Ne.symm e)] at hp
    exact h j p hj hp
theorem lens_next {ss : List SQ} {i : Nat} {r r' : SQ} (h : lens ss i) : lens ((ss.set i r).set i r') (i + 1) := fun j p hj hp => by
  rw [List.getElem?_set_ne (by omega), List.getElem?_set_ne (by omega)] at hp
  exact h j p (by omega) hp
set_option maxHeartbeats 1000000 in
theorem l_spoil {c : Nat} {o : Option Addr} {d e : Int} {ss : List SQ} (h : St w (own 2 o ss.length c (ssV ss) :: sta (kOw ss) :: sta (eOw ss) :: L)) (hB : lens ss 0) (hn : ss.length ≤ 300) :
    Run Try.prog n_presagelaw09_spoil [.agg #[.slice o ss.length c, .int .i64 d, .int .i64 e]] w fun v w' => v = .tuple #[] ∧ St w' L := by
  obtain ⟨n, hnl⟩ : ∃ n, n = ss.length := ⟨_, rfl⟩
  rw [← hnl] at h hn ⊢
  refine run_presagelaw09_spoil _ _ _ _ _ w _ (newC_i h fun k1 w1 h => ?_)
  refine ⟨fun z w' => ∃ (i : Nat) (ss : List SQ), z = i ∧ i ≤ n ∧ ss.length = n ∧ lens ss i ∧ St w' (cel k1 [.slice o n c, .int .i64 d, .int .i64 e] :: own 2 o n c (ssV ss) :: sta (kOw ss) :: sta (eOw ss) :: L), fun z _ => n - z.toNat, ⟨0, ss, rfl, Nat.zero_le _, hnl.symm, hB, h⟩, ?_⟩
  clear h hB
  rintro _ _ w2 ⟨i, ss, rfl, hi, hl, hB, h⟩
  refine ⟨_, _, _, (rdCel 0 h.l).cell0 (sub.refl _), br_intro (fun h1 => ?_) fun h1 => ⟨rfl, h.pick 4 []⟩⟩
  have h1 : i < n := by have := of_decide_eq_true h1; omega
  have i0 : inI (0 - (i : Int)) := ⟨by omega, by omega⟩
  refine ⟨fun z w' => ∃ (k : Nat) (ss : List SQ), z = k ∧ ss.length = n ∧ lens ss i ∧ St w' (cel k1 [.slice o n c, .int .i64 d, .int .i64 e] :: own 2 o n c (ssV ss) :: sta (kOw ss) :: sta (eOw ss) :: L), fun z _ => 29100 - z.toNat, ⟨0, ss, rfl, hl, hB, h⟩, ?_⟩
  clear h hB
  rintro _ _ w3 ⟨k, ss, rfl, hl, hB, h⟩
  have row : ∀ {u : World} {L' : List Asn} {ss : List SQ} {q : SQ}, St u (own 2 o n c (ssV ss) :: L') → ss[i]? = some q → ∃ ad, o = some ad ∧ rowH (hp u) (ad.add (mulS i 2)) (stV q) := fun h hq => st_row (rdOv 0 h.l) hq
  obtain ⟨q, hq⟩ : ∃ q, ss[i]? = some q := ⟨_, List.getElem?_eq_getElem (by omega)⟩
  obtain ⟨ad, rfl, r⟩ := row (h.pick 2 [1]) hq
  have hlq := hB i q (Nat.le_refl _) hq
  refine ⟨_, _, _, (rdCel 0 h.l).cell0 (sub.refl _), idx_n rfl h1 ⟨_, _, _, r.cell0 (sub.refl _), br_intro (fun h2 => ?_) fun h2 => ?_⟩⟩
  · have h2 : k < q.1.2.length := by have := of_decide_eq_true h2; omega
    refine ⟨_, _, _, (rdCel 0 h.l).cell0 (sub.refl _), idx_n rfl h1 ⟨_, _, _, r.cell0 (sub.refl _), i0, ?_⟩⟩
    refine w_kern (y := ⟨0 - (i : Int), -9⟩) hq h2 (h.pick 3 [1, 2, 0]) fun w4 h => ?_
    exact ⟨⟨by omega, by omega⟩, ⟨k + 1, ss.set i ((q.1.1, q.1.2.set k ⟨0 - (i : Int), -9⟩), q.2), by simp, by rw [List.length_set, hl], lens_set hB hq (by simp) rfl, by rw [(ks_kset hq _).2]; exact h.pick 3 [2, 0, 1]⟩, by dsimp only; omega⟩
  refine ⟨fun z w' => ∃ (k : Nat) (ss : List SQ), z = k ∧ ss.length = n ∧ lens ss i ∧ St w' (cel k1 [.slice (some ad) n c, .int .i64 d, .int .i64 e] :: own 2 (some ad) n c (ssV ss) :: sta (kOw ss) :: sta (eOw ss) :: L), fun z _ => 130 - z.toNat, ⟨0, ss, rfl, hl, hB, h⟩, ?_⟩
  clear h hB hq r hlq h2
  rintro _ _ w5 ⟨k, ss, rfl, hl, hB, h⟩
  obtain ⟨q, hq⟩ : ∃ q, ss[i]? = some q := ⟨_, List.getElem?_eq_getElem (by omega)⟩
  obtain ⟨ad', e0, r⟩ := row (h.pick 2 [1]) hq
  cases e0
  have hlq := hB i q (Nat.le_refl _) hq
  refine ⟨_, _, _, (rdCel 0 h.l).cell0 (sub.refl _), idx_n rfl h1 ⟨_, _, _, r.cell (sub.refl _) (j := 1) rfl, br_intro (fun h2 => ?_) fun h2 => ?_⟩⟩
  · have h2 : k < q.2.2.length := by have := of_decide_eq_true h2; omega
    refine ⟨_, _, _, (rdCel 0 h.l).cell0 (sub.refl _), idx_n rfl h1 ⟨_, _, _, r.cell (sub.refl _) (j := 1) rfl, i0, ?_⟩⟩
    refine w_edge (y := ⟨0 - (i : Int), -9⟩) hq h2 (h.pick 4 [1, 3, 0, 2]) fun w4 h => ?_
    exact ⟨⟨by omega, by omega⟩, ⟨k + 1, ss.set i (q.1, (q.2.1, q.2.2.set k ⟨0 - (i : Int), -9⟩)), by simp, by rw [List.length_set, hl], lens_set hB hq rfl (by simp), by rw [(ks_set hq _).2.1]; exact h.pick 4 [2, 0, 3, 1]⟩, by dsimp only; omega⟩
  rw [← hl] at h
  have key := d_kern (s := -8) (t := 0) (i := i) (X := fun w13 => ∀ w14, drawn w13 w14 → ∃ C : World → Prop, C w14 ∧ ∃ o1 k2 k3, (∀ u, C u → u.cell? (aM k1) = some (vS o1 k2 k3)) ∧ ∃ o2 k3 k4, (∀ u, C u → u.cell? (aM k1) = some (vS o2 k3 k4)) ∧ idx o2 k3 (i : Int) 2 fun a2 => ∃ o3 k5 k6, (∀ u, C u → u.cell? (Addr.add a2 1) = some (vS o3 k5 k6)) ∧
      new w14 (oC [.int .i64 (-8), .int .i64 0] ty_api_Edge) fun k7 w2 => C w2 ∧ RunS Try.prog (apB ty_s_api_Edge (Array.mk [vS o3 k5 k6, vS (some (aM k7)) 1 1])) w2 fun v w3 => ∃ o4 k8 k9, v = vS o4 k8 k9 ∧ C w3 ∧ idx o1 k2 (i : Int) 2 fun a3 => st1 w3 (Addr.add a3 1) (vS o4 k8 k9) fun w20 =>
        inI ((i : Int) + 1) ∧ (∃ (i' : Nat) (ss : List SQ), (i : Int) + 1 = i' ∧ i' ≤ n ∧ ss.length = n ∧ lens ss i' ∧ St w20 (cel k1 [.slice (some ad) n c, .int .i64 d, .int .i64 e] :: own 2 (some ad) n c (ssV ss) :: sta (kOw ss) :: sta (eOw ss) :: L)) ∧ n - ((i : Int) + 1).toNat < n - (i : Int).toNat) h hq (by omega) fun w13 E hE h => ?_
  · exact key
  have h := h
  have hq2 : (ss.set i (E, q.2))[i]? = some (E, q.2) := List.getElem?_set_self (List.getElem?_eq_some_iff.1 hq).1
  have hl2 : (ss.set i (E, q.2)).length = ss.length := List.length_set
  rw [← (ks_kset hq E).2] at h
  have h : St w13 (cel k1 (.slice (some ad) (ss.set i (E, q.2)).length c :: [.int .i64 d, .int .i64 e]) :: own 2 (some ad) (ss.set i (E, q.2)).length c (ssV (ss.set i (E, q.2))) :: sta (eOw (ss.set i (E, q.2))) :: sta (kOw (ss.set i (E, q.2))) :: L) := by rw [hl2]; exact h.pick 4 [0, 1, 3, 2]
  refine d_edge (s := -8) (t := 0) h hq2 (show q.2.2.length ≤ 1000 by omega) fun w20 E2 hE2 h => ?_
  refine ⟨⟨by omega, by omega⟩, ⟨i + 1, (ss.set i (E, q.2)).set i (E, E2), by simp, h1, by rw [List.length_set, hl2, hl], lens_next hB, ?_⟩, msr h1⟩
  rw [(ks_set hq2 E2).2.1]
  rw [hl2, hl] at h
  exact h.pick 4 [0, 1, 3, 2]
end
end Go.Proofs.Ytglamnhmjikhkaa
set_option linter.unusedVariables false
namespace Go.Proofs.Ytglamnhmjikhkaa
open Go.V
section
variable {w : World} {L : List Asn} {g : GramT} {x : GA}
theorem res_lens {ss : List SQ} {a i f : Int} (h : Res g ss a i f) : lens ss 0 := fun j q _ hq => h.klen.1 q (List.mem_of_getElem? hq)
set_option maxHeartbeats 2000000 in
theorem l_Lr0Builds (hg : gR (hp w) g x) (hb : okG g) (hbT : g.terms.length * 24 ≤ 140737488355328) (hbN : g.nons.length * 16 ≤ 140737488355328) : Run Try.prog n_presagelaw09_Lr0Builds [.agg ⟨x.cells⟩] w fun v w' => v = .bool true ∧ Gr w w' := by
  refine run_presagelaw09_Lr0Builds _ _ _ _ _ _ _ _ _ _ _ _ _ w _ (gbox hg fun k1 w1 gw hg B => l_awake9.mono ?_)
  rintro _ w2 ⟨rfl, g2⟩
  refine ⟨_, rfl, _, _, _, _, _, _, _, _, _, _, _, _, _, B.row g2, (d_Copy (hg.mono g2) hb hbT hbN).mono ?_⟩
  rintro _ w3 ⟨x', os, rfl, hX, hos, h3⟩
  have g23 : Gr w2 w3 := St.gone (N := ownG g x' os) h3
  have hg' : gR (hp w3) g x' := ownG_gR hX hos h3.l
  clear h3
  refine ⟨_, _, _, _, _, _, _, _, _, _, _, _, _, rfl, newC_i (St.all w3) fun k18 w4 h => stR_i h rfl (by intro v hv; simp at hv; rcases hv with rfl | rfl | rfl | rfl | rfl <;> rfl) fun w5 h => ?_⟩
  have g35 : Gr w3 w5 := h.gone1
  have B2 : GB (hp w5) k18 x' := gb_of (rdCel 0 h.l)
  clear h
  refine ⟨_, _, _, _, _, _, _, _, _, _, _, _, _, B2.row (sub.refl _), (d_BuildR (hg'.mono g35) hb).mono ?_⟩
  rintro _ w6 ⟨oW, cW, ssW, askW, intW, fW, rfl, hRW, h6⟩
  have g56 : Gr w5 w6 := rdH 3 h6.l
  have hsW : stRd (hp w6) ssW oW := stRd_of h6.l
  clear h6
  refine ⟨_, _, _, _, _, _, rfl, newC_i (St.all w6) fun k29 w7 h => stR_i h rfl (by simp [oneC]) fun w8 h => ?_⟩
  have g68 : Gr w6 w8 := h.gone1
  have r29 : rowH (hp w8) (aM k29) [.slice oW ssW.length cW, .int .i64 askW, .int .i64 intW] := rdCel 0 h.l
  clear h
  have hsW := hsW.mono g68
  have g58 : Gr w5 w8 := g56.trans g68
  have g18 : Gr w1 w8 := g2.trans (g23.trans (g35.trans g58))
  have hg8 := hg.mono g18
  have hg8' := hg'.mono (g35.trans g58)
  have gw8 := gw.trans g18
  refine ⟨fun z w' => ∃ t : Nat, z = t ∧ t ≤ 2 ∧ Gr w8 w', fun z _ => 2 - z.toNat, ⟨0, rfl, by omega, Gr.refl _⟩, ?_⟩
  rintro _ _ w9 ⟨t, rfl, ht, g9⟩
  refine br_intro (fun h1 => ?_) fun h1 => ?_
  rotate_left
  · refine ⟨_, _, _, _, _, _, _, _, _, _, _, _, _, B.row (g18.trans g9), _, _, _, _, _, _, _, _, _, _, _, _, _, B2.row (g58.trans g9), (d_Same (hg8.mono g9) (hg8'.mono g9) hb).mono ?_⟩
    rintro _ w15 ⟨rfl, g15⟩
    exact ⟨_, rfl, ⟨rfl, gw8.trans (g9.trans g15)⟩⟩
  have h1 : t < 2 := by have := of_decide_eq_true h1; omega
  refine ⟨_, _, _, _, _, _, _, _, _, _, _, _, _, B.row (g18.trans g9), (y_BuildR (hg8.mono g9) hb).mono ?_⟩
  rintro _ w10 ⟨o, c, ss, ask, int, f, rfl, hR, h10⟩
  obtain ⟨e1, e2, e3, e4, e5, e6⟩ := hR.one hRW
  refine ⟨_, _, _, _, _, _, rfl, newC_i h10 fun k40 w11 h => stR_i h rfl (by simp [oneC]) fun w12 h => ?_⟩
  have r40 : rowH (hp w12) (aM k40) [.slice o ss.length c, .int .i64 ask, .int .i64 int] := rdCel 0 h.l
  have g12 : Gr w8 w12 := sub.trans g9 (rdH 4 h.l)
  refine ⟨_, _, _, _, _, r40.at (sub.refl _) rfl, _, _, _, _, _, r29.at g12 rfl, ?_⟩
  have hkl := hR.klen
  rw [← e3, ← e4]
  refine (d_SameA (stRd_of (h.pick 4 [1, 2, 3]).l) (hsW.mono g12) e1 e2 (by omega) hkl.1).mono ?_
  rintro _ w13 ⟨rfl, g13⟩
  have h := h.gr g13
  refine ⟨_, rfl, br_f rfl (br_f (by rw [e5]; simp) ⟨_, _, _, _, _, r40.at g13 rfl, (l_spoil (h.pick 4 [1, 2, 3]) (res_lens hR) (by omega)).mono ?_⟩)⟩
  rintro _ w14 ⟨rfl, h14⟩
  exact ⟨rfl, ⟨by omega, by omega⟩, ⟨t + 1, by simp, h1, sub.trans g9 (rdH 0 h14.l)⟩, msr h1⟩
end
end Go.Proofs.Ytglamnhmjikhkaa
set_option linter.unusedVariables false
namespace Go.V
section
variable {g : GramT} {K : Kern} {st : List Kern} {n i j : Nat}
theorem idx_inK {k : Kern} : (inK st k)[st.idxOf k]? = some k := by
  unfold inK
  split
  · rename_i h
    rw [List.getElem?_eq_getElem (List.idxOf_lt_length_of_mem h), List.getElem_idxOf]
  · rename_i h
    rw [List.idxOf_eq_length h, List.getElem?_append_right (Nat.le_refl _), Nat.sub_self]; rfl
theorem bsy_edge : ∀ (l : List Nat) (st : List Kern) (es : List EdgeT) (k s : Nat), l[k]? = some s → ∃ to : Nat, (bsy g K l (st, es)).2[es.length + k]? = some ⟨(s : Int), (to : Int)⟩ ∧ (bsy g K l (st, es)).1[to]? = some (kern g K (s : Int))
  | [], _, _, _, _, h => by simp at h
  | a :: l, st, es, 0, s, h => by
    simp at h; subst h
    refine ⟨st.idxOf (kern g K (a : Int)), ?_, ?_⟩
    · show (bsy g K l (inK st (kern g K (a : Int)), es ++ [⟨(a : Int), _⟩])).2[es.length + 0]? = _
      have pre : ∀ (l : List Nat) (st : List Kern) (es : List EdgeT) (k : Nat) e, es[k]? = some e → (bsy g K l (st, es)).2[k]? = some e := by
        intro l
        induction l with
        | nil => exact fun st es k e h => h
        | cons b l ih =>
          intro st es k e h
          exact ih _ _ k e (by rw [List.getElem?_append_left (List.getElem?_eq_some_iff.1 h).1]; exact h)
      exact pre l _ _ _ _ (by rw [Nat.add_zero, List.getElem?_append_right (Nat.le_refl _), Nat.sub_self]; rfl)
    · show (bsy g K l (inK st (kern g K (a : Int)), es ++ [⟨(a : Int), _⟩])).1[_]? = _
      exact bsy_mono l _ _ _ _ idx_inK
  | a :: l, st, es, k + 1, s, h => by
    obtain ⟨to, h1, h2⟩ := bsy_edge l (inK st (kern g K (a : Int))) (es ++ [⟨(a : Int), ((st.idxOf (kern g K (a : Int)) : Nat) : Int)⟩]) k s (by simpa using h)
    refine ⟨to, ?_, h2⟩
    rw [List.length_append, List.length_singleton] at h1
    rw [show es.length + (k + 1) = es.length + 1 + k by omega]
    exact h1
theorem bst_emono {i n : Nat} (h : i ≤ n) (j : Nat) (e : List EdgeT) (he : (bst g i).2[j]? = some e) : (bst g n).2[j]? = some e := by
  induction h with
  | refl => exact he
  | @step m _ ih =>
    cases hi : (bst g m).1[m]? with
    | none => rw [bst_none hi]; exact ih
    | some K => rw [bst_succ hi, List.getElem?_append_left (List.getElem?_eq_some_iff.1 ih).1]; exact ih
theorem aut_at {ss : List SQ} (h : AutI g ss) {i : Nat} {q : SQ} (hq : ss[i]? = some q) : (bst g i).1[i]? = some q.1.2 ∧ q.2.2 = (bsy g q.1.2 (symsOf g q.1.2) ((bst g i).1, [])).2 ∧ ∀ (j : Nat) K, (bst g (i + 1)).1[j]? = some K → ∃ r, ss[j]? = some r ∧ r.1.2 = K := by
  have hil := (List.getElem?_eq_some_iff.1 hq).1
  have hlt := h.dn.2.2 i hil
  have e1 : (bst g ss.length).1[i]? = some q.1.2 := by rw [← h.ks]; unfold ksOf; rw [List.getElem?_map, hq]; rfl
  obtain ⟨K, hK⟩ : ∃ K, (bst g i).1[i]? = some K := ⟨_, List.getElem?_eq_getElem hlt⟩
  have e2 := bst_mono (Nat.le_of_lt hil) i K hK
  rw [e1] at e2
  cases e2
  refine ⟨hK, ?_, fun j K' hj => ?_⟩
  · have hb := bst_succ hK
    have hes := bst_es (g := g) i (by omega)
    have e3 : (bst g (i + 1)).2[i]? = some (bsy g q.1.2 (symsOf g q.1.2) ((bst g i).1, [])).2 := by
      rw [hb, List.getElem?_append_right (by omega), hes, Nat.sub_self]; rfl
    have e4 := bst_emono hil i _ e3
    rw [← h.es] at e4
    unfold esOf at e4
    rw [List.getElem?_map, hq] at e4
    exact Option.some.inj e4
  · have e5 := bst_mono hil j K' hj
    rw [← h.ks] at e5
    unfold ksOf at e5
    rw [List.getElem?_map] at e5
    cases hr : ss[j]? with
    | none => rw [hr] at e5; cases e5
    | some r => rw [hr] at e5; exact ⟨r, rfl, Option.some.inj e5⟩
theorem AutI.pos {ss : List SQ} (h : AutI g ss) : 0 < ss.length := by
  refine Nat.pos_of_ne_zero fun h0 => ?_
  have := h.dn.1
  rw [h0] at this
  simp [bst] at this
end
end Go.V
namespace Go.Proofs.Ytglamnhmjikhkaa
open Go.V
section
variable {w : World} {L : List Asn} {g : GramT} {x : GA} {st : Int}
set_option maxHeartbeats 4000000 in
theorem l_Lr0Edges (hg : gR (hp w) g x) (hb : okG g) (hst : anyI st) : Run Try.prog n_presagelaw09_Lr0Edges [.agg ⟨x.cells⟩, .int .i64 st] w fun v w' => v = .bool true ∧ Gr w w' := by
  refine run_presagelaw09_Lr0Edges _ _ _ _ _ _ _ _ _ _ _ _ _ _ w _ (gbox hg fun k1 w1 gw hg B => l_awake9.mono ?_)
  rintro _ w2 ⟨rfl, g2⟩
  refine ⟨_, rfl, _, _, _, _, _, _, _, _, _, _, _, _, _, B.row g2, (y_BuildR (hg.mono g2) hb).mono ?_⟩
  rintro _ w3 ⟨o, c, ss, ask, int, f, rfl, hR, h3⟩
  have g23 : Gr w2 w3 := rdH 3 h3.l
  have hs : stRd (hp w3) ss o := stRd_of h3.l
  clear h3
  refine ⟨_, _, _, _, _, _, rfl, newC_i (St.all w3) fun k12 w4 h => stR_i h rfl (by simp [oneC]) fun w5 h => ?_⟩
  have g35 : Gr w3 w5 := h.gone1
  have r12 : rowH (hp w5) (aM k12) [.slice o ss.length c, .int .i64 ask, .int .i64 int] := rdCel 0 h.l
  clear h
  have hs := hs.mono g35
  have g15 : Gr w1 w5 := g2.trans (g23.trans g35)
  have gw5 := gw.trans g15
  refine br_intro (fun h1 => ?_) fun h1 => ?_
  · refine ⟨_, _, _, _, _, _, _, _, _, _, _, _, _, B.row g15, (d_Closed (hg.mono g15) hb).mono ?_⟩
    rintro _ w6 ⟨⟨r, rfl, hr⟩, g6⟩
    have gw6 := gw5.trans g6
    rcases hR with ⟨hn, _, _, _, rfl⟩ | ⟨hc, _, _, _, _, rfl⟩ | ⟨_, _, _, _, rfl⟩
    · have : r = false := by cases r; rfl; exact absurd (hr.1 rfl) hn
      subst this
      exact ⟨_, rfl, br_t rfl (br_t rfl (br_t rfl ⟨rfl, gw6⟩))⟩
    · have := hr.2 hc
      subst this
      exact ⟨_, rfl, br_t rfl (br_f rfl (br_t rfl ⟨rfl, gw6⟩))⟩
    · simp at h1
  have hcA : ClosedP g ∧ AutI g ss := by
    rcases hR with ⟨_, _, _, _, rfl⟩ | ⟨_, _, _, _, _, rfl⟩ | ⟨h, h', _⟩
    · simp at h1
    · simp at h1
    · exact ⟨h, h'⟩
  obtain ⟨hc, hA⟩ := hcA
  have hpos := hA.pos
  obtain ⟨hT, hN, hP, hP2, _, _⟩ := hc.sizes
  have hkl := hR.klen
  refine ⟨fun z w' => 0 ≤ z ∧ w' = w5, br_intro (fun h2 => ?_) fun h2 => ⟨by have := of_decide_eq_false h2; omega, rfl⟩, ?_⟩
  · have h2 := of_decide_eq_true h2
    obtain ⟨s1, s2⟩ := hst
    exact ⟨⟨by omega, by omega⟩, ⟨by omega, by omega⟩, by omega, rfl⟩
  rintro _ z w7 ⟨hz, e7⟩
  rw [e7]
  refine ⟨_, _, _, r12.cell0 (sub.refl _), br_f (beq_eq_false_iff_ne.2 (by omega)) ⟨_, _, _, r12.cell0 (sub.refl _), by show ((ss.length : Int)) ≠ 0; omega, ?_⟩⟩
  obtain ⟨n, hn, hnl⟩ : ∃ n : Nat, Int.tmod z (ss.length : Int) = n ∧ n < ss.length := by
    have e : Int.tmod z (ss.length : Int) = z % (ss.length : Int) := Int.tmod_eq_emod_of_nonneg hz
    have h1 := Int.emod_nonneg z (show (ss.length : Int) ≠ 0 by omega)
    have h2 := Int.emod_lt_of_pos z (show (0 : Int) < (ss.length : Int) by omega)
    exact ⟨(z % (ss.length : Int)).toNat, by rw [e]; omega, by omega⟩
  rw [hn]
  obtain ⟨q, hq⟩ : ∃ q, ss[n]? = some q := ⟨_, List.getElem?_eq_getElem hnl⟩
  obtain ⟨hK, hE, hto⟩ := aut_at hA hq
  have hI := bst_inv (g := g) (by omega) n
  have hKm := List.mem_of_getElem? hK
  have hKf : fitsB g q.1.2 := hI.fit _ hKm
  obtain ⟨ad, rfl, rs, rk, re⟩ := hs n q hq
  have hql := hkl.1 q (List.mem_of_getElem? hq)
  have hsy : (symsOf g q.1.2).length = q.2.2.length := by rw [hE, bsy_len2]; simp
  refine ⟨fun a b w' => ∃ m s : Nat, a = m ∧ b = s ∧ s ≤ g.T + g.N ∧ m = (symsTo g q.1.2 s).length ∧ Gr w5 w', fun _ b _ => (g.T + g.N) - b.toNat, ⟨0, 0, rfl, rfl, Nat.zero_le _, rfl, Gr.refl _⟩, ?_⟩
  rintro _ _ _ w8 ⟨m, s, rfl, rfl, hs2, hm, g8⟩
  have hml : m ≤ s := by
    have := List.length_filter_le (fun s => decide (kern g q.1.2 (s : Nat) ≠ [])) (List.range s)
    rw [List.length_range] at this
    rw [hm]; exact this
  refine ⟨_, _, _, _, _, _, _, _, _, _, _, _, _, B.row (g15.trans g8), (d_Symbols (hg.mono (g15.trans g8)) hb).mono ?_⟩
  rintro _ w9 ⟨rfl, g9⟩
  have g59 : Gr w5 w9 := g8.trans g9
  refine ⟨_, rfl, br_intro (fun h3 => ?_) fun h3 => ?_⟩
  rotate_left
  · have h3 : s = g.T + g.N := by have := of_decide_eq_false h3; omega
    refine br_t rfl ⟨_, _, _, r12.cell0 g59, idx_n rfl hnl ⟨_, _, _, rs.cell g59 (j := 1) rfl, ?_, gw5.trans g59⟩⟩
    rw [hm, h3, show symsTo g q.1.2 (g.T + g.N) = symsOf g q.1.2 from rfl, hsy]
    simp
  have h3 : s < g.T + g.N := by have := of_decide_eq_true h3; omega
  intro w10 hd
  have g10 : Gr w5 w10 := g59.trans (Gr.drawn hd)
  have g110 := g15.trans g10
  have zK : (q.1.2.length + 98) * 16 ≤ 140737488355328 := by omega
  have hgo : gotoOk g q.1.2 (s : Int) := ⟨hc, hKf, by omega, by omega⟩
  have eG : gotoR g q.1.2 (s : Int) = kern g q.1.2 (s : Int) := by unfold gotoR; rw [if_pos hgo]
  have eF : gotoE g q.1.2 (s : Int) = 0 := by unfold gotoE; rw [if_pos hgo]
  refine ⟨fun u => Gr w10 u, Gr.refl _, _, _, _, _, _, _, _, _, _, _, _, _, _, fun u s => B.row (g110.trans s), _, _, _, fun u s => r12.cell0 (g10.trans s), idx_n rfl hnl ⟨_, _, _, fun u s => rs.cell0 (g10.trans s), (y_GotoR (s := (s : Int)) (hg.mono g110) hb (rk.mono g10) zK).mono ?_⟩⟩
  rintro _ w14 ⟨o22, c22, rfl, h14⟩
  have g14 : Gr w10 w14 := h14.gone1
  have g514 := g10.trans g14
  have rG := own_rdI2 h14
  clear h14
  rw [eG] at rG
  rw [eG, eF]
  refine ⟨_, _, _, _, rfl, g14, br_f rfl (br_intro (fun h4 => ?_) fun h4 => ?_)⟩
  · have h4 : kern g q.1.2 (s : Int) = [] := List.eq_nil_of_length_eq_zero (by have := eq_of_beq h4; omega)
    refine ⟨⟨by omega, by omega⟩, ⟨m, s + 1, rfl, by simp, h3, ?_, g514⟩, by dsimp only; omega⟩
    rw [symsTo_succ, h4]; simpa using hm
  have h4 : kern g q.1.2 (s : Int) ≠ [] := fun e => by rw [e] at h4; simp at h4
  have hsucc : symsTo g q.1.2 (s + 1) = symsTo g q.1.2 s ++ [s] := by rw [symsTo_succ, if_pos h4]
  have hsm : (symsOf g q.1.2)[m]? = some s := by
    obtain ⟨t, ht⟩ := symsTo_pre (g := g) (K := q.1.2) (s + 1) (g.T + g.N) h3
    rw [show symsOf g q.1.2 = symsTo g q.1.2 (g.T + g.N) from rfl, ht, hsucc, hm, List.append_assoc, List.getElem?_append_right (Nat.le_refl _), Nat.sub_self]; rfl
  obtain ⟨to, ht1, ht2⟩ := bsy_edge (g := g) (K := q.1.2) (symsOf g q.1.2) (bst g n).1 [] m s hsm
  rw [← hE] at ht1
  have ht2' : (bst g (n + 1)).1[to]? = some (kern g q.1.2 (s : Int)) := by rw [bst_succ hK]; exact ht2
  obtain ⟨r, hr, hrK⟩ := hto to _ ht2'
  have htl := (List.getElem?_eq_some_iff.1 hr).1
  have ht1 : q.2.2[m]? = some ⟨(s : Int), (to : Int)⟩ := by simpa using ht1
  have hmE : m < q.2.2.length := (List.getElem?_eq_some_iff.1 ht1).1
  obtain ⟨ed, ead, hed, hea, red⟩ := rdEd_get re hmE
  rw [ht1] at hed
  cases hed
  refine ⟨_, _, _, r12.cell0 g514, idx_n rfl hnl ⟨_, _, _, rs.cell g514 (j := 1) rfl, fun b w' => b = false ∧ Gr w14 w', ?_, ?_⟩⟩
  · intro w15 hd
    have g15' : Gr w14 w15 := Gr.drawn hd
    have g515 := g514.trans g15'
    refine ⟨fun u => Gr w15 u, Gr.refl _, br_f (by simp; omega) (idx_n hea hmE ⟨_, fun u s => red.cell0 (g515.trans s), br_f (by simp) (idx_n hea hmE ⟨_, fun u s => red.cell (g515.trans s) (j := 1) rfl, br_f (by simp) (idx_n hea hmE ⟨_, fun u s => red.cell (g515.trans s) (j := 1) rfl, _, _, _, fun u s => r12.cell0 (g515.trans s), by simp; omega, g15'⟩)⟩)⟩)⟩
  rintro _ b w20 ⟨rfl, g20⟩
  refine br_f rfl ?_
  intro w21 hd
  have g521 : Gr w5 w21 := g514.trans (g20.trans (Gr.drawn hd))
  have g1421 : Gr w14 w21 := g20.trans (Gr.drawn hd)
  obtain ⟨ad2, e2, rs2, rk2, _⟩ := hs to r hr
  cases e2
  have hrl := hkl.1 r (List.mem_of_getElem? hr)
  refine ⟨fun u => Gr w21 u, Gr.refl _, _, _, _, fun u s => r12.cell0 (g521.trans s), idx_n hea hmE ⟨_, fun u s => red.cell (g521.trans s) (j := 1) rfl, idx_n rfl htl ⟨_, _, _, fun u s => rs2.cell0 (g521.trans s), (d_SameItems (c := r.1.1.2) (c2 := c22) (rk2.mono g521) (rG.mono g1421) (by omega)).mono ?_⟩⟩⟩
  rintro _ w25 ⟨rfl, e25⟩
  have g25 : Gr w21 w25 := Gr.of_eq e25
  rw [decide_eq_true hrK]
  refine ⟨_, rfl, g25, br_f rfl ⟨⟨by omega, by omega⟩, ⟨by omega, by omega⟩, ⟨m + 1, s + 1, by simp, by simp, h3, by rw [hsucc]; simp; exact hm, g521.trans g25⟩, by dsimp only; omega⟩⟩
end
end Go.Proofs.Ytglamnhmjikhkaa
set_option linter.unusedVariables false
namespace Go.V
open Go.RowKit Go.WideShapes Go.ChangeShapes
theorem cellH_of {w : World} {a : Addr} {v : Value} (h : w.cell? a = some v) : cellH (hp w) a = some v := by
  unfold World.cell? at h
  unfold cellH hp
  cases ho : w.heap[a.block]? with
  | none => rw [ho] at h; cases h
  | some o => rw [ho] at h; cases o <;> first | exact h | cases h
theorem mapM_get' {α β : Type} {f : α → Option β} : ∀ {l : List α} {r : List β}, l.mapM f = some r → r.length = l.length ∧ ∀ (i : Nat) (a : α) (b : β), l[i]? = some a → r[i]? = some b → f a = some b
  | [], r, h => by
    simp at h; subst h; exact ⟨rfl, fun i a b ha => by simp at ha⟩
  | x :: l, r, h => by
    simp only [List.mapM_cons, Option.bind_eq_bind, Option.bind_eq_some_iff, Option.pure_def, Option.some.injEq] at h
    obtain ⟨b, hb, r', hr', rfl⟩ := h
    obtain ⟨h1, h2⟩ := mapM_get' hr'
    refine ⟨by simp [h1], fun i a b' ha hb' => ?_⟩
    cases i with
    | zero => simp at ha hb'; subst ha; subst hb'; exact hb
    | succ i => exact h2 i a b' (by simpa using ha) (by simpa using hb')
theorem cells_row {w : World} {base n : Nat} {a : Addr} {vs : List Value} (h : w.cells? base a n = some vs) : rowH (hp w) a vs := by
  unfold World.cells? at h
  split at h
  · obtain ⟨h1, h2⟩ := mapM_get' h
    intro j v hj
    have hlt := (List.getElem?_eq_some_iff.1 hj).1
    rw [h1, List.length_range] at hlt
    exact cellH_of (h2 j j v (by simp [hlt]) hj)
  · cases h
theorem weightsAll_get {H : Type} {P : Program} {e : TypeId} {N : Nat} : ∀ {l : List (DataW H)}, (DataW.weightsAll P e l).all (· ≤ N) = true → ∀ d ∈ l, (d.weights P e).all (· ≤ N) = true
  | [], _, d, hd => by simp at hd
  | x :: l, h, d, hd => by
    rw [DataW.weightsAll, List.all_append, Bool.and_eq_true] at h
    rcases List.mem_cons.1 hd with rfl | hd
    · exact h.1
    · exact weightsAll_get h.2 d hd
theorem weightsEach_get {H : Type} {P : Program} {N : Nat} : ∀ {ts : List TypeId} {l : List (DataW H)}, (DataW.weightsEach P ts l).all (· ≤ N) = true → ∀ (i : Nat) t d, ts[i]? = some t → l[i]? = some d → (d.weights P t).all (· ≤ N) = true
  | [], l, _, i, t, d, ht, _ => by simp at ht
  | _ :: _, [], _, i, t, d, _, hd => by simp at hd
  | t0 :: ts, x :: l, h, i, t, d, ht, hd => by
    rw [DataW.weightsEach, List.all_append, Bool.and_eq_true] at h
    cases i with
    | zero => simp at ht hd; subst ht; subst hd; exact h.1
    | succ i => exact weightsEach_get h.2 i t d (by simpa using ht) (by simpa using hd)
def Opn (P : Program) (α : Type) [Rep α] (bd : α → Prop) (t : TypeId) : Prop :=
  ∀ {H : Type} (enc : TypeId × Value → H) (W : World) (n : Nat) (cs : List Value) (x : DataW H × List MemPlace), DataW.trod enc P W 0 (fun _ => true) true n t cs = some x → (x.1.weights P t).all (· ≤ reachBytes) = true → ∃ y : α, rd (hp W) y cs ∧ bd y
def anyS : ByteArray → Prop := fun s => s.size ≤ reachBytes
def anyL {α : Type} (bytes : Nat) (bd : α → Prop) : List α → Prop := fun xs => xs.length * bytes ≤ reachBytes ∧ ∀ x ∈ xs, bd x
section
variable {P : Program} {t e : TypeId}
theorem opn_int (ht : P.underlying t = some (.int .i64)) : Opn P Int anyI t := by
  intro H enc W n cs x h hw
  obtain ⟨z, rfl, _, hwf⟩ := DataW.trod_int ht h
  refine ⟨z, rfl, ?_⟩
  have : IntKind.i64.min ≤ z ∧ z ≤ IntKind.i64.max := by simpa [Lit.wf] using hwf
  exact this
theorem opn_str (ht : P.underlying t = some .string) : Opn P ByteArray anyS t := by
  intro H enc W n cs x h hw
  obtain ⟨z, rfl, rfl, _⟩ := DataW.trod_string ht h
  refine ⟨z, rfl, ?_⟩
  simpa [DataW.weights, anyS] using hw
theorem opn_slice {α : Type} [Rep α] {bd : α → Prop} {bb : Nat} (ht : P.underlying t = some (.slice e)) (hc : P.cellsOf e = Rep.n α) (hb : P.bytesOf e = bb) (he : Opn P α bd e) : Opn P (List α) (anyL bb bd) t := by
  intro H enc W n cs x h hw
  rcases DataW.trod_slice ht h with ⟨rfl, rfl⟩ | ⟨a, len, cap, elems, rest, m, rfl, rfl, rfl, _, hlc, hcm, hel, hg, _, _⟩
  · exact ⟨[], ⟨none, 0, 0, rfl, Nat.le_refl _, rdS.nil⟩, by simp [reachBytes], fun x hx => by simp at hx⟩
  · simp only [DataW.weights, ht, List.all_cons, List.all_append, Bool.and_eq_true, decide_eq_true_eq, List.length_map] at hw
    obtain ⟨hw1, hw2, _⟩ := hw
    have key : ∀ k, k ≤ len → ∃ ys : List α, ys.length = k ∧ (∀ i y, ys[i]? = some y → ∃ vs, rowH (hp W) (a.add (mulS i (Rep.n α))) vs ∧ rd (hp W) y vs) ∧ ∀ y ∈ ys, bd y := by
      intro k
      induction k with
      | zero => exact fun _ => ⟨[], rfl, fun i y hy => by simp at hy, fun y hy => by simp at hy⟩
      | succ k ih =>
        intro hk
        obtain ⟨ys, h1, h2, h3⟩ := ih (by omega)
        have hgk := hg k (by omega)
        obtain ⟨d, hd⟩ : ∃ d, elems[k]? = some d := ⟨elems[k]'(by omega), List.getElem?_eq_getElem _⟩
        rw [hd, Option.bind_eq_some_iff] at hgk
        obtain ⟨vs, hv1, hv2⟩ := hgk
        obtain ⟨y, hy1, hy2⟩ := he enc W m vs d hv2 (weightsAll_get hw2 _ (by
          have := List.mem_of_getElem? hd
          exact List.mem_map_of_mem this))
        refine ⟨ys ++ [y], by simp [h1], fun i z hz => ?_, fun z hz => ?_⟩
        · by_cases hi : i < k
          · rw [List.getElem?_append_left (by omega)] at hz
            exact h2 i z hz
          · have : i = k := by
              have := (List.getElem?_eq_some_iff.1 hz).1
              simp at this; omega
            subst this
            rw [List.getElem?_append_right (by omega), h1, Nat.sub_self] at hz
            cases hz
            refine ⟨vs, ?_, hy1⟩
            rw [mulS_eq, ← hc]
            exact cells_row hv1
        · rcases List.mem_append.1 hz with hz | hz
          · exact h3 z hz
          · simp at hz; subst hz; exact hy2
    obtain ⟨ys, h1, h2, h3⟩ := key len (Nat.le_refl _)
    refine ⟨ys, ⟨some a, len, cap, rfl, hlc, h1, fun i y hy => ?_⟩, ?_, h3⟩
    · obtain ⟨vs, h4, h5⟩ := h2 i y hy
      exact ⟨a, vs, rfl, h4, h5⟩
    · rw [h1, ← hb, ← hel]
      exact Nat.le_trans (Nat.mul_le_mul_right _ (Nat.le_add_right _ _)) hw1
theorem opn_struct {fs : Array Field} (ht : P.underlying t = some (.struct fs)) {H : Type} {enc : TypeId × Value → H} {W : World} {n : Nat} {cs : List Value} {x : DataW H × List MemPlace} (h : DataW.trod enc P W 0 (fun _ => true) true n t cs = some x) (hw : (x.1.weights P t).all (· ≤ reachBytes) = true) :
    cs.length = P.cellsOf t ∧ ∀ (i : Nat) (f : Field) (ty k o : Nat), fs[i]? = some f → P.cellsOf ty = k → f.type = ty → f.offset = o → ∃ (m : Nat) (d : DataW H × List MemPlace), DataW.trod enc P W 0 (fun _ => true) true m ty ((cs.drop o).take k) = some d ∧ (d.1.weights P ty).all (· ≤ reachBytes) = true := by
  obtain ⟨xs, m, rfl, rfl, hl, hxs, hf⟩ := DataW.trod_struct ht h
  refine ⟨hl, ?_⟩
  rintro i f _ _ _ hi rfl rfl rfl
  have hlt := (Array.getElem?_eq_some_iff.1 hi).1
  obtain ⟨d, hd⟩ : ∃ d, xs[i]? = some d := ⟨xs[i]'(by omega), List.getElem?_eq_getElem _⟩
  refine ⟨m, d, by rw [hf i f hi, hd], ?_⟩
  simp only [DataW.weights, ht] at hw
  exact weightsEach_get hw i f.type d.1 (by simp [hi]) (by simp [hd])
theorem opn_arg {α : Type} [Rep α] {bd : α → Prop} (ho : Opn P α bd t) {H : Type} {enc : TypeId × Value → H} {W : World} {v : Value} {d : DataW H} {ps : List MemPlace} (h : DataW.Trod enc P W 0 (fun _ => true) true t v d ps)
    (hw : (d.weights P t).all (· ≤ reachBytes) = true) : ∃ y : α, rd (hp W) y v.cells.toList ∧ bd y := by
  obtain ⟨n, h⟩ := h
  exact ho enc W n _ _ h hw
theorem arg_int {H : Type} {enc : TypeId × Value → H} {W : World} {b : Nat} {v : Value} {d : DataW H} {ps : List MemPlace} (ht : P.underlying t = some (.int .i64)) (hval : Value.okWide P W .any b t v) (h : DataW.Trod enc P W 0 (fun _ => true) true t v d ps) : ∃ x : Int, v = .int .i64 x ∧ anyI x := by
  obtain ⟨n, rfl, _, _, hwf⟩ := open_int ht hval h
  refine ⟨n, rfl, ?_⟩
  have : IntKind.i64.min ≤ n ∧ n ≤ IntKind.i64.max := by simpa [Lit.wf] using hwf
  exact this
theorem arg_struct {α : Type} [Rep α] {bd : α → Prop} {fs : Array Field} (ho : Opn P α bd t) (ht : P.underlying t = some (.struct fs)) {H : Type} {enc : TypeId × Value → H} {W : World} {b : Nat} {v : Value} {d : DataW H} {ps : List MemPlace}
    (hval : Value.okWide P W .any b t v) (h : DataW.Trod enc P W 0 (fun _ => true) true t v d ps) (hw : (d.weights P t).all (· ≤ reachBytes) = true) : ∃ (x : α) (cs : List Value), v = .agg ⟨cs⟩ ∧ rd (hp W) x cs ∧ bd x := by
  obtain ⟨x, hr, hb⟩ := opn_arg ho h hw
  simp only [Value.okWide, ht] at hval
  obtain ⟨cs, rfl, _⟩ := hval
  exact ⟨x, cs.toList, rfl, hr, hb⟩
theorem below_of {w w' : World} (h : Ev w w') (g : Gr w w') : Below w.heap.size w w' := by
  refine ⟨h.os, h.tape, h.output, h.size, fun k hk => ?_⟩
  cases ho : w.heap[k]? with
  | none => rw [Array.getElem?_eq_none_iff] at ho; omega
  | some o =>
    by_cases hd : notD o = true
    · have : hp w k = some o := by unfold hp; rw [ho, hidD_not hd]
      exact hidD_some (g k o this)
    · cases o <;> first | exact absurd rfl hd | exact h.dfr _ _ ho
theorem trodAll_below (hl : laidOutB P = true) {H : Type} {enc : TypeId × Value → H} {W W' : World} (hb : Below W.heap.size W W') {sp : Nat → Bool} : ∀ {ts : List TypeId} {vs : List Value} {ds : List (DataW H)} {ps : List MemPlace},
    (ts.all fun t => P.readableRec t && decide (t < P.types.size)) = true → DataW.TrodAll enc P W 0 (fun _ => true) true ts vs ds ps → (∀ x ∈ ps, x.block < W.heap.size) → (∀ x ∈ ps, sp x.block = true) →
    DataW.TrodAll enc P W' 0 sp true ts vs ds ps
  | [], [], [], ps, _, h, _, _ => h
  | [], _ :: _, _, _, _, h, _, _ => h.elim
  | [], [], _ :: _, _, _, h, _, _ => h.elim
  | _ :: _, [], _, _, _, h, _, _ => h.elim
  | _ :: _, _ :: _, [], _, _, h, _, _ => h.elim
  | t :: ts, v :: vs, d :: ds, ps, ht, h, hlt, hsp => by
    obtain ⟨p, q, h1, h2, rfl⟩ := h
    rw [List.all_cons, Bool.and_eq_true, Bool.and_eq_true, decide_eq_true_eq] at ht
    exact ⟨p, q, WideElems.Trod_stays hl ht.1.1 ht.1.2 h1 (fun x hx => hb.same (hlt x (by simp [hx]))) (fun x hx => hsp x (by simp [hx])), trodAll_below hl hb ht.2 h2 (fun x hx => hlt x (by simp [hx])) (fun x hx => hsp x (by simp [hx])), rfl⟩
theorem law_post {H : Type} {enc : TypeId × Value → H} {s : ChangeSpec} {f : Func} {W W' : World} {args : Array Value} {ds gs : List (DataW H)} {before : List MemPlace} {tb : TypeId} (hv : s.vars = []) (hrt : f.resultTypes = #[tb]) (htb : P.underlying tb = some .bool)
    (hsp : s.fn H (ds ++ gs) = { results := [.lit (.bool true)], args := ds }) (hl : laidOutB P = true) (hrd : (f.params.toList.all fun t => P.readableRec t && decide (t < P.types.size)) = true)
    (hW : DataW.Whole enc P f.params.toList s.vars false W args.toList ds gs before) (hE : Ev W W') (hg : Gr W W') : s.post enc P f false true false false W args (.bool true) W' := by
  have hb := below_of hE hg
  have hlt : ∀ p ∈ before, p.block < W.heap.size := fun p hp => hW.lt p hp
  have hold : ∀ p ∈ before, (fun b => decide (b < W.heap.size)) p.block = true := fun p hp => by simpa using hlt p hp
  have hW' := hW
  obtain ⟨p, q, h1, h2, rfl, h3, h4⟩ := hW
  have hq : q = [] := by
    rw [hv] at h2
    cases gs with
    | nil => exact h2
    | cons _ _ => exact h2.elim
  subst hq
  rw [List.append_nil] at *
  have hargs : ∀ sp : Nat → Bool, (∀ x ∈ p, sp x.block = true) → DataW.TrodAll enc P W' 0 sp true f.params.toList args.toList (s.fn H (ds ++ gs)).args p := fun sp hs => by
    rw [hsp]; exact trodAll_below hl hb hrd h1 hlt hs
  have hvars : ∀ sp : Nat → Bool, DataW.TrodVars enc P W' sp s.vars (s.fn H (ds ++ gs)).vars [] := fun sp => by
    rw [hsp, hv]; exact rfl
  have hres : ∀ (b : Nat) (sp : Nat → Bool) (hd : Bool), DataW.TrodAll enc P W' b sp hd f.resultTypes.toList ((Value.bool true).resultList f.resultTypes.size) (s.fn H (ds ++ gs)).results [] := fun b sp hd => by
    rw [hsp, hrt]; exact trodAll_cons_mk (shut_bool htb _) trodAll_mk0
  have hok : ∀ (j : Nat) (t : TypeId) (r : Value), f.resultTypes[j]? = some t → ((Value.bool true).resultList f.resultTypes.size)[j]? = some r → Value.okWide P W' .any 0 t r := ok_one hrt rfl (okWide_bool_mk htb _)
  refine ⟨ds, gs, p, [], p, [], hW', hres _ _ _, hargs _ hold, hvars _, World.keptBut_mono (fun x hx => ⟨hx, ?_⟩) (hb.frame (· ∈ p)), fun _ => ?_⟩
  · exact Or.inr (by simpa using hx)
  · refine ⟨hok, _, _, ([] ++ p) ++ [], ⟨[] ++ p, [], trodAll_append (hargs _ (fun _ _ => rfl)) (hres _ _ _), hvars _, rfl, ?_, ?_⟩, ?_⟩
    · intro b off hp
      have hin : MemPlace.cell b off ∈ p := by simpa using hp
      rw [hb.frozen (hlt _ hin)]
      exact h3 b off hin
    · intro ha; cases ha
    · intro x hx _
      simpa using hx
end
end Go.V
set_option linter.unusedVariables false
namespace Go.Proofs.Ytglamnhmjikhkaa
open Go.V Go.RowKit Go.WideShapes Go.ChangeShapes Go.ChangeAt
theorem ownK : ownKnob Try.prog.godebug = none := by kernel_rfl
theorem laidO : laidOutB Try.prog = true := by kernel_rfl
theorem cellsI : Try.prog.cellsOf 3 = 1 := by kernel_rfl
theorem bytesI : Try.prog.bytesOf 3 = 8 := by kernel_rfl
theorem cellsStr : Try.prog.cellsOf 9 = 1 := by kernel_rfl
theorem bytesStr : Try.prog.bytesOf 9 = 16 := by kernel_rfl
theorem cellsS24 : Try.prog.cellsOf 24 = 1 := by kernel_rfl
theorem cellsS22 : Try.prog.cellsOf 22 = 1 := by kernel_rfl
theorem cellsS23 : Try.prog.cellsOf 23 = 1 := by kernel_rfl
theorem cellsS25 : Try.prog.cellsOf 25 = 1 := by kernel_rfl
theorem cellsT : Try.prog.cellsOf 81 = 2 := by kernel_rfl
theorem bytesT : Try.prog.bytesOf 81 = 24 := by kernel_rfl
theorem cellsP : Try.prog.cellsOf 63 = 3 := by kernel_rfl
theorem bytesP : Try.prog.bytesOf 63 = 40 := by kernel_rfl
theorem cellsG : Try.prog.cellsOf 27 = 5 := by kernel_rfl
theorem oInt : Opn Try.prog Int anyI 3 := opn_int Try.underlying3
theorem oInts : Opn Try.prog (List Int) (anyL 8 anyI) 24 := opn_slice Try.underlying24 cellsI bytesI oInt
theorem oStr : Opn Try.prog ByteArray anyS 9 := opn_str Try.underlying9
theorem oStrs : Opn Try.prog (List ByteArray) (anyL 16 anyS) 23 := opn_slice Try.underlying23 cellsStr bytesStr oStr
theorem oTerm : Opn Try.prog TermT (fun t => anyS t.name ∧ anyI t.level) 81 := by
  intro H enc W n cs x h hw
  obtain ⟨hl, hf⟩ := opn_struct Try.underlying81 h hw
  rw [cellsT] at hl
  obtain ⟨_, _, t0, w0⟩ := hf 0 _ 9 1 0 rfl cellsStr rfl rfl
  obtain ⟨_, _, t1, w1⟩ := hf 1 _ 3 1 1 rfl cellsI rfl rfl
  obtain ⟨y0, r0, b0⟩ := oStr enc W _ _ _ t0 w0
  obtain ⟨y1, r1, b1⟩ := oInt enc W _ _ _ t1 w1
  match cs, hl with
  | [c0, c1], _ =>
    have e0 : [c0] = [.string y0] := r0
    have e1 : [c1] = [.int .i64 y1] := r1
    cases e0; cases e1
    exact ⟨⟨y0, y1⟩, rfl, b0, b1⟩
theorem oTerms : Opn Try.prog (List TermT) (anyL 24 fun t => anyS t.name ∧ anyI t.level) 22 := opn_slice Try.underlying22 cellsT bytesT oTerm
theorem oProd : Opn Try.prog ProdT (fun p => anyI p.left ∧ anyL 8 anyI p.right ∧ anyI p.level) 63 := by
  intro H enc W n cs x h hw
  obtain ⟨hl, hf⟩ := opn_struct Try.underlying63 h hw
  rw [cellsP] at hl
  obtain ⟨_, _, t0, w0⟩ := hf 0 _ 3 1 0 rfl cellsI rfl rfl
  obtain ⟨_, _, t1, w1⟩ := hf 1 _ 24 1 1 rfl cellsS24 rfl rfl
  obtain ⟨_, _, t2, w2⟩ := hf 2 _ 3 1 2 rfl cellsI rfl rfl
  obtain ⟨y0, r0, b0⟩ := oInt enc W _ _ _ t0 w0
  obtain ⟨y1, ⟨a, l, c, r1, hlc, r1'⟩, b1⟩ := oInts enc W _ _ _ t1 w1
  obtain ⟨y2, r2, b2⟩ := oInt enc W _ _ _ t2 w2
  match cs, hl with
  | [c0, c1, c2], _ =>
    have e0 : [c0] = [.int .i64 y0] := r0
    have e1 : [c1] = [.slice a l c] := r1
    have e2 : [c2] = [.int .i64 y2] := r2
    cases e0; cases e1; cases e2
    exact ⟨⟨y0, y1, y2⟩, ⟨a, l, c, rfl, hlc, r1'⟩, b0, b1, b2⟩
theorem oProds : Opn Try.prog (List ProdT) (anyL 40 fun p => anyI p.left ∧ anyL 8 anyI p.right ∧ anyI p.level) 25 := opn_slice Try.underlying25 cellsP bytesP oProd
def okG2 (g : GramT) : Prop := okG g ∧ g.terms.length * 24 ≤ 140737488355328 ∧ g.nons.length * 16 ≤ 140737488355328
theorem oGram : Opn Try.prog GramT okG2 27 := by
  intro H enc W n cs x h hw
  obtain ⟨hl, hf⟩ := opn_struct Try.underlying27 h hw
  rw [cellsG] at hl
  obtain ⟨_, _, t0, w0⟩ := hf 0 _ 22 1 0 rfl cellsS22 rfl rfl
  obtain ⟨_, _, t1, w1⟩ := hf 1 _ 23 1 1 rfl cellsS23 rfl rfl
  obtain ⟨_, _, t2, w2⟩ := hf 2 _ 24 1 2 rfl cellsS24 rfl rfl
  obtain ⟨_, _, t3, w3⟩ := hf 3 _ 3 1 3 rfl cellsI rfl rfl
  obtain ⟨_, _, t4, w4⟩ := hf 4 _ 25 1 4 rfl cellsS25 rfl rfl
  obtain ⟨y0, ⟨a0, l0, c0', r0, k0, q0⟩, b0⟩ := oTerms enc W _ _ _ t0 w0
  obtain ⟨y1, ⟨a1, l1, c1', r1, k1, q1⟩, b1⟩ := oStrs enc W _ _ _ t1 w1
  obtain ⟨y2, ⟨a2, l2, c2', r2, k2, q2⟩, b2⟩ := oInts enc W _ _ _ t2 w2
  obtain ⟨y3, r3, b3⟩ := oInt enc W _ _ _ t3 w3
  obtain ⟨y4, ⟨a4, l4, c4', r4, k4, q4⟩, b4⟩ := oProds enc W _ _ _ t4 w4
  match cs, hl with
  | [c0, c1, c2, c3, c4], _ =>
    have e0 : [c0] = [.slice a0 l0 c0'] := r0
    have e1 : [c1] = [.slice a1 l1 c1'] := r1
    have e2 : [c2] = [.slice a2 l2 c2'] := r2
    have e3 : [c3] = [.int .i64 y3] := r3
    have e4 : [c4] = [.slice a4 l4 c4'] := r4
    cases e0; cases e1; cases e2; cases e3; cases e4
    refine ⟨⟨y0, y1, y2, y3, y4⟩, ⟨⟨a0, l0, c0', a1, l1, c1', a2, l2, c2', y3, a4, l4, c4'⟩, rfl, q0, q1, q2, rfl, q4, k0, k1, k2, k4⟩, ?_⟩
    have z0 := b0.1
    have z1 := b1.1
    have z2 := b2.1
    have z4 := b4.1
    unfold reachBytes at z0 z1 z2 z4
    refine ⟨⟨by show y0.length ≤ _; omega, by show y1.length ≤ _; omega, by show y2.length ≤ _; omega, by show y4.length * 40 ≤ _; omega, fun t ht => ⟨?_, (b0.2 t ht).2⟩, fun s hs => ?_, fun p hp => ?_⟩, by show y0.length * 24 ≤ _; omega, by show y1.length * 16 ≤ _; omega⟩
    · have := (b0.2 t ht).1; unfold anyS reachBytes at this; omega
    · have := b1.2 s hs; unfold anyS reachBytes at this; omega
    · have := (b4.2 p hp).2.1.1; unfold reachBytes at this; omega
noncomputable def laidWorld (os : Os) : World := World.holding Try.prog os ⟨#[], #[], []⟩
end Go.Proofs.Ytglamnhmjikhkaa
