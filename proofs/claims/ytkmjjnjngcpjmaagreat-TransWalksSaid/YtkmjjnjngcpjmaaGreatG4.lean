/- Texts of this claim, one behind the other. -/
import Derived.Test.YtkmjjnjngcpjmaaGreatG3
import Derived.Laws.StructEq
import Derived.Test.YtkmjjnjngcpjmaaGreatG1
import Derived.Test.YtkmjjnjngcpjmaaGreatG2
import Derived.Test.YtkmjjnjngcpjmaaGreatRows
import Derived.WalkKit
import Derived.ProofKit
import Derived.OpenShut
import Derived.Carry
import Derived.OpenVars
import Derived.Deep.DeepHandedRow
import Derived.Lib.LaidTab
set_option linter.unusedVariables false
namespace Go.V
section
variable {g : GramT} {K K' : Kern} {s s' : Int} {ss : List SQ}
theorem bsy_new : ∀ (l : List Nat) (st : List Kern) (es : List EdgeT) (j : Nat) (L : Kern), st.length ≤ j → (bsy g K l (st, es)).1[j]? = some L → ∃ k s : Nat, l[k]? = some s ∧ L = kern g K (s : Int) ∧ (bsy g K l (st, es)).2[es.length + k]? = some ⟨(s : Int), (j : Int)⟩
  | [], st, es, j, L, hj, h => by
    have := (List.getElem?_eq_some_iff.1 h).1
    have h2 : (bsy g K [] (st, es)).1.length = st.length := rfl
    omega
  | a :: l, st, es, j, L, hj, h => by
    by_cases hlt : (inK st (kern g K (a : Int))).length ≤ j
    · obtain ⟨k, s, h1, h2, h3⟩ := bsy_new l (inK st (kern g K (a : Int))) (es ++ [(⟨(a : Int), ((st.idxOf (kern g K (a : Int)) : Nat) : Int)⟩ : EdgeT)]) j L hlt h
      refine ⟨k + 1, s, by simpa using h1, h2, ?_⟩
      rw [List.length_append, List.length_singleton] at h3
      rw [show es.length + (k + 1) = es.length + 1 + k by omega]
      exact h3
    · have hn : kern g K (a : Int) ∉ st := fun hm => by
        have : (inK st (kern g K (a : Int))).length = st.length := by unfold inK; rw [if_pos hm]
        omega
      have hlen : (inK st (kern g K (a : Int))).length = st.length + 1 := by unfold inK; rw [if_neg hn]; simp
      have hjs : j = st.length := by omega
      obtain ⟨to, h1, h2⟩ := bsy_edge (g := g) (K := K) (a :: l) st es 0 a rfl
      have e : st.idxOf (kern g K (a : Int)) = st.length := List.idxOf_eq_length hn
      have hj2 : (inK st (kern g K (a : Int)))[j]? = some (kern g K (a : Int)) := by rw [hjs, ← e]; exact idx_inK
      have hL := bsy_mono l (inK st (kern g K (a : Int))) (es ++ [(⟨(a : Int), ((st.idxOf (kern g K (a : Int)) : Nat) : Int)⟩ : EdgeT)]) j _ hj2 (g := g) (K := K)
      have h : (bsy g K l (inK st (kern g K (a : Int)), es ++ [(⟨(a : Int), ((st.idxOf (kern g K (a : Int)) : Nat) : Int)⟩ : EdgeT)])).1[j]? = some L := h
      rw [hL] at h
      refine ⟨0, a, rfl, (Option.some.inj h).symm, ?_⟩
      have pre : ∀ (l : List Nat) (st : List Kern) (es : List EdgeT) (k : Nat) e, es[k]? = some e → (bsy g K l (st, es)).2[k]? = some e := by
        intro l
        induction l with
        | nil => exact fun st es k e h => h
        | cons b l ih =>
          intro st es k e h
          exact ih _ _ k e (by rw [List.getElem?_append_left (List.getElem?_eq_some_iff.1 h).1]; exact h)
      show (bsy g K l (inK st (kern g K (a : Int)), es ++ [⟨(a : Int), _⟩])).2[es.length + 0]? = _
      exact pre l _ _ _ _ (by rw [Nat.add_zero, List.getElem?_append_right (Nat.le_refl _), Nat.sub_self, hjs, e]; rfl)
theorem aut_edge (hc : ClosedP g) (h : AutI g ss) {i : Nat} {q : SQ} (hq : ss[i]? = some q) {m : Nat} {e : EdgeT} (he : q.2.2[m]? = some e) : 1 ≤ e.sym ∧ e.sym < g.T + g.N ∧ ∃ (j : Nat) (r : SQ), e.to = j ∧ 1 ≤ j ∧ ss[j]? = some r ∧ r.1.2 = kern g q.1.2 e.sym ∧ kern g q.1.2 e.sym ≠ [] := by
  obtain ⟨hK, hE, hto⟩ := aut_at h hq
  obtain ⟨_, _, _, hP2, _, _⟩ := hc.sizes
  have hI := bst_inv (g := g) (by omega) i
  have hKf := hI.fit _ (List.mem_of_getElem? hK)
  have hml : m < (symsOf g q.1.2).length := by
    have := (List.getElem?_eq_some_iff.1 he).1
    rw [hE, bsy_len2] at this
    simpa using this
  obtain ⟨to, h1, h2⟩ := bsy_edge (g := g) (K := q.1.2) (symsOf g q.1.2) (bst g i).1 [] m _ (List.getElem?_eq_getElem hml)
  rw [← hE] at h1
  have h1 : q.2.2[m]? = some ⟨(((symsOf g q.1.2)[m] : Nat) : Int), (to : Int)⟩ := by simpa using h1
  rw [he] at h1
  have h1 := Option.some.inj h1
  have hne := symsOf_ne (g := g) (K := q.1.2) _ (List.getElem_mem hml)
  obtain ⟨r, hr, hrK⟩ := hto to _ (by rw [bst_succ hK]; exact h2)
  have hsy := kern_sym hc hKf (Int.natCast_nonneg _) hne
  rw [h1]
  refine ⟨hsy.1, hsy.2, to, r, rfl, Nat.pos_of_ne_zero fun h0 => ?_, hr, hrK, hne⟩
  subst h0
  have e0 : (bst g ss.length).1[0]? = some [⟨0, 0⟩] := bst_mono (Nat.zero_le _) 0 _ rfl
  rw [← h.ks] at e0
  unfold ksOf at e0
  rw [List.getElem?_map, hr] at e0
  have e0 : r.1.2 = [⟨0, 0⟩] := Option.some.inj e0
  rw [hrK] at e0
  have hm : (⟨0, 0⟩ : ItemT) ∈ kern g q.1.2 (((symsOf g q.1.2)[m] : Nat) : Int) := by rw [e0]; simp
  obtain ⟨y, hy, _, e⟩ := kern_mem.1 hm
  injection e with _ e2
  have := (hy.fit hKf).2.1
  omega
theorem aut_from (hc : ClosedP g) (h : AutI g ss) {j : Nat} (hj : 1 ≤ j) (hjl : j < ss.length) : ∃ (i : Nat) (q : SQ) (m : Nat) (e : EdgeT), i < j ∧ ss[i]? = some q ∧ q.2.2[m]? = some e ∧ e.to = j := by
  have key : ∀ n, n ≤ ss.length → j < (bst g n).1.length → ∃ (i : Nat) (K : Kern), i < n ∧ (bst g i).1[i]? = some K ∧ (bst g i).1.length ≤ j ∧ j < (bst g (i + 1)).1.length := by
    intro n
    induction n with
    | zero => intro _ h2; have : (bst g 0).1.length = 1 := rfl; omega
    | succ n ih =>
      intro hn h2
      by_cases h3 : j < (bst g n).1.length
      · obtain ⟨i, K, h4, h5⟩ := ih (by omega) h3
        exact ⟨i, K, by omega, h5⟩
      · exact ⟨n, _, Nat.lt_succ_self n, List.getElem?_eq_getElem (h.dn.2.2 n (by omega)), by omega, h2⟩
  obtain ⟨i, K, h1, h2, h3, h4⟩ := key ss.length (Nat.le_refl _) (by rw [h.dn.1]; exact hjl)
  have hil : i < ss.length := h1
  obtain ⟨q, hq⟩ : ∃ q, ss[i]? = some q := ⟨_, List.getElem?_eq_getElem hil⟩
  obtain ⟨hK, hE, _⟩ := aut_at h hq
  rw [h2] at hK
  cases hK
  have hlt := h.dn.2.2 i hil
  rw [bst_succ h2] at h4
  obtain ⟨m, s, h5, h6, h7⟩ := bsy_new (g := g) (symsOf g q.1.2) (bst g i).1 [] j _ h3 (List.getElem?_eq_getElem h4)
  exact ⟨i, q, m, _, by omega, hq, by rw [hE]; simpa using h7, rfl⟩
noncomputable def syAt (g : GramT) (ss : List SQ) (j : Nat) : Int := Classical.epsilon fun s : Int => ∃ (r : SQ) (K : Kern), ss[j]? = some r ∧ (∀ x ∈ K, fitI g x) ∧ r.1.2 = kern g K s ∧ kern g K s ≠ [] ∧ 1 ≤ s
theorem AutI.two (hc : ClosedP g) (h : AutI g ss) : 2 ≤ ss.length := by
  have hp := h.pos
  refine Classical.byContradiction fun hlt => ?_
  have h1 : ss.length = 1 := by omega
  obtain ⟨q, hq⟩ : ∃ q, ss[0]? = some q := ⟨_, List.getElem?_eq_getElem hp⟩
  obtain ⟨hK, hE, _⟩ := aut_at h hq
  have e0 : q.1.2 = [⟨0, 0⟩] := by
    have : (bst g 0).1[0]? = some [⟨0, 0⟩] := rfl
    rw [this] at hK
    exact (Option.some.inj hK).symm
  obtain ⟨_, h2, h3, p0, hp0, hl, hr, _⟩ := id hc
  obtain ⟨hT, hN, _, _, hT1, _⟩ := hc.sizes
  have hgT : g.T = g.terms.length := rfl
  have hst := h3.2.2.2
  have ha : aft g ⟨0, 0⟩ = g.start := by rw [aft_some hp0, hr]; rfl
  have hne : kern g q.1.2 (((g.start).toNat : Nat) : Int) ≠ [] := by
    refine List.ne_nil_of_mem (a := (⟨0, 1⟩ : ItemT)) (kern_mem.2 ⟨⟨0, 0⟩, .base (by rw [e0]; simp), ?_, rfl⟩)
    rw [ha]; omega
  have hm : (g.start).toNat ∈ symsOf g q.1.2 := List.mem_filter.2 ⟨List.mem_range.2 (by omega), decide_eq_true hne⟩
  obtain ⟨k, hk⟩ := List.getElem?_of_mem hm
  have hkl : k < q.2.2.length := by
    rw [hE, bsy_len2]
    have := (List.getElem?_eq_some_iff.1 hk).1
    simpa using this
  obtain ⟨_, _, j, r, _, hj, hr, _⟩ := aut_edge hc h hq (List.getElem?_eq_getElem hkl)
  have := (List.getElem?_eq_some_iff.1 hr).1
  omega
structure RchI (g : GramT) (ss : List SQ) (ins : List Bool) (bys : List Int) (todo : List Nat) (q0 k : Nat) : Prop where
  li : ins.length = ss.length
  lb : bys.length = ss.length
  z : ins[0]? = some true
  td : ∀ q ∈ todo, q < ss.length
  by' : ∀ (j : Nat) b, bys[j]? = some b → b = 0 ∨ b = syAt g ss j
  bt : ∀ j, ins[j]? = some true → 1 ≤ j → bys[j]? = some (syAt g ss j)
  cl : ∀ (q : Nat) r, ins[q]? = some true → ss[q]? = some r → q ∈ todo ∨ (∀ (m : Nat) e, r.2.2[m]? = some e → (q = q0 → m < k) → ins[e.to.toNat]? = some true)
theorem RchI.all {ins : List Bool} {bys : List Int} {q0 k : Nat} (hc : ClosedP g) (hA : AutI g ss) (h : RchI g ss ins bys [] q0 k) (hk : q0 = ss.length) : ∀ j, j < ss.length → ins[j]? = some true := by
  intro j
  induction j using Nat.strongRecOn with
  | ind j ih =>
    intro hj
    cases j with
    | zero => exact h.z
    | succ j =>
      obtain ⟨i, q, m, e, hij, hq, he, hto⟩ := aut_from hc hA (by omega) hj
      have hil := (List.getElem?_eq_some_iff.1 hq).1
      rcases h.cl i q (ih i hij hil) hq with hm | hm
      · simp at hm
      · have := hm m e he (fun e => by omega)
        rw [hto, Int.toNat_natCast] at this
        exact this
theorem RchI.fin {ins : List Bool} {bys : List Int} {q0 k : Nat} {todo : List Nat} {r : SQ} (h : RchI g ss ins bys todo q0 k) (hr : ss[q0]? = some r) (hk : r.2.2.length ≤ k) : RchI g ss ins bys todo ss.length 0 :=
  ⟨h.li, h.lb, h.z, h.td, h.by', h.bt, fun x r' hx hr' => by
    rcases h.cl x r' hx hr' with hm | hm
    · exact .inl hm
    · refine .inr fun m e he _ => hm m e he fun e2 => ?_
      subst e2
      rw [hr] at hr'; cases hr'
      have := (List.getElem?_eq_some_iff.1 he).1; omega⟩
theorem RchI.step {ins : List Bool} {bys : List Int} {q0 k : Nat} {todo : List Nat} {r : SQ} (hc : ClosedP g) (hA : AutI g ss) (h : RchI g ss ins bys todo q0 k) (hr : ss[q0]? = some r) {e : EdgeT} (he : r.2.2[k]? = some e) {j : Nat} (hj : e.to = j) (hjl : j < ss.length) (hsy : syAt g ss j = e.sym) :
    (ins[j]? = some true → RchI g ss ins (bys.set j e.sym) todo q0 (k + 1)) ∧ (ins[j]? = some false → RchI g ss (ins.set j true) (bys.set j e.sym) (todo ++ [j]) q0 (k + 1)) := by
  have hby : ∀ (i : Nat) b, (bys.set j e.sym)[i]? = some b → b = 0 ∨ b = syAt g ss i := fun i b hb => by
    by_cases e2 : j = i
    · subst e2
      rw [List.getElem?_set_self (by rw [h.lb]; exact hjl)] at hb
      cases hb; exact .inr hsy.symm
    · rw [List.getElem?_set_ne e2] at hb; exact h.by' i b hb
  refine ⟨fun hin => ?_, fun hin => ?_⟩
  · refine ⟨h.li, by rw [List.length_set]; exact h.lb, h.z, h.td, hby, fun i hi h1 => ?_, fun x r' hx hr' => ?_⟩
    · by_cases e2 : j = i
      · subst e2; rw [List.getElem?_set_self (by rw [h.lb]; exact hjl), hsy]
      · rw [List.getElem?_set_ne e2]; exact h.bt i hi h1
    · rcases h.cl x r' hx hr' with hm | hm
      · exact .inl hm
      · refine .inr fun m e' he' hlt => ?_
        by_cases e2 : x = q0 ∧ m = k
        · obtain ⟨rfl, rfl⟩ := e2
          rw [hr] at hr'; cases hr'
          rw [he] at he'; cases he'
          rw [hj, Int.toNat_natCast]; exact hin
        · exact hm m e' he' fun e3 => by have := hlt e3; rcases Nat.lt_or_ge m k with h5 | h5; exact h5; exact absurd ⟨e3, by omega⟩ e2
  · have hge : ∀ i, ins[i]? = some true → (ins.set j true)[i]? = some true := fun i hi => by
      by_cases e2 : j = i
      · subst e2; rw [hin] at hi; cases hi
      · rw [List.getElem?_set_ne e2]; exact hi
    refine ⟨by rw [List.length_set]; exact h.li, by rw [List.length_set]; exact h.lb, hge 0 h.z, fun x hx => ?_, hby, fun i hi h1 => ?_, fun x r' hx hr' => ?_⟩
    · rw [List.mem_append, List.mem_singleton] at hx
      rcases hx with hx | rfl
      · exact h.td x hx
      · exact hjl
    · by_cases e2 : j = i
      · subst e2; rw [List.getElem?_set_self (by rw [h.lb]; exact hjl), hsy]
      · rw [List.getElem?_set_ne e2] at hi ⊢; exact h.bt i hi h1
    · by_cases e2 : j = x
      · subst e2; exact .inl (by simp)
      · rw [List.getElem?_set_ne e2] at hx
        rcases h.cl x r' hx hr' with hm | hm
        · exact .inl (by simp [hm])
        · refine .inr fun m e' he' hlt => ?_
          by_cases e3 : x = q0 ∧ m = k
          · obtain ⟨rfl, rfl⟩ := e3
            rw [hr] at hr'; cases hr'
            rw [he] at he'; cases he'
            rw [hj, Int.toNat_natCast, List.getElem?_set_self (by rw [h.li]; exact hjl)]
          · exact hge _ (hm m e' he' fun e4 => by have := hlt e4; rcases Nat.lt_or_ge m k with h5 | h5; exact h5; exact absurd ⟨e4, by omega⟩ e3)
theorem RchI.start (hp : 0 < ss.length) : RchI g ss ((List.replicate ss.length false).set 0 true) (List.replicate ss.length 0) [0] ss.length 0 := by
  have hi : ∀ i, ((List.replicate ss.length false).set 0 true)[i]? = some true → i = 0 := fun i h => by
    by_cases e : 0 = i
    · exact e.symm
    · rw [List.getElem?_set_ne e, List.getElem?_replicate] at h
      split at h <;> simp at h
  refine ⟨by simp, by simp, by rw [List.getElem?_set_self (by simpa using hp)], fun q hq => by simp at hq; omega, fun j b hb => ?_, fun j hj h1 => by have := hi j hj; omega, fun q r hq hr => .inl (by rw [hi q hq]; simp)⟩
  rw [List.getElem?_replicate] at hb
  split at hb
  · cases hb; exact .inl rfl
  · cases hb
end
end Go.V
set_option linter.unusedVariables false
namespace Go.V
variable {w : World} {L : List Asn}
end Go.V
namespace Go.Proofs.YtkmjjnjngcpjmaaGreat
open Go.V
section
variable {w : World} {L : List Asn} {g : GramT} {x : GA}
end
end Go.Proofs.YtkmjjnjngcpjmaaGreat
set_option linter.unusedVariables false
namespace Go.Proofs.YtkmjjnjngcpjmaaGreat
open Go.V
section
variable {w : World} {L : List Asn} {g : GramT} {x : GA}
end
end Go.Proofs.YtkmjjnjngcpjmaaGreat
set_option linter.unusedVariables false
namespace Go.V
class MKey2 (κ : Type) extends MVal κ where
  a : κ → Int
  b : κ → Int
  val2 : ∀ k, toMVal.val k = .agg ⟨[.int .i64 (a k), .int .i64 (b k)]⟩
  ext : ∀ k l, a k = a l → b k = b l → k = l
section
variable {P : Program} {κ : Type} [DecidableEq κ] [MKey2 κ] {kt ti : TypeId} {f0 f1 : Field}
structure Two (P : Program) (kt ti : TypeId) (f0 f1 : Field) : Prop where
  ht : P.underlying kt = some (.struct (P.fieldsOf kt))
  hf : P.fieldsOf kt = #[f0, f1]
  hi : P.underlying ti = some (.int .i64)
  ht0 : f0.type = ti
  ht1 : f1.type = ti
  n0 : f0.name ≠ "_"
  n1 : f1.name ≠ "_"
  o0 : f0.offset = 0
  o1 : f1.offset = 1
  sih : P.stoodInHeld kt = false
theorem two_eq (T : Two P kt ti f0 f1) (w : World) (x y u v : Int) : (Op.equal kt (.agg #[.int .i64 x, .int .i64 y]) (.agg #[.int .i64 u, .int .i64 v])).run P w = .ok (decide (x = u ∧ y = v)) w := by
  have p0 : ∀ (v u : Value) (w : World), (part ti #[v, u] 0).run P w = .ok v w := fun v u w => by simp [part, run_isAgg T.hi, kdOf, Kd.isAgg]
  have p1 : ∀ (v u : Value) (w : World), (part ti #[v, u] 1).run P w = .ok u w := fun v u w => by simp [part, run_isAgg T.hi, kdOf, Kd.isAgg]
  have eqI : ∀ n m d w, (Op.equalIn (d + 1) ti (.int .i64 n) (.int .i64 m)).run P w = .ok (n == m) w := fun n m d w => run_equalIn_int w d _ _ _ _ _ T.hi
  show (Op.equalIn (9998 + 1 + 1) kt _ _).run P w = _
  rw [run_equalIn_agg w (9998 + 1) kt _ _ T.ht T.sih, T.hf]
  have n0 := T.n0
  have n1 := T.n1
  have e : decide (x = u ∧ y = v) = (x == u && y == v) := by
    rw [Bool.eq_iff_iff]; simp
  rw [e]
  unfold Op.eqFields
  simp only [ne_eq, n0, not_false_eq_true, if_true, Sem.run_bind, T.ht0, T.o0, p0, Result.andThen_ok, eqI]
  cases hq : (x == u)
  · simp
  · unfold Op.eqFields
    simp only [ne_eq, n1, not_false_eq_true, if_true, Sem.run_bind, T.ht1, T.o1, p1, Result.andThen_ok, eqI, Bool.not_true, Bool.false_eq_true, if_false]
    cases hn : (y == v)
    · simp
    · unfold Op.eqFields; simp
theorem two_find (T : Two P kt ti f0 f1) (w : World) (k : κ) : ∀ (es : List MapEntry) (m : List (κ × Value)) (i : Nat), es.map (fun e => (e.key, e.val)) = m.map (fun x => (MVal.val x.1, x.2)) →
    ∃ r, (Instr.findAsking kt (MVal.val k) es i).run P w = .ok r w ∧ (r.map (·.2)) = assoc k m ∧ (∀ j v, r = some (j, v) → i ≤ j ∧ j < i + m.length ∧ (m[j - i]?).map (·.1) = some k ∧ ∀ u, aput k u m = m.set (j - i) (k, u)) ∧ (r = none → ∀ u, aput k u m = m ++ [(k, u)])
  | [], [], i, _ => ⟨none, rfl, rfl, fun j v h => (by cases h), fun _ u => rfl⟩
  | [], _ :: _, i, h => by simp at h
  | _ :: _, [], i, h => by simp at h
  | e :: es, (a, v) :: m, i, h => by
    simp only [List.map_cons, List.cons.injEq, Prod.mk.injEq] at h
    obtain ⟨⟨h1, h2⟩, h3⟩ := h
    have he : (Op.equal kt (MVal.val k) e.key).run P w = .ok (decide (k = a)) w := by
      rw [h1, MKey2.val2, MKey2.val2]
      have := two_eq T w (MKey2.a k) (MKey2.b k) (MKey2.a a) (MKey2.b a)
      have e2 : decide (MKey2.a k = MKey2.a a ∧ MKey2.b k = MKey2.b a) = decide (k = a) := decide_eq_decide.2 ⟨fun ⟨h1, h2⟩ => MKey2.ext k a h1 h2, fun h => by rw [h]; exact ⟨rfl, rfl⟩⟩
      rw [e2] at this
      exact this
    unfold Instr.findAsking
    simp only [Sem.run_bind, he, Result.andThen_ok]
    by_cases hk : k = a
    · subst hk
      refine ⟨some (i, e.val), by simp, by simp [assoc, h2], fun j u hj => ?_, fun hn => by cases hn⟩
      cases hj
      simp [aput]
    · obtain ⟨r, q1, q2, q3, q4⟩ := two_find T w k es m (i + 1) h3
      refine ⟨r, by simp [hk, q1], by simp [assoc, hk, q2], fun j u hj => ?_, fun hn u => by simp [aput, hk, q4 hn u]⟩
      obtain ⟨p1, p2, p3, p4⟩ := q3 j u hj
      have e1 : j - i = (j - (i + 1)) + 1 := by omega
      refine ⟨by omega, by simp; omega, by rw [e1]; simpa using p3, fun u => by rw [e1]; simp [aput, hk, p4 u]⟩
theorem KeyP.two (T : Two P kt ti f0 f1) : KeyP P kt κ where
  check := fun w em k => by
    rw [MKey2.val2]
    have hd := T.ht
    rw [T.hf] at hd
    have p0 : ∀ (v u : Value) (w : World), (part ti #[v, u] 0).run P w = .ok v w := fun v u w => by simp [part, run_isAgg T.hi, kdOf, Kd.isAgg]
    have p1 : ∀ (v u : Value) (w : World), (part ti #[v, u] 1).run P w = .ok u w := fun v u w => by simp [part, run_isAgg T.hi, kdOf, Kd.isAgg]
    have ci : ∀ (n : Nat) (z : Int) (w : World), (Instr.checkKey em (n + 1) ti (.int .i64 z)).run P w = .ok () w := fun n z w => MapKept.run_checkKey (P := P) (w := w) T.hi (by exact rfl) em n
    show (Instr.checkKey em (9998 + 1 + 1) kt _).run P w = _
    unfold Instr.checkKey
    simp only [Sem.run_bind, run_underlying hd, Result.andThen_ok]
    have n0 := T.n0
    have n1 := T.n1
    simp [n0, n1, T.ht0, T.ht1, T.o0, T.o1, Sem.run_bind, p0, p1, ci]
  find := fun w k es m he => by
    obtain ⟨r, q1, q2, q3, q4⟩ := two_find T w k es m 0 he
    refine ⟨r, ?_, q2, fun j v hj => ?_, q4⟩
    · have hd := T.ht
      cases es with
      | nil =>
        cases m with
        | nil => simp [Instr.findKey, run_underlying hd, Instr.findNow]; unfold Instr.findAsking at q1; simpa using q1
        | cons _ _ => simp at he
      | cons e es =>
        have hn : Instr.findNow (.struct (P.fieldsOf kt)) (MVal.val k) (e :: es) 0 = none := by
          unfold Instr.findNow
          simp [Instr.sameNow]
        simp only [Instr.findKey, Sem.run_bind, run_underlying hd, Result.andThen_ok, hn]
        exact q1
    · obtain ⟨_, p2, p3, p4⟩ := q3 j v hj
      rw [Nat.sub_zero] at p3 p4
      exact ⟨by omega, p3, p4⟩
  bits := fun k => by rw [MKey2.val2]; simp [Instr.sameBits]
end
end Go.V
set_option linter.unusedVariables false
namespace Go.V
structure TransT where
  st : Int
  sym : Int
deriving DecidableEq
instance : Inhabited TransT := ⟨⟨0, 0⟩⟩
instance : Rep TransT := { n := 2, rd := fun _ x vs => vs = [.int .i64 x.st, .int .i64 x.sym], mono := fun _ h => h, len := fun h => by rw [h]; rfl }
instance : MKey2 TransT := { val := fun k => .agg ⟨[.int .i64 k.st, .int .i64 k.sym]⟩, inj := fun a b h => by cases a; cases b; simp at h; obtain ⟨h1, h2⟩ := h; subst h1; subst h2; rfl, a := TransT.st, b := TransT.sym, val2 := fun _ => rfl, ext := fun k l h1 h2 => by cases k; cases l; cases h1; cases h2; rfl }
def encR (x : TransT) : List Value := [.int .i64 x.st, .int .i64 x.sym]
def trv (xs : List TransT) : List Value := xs.flatMap encR
theorem trv_len (xs : List TransT) : (trv xs).length = xs.length * 2 := fm_len (f := encR) (n := 2) (fun _ => rfl) xs
theorem trv_app (xs ys : List TransT) : trv (xs ++ ys) = trv xs ++ trv ys := List.flatMap_append
theorem rdTr_of {h : Hp} {xs : List TransT} {a : Option Addr} {l : Nat} (hl : xs.length = l) (r : rdV a (trv xs) h) : rdS h xs a l := by
  refine ⟨hl, fun i x hx => ?_⟩
  rcases r with e | ⟨ad, rfl, hc⟩
  · have h1 := congrArg List.length e
    rw [trv_len, List.length_nil] at h1
    have := (List.getElem?_eq_some_iff.1 hx).1; omega
  · exact ⟨ad, encR x, rfl, rowH_unflat (n := 2) (fun _ => rfl) xs ad hc i x hx, rfl⟩
theorem rdTr_get {h : Hp} {xs : List TransT} {a : Option Addr} {l : Nat} (r : rdS h xs a l) {i : Nat} (hi : i < l) : ∃ x ad, xs[i]? = some x ∧ a = some ad ∧ rowH h (ad.add (mulS i 2)) (encR x) := by
  obtain ⟨x, ad, vs, hx, ha, hr, e⟩ := r.get hi
  rw [show vs = encR x from e] at hr
  exact ⟨x, ad, hx, ha, hr⟩
def nxt (ss : List SQ) (i : Nat) (s : Int) : Option Int := match ss[i]? with
  | none => none
  | some q => (q.2.2.find? fun e => decide (e.sym = s)).map (·.to)
def trAt (g : GramT) (i : Nat) (es : List EdgeT) : List TransT := (es.filter fun e => decide ((g.T : Int) ≤ e.sym)).map fun e => ⟨(i : Int), e.sym⟩
def TrN (g : GramT) (ss : List SQ) : Nat → List TransT
  | 0 => []
  | i + 1 => TrN g ss i ++ (match ss[i]? with | some q => trAt g i q.2.2 | none => [])
def TrL (g : GramT) (ss : List SQ) : List TransT := TrN g ss ss.length
def dirOf (g : GramT) (ss : List SQ) (t : TransT) : List Int :=
  (if t = ⟨0, g.start⟩ then [0] else []) ++ (match nxt ss t.st.toNat t.sym with
    | none => []
    | some j => (match ss[j.toNat]? with | none => [] | some q => (q.2.2.filter fun e => decide (e.sym < (g.T : Int))).map (·.sym)))
def wayN (ss : List SQ) : Int → List Int → Int
  | q, [] => q
  | q, s :: l => match nxt ss q.toNat s with
    | none => -1
    | some j => wayN ss j l
section
variable {g : GramT} {ss : List SQ}
theorem TrN_succ {i : Nat} {q : SQ} (hq : ss[i]? = some q) : TrN g ss (i + 1) = TrN g ss i ++ trAt g i q.2.2 := by
  show TrN g ss i ++ (match ss[i]? with | some q => trAt g i q.2.2 | none => []) = _
  rw [hq]
theorem trAt_snoc {i : Nat} {es : List EdgeT} {e : EdgeT} : trAt g i (es ++ [e]) = if (g.T : Int) ≤ e.sym then trAt g i es ++ [⟨(i : Int), e.sym⟩] else trAt g i es := by
  unfold trAt
  rw [List.filter_append, List.map_append]
  by_cases h : (g.T : Int) ≤ e.sym <;> simp [h]
theorem nxt_some {i : Nat} {q : SQ} (hq : ss[i]? = some q) (s : Int) : nxt ss i s = (q.2.2.find? fun e => decide (e.sym = s)).map (·.to) := by unfold nxt; rw [hq]
theorem aut_rise (h : AutI g ss) {i : Nat} {q : SQ} (hq : ss[i]? = some q) : q.2.2.map (·.sym) = (symsOf g q.1.2).map Int.ofNat := by
  obtain ⟨hK, hE, _⟩ := aut_at h hq
  have key : ∀ (l : List Nat) (st : List Kern) (es : List EdgeT), (bsy g q.1.2 l (st, es)).2.map (·.sym) = es.map (·.sym) ++ l.map Int.ofNat := by
    intro l
    induction l with
    | nil => intro st es; simp [bsy]
    | cons a l ih =>
      intro st es
      show (bsy g q.1.2 l _).2.map _ = _
      rw [ih]; simp
  have := key (symsOf g q.1.2) (bst g i).1 []
  rw [← hE] at this
  simpa using this
theorem find_at : ∀ {es : List EdgeT} {k : Nat} {e : EdgeT}, (es.map (·.sym)).Nodup → es[k]? = some e → (es.find? fun x => decide (x.sym = e.sym)) = some e
  | [], k, e, _, h => by simp at h
  | x :: es, 0, e, _, h => by simp at h; subst h; simp
  | x :: es, k + 1, e, hn, h => by
    rw [List.map_cons, List.nodup_cons] at hn
    have h : es[k]? = some e := by simpa using h
    have hne : x.sym ≠ e.sym := fun e2 => hn.1 (by rw [e2]; exact List.mem_map.2 ⟨e, List.mem_of_getElem? h, rfl⟩)
    rw [List.find?_cons, decide_eq_false hne]
    exact find_at hn.2 h
theorem aut_nd (h : AutI g ss) {i : Nat} {q : SQ} (hq : ss[i]? = some q) : (q.2.2.map (·.sym)).Nodup := by
  rw [aut_rise h hq, List.nodup_iff_pairwise_ne, List.pairwise_map]
  exact (symsOf_srt g q.1.2).imp fun h e => by simp at e; omega
theorem nxt_edge (h : AutI g ss) {i : Nat} {q : SQ} (hq : ss[i]? = some q) {k : Nat} {e : EdgeT} (he : q.2.2[k]? = some e) : nxt ss i e.sym = some e.to := by
  rw [nxt_some hq, find_at (aut_nd h hq) he]; rfl
theorem nxt_inv {i : Nat} {s : Int} {j : Int} (h : nxt ss i s = some j) : ∃ (q : SQ) (k : Nat) (e : EdgeT), ss[i]? = some q ∧ q.2.2[k]? = some e ∧ e.sym = s ∧ e.to = j := by
  unfold nxt at h
  cases hq : ss[i]? with
  | none => rw [hq] at h; cases h
  | some q =>
    rw [hq] at h
    simp only [Option.map_eq_some_iff] at h
    obtain ⟨e, he, rfl⟩ := h
    obtain ⟨k, hk⟩ := List.getElem?_of_mem (List.mem_of_find?_eq_some he)
    have := List.find?_some he
    exact ⟨q, k, e, rfl, hk, of_decide_eq_true this, rfl⟩
end
end Go.V
set_option linter.unusedVariables false
namespace Go.Proofs.YtkmjjnjngcpjmaaGreat
open Go.V
abbrev n_trans_List : FuncId := 9
def ann_trans_List : Ann := { rngs := [], loops := [], joins := [], blocks := [] }
set_option maxRecDepth 100000 in
def vc_trans_List (a : Option Addr) (b c : Nat) (d : Option Addr) (e f : Nat) (g : Option Addr) (i j : Nat) (k : Int) (l : Option Addr) (m n : Nat) (w : World) (R : Value → WP) : Prop :=  new w (oC [vS a b c, vS d e f, vS g i j, iI k, vS l m n] 27) fun k1 w1 => ∃ o1 k2 k3 o2 k4 k5 o3 k6 k7 n1 o4 k8 k9, V.rowAt w1 (aM k1) 0 5 = some [vS o1 k2 k3, vS o2 k4 k5, vS o3 k6 k7, iI n1, vS o4 k8 k9] ∧ RunE Proofs.Tryz.prog Ev 21 [vA (Array.mk [vS o1 k2 k3, vS o2 k4 k5, vS o3 k6 k7, iI n1, vS o4 k8 k9])] w1 fun v1 w2 => ∃ o5 n2, v1 = vT (Array.mk [vP o5, iI n2]) ∧ br (n2 != 0) (R (vT (Array.mk [vS none 0 0, iI n2])) w2) (RunE Proofs.Tryz.prog Ev 22 [vP o5] w2 fun v2 w3 => ∃ o6 k10 k11, v2 = vS o6 k10 k11 ∧ R (vT (Array.mk [vS o6 k10 k11, iI 0])) w3)
set_option maxRecDepth 100000 in
theorem run_trans_List (a : Option Addr) (b c : Nat) (d : Option Addr) (e f : Nat) (g : Option Addr) (i j : Nat) (k : Int) (l : Option Addr) (m n : Nat) (w : World) (R : Value → WP) (h : vc_trans_List a b c d e f g i j k l m n w R) : Run Tryz.prog 9 [(.agg #[(.slice a b c), (.slice d e f), (.slice g i j), (.int .i64 k), (.slice l m n)])] w R := rv Tryz.func9 ann_trans_List (by kernel_rfl) h

abbrev n_trans_Direct : FuncId := 10
def ann_trans_Direct : Ann := { rngs := [], loops := [(6, [(6, (.one .slice)), (23, (.one (.int .i64)))]), (12, [(9, (.one .slice)), (50, (.one (.int .i64)))])], joins := [(11, [(9, (.one .slice))])], blocks := [] }
set_option maxRecDepth 100000 in
def vc_trans_Direct (a : Option Addr) (b c : Nat) (d : Option Addr) (e f : Nat) (g : Option Addr) (i j : Nat) (k : Int) (l : Option Addr) (m n : Nat) (w : World) (R : Value → WP) : Prop :=  new w (oC [vS a b c, vS d e f, vS g i j, iI k, vS l m n] 27) fun k1 w1 => ∃ o1 k2 k3 o2 k4 k5 o3 k6 k7 n1 o4 k8 k9, V.rowAt w1 (aM k1) 0 5 = some [vS o1 k2 k3, vS o2 k4 k5, vS o3 k6 k7, iI n1, vS o4 k8 k9] ∧ RunE Proofs.Tryz.prog Ev 21 [vA (Array.mk [vS o1 k2 k3, vS o2 k4 k5, vS o3 k6 k7, iI n1, vS o4 k8 k9])] w1 fun v1 w2 => ∃ o5 n2, v1 = vT (Array.mk [vP o5, iI n2]) ∧ br (n2 != 0) (R (vT (Array.mk [vS none 0 0, iI n2])) w2) (RunE Proofs.Tryz.prog Ev 22 [vP o5] w2 fun v2 w3 => ∃ o6 k10 k11, v2 = vS o6 k10 k11 ∧ ∃ (x1 : lP [(6, shS), (23, shI)]), ∃ (x2 : lN [(6, shS), (23, shI)]), x1 none 0 0 0 w3 ∧ ∀ (I1 : Nat → Value) (o7 : Option Addr) (k12 k13 : Nat) (n3 : Int) (w4 : World), x1 o7 k12 k13 n3 w4 → br (decide (n3 < (↑k10 : Int))) (idx o6 k10 n3 2 fun a1 => ∃ n4 n5, V.rowAt w4 a1 0 2 = some [iI n4, iI n5] ∧ new w4 (oC [iI 0, iI 0] 39) fun k14 w5 => stR w5 (aM k14) [iI n4, iI n5] fun w6 => ∃ (x3 : lP [(9, shS)]), (∃ n6 n7, V.rowAt w6 (aM k14) 0 2 = some [iI n6, iI n7] ∧ ∃ n8, World.cell? w6 (Addr.add (aM k1) 3) = some (iI n8) ∧ ∃ v3, Sem.run Proofs.Tryz.prog (cmpS BinOp.eql 39 (Operand.tmp 27) (Operand.tmp 30) (vG [iI n6, iI n7]) (vG [iI 0, iI n8])) w6 = Result.ok v3 w6 ∧ ∃ b1, v3 = vB b1 ∧ br b1 (new w6 (oC [iI 0] 3) fun k15 w7 => RunS Proofs.Tryz.prog (apB 24 (Array.mk [vS none 0 0, vS (some (aM k15)) 1 1])) w7 fun v4 w8 => ∃ o8 k16 k17, v4 = vS o8 k16 k17 ∧ x3 o8 k16 k17 w8) (x3 none 0 0 w6)) ∧ ∀ (I2 : Nat → Value) (o9 : Option Addr) (k18 k19 : Nat) (w9 : World), x3 o9 k18 k19 w9 → ∀ w10, drawn w9 w10 → ∃ (I3 : World → Prop), I3 w10 ∧ nn o5 fun a2 => ∃ o10 k20 k21, (∀ w11, I3 w11 → World.cell? w11 (Addr.add a2 5) = some (vS o10 k20 k21)) ∧ nn o5 fun a3 => ∃ o11, (∀ w12, I3 w12 → World.cell? w12 (Addr.add a3 8) = some (Value.map o11)) ∧ ∃ n9 n10, (∀ w13, I3 w13 → V.rowAt w13 (aM k14) 0 2 = some [iI n9, iI n10]) ∧ RunS Proofs.Tryz.prog (Instr.lookup 67 (Value.map o11) (vG [iI n9, iI n10]) false) w10 fun v5 w14 => ∃ n11, v5 = iI n11 ∧ ∃ (I4 : World → Prop), I4 w14 ∧ (∀ w15, I4 w15 → I3 w15) ∧ idx o10 k20 n11 2 fun a4 => ∃ o12 k22 k23, (∀ w16, I4 w16 → World.cell? w16 (Addr.add a4 1) = some (vS o12 k22 k23)) ∧ ∃ (x4 : lP [(9, shS), (50, shI)]), ∃ (x5 : lN [(9, shS), (50, shI)]), x4 o9 k18 k19 0 w14 ∧ ∀ (I5 : Nat → Value) (o13 : Option Addr) (k24 k25 : Nat) (n12 : Int) (w17 : World), x4 o13 k24 k25 n12 w17 → br (decide (n12 < (↑k22 : Int))) (idx o12 k22 n12 2 fun a5 => ∃ n13 n14, V.rowAt w17 a5 0 2 = some [iI n13, iI n14] ∧ new w17 (oC [iI 0, iI 0] 71) fun k26 w18 => stR w18 (aM k26) [iI n13, iI n14] fun w19 => ∃ n15, World.cell? w19 (aM k26) = some (iI n15) ∧ ∃ o14 k27 k28, World.cell? w19 (aM k1) = some (vS o14 k27 k28) ∧ br (decide (n15 < (↑k27 : Int))) (∃ n16, World.cell? w19 (aM k26) = some (iI n16) ∧ new w19 (oC [iI n16] 3) fun k29 w20 => RunS Proofs.Tryz.prog (apB 24 (Array.mk [vS o13 k24 k25, vS (some (aM k29)) 1 1])) w20 fun v6 w21 => ∃ o15 k30 k31, v6 = vS o15 k30 k31 ∧ inI (n12 + 1) ∧ x4 o15 k30 k31 (n12 + 1) w21 ∧ x5 o15 k30 k31 (n12 + 1) w21 < x5 o13 k24 k25 n12 w17) (inI (n12 + 1) ∧ x4 o13 k24 k25 (n12 + 1) w19 ∧ x5 o13 k24 k25 (n12 + 1) w19 < x5 o13 k24 k25 n12 w17)) (RunE Proofs.Tryz.prog Ev 23 [vS o13 k24 k25] w17 fun v7 w22 => ∃ o16 k32 k33, v7 = vS o16 k32 k33 ∧ new w22 (oC [vS o16 k32 k33] 24) fun k34 w23 => RunS Proofs.Tryz.prog (apB 34 (Array.mk [vS o7 k12 k13, vS (some (aM k34)) 1 1])) w23 fun v8 w24 => ∃ o17 k35 k36, v8 = vS o17 k35 k36 ∧ inI (n3 + 1) ∧ x1 o17 k35 k36 (n3 + 1) w24 ∧ x2 o17 k35 k36 (n3 + 1) w24 < x2 o7 k12 k13 n3 w4)) (RunE Proofs.Tryz.prog Ev 24 [vS o7 k12 k13] w4 fun v9 w25 => ∃ o18 k37 k38, v9 = vS o18 k37 k38 ∧ R (vT (Array.mk [vS o18 k37 k38, iI 0])) w25))
set_option maxRecDepth 100000 in
theorem run_trans_Direct (a : Option Addr) (b c : Nat) (d : Option Addr) (e f : Nat) (g : Option Addr) (i j : Nat) (k : Int) (l : Option Addr) (m n : Nat) (w : World) (R : Value → WP) (h : vc_trans_Direct a b c d e f g i j k l m n w R) : Run Tryz.prog 10 [(.agg #[(.slice a b c), (.slice d e f), (.slice g i j), (.int .i64 k), (.slice l m n)])] w R := rv Tryz.func10 ann_trans_Direct (by kernel_rfl) h

abbrev n_trans_Walk : FuncId := 14
def ann_trans_Walk : Ann := { rngs := [], loops := [(7, [(1, (.one (.int .i64))), (41, (.one (.int .i64)))])], joins := [(5, [(38, (.one .bool))])], blocks := [] }
set_option maxRecDepth 100000 in
def vc_trans_Walk (a : Option Addr) (b c : Nat) (d : Option Addr) (e f : Nat) (g : Option Addr) (i j : Nat) (k : Int) (l : Option Addr) (m n : Nat) (o : Int) (p : Option Addr) (q s : Nat) (w : World) (R : Value → WP) : Prop :=  new w (oC [vS a b c, vS d e f, vS g i j, iI k, vS l m n] 27) fun k1 w1 => ∃ o1 k2 k3 o2 k4 k5 o3 k6 k7 n1 o4 k8 k9, V.rowAt w1 (aM k1) 0 5 = some [vS o1 k2 k3, vS o2 k4 k5, vS o3 k6 k7, iI n1, vS o4 k8 k9] ∧ RunE Proofs.Tryz.prog Ev 21 [vA (Array.mk [vS o1 k2 k3, vS o2 k4 k5, vS o3 k6 k7, iI n1, vS o4 k8 k9])] w1 fun v1 w2 => ∃ o5 n2, v1 = vT (Array.mk [vP o5, iI n2]) ∧ br (n2 != 0) (R (vT (Array.mk [iI 0, iI n2])) w2) (∃ (x1 : lP [(38, shB)]), br (decide (o < 0)) (x1 true w2) (nn o5 fun a1 => ∃ o6 k10 k11, World.cell? w2 (Addr.add a1 5) = some (vS o6 k10 k11) ∧ br (decide ((↑k10 : Int) ≤ o)) (x1 true w2) (RunE Proofs.Tryz.prog Ev 27 [vS p q s, Value.func (Fn.func 28) (Array.mk []) (Array.mk [vP (some (aM k1))])] w2 fun v2 w3 => ∃ b1, v2 = vB b1 ∧ x1 b1 w3)) ∧ ∀ (I1 : Nat → Value) (b2 : Bool) (w4 : World), x1 b2 w4 → br b2 (R (vT (Array.mk [iI 0, iI 1])) w4) (∃ (x2 : lP [(1, shI), (41, shI)]), ∃ (x3 : lN [(1, shI), (41, shI)]), x2 o 0 w4 ∧ ∀ (I2 : Nat → Value) (n3 n4 : Int) (w5 : World), x2 n3 n4 w5 → br (decide (n4 < (↑q : Int))) (idx p q n4 1 fun a2 => ∃ n5, World.cell? w5 a2 = some (iI n5) ∧ nn o5 fun a3 => ∃ o7, World.cell? w5 (Addr.add a3 8) = some (Value.map o7) ∧ RunS Proofs.Tryz.prog (Instr.lookup 67 (Value.map o7) (vG [iI n3, iI n5]) true) w5 fun v3 w6 => ∃ n6 b3, v3 = vT (Array.mk [iI n6, vB b3]) ∧ br (!b3) (R (vT (Array.mk [iI (-1), iI 0])) w6) (inI (n4 + 1) ∧ x2 n6 (n4 + 1) w6 ∧ x3 n6 (n4 + 1) w6 < x3 n3 n4 w5)) (R (vT (Array.mk [iI n3, iI 0])) w5)))
set_option maxRecDepth 100000 in
theorem run_trans_Walk (a : Option Addr) (b c : Nat) (d : Option Addr) (e f : Nat) (g : Option Addr) (i j : Nat) (k : Int) (l : Option Addr) (m n : Nat) (o : Int) (p : Option Addr) (q s : Nat) (w : World) (R : Value → WP) (h : vc_trans_Walk a b c d e f g i j k l m n o p q s w R) : Run Tryz.prog 14 [(.agg #[(.slice a b c), (.slice d e f), (.slice g i j), (.int .i64 k), (.slice l m n)]), (.int .i64 o), (.slice p q s)] w R := rv Tryz.func14 ann_trans_Walk (by kernel_rfl) h

abbrev n_trans_of : FuncId := 21
def ann_trans_of : Ann := { rngs := [], loops := [(6, [(27, (.one (.int .i64)))]), (9, [(35, (.one (.int .i64)))])], joins := [], blocks := [] }
set_option maxRecDepth 100000 in
def vc_trans_of (a : Option Addr) (b c : Nat) (d : Option Addr) (e f : Nat) (g : Option Addr) (i j : Nat) (k : Int) (l : Option Addr) (m n : Nat) (w : World) (R : Value → WP) : Prop :=  new w (oC [vS a b c, vS d e f, vS g i j, iI k, vS l m n] 27) fun k1 w1 => ∃ o1 k2 k3 o2 k4 k5 o3 k6 k7 n1 o4 k8 k9, V.rowAt w1 (aM k1) 0 5 = some [vS o1 k2 k3, vS o2 k4 k5, vS o3 k6 k7, iI n1, vS o4 k8 k9] ∧ RunE Proofs.Tryz.prog Ev 37 [vA (Array.mk [vS o1 k2 k3, vS o2 k4 k5, vS o3 k6 k7, iI n1, vS o4 k8 k9])] w1 fun v1 w2 => ∃ o5 k10 k11 n2 n3 n4, v1 = vT (Array.mk [vA (Array.mk [vS o5 k10 k11, iI n2, iI n3]), iI n4]) ∧ new w2 (oC [vS none 0 0, iI 0, iI 0] 54) fun k12 w3 => stR w3 (aM k12) [vS o5 k10 k11, iI n2, iI n3] fun w4 => br (n4 != 0) (R (vT (Array.mk [vP none, iI n4])) w4) (∃ o6 k13 k14 o7 k15 k16 o8 k17 k18 n5 o9 k19 k20, V.rowAt w4 (aM k1) 0 5 = some [vS o6 k13 k14, vS o7 k15 k16, vS o8 k17 k18, iI n5, vS o9 k19 k20] ∧ ∃ o10 k21 k22 n6 n7, V.rowAt w4 (aM k12) 0 3 = some [vS o10 k21 k22, iI n6, iI n7] ∧ new w4 (Obj.map (Array.mk []) 0) fun k23 w5 => new w5 (oC [vS o6 k13 k14, vS o7 k15 k16, vS o8 k17 k18, iI n5, vS o9 k19 k20, vS o10 k21 k22, iI n6, iI n7, Value.map (some k23)] 69) fun k24 w6 => ∃ o11 k25 k26, World.cell? w6 (aM k12) = some (vS o11 k25 k26) ∧ ∃ (x1 : lP [(27, shI)]), ∃ (x2 : lN [(27, shI)]), x1 0 w6 ∧ ∀ (I1 : Nat → Value) (n8 : Int) (w7 : World), x1 n8 w7 → br (decide (n8 < (↑k25 : Int))) (idx o11 k25 n8 2 fun a1 => ∃ o12 k27 k28 o13 k29 k30, V.rowAt w7 a1 0 2 = some [vS o12 k27 k28, vS o13 k29 k30] ∧ new w7 (oC [vS none 0 0, vS none 0 0] 66) fun k31 w8 => stR w8 (aM k31) [vS o12 k27 k28, vS o13 k29 k30] fun w9 => ∃ o14 k32 k33, World.cell? w9 (Addr.add (aM k31) 1) = some (vS o14 k32 k33) ∧ ∃ (x3 : lP [(35, shI)]), ∃ (x4 : lN [(35, shI)]), x3 0 w9 ∧ ∀ (I2 : Nat → Value) (n9 : Int) (w10 : World), x3 n9 w10 → br (decide (n9 < (↑k32 : Int))) (idx o14 k32 n9 2 fun a2 => ∃ n10 n11, V.rowAt w10 a2 0 2 = some [iI n10, iI n11] ∧ new w10 (oC [iI 0, iI 0] 71) fun k34 w11 => stR w11 (aM k34) [iI n10, iI n11] fun w12 => ∀ w13, drawn w12 w13 → ∃ (I3 : World → Prop), I3 w13 ∧ ∃ o15, (∀ w14, I3 w14 → World.cell? w14 (Addr.add (aM k24) 8) = some (Value.map o15)) ∧ ∃ n12, (∀ w15, I3 w15 → World.cell? w15 (aM k34) = some (iI n12)) ∧ ∃ n13, (∀ w16, I3 w16 → World.cell? w16 (Addr.add (aM k34) 1) = some (iI n13)) ∧ RunS Proofs.Tryz.prog (Instr.mapUpdate 67 (Value.map o15) (vG [iI n8, iI n12]) (iI n13)) w13 fun (x5 : Unit) (w17 : World) => inI (n9 + 1) ∧ x3 (n9 + 1) w17 ∧ x4 (n9 + 1) w17 < x4 n9 w10) (inI (n8 + 1) ∧ x1 (n8 + 1) w10 ∧ x2 (n8 + 1) w10 < x2 n8 w7)) (R (vT (Array.mk [vP (some (aM k24)), iI 0])) w7))
set_option maxRecDepth 100000 in
theorem run_trans_of (a : Option Addr) (b c : Nat) (d : Option Addr) (e f : Nat) (g : Option Addr) (i j : Nat) (k : Int) (l : Option Addr) (m n : Nat) (w : World) (R : Value → WP) (h : vc_trans_of a b c d e f g i j k l m n w R) : Run Tryz.prog 21 [(.agg #[(.slice a b c), (.slice d e f), (.slice g i j), (.int .i64 k), (.slice l m n)])] w R := rv Tryz.func21 ann_trans_of (by kernel_rfl) h

abbrev n_trans_ways_list : FuncId := 22
def ann_trans_ways_list : Ann := { rngs := [], loops := [(3, [(3, (.one .slice)), (14, (.one (.int .i64)))]), (6, [(3, (.one .slice)), (22, (.one (.int .i64)))])], joins := [], blocks := [] }
set_option maxRecDepth 100000 in
def vc_trans_ways_list (a : Option Addr) (w : World) (R : Value → WP) : Prop :=  nn a fun a1 => ∃ o1 k1 k2, World.cell? w (Addr.add a1 5) = some (vS o1 k1 k2) ∧ ∃ (x1 : lP [(3, shS), (14, shI)]), ∃ (x2 : lN [(3, shS), (14, shI)]), x1 none 0 0 0 w ∧ ∀ (I1 : Nat → Value) (o2 : Option Addr) (k3 k4 : Nat) (n1 : Int) (w1 : World), x1 o2 k3 k4 n1 w1 → br (decide (n1 < (↑k1 : Int))) (idx o1 k1 n1 2 fun a2 => ∃ o3 k5 k6 o4 k7 k8, V.rowAt w1 a2 0 2 = some [vS o3 k5 k6, vS o4 k7 k8] ∧ new w1 (oC [vS none 0 0, vS none 0 0] 66) fun k9 w2 => stR w2 (aM k9) [vS o3 k5 k6, vS o4 k7 k8] fun w3 => ∃ o5 k10 k11, World.cell? w3 (Addr.add (aM k9) 1) = some (vS o5 k10 k11) ∧ ∃ (x3 : lP [(3, shS), (22, shI)]), ∃ (x4 : lN [(3, shS), (22, shI)]), x3 o2 k3 k4 0 w3 ∧ ∀ (I2 : Nat → Value) (o6 : Option Addr) (k12 k13 : Nat) (n2 : Int) (w4 : World), x3 o6 k12 k13 n2 w4 → br (decide (n2 < (↑k10 : Int))) (idx o5 k10 n2 2 fun a3 => ∃ n3 n4, V.rowAt w4 a3 0 2 = some [iI n3, iI n4] ∧ new w4 (oC [iI 0, iI 0] 71) fun k14 w5 => stR w5 (aM k14) [iI n3, iI n4] fun w6 => ∀ w7, drawn w6 w7 → ∃ (I3 : World → Prop), I3 w7 ∧ ∃ n5, (∀ w8, I3 w8 → World.cell? w8 (aM k14) = some (iI n5)) ∧ nn a fun a4 => ∃ o7 k15 k16, (∀ w9, I3 w9 → World.cell? w9 a4 = some (vS o7 k15 k16)) ∧ br (decide ((↑k15 : Int) ≤ n5)) (∃ n6, World.cell? w7 (aM k14) = some (iI n6) ∧ new w7 (oC [iI n1, iI n6] 39) fun k17 w10 => RunS Proofs.Tryz.prog (apB 30 (Array.mk [vS o6 k12 k13, vS (some (aM k17)) 1 1])) w10 fun v1 w11 => ∃ o8 k18 k19, v1 = vS o8 k18 k19 ∧ inI (n2 + 1) ∧ x3 o8 k18 k19 (n2 + 1) w11 ∧ x4 o8 k18 k19 (n2 + 1) w11 < x4 o6 k12 k13 n2 w4) (inI (n2 + 1) ∧ x3 o6 k12 k13 (n2 + 1) w7 ∧ x4 o6 k12 k13 (n2 + 1) w7 < x4 o6 k12 k13 n2 w4)) (inI (n1 + 1) ∧ x1 o6 k12 k13 (n1 + 1) w4 ∧ x2 o6 k12 k13 (n1 + 1) w4 < x2 o2 k3 k4 n1 w1)) (RunE Proofs.Tryz.prog Ev 38 [vS o2 k3 k4] w1 fun v2 w12 => ∃ o9 k20 k21, v2 = vS o9 k20 k21 ∧ R (vS o9 k20 k21) w12)
set_option maxRecDepth 100000 in
theorem run_trans_ways_list (a : Option Addr) (w : World) (R : Value → WP) (h : vc_trans_ways_list a w R) : Run Tryz.prog 22 [(.pointer a)] w R := rv Tryz.func22 ann_trans_ways_list (by kernel_rfl) h

def ann_slices_Clip_int_int_ : Ann := { rngs := [], loops := [], joins := [], blocks := [] }
set_option maxRecDepth 100000 in
def vc_slices_Clip_int_int_ (a : Option Addr) (b c : Nat) (w : World) (R : Value → WP) : Prop :=  slc a b c none (some (↑b : Int)) (some (↑b : Int)) 1 fun (o1 : Option Addr) (k1 k2 : Nat) => R (vS o1 k1 k2) w
set_option maxRecDepth 100000 in
theorem run_slices_Clip_int_int_ (a : Option Addr) (b c : Nat) (w : World) (R : Value → WP) (h : vc_slices_Clip_int_int_ a b c w R) : Run Tryz.prog 23 [(.slice a b c)] w R := rv Tryz.func23 ann_slices_Clip_int_int_ (by kernel_rfl) h

def ann_slices_Clip_LLint_int_ : Ann := { rngs := [], loops := [], joins := [], blocks := [] }
set_option maxRecDepth 100000 in
def vc_slices_Clip_LLint_int_ (a : Option Addr) (b c : Nat) (w : World) (R : Value → WP) : Prop :=  slc a b c none (some (↑b : Int)) (some (↑b : Int)) 1 fun (o1 : Option Addr) (k1 k2 : Nat) => R (vS o1 k1 k2) w
set_option maxRecDepth 100000 in
theorem run_slices_Clip_LLint_int_ (a : Option Addr) (b c : Nat) (w : World) (R : Value → WP) (h : vc_slices_Clip_LLint_int_ a b c w R) : Run Tryz.prog 24 [(.slice a b c)] w R := rv Tryz.func24 ann_slices_Clip_LLint_int_ (by kernel_rfl) h

abbrev n_trans_Walk_S1 : FuncId := 28
def ann_trans_Walk_S1 : Ann := { rngs := [], loops := [], joins := [], blocks := [] }
set_option maxRecDepth 100000 in
def vc_trans_Walk_S1 (a : Int) (b : Addr) (w : World) (R : Value → WP) : Prop :=  br (decide (a < 0)) (R (vB true) w) (∃ o1 k1 k2, World.cell? w b = some (vS o1 k1 k2) ∧ ∃ o2 k3 k4, World.cell? w (Addr.add b 1) = some (vS o2 k3 k4) ∧ inI ((↑k1 : Int) + (↑k3 : Int)) ∧ R (vB (decide ((↑k1 : Int) + (↑k3 : Int) ≤ a))) w)
set_option maxRecDepth 100000 in
theorem run_trans_Walk_S1 (a : Int) (b : Addr) (w : World) (R : Value → WP) (h : vc_trans_Walk_S1 a b w R) : Run Tryz.prog 28 [(.int .i64 a), (.pointer (some b))] w R := rv Tryz.func28 ann_trans_Walk_S1 (by kernel_rfl) h

def ann_slices_Clip_api_Trans_api_Trans_ : Ann := { rngs := [], loops := [], joins := [], blocks := [] }
set_option maxRecDepth 100000 in
def vc_slices_Clip_api_Trans_api_Trans_ (a : Option Addr) (b c : Nat) (w : World) (R : Value → WP) : Prop :=  slc a b c none (some (↑b : Int)) (some (↑b : Int)) 2 fun (o1 : Option Addr) (k1 k2 : Nat) => R (vS o1 k1 k2) w
set_option maxRecDepth 100000 in
theorem run_slices_Clip_api_Trans_api_Trans_ (a : Option Addr) (b c : Nat) (w : World) (R : Value → WP) (h : vc_slices_Clip_api_Trans_api_Trans_ a b c w R) : Run Tryz.prog 38 [(.slice a b c)] w R := rv Tryz.func38 ann_slices_Clip_api_Trans_api_Trans_ (by kernel_rfl) h

end Go.Proofs.YtkmjjnjngcpjmaaGreat
set_option linter.unusedVariables false
namespace Go.V
section
variable {κ : Type} [DecidableEq κ] [MVal κ] {P : Program} {Ty : TypeId → Option TyI} {w : World} {L : List Asn} {b : Nat} {m : List (κ × Value)} {h : Hp}
theorem map_lookupOkP (hT : TyOk P Ty) {t kt et : TypeId} {i : TyI} {z : Value} (hk : kdOfT Ty t = .map kt et) (hkt : KeyP P kt κ) (hi : Ty et = some i) (hz : i.zero = some z) {b : Nat} {m : List (κ × Value)} (h : St w (mapA b m :: L)) (k : κ) :
    RunS P (Instr.lookup t (.map (some b)) (MVal.val k) true) w fun v w' => v = .tuple #[(assoc k m).getD z, .bool (assoc k m).isSome] ∧ w' = w := by
  obtain ⟨d, hd, hd'⟩ := undOf hT hk (by simp)
  rw [kd_map' hd'] at hd
  obtain ⟨es, cl, ⟨he, _, _⟩, h⟩ := mapA_ex.1 h
  obtain ⟨r, hf, q2, _, _⟩ := hkt.find w k es.toList m he
  obtain ⟨info, d2, ha⟩ := tyAt hT hi
  have hzz : (zeroValue et).run P w = .ok z w := run_zero ha.inf (by rw [← ha.zero, hz])
  refine ⟨_, w, ?_, Ev.refl w, rfl, rfl⟩
  have hg := h.get
  have hc := fun e => hkt.check w e k
  unfold Instr.lookup
  simp only [Sem.run_bind, run_und hd, Result.andThen_ok, run_getObj_map w b es cl hg, Sem.run_pure, hc, hf]
  rw [← q2]
  cases r with
  | none => simp [Sem.run_bind, hzz]
  | some x => simp
theorem map_lookupOkHP (hm : mapA b m h) (s : sub h (hp w)) (hT : TyOk P Ty) {t kt et : TypeId} {i : TyI} {z : Value} (hk : kdOfT Ty t = .map kt et) (hkt : KeyP P kt κ) (hi : Ty et = some i) (hz : i.zero = some z) (k : κ) :
    RunS P (Instr.lookup t (.map (some b)) (MVal.val k) true) w fun v w' => v = .tuple #[(assoc k m).getD z, .bool (assoc k m).isSome] ∧ w' = w :=
  map_lookupOkP (L := []) hT hk hkt hi hz (starL_one (mapA_mono s hm)) k
end
def WayI (ss : List SQ) (m : List (TransT × Value)) (i : Nat) (es : List EdgeT) : Prop := ∀ k : TransT, assoc k m =
  if k.st < 0 then none else if k.st.toNat < i then (nxt ss k.st.toNat k.sym).map (Value.int .i64) else if k.st.toNat = i then (es.find? fun e => decide (e.sym = k.sym)).map (fun e => Value.int .i64 e.to) else none
section
variable {ss : List SQ} {m : List (TransT × Value)} {i : Nat}
theorem WayI.start : WayI ss [] 0 [] := fun k => by simp [assoc]
theorem find_snoc {es : List EdgeT} {e : EdgeT} (hn : e.sym ∉ es.map (·.sym)) (s : Int) : ((es ++ [e]).find? fun x => decide (x.sym = s)) = if s = e.sym then some e else es.find? fun x => decide (x.sym = s) := by
  rw [List.find?_append]
  by_cases h : s = e.sym
  · subst h
    have : (es.find? fun x => decide (x.sym = e.sym)) = none := List.find?_eq_none.2 fun x hx h2 => hn (List.mem_map.2 ⟨x, hx, by simpa using h2⟩)
    rw [this]; simp
  · rw [if_neg h]
    have : ([e].find? fun x => decide (x.sym = s)) = none := by simp [Ne.symm h]
    rw [this]; simp
theorem WayI.step {es : List EdgeT} (h : WayI ss m i es) {e : EdgeT} (hn : e.sym ∉ es.map (·.sym)) : WayI ss (aput ⟨(i : Int), e.sym⟩ (.int .i64 e.to) m) i (es ++ [e]) := fun k => by
  rw [assoc_put, h k, find_snoc hn]
  by_cases hk : k = ⟨(i : Int), e.sym⟩
  · subst hk
    simp
  · rw [if_neg hk]
    split
    · rfl
    · split
      · rfl
      · split
        · have : k.sym ≠ e.sym := fun h => hk (by cases k; simp at *; omega)
          rw [if_neg this]
        · rfl
theorem WayI.next {q : SQ} (hq : ss[i]? = some q) (h : WayI ss m i q.2.2) : WayI ss m (i + 1) [] := fun k => by
  rw [h k]
  split
  · rfl
  · by_cases h1 : k.st.toNat < i
    · rw [if_pos h1, if_pos (by omega)]
    · rw [if_neg h1]
      by_cases h2 : k.st.toNat = i
      · rw [if_pos h2, if_pos (by omega), h2, nxt_some hq, Option.map_map]; rfl
      · rw [if_neg h2, if_neg (by omega)]; simp
theorem WayI.all (h : WayI ss m ss.length []) {k : TransT} (hk : 0 ≤ k.st) : assoc k m = (nxt ss k.st.toNat k.sym).map (Value.int .i64) := by
  rw [h k, if_neg (by omega)]
  split
  · rfl
  · have : nxt ss k.st.toNat k.sym = none := by unfold nxt; rw [List.getElem?_eq_none (by omega)]
    rw [this]; simp
end
abbrev wyC (x : GA) (o : Option Addr) (n c : Nat) (a int : Int) (kb : Nat) : List Value := x.cells ++ [.slice o n c, .int .i64 a, .int .i64 int, .map (some kb)]
structure WyR (h : Hp) (g : GramT) (ss : List SQ) (k : Nat) : Prop where
  ex : ∃ (x : GA) (o : Option Addr) (c kb : Nat) (a int : Int) (m : List (TransT × Value)), rowH h (aM k) (wyC x o ss.length c a int kb) ∧ gR h g x ∧ stRd h ss o ∧ mapA kb m h ∧ WayI ss m ss.length []
theorem WyR.mono {h h' : Hp} {g : GramT} {ss : List SQ} {k : Nat} (s : sub h h') (r : WyR h g ss k) : WyR h' g ss k := by
  obtain ⟨x, o, c, kb, a, int, m, h1, h2, h3, h4, h5⟩ := r.ex
  exact ⟨x, o, c, kb, a, int, m, h1.mono s, h2.mono s, h3.mono s, mapA_mono s h4, h5⟩
end Go.V
namespace Go.Proofs.YtkmjjnjngcpjmaaGreat
open Go.V
variable {w : World} {L : List Asn} {g : GramT} {x : GA}
theorem two_Trans : Two Tryz.prog ty_api_Trans ty_int { name := "State", type := ty_int, offset := 0, embedded := false, tag := "", pkgPath := "", byteOffset := 0 } { name := "Sym", type := ty_int, offset := 1, embedded := false, tag := "", pkgPath := "", byteOffset := 8 } where
  ht := by kernel_rfl
  hf := by kernel_rfl
  hi := und_int
  ht0 := rfl
  ht1 := rfl
  n0 := by decide
  n1 := by decide
  o0 := rfl
  o1 := rfl
  sih := sih_api_Trans
theorem key_Trans : KeyP Tryz.prog ty_api_Trans TransT := KeyP.two two_Trans
theorem y_trof (hg : gR (hp w) g x) (hb : okG g) : Run Tryz.prog n_trans_of [.agg ⟨x.cells⟩] w fun v w' => ∃ (ss : List SQ) (ask int f : Int) (p : Option Addr), v = .tuple #[.pointer p, .int .i64 f] ∧ Res g ss ask int f ∧ Gr w w' ∧ (f = 0 → ∃ k, p = some (aM k) ∧ WyR (hp w') g ss k) ∧ (f ≠ 0 → p = none) := by
  refine run_trans_of _ _ _ _ _ _ _ _ _ _ _ _ _ w _ (gbox hg fun k1 w1 gw hg B => ?_)
  refine ⟨_, _, _, _, _, _, _, _, _, _, _, _, _, B.row (sub.refl _), (y_BuildR hg hb).mono ?_⟩
  rintro _ w2 ⟨o, c, ss, ask, int, f, rfl, hR, h⟩
  have g12 : Gr w1 w2 := rdH 3 h.l
  have hg := hg.mono g12
  have hs := stRd_of h.l
  refine ⟨_, _, _, _, _, _, rfl, newC_i (St.all w2) fun k12 w3 h => stR_i h rfl (by simp [oneC]) fun w4 h => br_intro (fun h1 => ?_) fun h1 => ?_⟩
  · have h1 : f ≠ 0 := by simpa using h1
    exact ⟨ss, ask, int, f, none, rfl, hR, gw.trans (g12.trans h.gone1), fun h => absurd h h1, fun _ => rfl⟩
  have h1 : f = 0 := by simpa using h1
  subst h1
  obtain ⟨hc, hA⟩ : ClosedP g ∧ AutI g ss := by
    rcases hR with ⟨_, _, _, _, e⟩ | ⟨_, _, _, _, _, e⟩ | ⟨hc, hA, _⟩
    · omega
    · omega
    · exact ⟨hc, hA⟩
  have hkl := hA.klen hc
  have h256 := hA.dn.2.1
  have g24 : Gr w2 w4 := h.gone1
  have hg := hg.mono g24
  have hs := hs.mono g24
  have r12 : rowH (hp w4) (aM k12) [.slice o ss.length c, .int .i64 ask, .int .i64 int] := rdCel 0 h.l
  clear h
  refine ⟨_, _, _, _, _, _, _, _, _, _, _, _, _, B.row (g12.trans g24), _, _, _, _, _, r12.at (sub.refl _) rfl, new_i (St.all w4) fun kb w5 h => ?_⟩
  have h := mapA_new (κ := TransT) h
  refine newC_i (vs := wyC x o ss.length c ask int kb) h fun km w6 h => ?_
  refine ⟨_, _, _, r12.cell0 (rdH 2 h.l), fun z w' => ∃ (i : Nat) (m : List (TransT × Value)), z = i ∧ i ≤ ss.length ∧ WayI ss m i [] ∧ St w' (cel km (wyC x o ss.length c ask int kb) :: mapA kb m :: all w4), fun z _ => ss.length - z.toNat,
    ⟨0, [], rfl, Nat.zero_le _, .start, h⟩, ?_⟩
  clear h
  rintro _ _ w7 ⟨i, m, rfl, hi, hW, h⟩
  have s7 : sub (hp w4) (hp w7) := rdH 2 h.l
  refine br_intro (fun h1 => ?_) fun h1 => ?_
  rotate_left
  · have h1 : i = ss.length := by have := of_decide_eq_false h1; omega
    subst h1
    obtain ⟨hm, sm, hA2⟩ := rdA 1 h.l
    exact ⟨ss, ask, int, 0, some (aM km), rfl, hR, gw.trans (g12.trans (g24.trans s7)), fun _ => ⟨km, rfl, x, o, c, kb, ask, int, m, rdCel 0 h.l, hg.mono s7, hs.mono s7, mapA_mono sm hA2, hW⟩, fun h => absurd rfl h⟩
  have h1 : i < ss.length := by have := of_decide_eq_true h1; omega
  obtain ⟨q, hq⟩ : ∃ q, ss[i]? = some q := ⟨_, List.getElem?_eq_getElem h1⟩
  obtain ⟨ad, rfl, rs, _, re⟩ := hs i q hq
  have hql := (hkl q (List.mem_of_getElem? hq)).2
  have hnd := aut_nd hA hq
  refine idx_n rfl h1 ⟨_, _, _, _, _, _, rs.at s7 rfl, newC_i h fun k31 w8 h => stR_i h rfl (by simp [oneC]) fun w9 h => ?_⟩
  have r31 : rowH (hp w9) (aM k31) (stV q) := rdCel 0 h.l
  refine ⟨_, _, _, r31.cell (sub.refl _) (j := 1) rfl, fun z w' => ∃ (k : Nat) (m : List (TransT × Value)), z = k ∧ k ≤ q.2.2.length ∧ WayI ss m i (q.2.2.take k) ∧ St w' (cel km (wyC x (some ad) ss.length c ask int kb) :: mapA kb m :: all w4), fun z _ => q.2.2.length - z.toNat,
    ⟨0, m, rfl, Nat.zero_le _, hW, h.pick 3 [1, 2]⟩, ?_⟩
  clear h hW
  rintro _ _ w10 ⟨k, m, rfl, hk, hW, h⟩
  have s10 : sub (hp w4) (hp w10) := rdH 2 h.l
  refine br_intro (fun h2 => ?_) fun h2 => ?_
  rotate_left
  · have h2 : k = q.2.2.length := by have := of_decide_eq_false h2; omega
    subst h2
    rw [List.take_length] at hW
    exact ⟨⟨by omega, by omega⟩, ⟨i + 1, m, by simp, h1, hW.next hq, h⟩, msr h1⟩
  have h2 : k < q.2.2.length := by have := of_decide_eq_true h2; omega
  obtain ⟨e, ead, he, hea, red⟩ := rdEd_get re h2
  refine idx_n hea h2 ⟨_, _, red.at s10 rfl, newC_i h fun k34 w11 h => stR_i h rfl (by simp [oneC]) fun w12 h => ?_⟩
  intro w13 hd
  have h := h.eq (drawn_hp hd)
  have r34 : rowH (hp w13) (aM k34) [.int .i64 e.sym, .int .i64 e.to] := rdCel 0 h.l
  have rm : rowH (hp w13) (aM km) (wyC x (some ad) ss.length c ask int kb) := rdCel 1 h.l
  refine ⟨fun u => Gr w13 u, Gr.refl _, _, fun u s => rm.cell s (j := 8) rfl, _, fun u s => r34.cell0 s, _, fun u s => r34.cell s (j := 1) rfl, (map_updateP (κ := TransT) tyOk (rfl : kdOfT Ty _ = .map _ _) key_Trans (h.pick 3 [2, 0, 1]) ⟨(i : Int), e.sym⟩ _).mono ?_⟩
  rintro _ w17 h
  have ht : q.2.2.take (k + 1) = q.2.2.take k ++ [e] := by rw [List.take_add_one, he]; rfl
  have hn : e.sym ∉ (q.2.2.take k).map (·.sym) := fun hm => by
    have e1 : q.2.2.map (·.sym) = (q.2.2.take k).map (·.sym) ++ e.sym :: (q.2.2.drop (k + 1)).map (·.sym) := by
      rw [← List.map_cons, ← List.map_append]
      congr 1
      have := List.take_append_drop (k + 1) q.2.2
      rw [ht] at this
      simpa using this.symm
    rw [e1, List.nodup_append] at hnd
    exact hnd.2.2 _ hm _ (by simp) rfl
  have hW := hW.step hn
  rw [← ht] at hW
  exact ⟨⟨by omega, by omega⟩, ⟨k + 1, _, by simp, h2, hW, h.pick 3 [2, 0]⟩, msr h2⟩
end Go.Proofs.YtkmjjnjngcpjmaaGreat
set_option linter.unusedVariables false
namespace Go.V
section
variable {g : GramT} {ss : List SQ}
theorem trAt_len (g : GramT) (i : Nat) (es : List EdgeT) : (trAt g i es).length ≤ es.length := by
  unfold trAt; rw [List.length_map]; exact List.length_filter_le _ _
theorem TrN_len (hk : ∀ q ∈ ss, q.2.2.length ≤ 130) : ∀ i, (TrN g ss i).length ≤ i * 130
  | 0 => by simp [TrN]
  | i + 1 => by
    have := TrN_len hk i
    cases hq : ss[i]? with
    | none => simp [TrN, hq]; omega
    | some q =>
      rw [TrN_succ hq, List.length_append]
      have h1 := trAt_len g i q.2.2
      have h2 := hk q (List.mem_of_getElem? hq)
      omega
theorem Res.aut {a i f : Int} (h : Res g ss a i f) (hf : f = 0) : ClosedP g ∧ AutI g ss := by
  subst hf
  rcases h with ⟨_, _, _, _, e⟩ | ⟨_, _, _, _, _, e⟩ | ⟨hc, hA, _⟩
  · omega
  · omega
  · exact ⟨hc, hA⟩
def nextS (ss : List SQ) (i : Nat) (s : Int) : Int := (nxt ss i s).getD (-1)
end
end Go.V
namespace Go.Proofs.YtkmjjnjngcpjmaaGreat
open Go.V
variable {w : World} {L : List Asn} {g : GramT} {x : GA} {ss : List SQ}
theorem y_trlist {k : Nat} (hw : WyR (hp w) g ss k) (hn : ss.length ≤ 256) (hk : ∀ q ∈ ss, q.2.2.length ≤ 130) : Run Tryz.prog n_trans_ways_list [.pointer (some (aM k))] w fun v w' => ∃ (o : Option Addr) (c : Nat), v = .slice o (TrL g ss).length c ∧ St w' (own 2 o (TrL g ss).length c (trv (TrL g ss)) :: all w) := by
  obtain ⟨x, oa, ca, kb, a, int, m, rk, hg, hs, hm, hW⟩ := hw.ex
  have hTl : g.T = x.tl := hg.t.1
  refine run_trans_ways_list _ w _ ⟨_, _, _, rk.cell (sub.refl _) (j := 5) rfl, fun o n c z w' => ∃ i : Nat, z = i ∧ i ≤ ss.length ∧ n = (TrN g ss i).length ∧ St w' (own 2 o n c (trv (TrN g ss i)) :: all w), fun _ _ _ z _ => ss.length - z.toNat,
    ⟨0, rfl, Nat.zero_le _, rfl, own_nil 2 (St.all w)⟩, ?_⟩
  rintro _ o2 _ c2 _ w1 ⟨i, rfl, hi, rfl, h⟩
  have s1 : sub (hp w) (hp w1) := rdH 1 h.l
  refine br_intro (fun h1 => ?_) fun h1 => ?_
  rotate_left
  · have h1 : i = ss.length := by have := of_decide_eq_false h1; omega
    subst h1
    refine run_slices_Clip_api_Trans_api_Trans_ _ _ _ w1 _ (slc_clip (own_le h) ⟨_, _, _, rfl, _, _, rfl, own_clip h⟩)
  have h1 : i < ss.length := by have := of_decide_eq_true h1; omega
  obtain ⟨q, hq⟩ : ∃ q, ss[i]? = some q := ⟨_, List.getElem?_eq_getElem h1⟩
  obtain ⟨ad, rfl, rs, _, re⟩ := hs i q hq
  have hql := hk q (List.mem_of_getElem? hq)
  have hNl := TrN_len (g := g) hk i
  refine idx_n rfl h1 ⟨_, _, _, _, _, _, rs.at s1 rfl, newC_i h fun k9 w2 h => stR_i h rfl (by simp [oneC]) fun w3 h => ?_⟩
  have r9 : rowH (hp w3) (aM k9) (stV q) := rdCel 0 h.l
  refine ⟨_, _, _, r9.cell (sub.refl _) (j := 1) rfl, fun o n c z w' => ∃ (j : Nat), z = j ∧ j ≤ q.2.2.length ∧ n = (TrN g ss i ++ trAt g i (q.2.2.take j)).length ∧ St w' (own 2 o n c (trv (TrN g ss i ++ trAt g i (q.2.2.take j))) :: all w), fun _ _ _ z _ => q.2.2.length - z.toNat,
    ⟨0, rfl, Nat.zero_le _, by simp [trAt], by simpa [trAt] using (show St w3 (own 2 o2 (TrN g ss i).length c2 (trv (TrN g ss i)) :: all w) from h.pick 2 [1])⟩, ?_⟩
  clear h
  rintro _ o6 _ c6 _ w4 ⟨j, rfl, hj, rfl, h⟩
  have s4 : sub (hp w) (hp w4) := rdH 1 h.l
  have hTA := trAt_len g i (q.2.2.take j)
  rw [List.length_take] at hTA
  refine br_intro (fun h2 => ?_) fun h2 => ?_
  rotate_left
  · have h2 : j = q.2.2.length := by have := of_decide_eq_false h2; omega
    subst h2
    rw [List.take_length] at h ⊢
    exact ⟨⟨by omega, by omega⟩, ⟨i + 1, by simp, h1, by rw [TrN_succ hq], by rw [TrN_succ hq]; exact h⟩, msr h1⟩
  have h2 : j < q.2.2.length := by have := of_decide_eq_true h2; omega
  obtain ⟨e, ead, he, hea, red⟩ := rdEd_get re h2
  have ht : q.2.2.take (j + 1) = q.2.2.take j ++ [e] := by rw [List.take_add_one, he]; rfl
  refine idx_n hea h2 ⟨_, _, red.at s4 rfl, newC_i h fun k14 w5 h => stR_i h rfl (by simp [oneC]) fun w6 h => ?_⟩
  intro w7 hd
  have h := h.eq (drawn_hp hd)
  have r14 : rowH (hp w7) (aM k14) [.int .i64 e.sym, .int .i64 e.to] := rdCel 0 h.l
  have s7 : sub (hp w) (hp w7) := rdH 2 h.l
  refine ⟨fun u => Gr w7 u, Gr.refl _, _, fun u s => r14.cell0 s, _, _, _, fun u s => rk.cell0 (sub.trans s7 s), br_intro (fun h3 => ?_) fun h3 => ?_⟩
  · have h3 : (g.T : Int) ≤ e.sym := by rw [hTl]; exact of_decide_eq_true h3
    have z1 : ((TrN g ss i ++ trAt g i (q.2.2.take j)).length + 1) * 16 ≤ 140737488355328 ∧ (TrN g ss i ++ trAt g i (q.2.2.take j)).length < 9223372036854775807 := by rw [List.length_append]; omega
    refine ⟨_, r14.cell0 (sub.refl _), newC_i h fun k17 w10 h => ?_⟩
    refine (app_one (us := trv (TrN g ss i ++ trAt g i (q.2.2.take j))) tyOk (rfl : kdOfT Ty _ = .slice _) (rfl : kdOfT Ty _ = .slice _) rfl rfl rfl (h.pick 3 [0, 2]) rfl (by simp [oneC]) z1.1 z1.2).mono ?_
    rintro _ w11 ⟨o8, c8, rfl, h⟩
    have e2 : trAt g i (q.2.2.take (j + 1)) = trAt g i (q.2.2.take j) ++ [⟨(i : Int), e.sym⟩] := by rw [ht, trAt_snoc, if_pos h3]
    have e3 : trv (TrN g ss i ++ trAt g i (q.2.2.take (j + 1))) = trv (TrN g ss i ++ trAt g i (q.2.2.take j)) ++ [.int .i64 (i : Int), .int .i64 e.sym] := by rw [e2, ← List.append_assoc, trv_app]; rfl
    refine ⟨_, _, _, rfl, ⟨by omega, by omega⟩, ⟨j + 1, by simp, h2, by rw [e2]; simp; omega, ?_⟩, msr h2⟩
    rw [e3]; exact h.pick 2 [0]
  · have h3 : ¬(g.T : Int) ≤ e.sym := by rw [hTl]; exact of_decide_eq_false h3
    have e2 : trAt g i (q.2.2.take (j + 1)) = trAt g i (q.2.2.take j) := by rw [ht, trAt_snoc, if_neg h3]
    exact ⟨⟨by omega, by omega⟩, ⟨j + 1, by simp, h2, by rw [e2], by rw [e2]; exact h.pick 2 [1]⟩, msr h2⟩
theorem y_trList (hg : gR (hp w) g x) (hb : okG g) : Run Tryz.prog n_trans_List [.agg ⟨x.cells⟩] w fun v w' => ∃ (ss : List SQ) (ask int f : Int) (o : Option Addr) (c : Nat), v = .tuple #[.slice o (TrL g ss).length c, .int .i64 f] ∧ Res g ss ask int f ∧ St w' (own 2 o (TrL g ss).length c (trv (TrL g ss)) :: all w) := by
  refine run_trans_List _ _ _ _ _ _ _ _ _ _ _ _ _ w _ (gbox hg fun k1 w1 gw hg B => ?_)
  refine ⟨_, _, _, _, _, _, _, _, _, _, _, _, _, B.row (sub.refl _), (y_trof hg hb).mono ?_⟩
  rintro _ w2 ⟨ss, ask, int, f, p, rfl, hR, g2, h0, hn⟩
  refine ⟨_, _, rfl, br_intro (fun h1 => ?_) fun h1 => ?_⟩
  · have h1 : f ≠ 0 := by simpa using h1
    have hz : ss = [] := by rcases hR with ⟨_, e, _⟩ | ⟨_, _, e, _⟩ | ⟨_, _, _, _, e⟩ <;> first | exact e | exact absurd e h1
    subst hz
    exact ⟨[], ask, int, f, none, 0, rfl, hR, own_nil 2 (St.here (gw.trans g2))⟩
  have h1 : f = 0 := by simpa using h1
  obtain ⟨k, rfl, hw⟩ := h0 h1
  obtain ⟨hc, hA⟩ := hR.aut h1
  have hkl := hA.klen hc
  refine (y_trlist hw hA.dn.2.1 fun q hq => (hkl q hq).2).mono ?_
  rintro _ w3 ⟨o, c, rfl, h⟩
  subst h1
  exact ⟨_, _, _, rfl, ss, ask, int, 0, o, c, rfl, hR, St.on1 h (has_i (gw.trans g2))⟩
theorem d_Next {o : Option Addr} {c : Nat} {ask int s : Int} {i : Nat} (hA : AutI g ss) (hs : stRd (hp w) ss o) (hi : i < ss.length) (hk : ∀ q ∈ ss, q.2.2.length ≤ 130) (hn : ss.length ≤ 256) : Run Tryz.prog n_presageref09_Next [.agg #[.slice o ss.length c, .int .i64 ask, .int .i64 int], .int .i64 (i : Int), .int .i64 s] w fun v w' => v = .int .i64 (nextS ss i s) ∧ Gr w w' := by
  obtain ⟨q, hq⟩ : ∃ q, ss[i]? = some q := ⟨_, List.getElem?_eq_getElem hi⟩
  have hql := hk q (List.mem_of_getElem? hq)
  refine run_presageref09_Next _ _ _ _ _ _ _ w _ (newC_i (St.all w) fun k1 w1 h => ?_)
  have g1 : Gr w w1 := h.gone1
  obtain ⟨ad, rfl, rs, _, re⟩ := (hs.mono g1) i q hq
  refine ⟨_, _, _, (rdCel 0 h.l).cell0 (sub.refl _), idx_n rfl hi ⟨_, _, _, rs.cell (sub.refl _) (j := 1) rfl, fun z w' => ∃ j : Nat, z = j ∧ j ≤ q.2.2.length ∧ (∀ e ∈ q.2.2.take j, e.sym ≠ s) ∧ w' = w1, fun z _ => q.2.2.length - z.toNat,
    ⟨0, rfl, Nat.zero_le _, by simp, rfl⟩, ?_⟩⟩
  rintro _ _ w2 ⟨j, rfl, hj, hno, rfl⟩
  refine br_intro (fun h2 => ?_) fun h2 => ?_
  rotate_left
  · have h2 : j = q.2.2.length := by have := of_decide_eq_false h2; omega
    subst h2
    rw [List.take_length] at hno
    refine ⟨?_, g1⟩
    have : (q.2.2.find? fun e => decide (e.sym = s)) = none := List.find?_eq_none.2 fun e he h => hno e he (by simpa using h)
    unfold nextS
    rw [nxt_some hq, this]; rfl
  have h2 : j < q.2.2.length := by have := of_decide_eq_true h2; omega
  obtain ⟨e, ead, he, hea, red⟩ := rdEd_get re h2
  have ht : q.2.2.take (j + 1) = q.2.2.take j ++ [e] := by rw [List.take_add_one, he]; rfl
  refine idx_n hea h2 ⟨_, red.cell0 (sub.refl _), br_intro (fun h3 => ?_) fun h3 => ?_⟩
  · have h3 : e.sym = s := by simpa using h3
    subst h3
    refine idx_n hea h2 ⟨_, red.cell (sub.refl _) (j := 1) rfl, ?_, g1⟩
    unfold nextS
    rw [nxt_edge hA hq he]; rfl
  · have h3 : e.sym ≠ s := by simpa using h3
    refine ⟨⟨by omega, by omega⟩, ⟨j + 1, by simp, h2, fun y hy => ?_, rfl⟩, msr h2⟩
    rw [ht, List.mem_append, List.mem_singleton] at hy
    rcases hy with hy | rfl
    · exact hno y hy
    · exact h3
end Go.Proofs.YtkmjjnjngcpjmaaGreat
set_option linter.unusedVariables false
namespace Go.V
def bS (g : GramT) (s : Int) : Bool := decide (s < 0) || decide (((g.T + g.N : Nat) : Int) ≤ s)
def wlk (g : GramT) (ss : List SQ) (f q : Int) (row : List Int) : Int × Int :=
  if f ≠ 0 then (0, f) else if q < 0 ∨ (ss.length : Int) ≤ q ∨ row.any (bS g) = true then (0, 1) else (wayN ss q row, 0)
theorem nxt_pos {g : GramT} {ss : List SQ} (hc : ClosedP g) (hA : AutI g ss) {i : Nat} {s j : Int} (h : nxt ss i s = some j) : 0 ≤ j ∧ j < ss.length := by
  obtain ⟨q, k, e, hq, he, rfl, rfl⟩ := nxt_inv h
  obtain ⟨_, _, n, r, hn, h1, hr, _⟩ := aut_edge hc hA hq he
  have := (List.getElem?_eq_some_iff.1 hr).1
  omega
end Go.V
namespace Go.Proofs.YtkmjjnjngcpjmaaGreat
open Go.V
variable {w : World} {L : List Asn} {g : GramT} {x : GA} {ss : List SQ} {a : Option Addr} {l c : Nat} {row : List Int}
theorem y_trS1 {k1 : Nat} {s : Int} (hg : gR (hp w) g x) (hb : okG g) (B : GB (hp w) k1 x) : Run Tryz.prog n_trans_Walk_S1 [.int .i64 s, .pointer (some (aM k1))] w fun v w' => v = .bool (bS g s) ∧ w' = w := by
  have hTl : g.T = x.tl := hg.t.1
  have hNl : g.N = x.nl := hg.n.1
  obtain ⟨b1, b2, _⟩ := hb
  have b1 : g.T ≤ 17592186044416 := b1
  have b2 : g.N ≤ 17592186044416 := b2
  refine run_trans_Walk_S1 _ _ w _ (br_intro (fun h1 => ⟨by unfold bS; rw [h1]; rfl, rfl⟩) fun h1 => ⟨_, _, _, B.c0 (sub.refl _), _, _, _, B.c1 (sub.refl _), ⟨by omega, by omega⟩, ?_, rfl⟩)
  unfold bS
  rw [h1, Bool.false_or, hTl, hNl]
  congr 1
theorem y_trBad {k1 : Nat} (hg : gR (hp w) g x) (hb : okG g) (B : GB (hp w) k1 x) (hr : rdS (hp w) row a l) (hl : l ≤ 4611686018427387904) : Run Tryz.prog n_slices_ContainsFunc_int_int_ [.slice a l c, .func (.func n_trans_Walk_S1) #[] #[.pointer (some (aM k1))]] w fun v w' => v = .bool (row.any (bS g)) ∧ w' = w := by
  refine run_slices_ContainsFunc_int_int_ _ _ _ _ _ w _ ?_
  have key : Run Tryz.prog n_slices_IndexFunc_int_int_ [.slice a l c, .func (.func n_trans_Walk_S1) #[] #[.pointer (some (aM k1))]] w fun v w' => (∃ n : Int, v = .int .i64 n ∧ (decide (0 ≤ n) = row.any (bS g))) ∧ w' = w := by
    refine run_slices_IndexFunc_int_int_ _ _ _ _ _ w _ ?_
    refine ⟨fun n w' => ∃ j : Nat, n = j ∧ j ≤ l ∧ (row.take j).any (bS g) = false ∧ w' = w, fun n _ => l - n.toNat, ⟨0, rfl, by omega, rfl, rfl⟩, ?_⟩
    rintro _ n w1 ⟨j, rfl, hj, ha, rfl⟩
    refine br_intro (fun h1 => ?_) fun h1 => ?_
    · have h1 : j < l := by have := of_decide_eq_true h1; omega
      obtain ⟨y, ad, hy1, hya, hy2⟩ := hr.get1 h1
      refine idx_i hya h1 ⟨y, hy2 _ (sub.refl _), ifT_iff.2 ⟨rfl, (y_trS1 hg hb B).mono ?_⟩⟩
      rintro _ _ ⟨rfl, rfl⟩
      refine ⟨_, rfl, br_intro (fun h2 => ⟨⟨_, rfl, ?_⟩, rfl⟩) fun h2 => ⟨⟨by omega, by omega⟩, ⟨j + 1, by simp, by omega, ?_, rfl⟩, msr h1⟩⟩
      · have : row.any (bS g) = true := List.any_eq_true.2 ⟨y, List.mem_of_getElem? hy1, h2⟩
        rw [this]; simp
      · rw [take_succ_get hy1, List.any_append, ha]
        simpa using h2
    · have h1 : j = l := by have := of_decide_eq_false h1; omega
      subst h1
      rw [List.take_of_length_le (by have := hr.1; omega)] at ha
      exact ⟨⟨_, rfl, by rw [ha]; rfl⟩, rfl⟩
  refine key.mono ?_
  rintro _ w2 ⟨⟨n, rfl, hn⟩, rfl⟩
  exact ⟨n, rfl, by rw [hn], rfl⟩
theorem y_trWalk {fr : Int} (hg : gR (hp w) g x) (hb : okG g) (hr : rdS (hp w) row a l) (hl : l ≤ 4611686018427387904) : Run Tryz.prog n_trans_Walk [.agg ⟨x.cells⟩, .int .i64 fr, .slice a l c] w fun v w' => ∃ (ss : List SQ) (ask int f : Int), v = .tuple #[.int .i64 (wlk g ss f fr row).1, .int .i64 (wlk g ss f fr row).2] ∧ Res g ss ask int f ∧ Gr w w' := by
  have hrl := hr.1
  refine run_trans_Walk _ _ _ _ _ _ _ _ _ _ _ _ _ _ _ _ _ w _ (gbox hg fun k1 w1 gw hg B => ?_)
  refine ⟨_, _, _, _, _, _, _, _, _, _, _, _, _, B.row (sub.refl _), (y_trof hg hb).mono ?_⟩
  rintro _ w2 ⟨ss, ask, int, f, p, rfl, hR, g2, h0, hn⟩
  refine ⟨_, _, rfl, br_intro (fun h1 => ?_) fun h1 => ?_⟩
  · have h1 : f ≠ 0 := by simpa using h1
    exact ⟨ss, ask, int, f, by unfold wlk; rw [if_pos h1], hR, gw.trans g2⟩
  have h1 : f = 0 := by simpa using h1
  subst h1
  obtain ⟨k, rfl, hw⟩ := h0 rfl
  obtain ⟨hc, hA⟩ := hR.aut rfl
  obtain ⟨x', oa, ca, kb, a', int', m, rk, hg', hs, hm, hW⟩ := hw.ex
  have hg2 := hg.mono g2
  have hr2 : rdS (hp w2) row a l := (hr.mono gw).mono g2
  have B2 : GB (hp w2) k1 x := ⟨fun s => B.c0 (sub.trans g2 s), fun s => B.c1 (sub.trans g2 s), fun s => B.c2 (sub.trans g2 s), fun s => B.c3 (sub.trans g2 s), fun s => B.c4 (sub.trans g2 s), fun s => B.row (sub.trans g2 s)⟩
  refine ⟨fun b w' => b = (decide (fr < 0) || decide ((ss.length : Int) ≤ fr) || row.any (bS g)) ∧ w' = w2, ?_, ?_⟩
  · refine br_intro (fun h2 => ⟨by rw [h2]; simp, rfl⟩) fun h2 => ⟨_, _, _, rk.cell (sub.refl _) (j := 5) rfl, br_intro (fun h3 => ⟨by rw [h3]; simp, rfl⟩) fun h3 => (y_trBad hg2 hb B2 hr2 hl).mono ?_⟩
    rintro _ w3 ⟨rfl, rfl⟩
    exact ⟨_, rfl, by rw [h2, h3]; simp, rfl⟩
  rintro _ b w4 ⟨rfl, rfl⟩
  refine br_intro (fun h2 => ?_) fun h2 => ?_
  · refine ⟨ss, ask, int, 0, ?_, hR, gw.trans g2⟩
    have h2 : fr < 0 ∨ (ss.length : Int) ≤ fr ∨ row.any (bS g) = true := by simpa [or_assoc] using h2
    unfold wlk
    rw [if_neg (by simp), if_pos h2]
  have h2 : ¬(fr < 0 ∨ (ss.length : Int) ≤ fr ∨ row.any (bS g) = true) := by
    intro h
    rw [Bool.or_eq_false_iff, Bool.or_eq_false_iff] at h2
    rcases h with h | h | h
    · exact absurd h (of_decide_eq_false h2.1.1)
    · exact absurd h (of_decide_eq_false h2.1.2)
    · rw [h] at h2; exact absurd h2.2 (by simp)
  have hwk : wlk g ss 0 fr row = (wayN ss fr row, 0) := by unfold wlk; rw [if_neg (by simp), if_neg h2]
  refine ⟨fun q z w' => ∃ j : Nat, z = j ∧ j ≤ l ∧ 0 ≤ q ∧ wayN ss fr row = wayN ss q (row.drop j) ∧ w' = w4, fun _ z _ => l - z.toNat, ⟨0, rfl, by omega, by omega, rfl, rfl⟩, ?_⟩
  rintro _ q _ w5 ⟨j, rfl, hj, hq0, he, rfl⟩
  refine br_intro (fun h3 => ?_) fun h3 => ?_
  rotate_left
  · have h3 : j = l := by have := of_decide_eq_false h3; omega
    subst h3
    rw [← hrl, List.drop_length] at he
    exact ⟨ss, ask, int, 0, by rw [hwk, he]; rfl, hR, gw.trans g2⟩
  have h3 : j < l := by have := of_decide_eq_true h3; omega
  obtain ⟨y, ad, hy1, hya, hy2⟩ := hr2.get1 h3
  have hd : row.drop j = y :: row.drop (j + 1) := by
    rw [List.drop_eq_getElem_cons (by omega)]
    congr 1
    exact (List.getElem?_eq_some_iff.1 hy1).2
  refine idx_i hya h3 ⟨y, hy2 _ (sub.refl _), _, rk.cell (sub.refl _) (j := 8) rfl, (map_lookupOkHP (κ := TransT) hm (sub.refl _) tyOk (rfl : kdOfT Ty _ = .map _ _) key_Trans rfl rfl ⟨q, y⟩).mono ?_⟩
  rintro _ w6 ⟨rfl, rfl⟩
  rw [hW.all (k := ⟨q, y⟩) hq0]
  rw [hd] at he
  cases hnx : nxt ss q.toNat y with
  | none =>
    refine ⟨0, false, rfl, br_t rfl ⟨ss, ask, int, 0, ?_, hR, gw.trans g2⟩⟩
    rw [hwk, he]
    show _ = _
    simp [wayN, hnx]
  | some to =>
    refine ⟨to, true, rfl, br_f rfl ⟨⟨by omega, by omega⟩, ⟨j + 1, by simp, h3, (nxt_pos hc hA hnx).1, ?_, rfl⟩, msr h3⟩⟩
    rw [he]
    simp [wayN, hnx]
end Go.Proofs.YtkmjjnjngcpjmaaGreat
set_option linter.unusedVariables false
namespace Go.V
section
variable {g : GramT} {ss : List SQ}
def flT (g : GramT) (es : List EdgeT) : List Int := (es.filter fun e => decide (e.sym < (g.T : Int))).map (·.sym)
theorem flT_snoc {es : List EdgeT} {e : EdgeT} : flT g (es ++ [e]) = if e.sym < (g.T : Int) then flT g es ++ [e.sym] else flT g es := by
  unfold flT
  rw [List.filter_append, List.map_append]
  by_cases h : e.sym < (g.T : Int) <;> simp [h]
theorem flT_len (g : GramT) (es : List EdgeT) : (flT g es).length ≤ es.length := by
  unfold flT; rw [List.length_map]; exact List.length_filter_le _ _
def preT (g : GramT) (t : TransT) : List Int := if t = ⟨0, g.start⟩ then [0] else []
theorem preT_len (g : GramT) (t : TransT) : (preT g t).length ≤ 1 := by unfold preT; split <;> simp
theorem TrN_mem {t : TransT} : ∀ {n : Nat}, t ∈ TrN g ss n → ∃ (i : Nat) (q : SQ) (k : Nat) (e : EdgeT), i < n ∧ ss[i]? = some q ∧ q.2.2[k]? = some e ∧ (g.T : Int) ≤ e.sym ∧ t = ⟨(i : Int), e.sym⟩
  | 0, h => by simp [TrN] at h
  | n + 1, h => by
    cases hq : ss[n]? with
    | none =>
      simp [TrN, hq] at h
      obtain ⟨i, q, k, e, h1, h2⟩ := TrN_mem h
      exact ⟨i, q, k, e, by omega, h2⟩
    | some q =>
      rw [TrN_succ hq, List.mem_append] at h
      rcases h with h | h
      · obtain ⟨i, q, k, e, h1, h2⟩ := TrN_mem h
        exact ⟨i, q, k, e, by omega, h2⟩
      · unfold trAt at h
        obtain ⟨e, he, rfl⟩ := List.mem_map.1 h
        obtain ⟨h1, h2⟩ := List.mem_filter.1 he
        obtain ⟨k, hk⟩ := List.getElem?_of_mem h1
        exact ⟨n, q, k, e, by omega, hq, hk, of_decide_eq_true h2, rfl⟩
theorem dirOf_eq {t : TransT} {j : Nat} {q : SQ} (h : nxt ss t.st.toNat t.sym = some (j : Int)) (hq : ss[j]? = some q) : dirOf g ss t = preT g t ++ flT g q.2.2 := by
  unfold dirOf
  rw [h]
  show _ ++ (match ss[(j : Int).toNat]? with | none => [] | some q => _) = _
  rw [Int.toNat_natCast, hq]
  rfl
end
end Go.V
namespace Go.Proofs.YtkmjjnjngcpjmaaGreat
open Go.V
variable {w : World} {L : List Asn} {g : GramT} {x : GA} {ss : List SQ}
theorem eqTrans (w : World) (xo yo : Operand) (x y : TransT) : Sem.run Tryz.prog (cmpS .eql ty_api_Trans xo yo (.agg ⟨encR x⟩) (.agg ⟨encR y⟩)) w = .ok (.bool (decide (x = y))) w := by
  unfold cmpS
  rw [Sem.run_bind, run_eqGuard_agg w _ _ _ _ _ _ eqg_api_Trans]
  simp only [Result.andThen_ok]
  rw [run_eql_struct]
  have e : decide (x = y) = decide (x.st = y.st ∧ x.sym = y.sym) := by
    cases x; cases y; simp
  rw [e]
  show ((Op.equal ty_api_Trans (.agg #[.int .i64 x.st, .int .i64 x.sym]) (.agg #[.int .i64 y.st, .int .i64 y.sym])).run Tryz.prog w).andThen _ = _
  rw [two_eq two_Trans]
  rfl
set_option maxHeartbeats 1000000 in
theorem y_trDirect (hg : gR (hp w) g x) (hb : okG g) : Run Tryz.prog n_trans_Direct [.agg ⟨x.cells⟩] w fun v w' => ∃ (ss : List SQ) (ask int f : Int) (o : Option Addr) (c : Nat) (ds : List (Lq Int)), v = .tuple #[.slice o ds.length c, .int .i64 f] ∧ Res g ss ask int f ∧ ds.map (·.2) = (TrL g ss).map (dirOf g ss) ∧ St w' (own 1 o ds.length c (ds.map slQ) :: sta (ds.map (owQ 1 iv)) :: all w) := by
  refine run_trans_Direct _ _ _ _ _ _ _ _ _ _ _ _ _ w _ (gbox hg fun k1 w1 gw hg B => ?_)
  refine ⟨_, _, _, _, _, _, _, _, _, _, _, _, _, B.row (sub.refl _), (y_trof hg hb).mono ?_⟩
  rintro _ w2 ⟨ss, ask, int, f, p, rfl, hR, g2, h0, hn⟩
  refine ⟨_, _, rfl, br_intro (fun h1 => ?_) fun h1 => ?_⟩
  · have h1 : f ≠ 0 := by simpa using h1
    have hz : ss = [] := by rcases hR with ⟨_, e, _⟩ | ⟨_, _, e, _⟩ | ⟨_, _, _, _, e⟩ <;> first | exact e | exact absurd e h1
    subst hz
    exact ⟨[], ask, int, f, none, 0, [], rfl, hR, rfl, own_nil 1 ((St.flat (M := [])).2 (St.here (gw.trans g2)))⟩
  have h1 : f = 0 := by simpa using h1
  subst h1
  obtain ⟨k, rfl, hw⟩ := h0 rfl
  obtain ⟨hc, hA⟩ := hR.aut rfl
  have hkl := hA.klen hc
  have h256 := hA.dn.2.1
  have hTn := TrN_len (g := g) (fun q hq => (hkl q hq).2) ss.length
  refine (y_trlist hw h256 fun q hq => (hkl q hq).2).mono ?_
  rintro _ w3 ⟨oL, cL, rfl, h⟩
  have g3 : Gr w2 w3 := rdH 1 h.l
  have rL : rdS (hp w3) (TrL g ss) oL (TrL g ss).length := rdTr_of rfl (rdOv 0 h.l)
  clear h
  obtain ⟨x', oa, ca, kb, a', int', m, rk, hg', hs, hm, hW⟩ := (hw.mono g3).ex
  have g13 : Gr w1 w3 := g2.trans g3
  have hTl : g.T = x.tl := hg.t.1
  have hst : x.s = g.start := hg.s
  refine ⟨_, _, _, rfl, fun o n c z w' => ∃ (i : Nat) (ds : List (Lq Int)), z = i ∧ i ≤ (TrL g ss).length ∧ n = ds.length ∧ ds.map (·.2) = ((TrL g ss).take i).map (dirOf g ss) ∧ St w' (own 1 o n c (ds.map slQ) :: sta (ds.map (owQ 1 iv)) :: all w3), fun _ _ _ z _ => (TrL g ss).length - z.toNat,
    ⟨0, [], rfl, Nat.zero_le _, rfl, rfl, own_nil 1 ((St.flat (M := [])).2 (St.all w3))⟩, ?_⟩
  rintro _ o7 _ c7 _ w4 ⟨i, ds, rfl, hi, rfl, hds, h⟩
  have s4 : sub (hp w3) (hp w4) := rdH 2 h.l
  have hdl : ds.length = i := by have := congrArg List.length hds; rw [List.length_map, List.length_map, List.length_take] at this; omega
  have hTL : (TrL g ss).length ≤ ss.length * 130 := hTn
  refine br_intro (fun h1 => ?_) fun h1 => ?_
  rotate_left
  · have h1 : i = (TrL g ss).length := by have := of_decide_eq_false h1; omega
    rw [h1, List.take_length] at hds
    refine run_slices_Clip_LLint_int_ _ _ _ w4 _ (slc_clip (own_le h) ⟨_, _, _, rfl, ss, ask, int, 0, _, _, ds, rfl, hR, hds, ?_⟩)
    exact St.on2 (own_clip h) (has_i (gw.trans g13))
  have h1 : i < (TrL g ss).length := by have := of_decide_eq_true h1; omega
  obtain ⟨t, tad, ht, hta, rt⟩ := rdTr_get rL h1
  obtain ⟨i0, q0, k0, e0, hi0, hq0, he0, hge, hte⟩ := TrN_mem (List.mem_of_getElem? ht)
  have hnx : nxt ss t.st.toNat t.sym = some e0.to := by rw [hte]; exact nxt_edge hA hq0 he0
  obtain ⟨hto1, hto2⟩ := nxt_pos hc hA hnx
  obtain ⟨j0, hj0⟩ : ∃ j0 : Nat, e0.to = j0 := ⟨e0.to.toNat, by omega⟩
  rw [hj0] at hnx hto2
  have hto : j0 < ss.length := by omega
  obtain ⟨r, hr⟩ : ∃ r, ss[j0]? = some r := ⟨_, List.getElem?_eq_getElem hto⟩
  have hdir : dirOf g ss t = preT g t ++ flT g r.2.2 := dirOf_eq hnx hr
  have hrl := (hkl r (List.mem_of_getElem? hr)).2
  have hpl := preT_len g t
  have hst0 : 0 ≤ t.st := by rw [hte]; exact Int.natCast_nonneg _
  have htk : (TrL g ss).take (i + 1) = (TrL g ss).take i ++ [t] := by rw [List.take_add_one, ht]; rfl
  obtain ⟨sad, rfl, rs, _, re⟩ := hs j0 r hr
  refine idx_n hta h1 ⟨_, _, rt.at s4 rfl, newC_i h fun k14 w5 h => stR_i h rfl (by simp [oneC]) fun w6 h => ?_⟩
  have h : St w6 (cel k14 (encR t) :: own 1 o7 ds.length c7 (ds.map slQ) :: sta (ds.map (owQ 1 iv)) :: all w3) := h
  have r14 : rowH (hp w6) (aM k14) (encR t) := rdCel 0 h.l
  have s6 : sub (hp w3) (hp w6) := rdH 3 h.l
  refine ⟨fun o n c w' => n = (preT g t).length ∧ St w' (own 1 o n c (iv (preT g t)) :: cel k14 (encR t) :: own 1 o7 ds.length c7 (ds.map slQ) :: sta (ds.map (owQ 1 iv)) :: all w3), ⟨_, _, r14.at (sub.refl _) rfl, _, B.c3 (sub.trans g13 s6), _, eqTrans w6 _ _ t ⟨0, x.s⟩, _, rfl, br_intro (fun h2 => ?_) fun h2 => ?_⟩, ?_⟩
  · have h2 : t = ⟨0, g.start⟩ := by rw [← hst]; exact of_decide_eq_true h2
    have e : preT g t = [0] := by unfold preT; rw [if_pos h2]
    refine newC_i h fun k15 w7 h => ?_
    refine (app_one (us := []) tyOk (rfl : kdOfT Ty _ = .slice _) (rfl : kdOfT Ty _ = .slice _) rfl rfl rfl ((own_nil 1 h).pick 5 [1, 0, 2, 3, 4]) rfl (by simp [oneC]) (by decide) (by decide)).mono ?_
    rintro _ w8 ⟨o8, c8, rfl, h⟩
    rw [e]
    exact ⟨_, _, _, rfl, rfl, h.pick 5 [0, 2, 3, 4]⟩
  · have h2 : ¬t = ⟨0, g.start⟩ := by rw [← hst]; exact of_decide_eq_false h2
    have e : preT g t = [] := by unfold preT; rw [if_neg h2]
    rw [e]
    exact ⟨rfl, own_nil 1 h⟩
  clear h r14 s6
  rintro _ o9 _ c9 w9 ⟨rfl, h⟩
  intro w10 hd
  have h := h.eq (drawn_hp hd)
  have s10 : sub (hp w3) (hp w10) := rdH 4 h.l
  have r14 : rowH (hp w10) (aM k14) (encR t) := rdCel 1 h.l
  refine ⟨fun u => Gr w10 u, Gr.refl _, _, _, _, fun u s => rk.cell (sub.trans s10 s) (j := 5) rfl, _, fun u s => rk.cell (sub.trans s10 s) (j := 8) rfl, _, _, fun u s => r14.at s rfl, (map_lookupHP (κ := TransT) hm s10 tyOk (rfl : kdOfT Ty _ = .map _ _) key_Trans rfl rfl t).mono ?_⟩
  rintro _ w14 ⟨rfl, e14⟩
  rw [e14]
  rw [hW.all hst0, hnx]
  refine ⟨_, rfl, fun u => Gr w10 u, Gr.refl _, fun _ h => h, idx_n rfl hto ⟨_, _, _, fun u s => rs.cell (sub.trans s10 s) (j := 1) rfl, fun o n c z w' => ∃ j : Nat, z = j ∧ j ≤ r.2.2.length ∧ n = (preT g t ++ flT g (r.2.2.take j)).length ∧
    St w' (own 1 o n c (iv (preT g t ++ flT g (r.2.2.take j))) :: own 1 o7 ds.length c7 (ds.map slQ) :: sta (ds.map (owQ 1 iv)) :: all w3), fun _ _ _ z _ => r.2.2.length - z.toNat,
    ⟨0, rfl, Nat.zero_le _, by simp [flT], by simpa [flT] using (show St w10 (own 1 o9 (preT g t).length c9 (iv (preT g t)) :: own 1 o7 ds.length c7 (ds.map slQ) :: sta (ds.map (owQ 1 iv)) :: all w3) from h.pick 4 [0, 2, 3])⟩, ?_⟩⟩
  clear h r14
  rintro _ o13 _ c13 _ w17 ⟨j, rfl, hj, rfl, h⟩
  have s17 : sub (hp w3) (hp w17) := rdH 3 h.l
  have hfl := flT_len g (r.2.2.take j)
  rw [List.length_take] at hfl
  refine br_intro (fun h2 => ?_) fun h2 => ?_
  · have h2 : j < r.2.2.length := by have := of_decide_eq_true h2; omega
    obtain ⟨e, ead, he, hea, red⟩ := rdEd_get re h2
    have htj : r.2.2.take (j + 1) = r.2.2.take j ++ [e] := by rw [List.take_add_one, he]; rfl
    refine idx_n hea h2 ⟨_, _, red.at s17 rfl, newC_i h fun k26 w18 h => stR_i h rfl (by simp [oneC]) fun w19 h => ?_⟩
    have r26 : rowH (hp w19) (aM k26) [.int .i64 e.sym, .int .i64 e.to] := rdCel 0 h.l
    have s19 : sub (hp w3) (hp w19) := rdH 4 h.l
    refine ⟨_, r26.cell0 (sub.refl _), _, _, _, B.c0 (sub.trans g13 s19), br_intro (fun h3 => ?_) fun h3 => ?_⟩
    · have h3 : e.sym < (g.T : Int) := by rw [hTl]; exact of_decide_eq_true h3
      have z1 : ((preT g t ++ flT g (r.2.2.take j)).length + 1) * 8 ≤ 140737488355328 ∧ (preT g t ++ flT g (r.2.2.take j)).length < 9223372036854775807 := by rw [List.length_append]; omega
      refine ⟨_, r26.cell0 (sub.refl _), newC_i h fun k29 w20 h => ?_⟩
      refine (app_one (us := iv (preT g t ++ flT g (r.2.2.take j))) tyOk (rfl : kdOfT Ty _ = .slice _) (rfl : kdOfT Ty _ = .slice _) rfl rfl rfl (h.pick 5 [0, 2, 3, 4]) rfl (by simp [oneC]) z1.1 z1.2).mono ?_
      rintro _ w21 ⟨o15, c15, rfl, h⟩
      have e2 : preT g t ++ flT g (r.2.2.take (j + 1)) = preT g t ++ flT g (r.2.2.take j) ++ [e.sym] := by rw [htj, flT_snoc, if_pos h3, List.append_assoc]
      have e3 : iv (preT g t ++ flT g (r.2.2.take (j + 1))) = iv (preT g t ++ flT g (r.2.2.take j)) ++ [.int .i64 e.sym] := by rw [e2]; unfold iv; rw [List.map_append]; rfl
      refine ⟨_, _, _, rfl, ⟨by omega, by omega⟩, ⟨j + 1, by simp, h2, by rw [e2]; simp; omega, ?_⟩, msr h2⟩
      rw [e3]; exact h.pick 4 [0, 2, 3]
    · have h3 : ¬e.sym < (g.T : Int) := by rw [hTl]; exact of_decide_eq_false h3
      have e2 : flT g (r.2.2.take (j + 1)) = flT g (r.2.2.take j) := by rw [htj, flT_snoc, if_neg h3]
      exact ⟨⟨by omega, by omega⟩, ⟨j + 1, by simp, h2, by rw [e2], by rw [e2]; exact h.pick 4 [1, 2, 3]⟩, msr h2⟩
  have h2 : j = r.2.2.length := by have := of_decide_eq_false h2; omega
  rw [h2, List.take_length, ← hdir] at h ⊢
  refine run_slices_Clip_int_int_ _ _ _ w17 _ (slc_clip (own_le h) ⟨_, _, _, rfl, ?_⟩)
  have h := own_clip h
  refine newC_i h fun k34 w23 h => ?_
  have z1 : (ds.length + 1) * 24 ≤ 140737488355328 ∧ ds.length < 9223372036854775807 := by omega
  refine (app_one (us := ds.map slQ) tyOk (rfl : kdOfT Ty _ = .slice _) (rfl : kdOfT Ty _ = .slice _) rfl rfl rfl (h.pick 4 [0, 2, 1, 3]) rfl (by simp [oneC]) z1.1 z1.2).mono ?_
  rintro _ w24 ⟨o17, c17, rfl, h⟩
  have h := St.snoc (h.pick 4 [2, 3, 0])
  refine ⟨_, _, _, rfl, ⟨by omega, by omega⟩, ⟨i + 1, ds ++ [((slP o13 0 (dirOf g ss t).length 1, (dirOf g ss t).length), dirOf g ss t)], by simp, h1, by simp, by rw [htk]; simp [hds], ?_⟩, msr h1⟩
  have h3 : St w24 (own 1 o17 (ds.length + 1) c17 (ds.map slQ ++ [.slice (slP o13 0 (dirOf g ss t).length 1) (dirOf g ss t).length (dirOf g ss t).length]) :: sta (ds.map (owQ 1 iv) ++ [own 1 (slP o13 0 (dirOf g ss t).length 1) (dirOf g ss t).length (dirOf g ss t).length (iv (dirOf g ss t))]) :: all w3) := h.pick 2 [1, 0]
  simpa [slQ, owQ] using h3
end Go.Proofs.YtkmjjnjngcpjmaaGreat
set_option linter.unusedVariables false
namespace Go.Proofs.YtkmjjnjngcpjmaaGreat
open Go.V
abbrev n_presagelaw10_TransExact : FuncId := 3
def ann_presagelaw10_TransExact : Ann := { rngs := [], loops := [(6, [(9, (.one (.int .i64)))]), (14, [(15, (.one (.int .i64)))]), (20, [(16, (.one (.int .i64)))])], joins := [(12, [(66, (.one .bool))])], blocks := [] }
set_option maxRecDepth 100000 in
def vc_presagelaw10_TransExact (a : Option Addr) (b c : Nat) (d : Option Addr) (e f : Nat) (g : Option Addr) (i j : Nat) (k : Int) (l : Option Addr) (m n : Nat) (w : World) (R : Value → WP) : Prop :=  new w (oC [vS a b c, vS d e f, vS g i j, iI k, vS l m n] 27) fun k1 w1 => RunE Proofs.Tryz.prog Ev 5 [] w1 fun v1 w2 => ∃ b1, v1 = vB b1 ∧ ∃ o1 k2 k3 o2 k4 k5 o3 k6 k7 n1 o4 k8 k9, V.rowAt w2 (aM k1) 0 5 = some [vS o1 k2 k3, vS o2 k4 k5, vS o3 k6 k7, iI n1, vS o4 k8 k9] ∧ RunE Proofs.Tryz.prog Ev 6 [vA (Array.mk [vS o1 k2 k3, vS o2 k4 k5, vS o3 k6 k7, iI n1, vS o4 k8 k9])] w2 fun v2 w3 => ∃ o5 k10 k11 o6 k12 k13 o7 k14 k15 n2 o8 k16 k17, v2 = vA (Array.mk [vS o5 k10 k11, vS o6 k12 k13, vS o7 k14 k15, iI n2, vS o8 k16 k17]) ∧ new w3 (oC [vS none 0 0, vS none 0 0, vS none 0 0, iI 0, vS none 0 0] 27) fun k18 w4 => stR w4 (aM k18) [vS o5 k10 k11, vS o6 k12 k13, vS o7 k14 k15, iI n2, vS o8 k16 k17] fun w5 => ∃ o9 k19 k20 o10 k21 k22 o11 k23 k24 n3 o12 k25 k26, V.rowAt w5 (aM k18) 0 5 = some [vS o9 k19 k20, vS o10 k21 k22, vS o11 k23 k24, iI n3, vS o12 k25 k26] ∧ RunE Proofs.Tryz.prog Ev 7 [vA (Array.mk [vS o9 k19 k20, vS o10 k21 k22, vS o11 k23 k24, iI n3, vS o12 k25 k26])] w5 fun v3 w6 => ∃ o13 k27 k28 n4, v3 = vT (Array.mk [vS o13 k27 k28, iI n4]) ∧ ∃ o14 k29 k30 o15 k31 k32 o16 k33 k34 n5 o17 k35 k36, V.rowAt w6 (aM k18) 0 5 = some [vS o14 k29 k30, vS o15 k31 k32, vS o16 k33 k34, iI n5, vS o17 k35 k36] ∧ RunE Proofs.Tryz.prog Ev 8 [vA (Array.mk [vS o14 k29 k30, vS o15 k31 k32, vS o16 k33 k34, iI n5, vS o17 k35 k36])] w6 fun v4 w7 => ∃ o18 k37 k38 n6, v4 = vT (Array.mk [vS o18 k37 k38, iI n6]) ∧ ∃ (x1 : lP [(9, shI)]), ∃ (x2 : lN [(9, shI)]), x1 0 w7 ∧ ∀ (I1 : Nat → Value) (n7 : Int) (w8 : World), x1 n7 w8 → br (decide (n7 < 2)) (∃ o19 k39 k40 o20 k41 k42 o21 k43 k44 n8 o22 k45 k46, V.rowAt w8 (aM k1) 0 5 = some [vS o19 k39 k40, vS o20 k41 k42, vS o21 k43 k44, iI n8, vS o22 k45 k46] ∧ RunE Proofs.Tryz.prog Ev 9 [vA (Array.mk [vS o19 k39 k40, vS o20 k41 k42, vS o21 k43 k44, iI n8, vS o22 k45 k46])] w8 fun v5 w9 => ∃ o23 k47 k48 n9, v5 = vT (Array.mk [vS o23 k47 k48, iI n9]) ∧ ∃ o24 k49 k50 o25 k51 k52 o26 k53 k54 n10 o27 k55 k56, V.rowAt w9 (aM k1) 0 5 = some [vS o24 k49 k50, vS o25 k51 k52, vS o26 k53 k54, iI n10, vS o27 k55 k56] ∧ RunE Proofs.Tryz.prog Ev 10 [vA (Array.mk [vS o24 k49 k50, vS o25 k51 k52, vS o26 k53 k54, iI n10, vS o27 k55 k56])] w9 fun v6 w10 => ∃ o28 k57 k58 n11, v6 = vT (Array.mk [vS o28 k57 k58, iI n11]) ∧ RunE Proofs.Tryz.prog Ev 11 [vS o28 k57 k58, vS o18 k37 k38] w10 fun v7 w11 => ∃ b2, v7 = vB b2 ∧ ∃ (x3 : lP [(66, shB)]), br (!b2) (x3 true w11) (br (n9 != n4) (x3 true w11) (br (n6 != n11) (x3 true w11) (x3 ((↑k47 : Int) != (↑k27 : Int)) w11))) ∧ ∀ (I2 : Nat → Value) (b3 : Bool) (w12 : World), x3 b3 w12 → br b3 (R (vB false) w12) (∃ (x4 : lP [(15, shI)]), ∃ (x5 : lN [(15, shI)]), x4 0 w12 ∧ ∀ (I3 : Nat → Value) (n12 : Int) (w13 : World), x4 n12 w13 → br (decide (n12 < (↑k47 : Int))) (∀ w14, drawn w13 w14 → ∃ (I4 : World → Prop), I4 w14 ∧ idx o23 k47 n12 2 fun a1 => ∃ n13 n14, (∀ w15, I4 w15 → V.rowAt w15 a1 0 2 = some [iI n13, iI n14]) ∧ idx o13 k27 n12 2 fun a2 => ∃ n15 n16, (∀ w16, I4 w16 → V.rowAt w16 a2 0 2 = some [iI n15, iI n16]) ∧ ∃ v8, (∀ w17, I4 w17 → Sem.run Proofs.Tryz.prog (cmpS BinOp.neq 39 (Operand.tmp 76) (Operand.tmp 80) (vG [iI n13, iI n14]) (vG [iI n15, iI n16])) w17 = Result.ok v8 w17) ∧ ∃ b4, v8 = vB b4 ∧ br b4 (R (vB false) w14) (idx o23 k47 n12 2 fun a3 => stR w14 a3 [iI (-9), iI 0] fun w18 => ∃ (x6 : lP [(16, shI)]), ∃ (x7 : lN [(16, shI)]), x6 0 w18 ∧ ∀ (I5 : Nat → Value) (n17 : Int) (w19 : World), x6 n17 w19 → idx o28 k57 n12 1 fun a4 => ∃ o29 k59 k60, World.cell? w19 a4 = some (vS o29 k59 k60) ∧ br (decide (n17 < (↑k59 : Int))) (idx o28 k57 n12 1 fun a5 => ∃ o30 k61 k62, World.cell? w19 a5 = some (vS o30 k61 k62) ∧ idx o30 k61 n17 1 fun a6 => st1 w19 a6 (iI (-9)) fun w20 => inI (n17 + 1) ∧ x6 (n17 + 1) w20 ∧ x7 (n17 + 1) w20 < x7 n17 w19) (idx o28 k57 n12 1 fun a7 => ∃ o31 k63 k64, World.cell? w19 a7 = some (vS o31 k63 k64) ∧ new w19 (oC [iI (-8)] 3) fun k65 w21 => RunS Proofs.Tryz.prog (apB 24 (Array.mk [vS o31 k63 k64, vS (some (aM k65)) 1 1])) w21 fun v9 w22 => ∃ o32 k66 k67, v9 = vS o32 k66 k67 ∧ idx o28 k57 n12 1 fun a8 => st1 w22 a8 (vS o32 k66 k67) fun w23 => inI (n12 + 1) ∧ x4 (n12 + 1) w23 ∧ x5 (n12 + 1) w23 < x5 n12 w13))) (inI (n7 + 1) ∧ x1 (n7 + 1) w13 ∧ x2 (n7 + 1) w13 < x2 n7 w8))) (∃ o33 k68 k69 o34 k70 k71 o35 k72 k73 n18 o36 k74 k75, V.rowAt w8 (aM k1) 0 5 = some [vS o33 k68 k69, vS o34 k70 k71, vS o35 k72 k73, iI n18, vS o36 k74 k75] ∧ ∃ o37 k76 k77 o38 k78 k79 o39 k80 k81 n19 o40 k82 k83, V.rowAt w8 (aM k18) 0 5 = some [vS o37 k76 k77, vS o38 k78 k79, vS o39 k80 k81, iI n19, vS o40 k82 k83] ∧ RunE Proofs.Tryz.prog Ev 12 [vA (Array.mk [vS o33 k68 k69, vS o34 k70 k71, vS o35 k72 k73, iI n18, vS o36 k74 k75]), vA (Array.mk [vS o37 k76 k77, vS o38 k78 k79, vS o39 k80 k81, iI n19, vS o40 k82 k83])] w8 fun v10 w24 => ∃ b5, v10 = vB b5 ∧ br b1 (R (vB b5) w24) (R (vB false) w24))
set_option maxRecDepth 100000 in
theorem run_presagelaw10_TransExact (a : Option Addr) (b c : Nat) (d : Option Addr) (e f : Nat) (g : Option Addr) (i j : Nat) (k : Int) (l : Option Addr) (m n : Nat) (w : World) (R : Value → WP) (h : vc_presagelaw10_TransExact a b c d e f g i j k l m n w R) : Run Tryz.prog 3 [(.agg #[(.slice a b c), (.slice d e f), (.slice g i j), (.int .i64 k), (.slice l m n)])] w R := rv Tryz.func3 ann_presagelaw10_TransExact (by kernel_rfl) h

abbrev n_presagelaw10_TransWalks : FuncId := 4
def ann_presagelaw10_TransWalks : Ann := { rngs := [], loops := [], joins := [], blocks := [] }
set_option maxRecDepth 100000 in
def vc_presagelaw10_TransWalks (a : Option Addr) (b c : Nat) (d : Option Addr) (e f : Nat) (g : Option Addr) (i j : Nat) (k : Int) (l : Option Addr) (m n : Nat) (o : Int) (p : Option Addr) (q s : Nat) (w : World) (R : Value → WP) : Prop :=  new w (oC [vS a b c, vS d e f, vS g i j, iI k, vS l m n] 27) fun k1 w1 => RunE Proofs.Tryz.prog Ev 5 [] w1 fun v1 w2 => ∃ b1, v1 = vB b1 ∧ RunE Proofs.Tryz.prog Ev 13 [vS p q s] w2 fun v2 w3 => ∃ o1 k2 k3 o2 k4 k5, v2 = vT (Array.mk [vS o1 k2 k3, vS o2 k4 k5]) ∧ ∃ o3 k6 k7 o4 k8 k9 o5 k10 k11 n1 o6 k12 k13, V.rowAt w3 (aM k1) 0 5 = some [vS o3 k6 k7, vS o4 k8 k9, vS o5 k10 k11, iI n1, vS o6 k12 k13] ∧ RunE Proofs.Tryz.prog Ev 14 [vA (Array.mk [vS o3 k6 k7, vS o4 k8 k9, vS o5 k10 k11, iI n1, vS o6 k12 k13]), iI o, vS o1 k2 k3] w3 fun v3 w4 => ∃ n2 n3, v3 = vT (Array.mk [iI n2, iI n3]) ∧ ∃ o7 k14 k15 o8 k16 k17 o9 k18 k19 n4 o10 k20 k21, V.rowAt w4 (aM k1) 0 5 = some [vS o7 k14 k15, vS o8 k16 k17, vS o9 k18 k19, iI n4, vS o10 k20 k21] ∧ RunE Proofs.Tryz.prog Ev 15 [vA (Array.mk [vS o7 k14 k15, vS o8 k16 k17, vS o9 k18 k19, iI n4, vS o10 k20 k21]), iI o, vS p q s] w4 fun v4 w5 => ∃ n5 n6, v4 = vT (Array.mk [iI n5, iI n6]) ∧ RunE Proofs.Tryz.prog Ev 16 [vS o2 k4 k5, vS p q s] w5 fun v5 w6 => ∃ b2, v5 = vB b2 ∧ br b1 (br b2 (br (n2 == n5) (R (vB (n3 == n6)) w6) (R (vB false) w6)) (R (vB false) w6)) (R (vB false) w6)
set_option maxRecDepth 100000 in
theorem run_presagelaw10_TransWalks (a : Option Addr) (b c : Nat) (d : Option Addr) (e f : Nat) (g : Option Addr) (i j : Nat) (k : Int) (l : Option Addr) (m n : Nat) (o : Int) (p : Option Addr) (q s : Nat) (w : World) (R : Value → WP) (h : vc_presagelaw10_TransWalks a b c d e f g i j k l m n o p q s w R) : Run Tryz.prog 4 [(.agg #[(.slice a b c), (.slice d e f), (.slice g i j), (.int .i64 k), (.slice l m n)]), (.int .i64 o), (.slice p q s)] w R := rv Tryz.func4 ann_presagelaw10_TransWalks (by kernel_rfl) h

abbrev n_presagelaw10_awake : FuncId := 5
def ann_presagelaw10_awake : Ann := { rngs := [], loops := [], joins := [], blocks := [] }
set_option maxRecDepth 100000 in
def vc_presagelaw10_awake  (w : World) (R : Value → WP) : Prop :=  RunE Proofs.Tryz.prog Ev 17 [] w fun v1 w1 => ∃ o1 k1 k2 o2 k3 k4 o3 k5 k6 n1 o4 k7 k8, v1 = vA (Array.mk [vS o1 k1 k2, vS o2 k3 k4, vS o3 k5 k6, iI n1, vS o4 k7 k8]) ∧ new w1 (oC [vS none 0 0, vS none 0 0, vS none 0 0, iI 0, vS none 0 0] 27) fun k9 w2 => stR w2 (aM k9) [vS o1 k1 k2, vS o2 k3 k4, vS o3 k5 k6, iI n1, vS o4 k7 k8] fun w3 => ∃ o5 k10 k11 o6 k12 k13 o7 k14 k15 n2 o8 k16 k17, V.rowAt w3 (aM k9) 0 5 = some [vS o5 k10 k11, vS o6 k12 k13, vS o7 k14 k15, iI n2, vS o8 k16 k17] ∧ RunE Proofs.Tryz.prog Ev 9 [vA (Array.mk [vS o5 k10 k11, vS o6 k12 k13, vS o7 k14 k15, iI n2, vS o8 k16 k17])] w3 fun v2 w4 => ∃ o9 k18 k19 n3, v2 = vT (Array.mk [vS o9 k18 k19, iI n3]) ∧ ∃ o10 k20 k21 o11 k22 k23 o12 k24 k25 n4 o13 k26 k27, V.rowAt w4 (aM k9) 0 5 = some [vS o10 k20 k21, vS o11 k22 k23, vS o12 k24 k25, iI n4, vS o13 k26 k27] ∧ new w4 (oC [iI 4, iI 1, iI 2] 3) fun k28 w5 => RunE Proofs.Tryz.prog Ev 14 [vA (Array.mk [vS o10 k20 k21, vS o11 k22 k23, vS o12 k24 k25, iI n4, vS o13 k26 k27]), iI 0, vS (some (aM k28)) 3 3] w5 fun v3 w6 => ∃ n5 n6, v3 = vT (Array.mk [iI n5, iI n6]) ∧ ∃ o14 k29 k30 o15 k31 k32 o16 k33 k34 n7 o17 k35 k36, V.rowAt w6 (aM k9) 0 5 = some [vS o14 k29 k30, vS o15 k31 k32, vS o16 k33 k34, iI n7, vS o17 k35 k36] ∧ RunE Proofs.Tryz.prog Ev 10 [vA (Array.mk [vS o14 k29 k30, vS o15 k31 k32, vS o16 k33 k34, iI n7, vS o17 k35 k36])] w6 fun v4 w7 => ∃ o18 k37 k38 n8, v4 = vT (Array.mk [vS o18 k37 k38, iI n8]) ∧ br (n3 == 0) (br (n6 == 0) (br (n8 == 0) (br ((↑k18 : Int) == 1) (idx o9 k18 0 2 fun a1 => ∃ n9 n10, V.rowAt w7 a1 0 2 = some [iI n9, iI n10] ∧ ∃ v5, Sem.run Proofs.Tryz.prog (cmpS BinOp.eql 39 (Operand.tmp 43) (Operand.tmp 44) (vG [iI n9, iI n10]) (vG [iI 0, iI 4])) w7 = Result.ok v5 w7 ∧ ∃ b1, v5 = vB b1 ∧ br b1 (br (n5 == 4) (br ((↑k37 : Int) == 1) (idx o18 k37 0 1 fun a2 => ∃ o19 k39 k40, World.cell? w7 a2 = some (vS o19 k39 k40) ∧ R (vB ((↑k39 : Int) == 2)) w7) (R (vB false) w7)) (R (vB false) w7)) (R (vB false) w7)) (R (vB false) w7)) (R (vB false) w7)) (R (vB false) w7)) (R (vB false) w7)
set_option maxRecDepth 100000 in
theorem run_presagelaw10_awake  (w : World) (R : Value → WP) (h : vc_presagelaw10_awake  w R) : Run Tryz.prog 5 [] w R := rv Tryz.func5 ann_presagelaw10_awake (by kernel_rfl) h

abbrev n_presagelaw10_small : FuncId := 17
def ann_presagelaw10_small : Ann := { rngs := [], loops := [], joins := [], blocks := [] }
set_option maxRecDepth 100000 in
def vc_presagelaw10_small  (w : World) (R : Value → WP) : Prop :=  new w (oC [vS none 0 0, vS none 0 0, vS none 0 0, iI 0, vS none 0 0] 27) fun k1 w1 => new w1 (oC [Value.string (ByteArray.mk (Array.mk [])), iI 0, Value.string (ByteArray.mk (Array.mk [43])), iI 0, Value.string (ByteArray.mk (Array.mk [110])), iI 0] 75) fun k2 w2 => new w2 (oC [Value.string (ByteArray.mk (Array.mk [])), Value.string (ByteArray.mk (Array.mk [101]))] 9) fun k3 w3 => new w3 (oC [iI 4] 3) fun k4 w4 => new w4 (oC [iI 4, iI 1, iI 2] 3) fun k5 w5 => new w5 (oC [iI 2] 3) fun k6 w6 => new w6 (oC [iI 3, vS (some (aM k4)) 1 1, iI 0, iI 4, vS (some (aM k5)) 3 3, iI 0, iI 4, vS (some (aM k6)) 1 1, iI 0] 51) fun k7 w7 => stR w7 (aM k1) [vS (some (aM k2)) 3 3, vS (some (aM k3)) 2 2, vS none 0 0, iI 4, vS (some (aM k7)) 3 3] fun w8 => ∃ o1 k8 k9 o2 k10 k11 o3 k12 k13 n1 o4 k14 k15, V.rowAt w8 (aM k1) 0 5 = some [vS o1 k8 k9, vS o2 k10 k11, vS o3 k12 k13, iI n1, vS o4 k14 k15] ∧ R (vG [vS o1 k8 k9, vS o2 k10 k11, vS o3 k12 k13, iI n1, vS o4 k14 k15]) w8
set_option maxRecDepth 100000 in
theorem run_presagelaw10_small  (w : World) (R : Value → WP) (h : vc_presagelaw10_small  w R) : Run Tryz.prog 17 [] w R := rv Tryz.func17 ann_presagelaw10_small (by kernel_rfl) h

end Go.Proofs.YtkmjjnjngcpjmaaGreat
set_option linter.unusedVariables false
namespace Go.V
section
variable {g : GramT} {ss ss' : List SQ}
theorem es_at (h : esOf ss = esOf ss') (i : Nat) : (ss[i]?).map (fun q => q.2.2) = (ss'[i]?).map fun q => q.2.2 := by
  have := congrArg (fun l => l[i]?) h
  unfold esOf at this
  simpa [List.getElem?_map] using this
theorem nxt_es (h : esOf ss = esOf ss') (i : Nat) (s : Int) : nxt ss i s = nxt ss' i s := by
  have := es_at h i
  unfold nxt
  cases h1 : ss[i]? <;> cases h2 : ss'[i]? <;> simp [h1, h2] at this ⊢
  rw [this]
theorem TrN_es (h : esOf ss = esOf ss') : ∀ i, TrN g ss i = TrN g ss' i
  | 0 => rfl
  | i + 1 => by
    have := es_at h i
    show TrN g ss i ++ _ = TrN g ss' i ++ _
    rw [TrN_es h i]
    cases h1 : ss[i]? <;> cases h2 : ss'[i]? <;> simp [h1, h2] at this ⊢
    rw [this]
theorem es_len (h : esOf ss = esOf ss') : ss.length = ss'.length := by have := congrArg List.length h; simpa [esOf] using this
theorem TrL_es (h : esOf ss = esOf ss') : TrL g ss = TrL g ss' := by unfold TrL; rw [es_len h, TrN_es h]
theorem dirOf_es (h : esOf ss = esOf ss') (t : TransT) : dirOf g ss t = dirOf g ss' t := by
  unfold dirOf
  rw [nxt_es h]
  congr 1
  cases nxt ss' t.st.toNat t.sym with
  | none => rfl
  | some j =>
    have := es_at h j.toNat
    show (match ss[j.toNat]? with | none => [] | some q => _) = (match ss'[j.toNat]? with | none => [] | some q => _)
    cases h1 : ss[j.toNat]? <;> cases h2 : ss'[j.toNat]? <;> simp [h1, h2] at this ⊢
    rw [this]
theorem wayN_es (h : esOf ss = esOf ss') : ∀ (l : List Int) (q : Int), wayN ss q l = wayN ss' q l
  | [], q => rfl
  | s :: l, q => by
    unfold wayN
    rw [nxt_es h]
    cases nxt ss' q.toNat s with
    | none => rfl
    | some j => exact wayN_es h l j
theorem wlk_es (h : esOf ss = esOf ss') (f q : Int) (l : List Int) : wlk g ss f q l = wlk g ss' f q l := by
  unfold wlk; rw [es_len h, wayN_es h]
end
def lrS : List SQ := (bst lrG 5).2.map fun es => (((none, 0), []), ((none, 0), es))
theorem lrS_is : TrL lrG lrS = [⟨0, 4⟩] ∧ wlk lrG lrS 0 0 [4, 1, 2] = (4, 0) ∧ (dirOf lrG lrS ⟨0, 4⟩).length = 2 := by decide +kernel
set_option maxRecDepth 100000 in
theorem lr_res {ss : List SQ} {a i f : Int} (h : Res lrG ss a i f) : f = 0 ∧ esOf ss = esOf lrS := by
  rcases h with ⟨hn, _⟩ | ⟨_, hbig, _⟩ | ⟨_, hA, _, _, rfl⟩
  · exact absurd lr_closed hn
  · exact (done_big lr_done hbig).elim
  · refine ⟨rfl, ?_⟩
    rw [hA.es, done_one hA.dn lr_done]
    unfold lrS esOf
    rw [List.map_map]
    simp [Function.comp_def]
end Go.V
namespace Go.Proofs.YtkmjjnjngcpjmaaGreat
open Go.V
variable {w : World} {L : List Asn} {g : GramT} {x : GA}
theorem neTrans (w : World) (xo yo : Operand) (x y : TransT) : Sem.run Tryz.prog (cmpS .neq ty_api_Trans xo yo (.agg ⟨encR x⟩) (.agg ⟨encR y⟩)) w = .ok (.bool (!decide (x = y))) w := by
  unfold cmpS
  rw [Sem.run_bind, run_eqGuard_agg w _ _ _ _ _ _ eqg_api_Trans]
  simp only [Result.andThen_ok]
  have e : decide (x = y) = decide (x.st = y.st ∧ x.sym = y.sym) := by
    cases x; cases y; simp
  rw [e]
  rw [run_neq_struct]
  show (((Op.equal ty_api_Trans (.agg #[.int .i64 x.st, .int .i64 x.sym]) (.agg #[.int .i64 y.st, .int .i64 y.sym])).run Tryz.prog w).andThen _) = _
  rw [two_eq two_Trans]
  rfl
set_option maxHeartbeats 1000000 in
theorem l_small10 : Run Tryz.prog n_presagelaw10_small [] w fun v w' => ∃ x : GA, v = .agg ⟨x.cells⟩ ∧ gR (hp w') lrG x ∧ Gr w w' := by
  refine run_presagelaw10_small w _ ?_
  refine newC_i (St.all w) fun k1 w1 h => newC_i h fun k2 w2 h => newC_i h fun k3 w3 h => newC_i h fun k4 w4 h => newC_i h fun k5 w5 h => newC_i h fun k6 w6 h => newC_i h fun k7 w7 h => stR_i (h.pick 8 [6, 0, 1, 2, 3, 4, 5, 7]) rfl (by intro v hv; simp at hv; rcases hv with rfl | rfl | rfl | rfl | rfl <;> rfl) fun w8 h => ?_
  have r7 : rowH (hp w8) ⟨k7, 0, none⟩ _ := rdCel 1 h.l
  have r6 : rowH (hp w8) ⟨k6, 0, none⟩ _ := rdCel 2 h.l
  have r5 : rowH (hp w8) ⟨k5, 0, none⟩ _ := rdCel 3 h.l
  have r4 : rowH (hp w8) ⟨k4, 0, none⟩ _ := rdCel 4 h.l
  have r3 : rowH (hp w8) ⟨k3, 0, none⟩ _ := rdCel 5 h.l
  have r2 : rowH (hp w8) ⟨k2, 0, none⟩ _ := rdCel 6 h.l
  have r1 : rowH (hp w8) ⟨k1, 0, none⟩ _ := rdCel 0 h.l
  have g8 : sub (hp w) (hp w8) := rdH 7 h.l
  have p4 : rdS (hp w8) ([4] : List Int) (some ⟨k4, 0, none⟩) 1 := rdI_of rfl (.inr ⟨_, rfl, r4⟩)
  have p5 : rdS (hp w8) ([4, 1, 2] : List Int) (some ⟨k5, 0, none⟩) 3 := rdI_of rfl (.inr ⟨_, rfl, r5⟩)
  have p6 : rdS (hp w8) ([2] : List Int) (some ⟨k6, 0, none⟩) 1 := rdI_of rfl (.inr ⟨_, rfl, r6⟩)
  have p0 : rdS (hp w8) ([] : List Int) none 0 := rdI_of rfl (.inl rfl)
  refine ⟨_, _, _, _, _, _, _, _, _, _, _, _, _, r1.at (sub.refl _) rfl, ⟨some ⟨k2, 0, none⟩, 3, 3, some ⟨k3, 0, none⟩, 2, 2, none, 0, 0, 4, some ⟨k7, 0, none⟩, 3, 3⟩, rfl, ⟨?_, ?_, ?_, rfl, ?_, Nat.le_refl _, Nat.le_refl _, Nat.le_refl _, Nat.le_refl _⟩, g8⟩
  · refine rdS_lit9 (xs := lrG.terms) r2 fun i t hi => ?_
    match i, hi with
    | 0, hi => cases hi; rfl
    | 1, hi => cases hi; rfl
    | 2, hi => cases hi; rfl
    | i + 3, hi => cases hi
  · exact rdS_of_row (xs := lrG.nons) rfl (.inr ⟨_, rfl, r3⟩)
  · exact p0
  · refine rdS_lit9 (xs := lrG.prods) r7 fun i t hi => ?_
    match i, hi with
    | 0, hi => cases hi; exact ⟨_, _, _, rfl, by decide, p4⟩
    | 1, hi => cases hi; exact ⟨_, _, _, rfl, by decide, p5⟩
    | 2, hi => cases hi; exact ⟨_, _, _, rfl, by decide, p6⟩
    | i + 3, hi => cases hi
set_option maxHeartbeats 1000000 in
theorem l_awake10 : Run Tryz.prog n_presagelaw10_awake [] w fun v w' => v = .bool true ∧ Gr w w' := by
  refine run_presagelaw10_awake w _ (l_small10.mono ?_)
  rintro _ w1 ⟨x, rfl, hg, g1⟩
  refine ⟨_, _, _, _, _, _, _, _, _, _, _, _, _, rfl, newC_i (St.all w1) fun k9 w2 h => stR_i h rfl (by intro v hv; simp at hv; rcases hv with rfl | rfl | rfl | rfl | rfl <;> rfl) fun w3 h => ?_⟩
  have s3 : sub (hp w1) (hp w3) := h.gone1
  have B : GB (hp w3) k9 x := gb_of (rdCel 0 h.l)
  have hg := hg.mono s3
  have g3 : Gr w w3 := sub.trans g1 s3
  clear h
  refine ⟨_, _, _, _, _, _, _, _, _, _, _, _, _, B.row (sub.refl _), (y_trList hg lr_ok).mono ?_⟩
  rintro _ w4 ⟨ss, ask, int, f, o, c, rfl, hR, h⟩
  obtain ⟨rfl, hes⟩ := lr_res hR
  have g34 : Gr w3 w4 := rdH 1 h.l
  have rL : rdS (hp w4) (TrL lrG ss) o (TrL lrG ss).length := rdTr_of rfl (rdOv 0 h.l)
  rw [TrL_es hes, lrS_is.1] at rL ⊢
  clear h
  refine ⟨_, _, _, _, rfl, _, _, _, _, _, _, _, _, _, _, _, _, _, B.row g34, newC_i (St.all w4) fun k28 w5 h => ?_⟩
  have g45 : Gr w4 w5 := h.gone1
  have r28 : rdS (hp w5) ([4, 1, 2] : List Int) (some (aM k28)) 3 := rdI_of rfl (.inr ⟨_, rfl, rdCel 0 h.l⟩)
  clear h
  refine (y_trWalk ((hg.mono g34).mono g45) lr_ok r28 (by decide)).mono ?_
  rintro _ w6 ⟨ss2, ask2, int2, f2, rfl, hR2, g56⟩
  obtain ⟨rfl, hes2⟩ := lr_res hR2
  rw [wlk_es hes2, lrS_is.2.1]
  have g36 := g34.trans (g45.trans g56)
  refine ⟨_, _, rfl, _, _, _, _, _, _, _, _, _, _, _, _, _, B.row g36, (y_trDirect (hg.mono g36) lr_ok).mono ?_⟩
  rintro _ w7 ⟨ss3, ask3, int3, f3, o3, c3, ds, rfl, hR3, hds, h⟩
  obtain ⟨rfl, hes3⟩ := lr_res hR3
  have g67 : Gr w6 w7 := rdH 2 h.l
  rw [TrL_es hes3, lrS_is.1] at hds
  obtain ⟨d0, rfl⟩ : ∃ d0, ds = [d0] := by
    have := congrArg List.length hds
    rw [List.length_map] at this
    exact List.length_eq_one_iff.1 (by simpa using this)
  have hd0 : d0.2 = dirOf lrG lrS ⟨0, 4⟩ := by
    rw [← dirOf_es hes3]
    simpa using hds
  have hdl : d0.2.length = 2 := by rw [hd0]; exact lrS_is.2.2
  obtain ⟨dad, hda, hdc⟩ := own_cell h (j := 0) (v := slQ d0) rfl
  obtain ⟨t, tad, ht, hta, rt⟩ := rdTr_get rL (i := 0) (by decide)
  have ht : t = ⟨0, 4⟩ := by simpa using ht.symm
  subst ht
  rw [add0] at rt
  refine ⟨_, _, _, _, rfl, br_t rfl (br_t rfl (br_t rfl (br_t rfl (idx_0 hta (by decide) ⟨_, _, rt.at (g45.trans (g56.trans g67)) rfl, _, eqTrans _ _ _ ⟨0, 4⟩ ⟨0, 4⟩, _, rfl, br_t (by simp) (br_t rfl (br_t rfl (idx_0 hda (by simp) ⟨d0.1.1, d0.2.length, d0.1.2, ?_, ?_, ?_⟩)))⟩))))⟩
  · simpa [Addr.add, slQ] using hdc
  · rw [hdl]; rfl
  · exact g3.trans (g36.trans g67)
end Go.Proofs.YtkmjjnjngcpjmaaGreat
set_option linter.unusedVariables false
namespace Go.V
section
variable {g : GramT} {ss : List SQ}
end
end Go.V
namespace Go.Proofs.YtkmjjnjngcpjmaaGreat
open Go.V
variable {w : World} {L : List Asn} {g : GramT} {x : GA}
end Go.Proofs.YtkmjjnjngcpjmaaGreat
set_option linter.unusedVariables false
namespace Go.V
section
variable {g : GramT} {ss : List SQ}
end
end Go.V
namespace Go.Proofs.YtkmjjnjngcpjmaaGreat
open Go.V
variable {w : World} {L : List Asn} {g : GramT} {x : GA}
end Go.Proofs.YtkmjjnjngcpjmaaGreat
set_option linter.unusedVariables false
namespace Go.V
section
variable {g : GramT} {ss : List SQ}
theorem wayN_cons (q s : Int) (l : List Int) : wayN ss q (s :: l) = match nxt ss q.toNat s with | none => -1 | some j => wayN ss j l := rfl
theorem wayN_app (hn : ∀ i s j, nxt ss i s = some j → 0 ≤ j ∧ j < ss.length) (b : List Int) : ∀ (l : List Int) (q : Int), 0 ≤ q → q < ss.length → wayN ss q (l ++ b) = if wayN ss q l = -1 then -1 else wayN ss (wayN ss q l) b
  | [], q, h1, h2 => by
    show wayN ss q b = if q = -1 then -1 else wayN ss q b
    rw [if_neg (by omega)]
  | s :: l, q, h1, h2 => by
    show wayN ss q (s :: (l ++ b)) = _
    rw [wayN_cons q s (l ++ b), wayN_cons q s l]
    cases h : nxt ss q.toNat s with
    | none => simp
    | some j => exact wayN_app hn b l j (hn _ _ _ h).1 (hn _ _ _ h).2
end
end Go.V
namespace Go.Proofs.YtkmjjnjngcpjmaaGreat
open Go.V
variable {w : World} {L : List Asn} {g : GramT} {x : GA} {fr : Int} {one two : List Int} {a1 a2 : Option Addr} {l1 c1 l2 c2 : Nat}
end Go.Proofs.YtkmjjnjngcpjmaaGreat
set_option linter.unusedVariables false
namespace Go.V
section
variable {g : GramT} {ss : List SQ}
structure WysI (g : GramT) (ss : List SQ) (ins : List Bool) (todo : List Nat) (ws : List (Lq Int)) : Prop where
  len : ws.length = ins.length
  way : ∀ (j : Nat), ins[j]? = some true → ∃ v, ws[j]? = some v ∧ wayN ss 0 v.2 = (j : Int) ∧ v.2.any (bS g) = false ∧ v.2.length + 1 ≤ ins.count true
  td : ∀ j : Nat, j ∈ todo → ins[j]? = some true
theorem count_tr {ins : List Bool} {j : Nat} (h : ins[j]? = some false) : (ins.set j true).count true = ins.count true + 1 := by
  induction ins generalizing j with
  | nil => simp at h
  | cons b l ih =>
    cases j with
    | zero => simp at h; subst h; simp
    | succ j =>
      have := ih (j := j) (by simpa using h)
      rw [List.set_cons_succ, List.count_cons, List.count_cons]
      omega
theorem WysI.start (hp : 0 < ss.length) : WysI g ss ((List.replicate ss.length false).set 0 true) [0] (List.replicate ss.length ((none, 0), [])) := by
  have hc : ((List.replicate ss.length false).set 0 true).count true = 1 := by
    rw [count_tr (by rw [List.getElem?_replicate, if_pos hp])]
    simp [List.count_replicate]
  have hi : ∀ i, ((List.replicate ss.length false).set 0 true)[i]? = some true → i = 0 := fun i h => by
    by_cases e : 0 = i
    · exact e.symm
    · rw [List.getElem?_set_ne e, List.getElem?_replicate] at h
      split at h <;> simp at h
  refine ⟨by simp, fun j hj => ?_, fun j hj => ?_⟩
  · have := hi j hj
    subst this
    exact ⟨_, by rw [List.getElem?_replicate, if_pos hp], rfl, rfl, by rw [hc]; simp⟩
  · rw [List.mem_singleton] at hj
    subst hj
    rw [List.getElem?_set_self (by simpa using hp)]
theorem WysI.step {ins : List Bool} {q j : Nat} {todo : List Nat} {ws : List (Lq Int)} {v : Lq Int} {s : Int} {a : Option Addr} {c : Nat} (h : WysI g ss ins todo ws) (hn : ∀ i s j, nxt ss i s = some j → 0 ≤ j ∧ j < ss.length) (hp : 0 < ss.length)
    (hq : ins[q]? = some true) (hv : ws[q]? = some v) (hs : bS g s = false) (hx : nxt ss q s = some (j : Int)) (hj : ins[j]? = some false) : WysI g ss (ins.set j true) (todo ++ [j]) (ws.set j ((a, c), v.2 ++ [s])) := by
  have hjl := (List.getElem?_eq_some_iff.1 hj).1
  have hct := count_tr hj
  obtain ⟨v', hv', w1, w2, w3⟩ := h.way q hq
  rw [hv] at hv'; cases hv'
  refine ⟨by rw [List.length_set, List.length_set, h.len], fun i hi => ?_, fun i hi => ?_⟩
  · by_cases e : j = i
    · subst e
      refine ⟨_, by rw [List.getElem?_set_self (by rw [h.len]; exact hjl)], ?_, ?_, ?_⟩
      · show wayN ss 0 (v.2 ++ [s]) = _
        rw [wayN_app hn [s] v.2 0 (Int.le_refl _) (by omega), w1, if_neg (by omega)]
        unfold wayN
        rw [Int.toNat_natCast, hx]
        rfl
      · show (v.2 ++ [s]).any (bS g) = false
        rw [List.any_append, w2]
        simp [hs]
      · show (v.2 ++ [s]).length + 1 ≤ _
        rw [List.length_append, List.length_singleton, hct]; omega
    · rw [List.getElem?_set_ne e] at hi
      obtain ⟨v2, h1, h2, h3, h4⟩ := h.way i hi
      exact ⟨v2, by rw [List.getElem?_set_ne e]; exact h1, h2, h3, by omega⟩
  · rw [List.mem_append, List.mem_singleton] at hi
    by_cases e : j = i
    · subst e; rw [List.getElem?_set_self hjl]
    · rw [List.getElem?_set_ne e]
      exact h.td i (hi.resolve_right (fun h => e h.symm))
end
end Go.V
set_option linter.unusedVariables false
namespace Go.Proofs.YtkmjjnjngcpjmaaGreat
open Go.V
variable {w : World} {L : List Asn} {g : GramT} {x : GA}
end Go.Proofs.YtkmjjnjngcpjmaaGreat
set_option linter.unusedVariables false
namespace Go.V
section
variable {g : GramT} {ss : List SQ}
end
end Go.V
set_option linter.unusedVariables false
namespace Go.V
section
variable {g : GramT} {ss : List SQ}
end
end Go.V
namespace Go.Proofs.YtkmjjnjngcpjmaaGreat
open Go.V
variable {w : World} {L : List Asn} {g : GramT} {x : GA} {st : Int}
end Go.Proofs.YtkmjjnjngcpjmaaGreat
set_option linter.unusedVariables false
namespace Go.Proofs.YtkmjjnjngcpjmaaGreat
open Go.V
abbrev n_presageref10_List : FuncId := 7
def ann_presageref10_List : Ann := { rngs := [], loops := [], joins := [], blocks := [] }
set_option maxRecDepth 100000 in
def vc_presageref10_List (a : Option Addr) (b c : Nat) (d : Option Addr) (e f : Nat) (g : Option Addr) (i j : Nat) (k : Int) (l : Option Addr) (m n : Nat) (w : World) (R : Value → WP) : Prop :=  new w (oC [vS a b c, vS d e f, vS g i j, iI k, vS l m n] 27) fun k1 w1 => ∃ o1 k2 k3 o2 k4 k5 o3 k6 k7 n1 o4 k8 k9, V.rowAt w1 (aM k1) 0 5 = some [vS o1 k2 k3, vS o2 k4 k5, vS o3 k6 k7, iI n1, vS o4 k8 k9] ∧ RunE Proofs.Tryz.prog Ev 18 [vA (Array.mk [vS o1 k2 k3, vS o2 k4 k5, vS o3 k6 k7, iI n1, vS o4 k8 k9])] w1 fun v1 w2 => ∃ o5 k10 k11 n2 n3 n4, v1 = vT (Array.mk [vA (Array.mk [vS o5 k10 k11, iI n2, iI n3]), iI n4]) ∧ new w2 (oC [vS none 0 0, iI 0, iI 0] 54) fun k12 w3 => stR w3 (aM k12) [vS o5 k10 k11, iI n2, iI n3] fun w4 => br (n4 != 0) (R (vT (Array.mk [vS none 0 0, iI n4])) w4) (∃ o6 k13 k14 o7 k15 k16 o8 k17 k18 n5 o9 k19 k20, V.rowAt w4 (aM k1) 0 5 = some [vS o6 k13 k14, vS o7 k15 k16, vS o8 k17 k18, iI n5, vS o9 k19 k20] ∧ ∃ o10 k21 k22 n6 n7, V.rowAt w4 (aM k12) 0 3 = some [vS o10 k21 k22, iI n6, iI n7] ∧ RunE Proofs.Tryz.prog Ev 19 [vA (Array.mk [vS o6 k13 k14, vS o7 k15 k16, vS o8 k17 k18, iI n5, vS o9 k19 k20]), vA (Array.mk [vS o10 k21 k22, iI n6, iI n7])] w4 fun v2 w5 => ∃ o11 k23 k24, v2 = vS o11 k23 k24 ∧ R (vT (Array.mk [vS o11 k23 k24, iI 0])) w5)
set_option maxRecDepth 100000 in
theorem run_presageref10_List (a : Option Addr) (b c : Nat) (d : Option Addr) (e f : Nat) (g : Option Addr) (i j : Nat) (k : Int) (l : Option Addr) (m n : Nat) (w : World) (R : Value → WP) (h : vc_presageref10_List a b c d e f g i j k l m n w R) : Run Tryz.prog 7 [(.agg #[(.slice a b c), (.slice d e f), (.slice g i j), (.int .i64 k), (.slice l m n)])] w R := rv Tryz.func7 ann_presageref10_List (by kernel_rfl) h

abbrev n_presageref10_Direct : FuncId := 8
def ann_presageref10_Direct : Ann := { rngs := [], loops := [(7, [(7, (.one .slice)), (8, (.one (.int .i64)))])], joins := [], blocks := [] }
set_option maxRecDepth 100000 in
def vc_presageref10_Direct (a : Option Addr) (b c : Nat) (d : Option Addr) (e f : Nat) (g : Option Addr) (i j : Nat) (k : Int) (l : Option Addr) (m n : Nat) (w : World) (R : Value → WP) : Prop :=  new w (oC [vS a b c, vS d e f, vS g i j, iI k, vS l m n] 27) fun k1 w1 => ∃ o1 k2 k3 o2 k4 k5 o3 k6 k7 n1 o4 k8 k9, V.rowAt w1 (aM k1) 0 5 = some [vS o1 k2 k3, vS o2 k4 k5, vS o3 k6 k7, iI n1, vS o4 k8 k9] ∧ RunE Proofs.Tryz.prog Ev 18 [vA (Array.mk [vS o1 k2 k3, vS o2 k4 k5, vS o3 k6 k7, iI n1, vS o4 k8 k9])] w1 fun v1 w2 => ∃ o5 k10 k11 n2 n3 n4, v1 = vT (Array.mk [vA (Array.mk [vS o5 k10 k11, iI n2, iI n3]), iI n4]) ∧ new w2 (oC [vS none 0 0, iI 0, iI 0] 54) fun k12 w3 => stR w3 (aM k12) [vS o5 k10 k11, iI n2, iI n3] fun w4 => br (n4 != 0) (R (vT (Array.mk [vS none 0 0, iI n4])) w4) (∃ o6 k13 k14 o7 k15 k16 o8 k17 k18 n5 o9 k19 k20, V.rowAt w4 (aM k1) 0 5 = some [vS o6 k13 k14, vS o7 k15 k16, vS o8 k17 k18, iI n5, vS o9 k19 k20] ∧ ∃ o10 k21 k22 n6 n7, V.rowAt w4 (aM k12) 0 3 = some [vS o10 k21 k22, iI n6, iI n7] ∧ RunE Proofs.Tryz.prog Ev 19 [vA (Array.mk [vS o6 k13 k14, vS o7 k15 k16, vS o8 k17 k18, iI n5, vS o9 k19 k20]), vA (Array.mk [vS o10 k21 k22, iI n6, iI n7])] w4 fun v2 w5 => ∃ o11 k23 k24, v2 = vS o11 k23 k24 ∧ ∃ (x1 : lP [(7, shS), (8, shI)]), ∃ (x2 : lN [(7, shS), (8, shI)]), x1 none 0 0 0 w5 ∧ ∀ (I1 : Nat → Value) (o12 : Option Addr) (k25 k26 : Nat) (n8 : Int) (w6 : World), x1 o12 k25 k26 n8 w6 → br (decide (n8 < (↑k23 : Int))) (∀ w7, drawn w6 w7 → ∃ (I2 : World → Prop), I2 w7 ∧ ∃ o13 k27 k28 o14 k29 k30 o15 k31 k32 n9 o16 k33 k34, (∀ w8, I2 w8 → V.rowAt w8 (aM k1) 0 5 = some [vS o13 k27 k28, vS o14 k29 k30, vS o15 k31 k32, iI n9, vS o16 k33 k34]) ∧ ∃ o17 k35 k36 n10 n11, (∀ w9, I2 w9 → V.rowAt w9 (aM k12) 0 3 = some [vS o17 k35 k36, iI n10, iI n11]) ∧ idx o11 k23 n8 2 fun a1 => ∃ n12 n13, (∀ w10, I2 w10 → V.rowAt w10 a1 0 2 = some [iI n12, iI n13]) ∧ RunE Proofs.Tryz.prog Ev 20 [vA (Array.mk [vS o13 k27 k28, vS o14 k29 k30, vS o15 k31 k32, iI n9, vS o16 k33 k34]), vA (Array.mk [vS o17 k35 k36, iI n10, iI n11]), vA (Array.mk [iI n12, iI n13])] w7 fun v3 w11 => ∃ o18 k37 k38, v3 = vS o18 k37 k38 ∧ I2 w11 ∧ new w11 (oC [vS o18 k37 k38] 24) fun k39 w12 => I2 w12 ∧ RunS Proofs.Tryz.prog (apB 34 (Array.mk [vS o12 k25 k26, vS (some (aM k39)) 1 1])) w12 fun v4 w13 => ∃ o19 k40 k41, v4 = vS o19 k40 k41 ∧ I2 w13 ∧ inI (n8 + 1) ∧ x1 o19 k40 k41 (n8 + 1) w13 ∧ x2 o19 k40 k41 (n8 + 1) w13 < x2 o12 k25 k26 n8 w6) (R (vT (Array.mk [vS o12 k25 k26, iI 0])) w6))
set_option maxRecDepth 100000 in
theorem run_presageref10_Direct (a : Option Addr) (b c : Nat) (d : Option Addr) (e f : Nat) (g : Option Addr) (i j : Nat) (k : Int) (l : Option Addr) (m n : Nat) (w : World) (R : Value → WP) (h : vc_presageref10_Direct a b c d e f g i j k l m n w R) : Run Tryz.prog 8 [(.agg #[(.slice a b c), (.slice d e f), (.slice g i j), (.int .i64 k), (.slice l m n)])] w R := rv Tryz.func8 ann_presageref10_Direct (by kernel_rfl) h

abbrev n_presageref10_Walk : FuncId := 15
def ann_presageref10_Walk : Ann := { rngs := [], loops := [(7, [(10, (.one (.int .i64)))])], joins := [(5, [(27, (.one .bool))])], blocks := [] }
set_option maxRecDepth 100000 in
def vc_presageref10_Walk (a : Option Addr) (b c : Nat) (d : Option Addr) (e f : Nat) (g : Option Addr) (i j : Nat) (k : Int) (l : Option Addr) (m n : Nat) (o : Int) (p : Option Addr) (q s : Nat) (w : World) (R : Value → WP) : Prop :=  new w (oC [vS a b c, vS d e f, vS g i j, iI k, vS l m n] 27) fun k1 w1 => ∃ o1 k2 k3 o2 k4 k5 o3 k6 k7 n1 o4 k8 k9, V.rowAt w1 (aM k1) 0 5 = some [vS o1 k2 k3, vS o2 k4 k5, vS o3 k6 k7, iI n1, vS o4 k8 k9] ∧ RunE Proofs.Tryz.prog Ev 18 [vA (Array.mk [vS o1 k2 k3, vS o2 k4 k5, vS o3 k6 k7, iI n1, vS o4 k8 k9])] w1 fun v1 w2 => ∃ o5 k10 k11 n2 n3 n4, v1 = vT (Array.mk [vA (Array.mk [vS o5 k10 k11, iI n2, iI n3]), iI n4]) ∧ new w2 (oC [vS none 0 0, iI 0, iI 0] 54) fun k12 w3 => stR w3 (aM k12) [vS o5 k10 k11, iI n2, iI n3] fun w4 => br (n4 != 0) (R (vT (Array.mk [iI 0, iI n4])) w4) (∃ (x1 : lP [(27, shB)]), br (decide (o < 0)) (x1 true w4) (∃ o6 k13 k14, World.cell? w4 (aM k12) = some (vS o6 k13 k14) ∧ x1 (decide ((↑k13 : Int) ≤ o)) w4) ∧ ∀ (I1 : Nat → Value) (b1 : Bool) (w5 : World), x1 b1 w5 → br b1 (R (vT (Array.mk [iI 0, iI 1])) w5) (∃ (x2 : lP [(10, shI)]), ∃ (x3 : lN [(10, shI)]), x2 0 w5 ∧ ∀ (I2 : Nat → Value) (n5 : Int) (w6 : World), x2 n5 w6 → br (decide (n5 < (↑q : Int))) (∀ w7, drawn w6 w7 → ∃ (I3 : World → Prop), I3 w7 ∧ idx p q n5 1 fun a1 => ∃ n6, (∀ w8, I3 w8 → World.cell? w8 a1 = some (iI n6)) ∧ br (decide (n6 < 0)) (R (vT (Array.mk [iI 0, iI 1])) w7) (idx p q n5 1 fun a2 => ∃ n7, (∀ w9, I3 w9 → World.cell? w9 a2 = some (iI n7)) ∧ ∃ o7 k15 k16 o8 k17 k18 o9 k19 k20 n8 o10 k21 k22, (∀ w10, I3 w10 → V.rowAt w10 (aM k1) 0 5 = some [vS o7 k15 k16, vS o8 k17 k18, vS o9 k19 k20, iI n8, vS o10 k21 k22]) ∧ RunE Proofs.Tryz.prog Ev 29 [vA (Array.mk [vS o7 k15 k16, vS o8 k17 k18, vS o9 k19 k20, iI n8, vS o10 k21 k22])] w7 fun v2 w11 => ∃ n9, v2 = iI n9 ∧ I3 w11 ∧ br (decide (n9 ≤ n7)) (R (vT (Array.mk [iI 0, iI 1])) w11) (inI (n5 + 1) ∧ x2 (n5 + 1) w11 ∧ x3 (n5 + 1) w11 < x3 n5 w6))) (∃ o11 k23 k24 n10 n11, V.rowAt w6 (aM k12) 0 3 = some [vS o11 k23 k24, iI n10, iI n11] ∧ RunE Proofs.Tryz.prog Ev 30 [vA (Array.mk [vS o11 k23 k24, iI n10, iI n11]), iI o, vS p q s] w6 fun v3 w12 => ∃ n12, v3 = iI n12 ∧ R (vT (Array.mk [iI n12, iI 0])) w12)))
set_option maxRecDepth 100000 in
theorem run_presageref10_Walk (a : Option Addr) (b c : Nat) (d : Option Addr) (e f : Nat) (g : Option Addr) (i j : Nat) (k : Int) (l : Option Addr) (m n : Nat) (o : Int) (p : Option Addr) (q s : Nat) (w : World) (R : Value → WP) (h : vc_presageref10_Walk a b c d e f g i j k l m n o p q s w R) : Run Tryz.prog 15 [(.agg #[(.slice a b c), (.slice d e f), (.slice g i j), (.int .i64 k), (.slice l m n)]), (.int .i64 o), (.slice p q s)] w R := rv Tryz.func15 ann_presageref10_Walk (by kernel_rfl) h

abbrev n_presageref10_All : FuncId := 19
def ann_presageref10_All : Ann := { rngs := [], loops := [(3, [(5, (.one .slice)), (6, (.one (.int .i64)))]), (6, [(5, (.one .slice)), (7, (.one (.int .i64)))])], joins := [], blocks := [] }
set_option maxRecDepth 100000 in
def vc_presageref10_All (a : Option Addr) (b c : Nat) (d : Option Addr) (e f : Nat) (g : Option Addr) (i j : Nat) (k : Int) (l : Option Addr) (m n : Nat) (o : Option Addr) (p q : Nat) (s t : Int) (w : World) (R : Value → WP) : Prop :=  new w (oC [vS a b c, vS d e f, vS g i j, iI k, vS l m n] 27) fun k1 w1 => new w1 (oC [vS o p q, iI s, iI t] 54) fun k2 w2 => ∃ (x1 : lP [(5, shS), (6, shI)]), ∃ (x2 : lN [(5, shS), (6, shI)]), x1 none 0 0 0 w2 ∧ ∀ (I1 : Nat → Value) (o1 : Option Addr) (k3 k4 : Nat) (n1 : Int) (w3 : World), x1 o1 k3 k4 n1 w3 → ∃ o2 k5 k6, World.cell? w3 (aM k2) = some (vS o2 k5 k6) ∧ br (decide (n1 < (↑k5 : Int))) (∃ (x3 : lP [(5, shS), (7, shI)]), ∃ (x4 : lN [(5, shS), (7, shI)]), x3 o1 k3 k4 0 w3 ∧ ∀ (I2 : Nat → Value) (o3 : Option Addr) (k7 k8 : Nat) (n2 : Int) (w4 : World), x3 o3 k7 k8 n2 w4 → ∃ o4 k9 k10, World.cell? w4 (aM k2) = some (vS o4 k9 k10) ∧ idx o4 k9 n1 2 fun a1 => ∃ o5 k11 k12, World.cell? w4 (Addr.add a1 1) = some (vS o5 k11 k12) ∧ br (decide (n2 < (↑k11 : Int))) (∃ o6 k13 k14, World.cell? w4 (aM k2) = some (vS o6 k13 k14) ∧ idx o6 k13 n1 2 fun a2 => ∃ o7 k15 k16, World.cell? w4 (Addr.add a2 1) = some (vS o7 k15 k16) ∧ idx o7 k15 n2 2 fun a3 => ∃ n3, World.cell? w4 a3 = some (iI n3) ∧ ∃ o8 k17 k18 o9 k19 k20 o10 k21 k22 n4 o11 k23 k24, V.rowAt w4 (aM k1) 0 5 = some [vS o8 k17 k18, vS o9 k19 k20, vS o10 k21 k22, iI n4, vS o11 k23 k24] ∧ RunE Proofs.Tryz.prog Ev 35 [vA (Array.mk [vS o8 k17 k18, vS o9 k19 k20, vS o10 k21 k22, iI n4, vS o11 k23 k24]), iI n3] w4 fun v1 w5 => ∃ b1, v1 = vB b1 ∧ br b1 (new w5 (oC [iI n1, iI n3] 39) fun k25 w6 => RunS Proofs.Tryz.prog (apB 30 (Array.mk [vS o3 k7 k8, vS (some (aM k25)) 1 1])) w6 fun v2 w7 => ∃ o12 k26 k27, v2 = vS o12 k26 k27 ∧ inI (n2 + 1) ∧ x3 o12 k26 k27 (n2 + 1) w7 ∧ x4 o12 k26 k27 (n2 + 1) w7 < x4 o3 k7 k8 n2 w4) (inI (n2 + 1) ∧ x3 o3 k7 k8 (n2 + 1) w5 ∧ x4 o3 k7 k8 (n2 + 1) w5 < x4 o3 k7 k8 n2 w4)) (inI (n1 + 1) ∧ x1 o3 k7 k8 (n1 + 1) w4 ∧ x2 o3 k7 k8 (n1 + 1) w4 < x2 o1 k3 k4 n1 w3)) (R (vS o1 k3 k4) w3)
set_option maxRecDepth 100000 in
theorem run_presageref10_All (a : Option Addr) (b c : Nat) (d : Option Addr) (e f : Nat) (g : Option Addr) (i j : Nat) (k : Int) (l : Option Addr) (m n : Nat) (o : Option Addr) (p q : Nat) (s t : Int) (w : World) (R : Value → WP) (h : vc_presageref10_All a b c d e f g i j k l m n o p q s t w R) : Run Tryz.prog 19 [(.agg #[(.slice a b c), (.slice d e f), (.slice g i j), (.int .i64 k), (.slice l m n)]), (.agg #[(.slice o p q), (.int .i64 s), (.int .i64 t)])] w R := rv Tryz.func19 ann_presageref10_All (by kernel_rfl) h

abbrev n_presageref10_Behind : FuncId := 20
def ann_presageref10_Behind : Ann := { rngs := [], loops := [(7, [(7, (.one .slice)), (10, (.one (.int .i64)))])], joins := [(4, [(7, (.one .slice))])], blocks := [] }
set_option maxRecDepth 100000 in
def vc_presageref10_Behind (a : Option Addr) (b c : Nat) (d : Option Addr) (e f : Nat) (g : Option Addr) (i j : Nat) (k : Int) (l : Option Addr) (m n : Nat) (o : Option Addr) (p q : Nat) (s t u v : Int) (w : World) (R : Value → WP) : Prop :=  new w (oC [vS a b c, vS d e f, vS g i j, iI k, vS l m n] 27) fun k1 w1 => new w1 (oC [vS o p q, iI s, iI t] 54) fun k2 w2 => new w2 (oC [iI u, iI v] 39) fun k3 w3 => ∃ (x1 : lP [(7, shS)]), (∃ n1, World.cell? w3 (aM k3) = some (iI n1) ∧ br (n1 == 0) (∃ n2, World.cell? w3 (Addr.add (aM k3) 1) = some (iI n2) ∧ ∃ n3, World.cell? w3 (Addr.add (aM k1) 3) = some (iI n3) ∧ br (n2 == n3) (new w3 (oC [iI 0] 3) fun k4 w4 => RunS Proofs.Tryz.prog (apB 24 (Array.mk [vS none 0 0, vS (some (aM k4)) 1 1])) w4 fun v1 w5 => ∃ o1 k5 k6, v1 = vS o1 k5 k6 ∧ x1 o1 k5 k6 w5) (x1 none 0 0 w3)) (x1 none 0 0 w3)) ∧ ∀ (I1 : Nat → Value) (o2 : Option Addr) (k7 k8 : Nat) (w6 : World), x1 o2 k7 k8 w6 → ∃ o3 k9 k10 n4 n5, V.rowAt w6 (aM k2) 0 3 = some [vS o3 k9 k10, iI n4, iI n5] ∧ ∃ n6, World.cell? w6 (aM k3) = some (iI n6) ∧ ∃ n7, World.cell? w6 (Addr.add (aM k3) 1) = some (iI n7) ∧ RunE Proofs.Tryz.prog Ev 36 [vA (Array.mk [vS o3 k9 k10, iI n4, iI n5]), iI n6, iI n7] w6 fun v2 w7 => ∃ n8, v2 = iI n8 ∧ ∃ o4 k11 k12, World.cell? w7 (aM k2) = some (vS o4 k11 k12) ∧ idx o4 k11 n8 2 fun a1 => ∃ o5 k13 k14, World.cell? w7 (Addr.add a1 1) = some (vS o5 k13 k14) ∧ ∃ (x2 : lP [(7, shS), (10, shI)]), ∃ (x3 : lN [(7, shS), (10, shI)]), x2 o2 k7 k8 0 w7 ∧ ∀ (I2 : Nat → Value) (o6 : Option Addr) (k15 k16 : Nat) (n9 : Int) (w8 : World), x2 o6 k15 k16 n9 w8 → br (decide (n9 < (↑k13 : Int))) (∀ w9, drawn w8 w9 → ∃ (I3 : World → Prop), I3 w9 ∧ idx o5 k13 n9 2 fun a2 => ∃ n10, (∀ w10, I3 w10 → World.cell? w10 a2 = some (iI n10)) ∧ ∃ o7 k17 k18, (∀ w11, I3 w11 → World.cell? w11 (aM k1) = some (vS o7 k17 k18)) ∧ br (decide (n10 < (↑k17 : Int))) (idx o5 k13 n9 2 fun a3 => ∃ n11, World.cell? w9 a3 = some (iI n11) ∧ new w9 (oC [iI n11] 3) fun k19 w12 => RunS Proofs.Tryz.prog (apB 24 (Array.mk [vS o6 k15 k16, vS (some (aM k19)) 1 1])) w12 fun v3 w13 => ∃ o8 k20 k21, v3 = vS o8 k20 k21 ∧ inI (n9 + 1) ∧ x2 o8 k20 k21 (n9 + 1) w13 ∧ x3 o8 k20 k21 (n9 + 1) w13 < x3 o6 k15 k16 n9 w8) (inI (n9 + 1) ∧ x2 o6 k15 k16 (n9 + 1) w9 ∧ x3 o6 k15 k16 (n9 + 1) w9 < x3 o6 k15 k16 n9 w8)) (R (vS o6 k15 k16) w8)
set_option maxRecDepth 100000 in
theorem run_presageref10_Behind (a : Option Addr) (b c : Nat) (d : Option Addr) (e f : Nat) (g : Option Addr) (i j : Nat) (k : Int) (l : Option Addr) (m n : Nat) (o : Option Addr) (p q : Nat) (s t u v : Int) (w : World) (R : Value → WP) (h : vc_presageref10_Behind a b c d e f g i j k l m n o p q s t u v w R) : Run Tryz.prog 20 [(.agg #[(.slice a b c), (.slice d e f), (.slice g i j), (.int .i64 k), (.slice l m n)]), (.agg #[(.slice o p q), (.int .i64 s), (.int .i64 t)]), (.agg #[(.int .i64 u), (.int .i64 v)])] w R := rv Tryz.func20 ann_presageref10_Behind (by kernel_rfl) h

end Go.Proofs.YtkmjjnjngcpjmaaGreat
set_option linter.unusedVariables false
namespace Go.Proofs.YtkmjjnjngcpjmaaGreat
open Go.V
section
variable {w : World} {L : List Asn} {g : GramT} {x : GA} {ss : List SQ}
theorem d_IsNon {s : Int} (hg : gR (hp w) g x) (hb : okG g) : Run Tryz.prog n_presageref02_IsNon [.agg ⟨x.cells⟩, .int .i64 s] w fun v w' => v = .bool (decide ((g.T : Int) ≤ s) && decide (s < (g.T : Int) + g.N)) ∧ Gr w w' := by
  have hTl : g.T = x.tl := hg.t.1
  refine run_presageref02_IsNon _ _ _ _ _ _ _ _ _ _ _ _ _ _ w _ (gbox hg fun k1 w1 gw hg B => ?_)
  refine ⟨_, _, _, B.c0 (sub.refl _), br_intro (fun h1 => ?_) fun h1 => ?_⟩
  · refine ⟨_, _, _, _, _, _, _, _, _, _, _, _, _, B.row (sub.refl _), (d_Symbols hg hb).mono ?_⟩
    rintro _ w2 ⟨rfl, g2⟩
    refine ⟨_, rfl, ?_, gw.trans g2⟩
    rw [hTl, h1, Bool.true_and]
  · refine ⟨?_, gw⟩
    rw [hTl, h1, Bool.false_and]
theorem d_All {o : Option Addr} {c : Nat} {ask int : Int} (hg : gR (hp w) g x) (hb : okG g) (hc : ClosedP g) (hA : AutI g ss) (hs : stRd (hp w) ss o) : Run Tryz.prog n_presageref10_All [.agg ⟨x.cells⟩, .agg #[.slice o ss.length c, .int .i64 ask, .int .i64 int]] w fun v w' => ∃ (o : Option Addr) (c : Nat), v = .slice o (TrL g ss).length c ∧ St w' (own 2 o (TrL g ss).length c (trv (TrL g ss)) :: all w) := by
  have hkl := hA.klen hc
  have h256 := hA.dn.2.1
  refine run_presageref10_All _ _ _ _ _ _ _ _ _ _ _ _ _ _ _ _ _ _ w _ (gbox hg fun k1 w1 gw hg B => newC_i (St.all w1) fun k2 w2 h => ?_)
  have g12 : Gr w1 w2 := h.gone1
  have r2 : rowH (hp w2) (aM k2) [.slice o ss.length c, .int .i64 ask, .int .i64 int] := rdCel 0 h.l
  clear h
  have hs := (hs.mono gw).mono g12
  refine ⟨fun o n c z w' => ∃ i : Nat, z = i ∧ i ≤ ss.length ∧ n = (TrN g ss i).length ∧ St w' (own 2 o n c (trv (TrN g ss i)) :: all w2), fun _ _ _ z _ => ss.length - z.toNat,
    ⟨0, rfl, Nat.zero_le _, rfl, own_nil 2 (St.all w2)⟩, ?_⟩
  rintro _ o2 _ c2 _ w3 ⟨i, rfl, hi, rfl, h⟩
  have s3 : sub (hp w2) (hp w3) := rdH 1 h.l
  refine ⟨_, _, _, r2.cell0 s3, br_intro (fun h1 => ?_) fun h1 => ?_⟩
  rotate_left
  · have h1 : i = ss.length := by have := of_decide_eq_false h1; omega
    subst h1
    exact ⟨_, _, rfl, St.on1 h (has_i (gw.trans g12))⟩
  have h1 : i < ss.length := by have := of_decide_eq_true h1; omega
  obtain ⟨q, hq⟩ : ∃ q, ss[i]? = some q := ⟨_, List.getElem?_eq_getElem h1⟩
  obtain ⟨ad, rfl, rs, _, re⟩ := hs i q hq
  have hql := (hkl q (List.mem_of_getElem? hq)).2
  have hNl := TrN_len (g := g) (fun q hq => (hkl q hq).2) i
  refine ⟨fun o n c z w' => ∃ (j : Nat), z = j ∧ j ≤ q.2.2.length ∧ n = (TrN g ss i ++ trAt g i (q.2.2.take j)).length ∧ St w' (own 2 o n c (trv (TrN g ss i ++ trAt g i (q.2.2.take j))) :: all w2), fun _ _ _ z _ => q.2.2.length - z.toNat,
    ⟨0, rfl, Nat.zero_le _, by simp [trAt], by simpa [trAt] using h⟩, ?_⟩
  clear h
  rintro _ o6 _ c6 _ w4 ⟨j, rfl, hj, rfl, h⟩
  have s4 : sub (hp w2) (hp w4) := rdH 1 h.l
  have hTA := trAt_len g i (q.2.2.take j)
  rw [List.length_take] at hTA
  refine ⟨_, _, _, r2.cell0 s4, idx_n rfl h1 ⟨_, _, _, rs.cell s4 (j := 1) rfl, br_intro (fun h2 => ?_) fun h2 => ?_⟩⟩
  rotate_left
  · have h2 : j = q.2.2.length := by have := of_decide_eq_false h2; omega
    subst h2
    rw [List.take_length] at h ⊢
    exact ⟨⟨by omega, by omega⟩, ⟨i + 1, by simp, h1, by rw [TrN_succ hq], by rw [TrN_succ hq]; exact h⟩, msr h1⟩
  have h2 : j < q.2.2.length := by have := of_decide_eq_true h2; omega
  obtain ⟨e, ead, he, hea, red⟩ := rdEd_get re h2
  have ht : q.2.2.take (j + 1) = q.2.2.take j ++ [e] := by rw [List.take_add_one, he]; rfl
  obtain ⟨hs1, hs2, _⟩ := aut_edge hc hA hq he
  have g14 : Gr w1 w4 := g12.trans s4
  refine ⟨_, _, _, r2.cell0 s4, idx_n rfl h1 ⟨_, _, _, rs.cell s4 (j := 1) rfl, idx_n hea h2 ⟨_, red.cell0 s4, _, _, _, _, _, _, _, _, _, _, _, _, _, B.row g14, (d_IsNon (hg.mono g14) hb).mono ?_⟩⟩⟩
  rintro _ w5 ⟨rfl, g45⟩
  have h := h.gr g45
  refine ⟨_, rfl, br_intro (fun h3 => ?_) fun h3 => ?_⟩
  · have h3 : (g.T : Int) ≤ e.sym := by rw [Bool.and_eq_true] at h3; exact of_decide_eq_true h3.1
    have z1 : ((TrN g ss i ++ trAt g i (q.2.2.take j)).length + 1) * 16 ≤ 140737488355328 ∧ (TrN g ss i ++ trAt g i (q.2.2.take j)).length < 9223372036854775807 := by rw [List.length_append]; omega
    refine newC_i h fun k17 w10 h => ?_
    refine (app_one (us := trv (TrN g ss i ++ trAt g i (q.2.2.take j))) tyOk (rfl : kdOfT Ty _ = .slice _) (rfl : kdOfT Ty _ = .slice _) rfl rfl rfl h rfl (by simp [oneC]) z1.1 z1.2).mono ?_
    rintro _ w11 ⟨o8, c8, rfl, h⟩
    have e2 : trAt g i (q.2.2.take (j + 1)) = trAt g i (q.2.2.take j) ++ [⟨(i : Int), e.sym⟩] := by rw [ht, trAt_snoc, if_pos h3]
    have e3 : trv (TrN g ss i ++ trAt g i (q.2.2.take (j + 1))) = trv (TrN g ss i ++ trAt g i (q.2.2.take j)) ++ [.int .i64 (i : Int), .int .i64 e.sym] := by rw [e2, ← List.append_assoc, trv_app]; rfl
    refine ⟨_, _, _, rfl, ⟨by omega, by omega⟩, ⟨j + 1, by simp, h2, by rw [e2]; simp; omega, ?_⟩, msr h2⟩
    rw [e3]; exact h.pick 2 [0]
  · have h3 : ¬(g.T : Int) ≤ e.sym := fun h4 => by rw [decide_eq_true h4, decide_eq_true hs2] at h3; cases h3
    have e2 : trAt g i (q.2.2.take (j + 1)) = trAt g i (q.2.2.take j) := by rw [ht, trAt_snoc, if_neg h3]
    exact ⟨⟨by omega, by omega⟩, ⟨j + 1, by simp, h2, by rw [e2], by rw [e2]; exact h⟩, msr h2⟩
theorem d_List (hg : gR (hp w) g x) (hb : okG g) : Run Tryz.prog n_presageref10_List [.agg ⟨x.cells⟩] w fun v w' => ∃ (ss : List SQ) (ask int f : Int) (o : Option Addr) (c : Nat), v = .tuple #[.slice o (TrL g ss).length c, .int .i64 f] ∧ Res g ss ask int f ∧ St w' (own 2 o (TrL g ss).length c (trv (TrL g ss)) :: all w) := by
  refine run_presageref10_List _ _ _ _ _ _ _ _ _ _ _ _ _ w _ (gbox hg fun k1 w1 gw hg B => ?_)
  refine ⟨_, _, _, _, _, _, _, _, _, _, _, _, _, B.row (sub.refl _), (d_BuildR hg hb).mono ?_⟩
  rintro _ w2 ⟨o, c, ss, ask, int, f, rfl, hR, h⟩
  have g12 : Gr w1 w2 := rdH 3 h.l
  have hs := stRd_of h.l
  clear h
  refine ⟨_, _, _, _, _, _, rfl, newC_i (St.all w2) fun k12 w3 h => stR_i h rfl (by simp [oneC]) fun w4 h => br_intro (fun h1 => ?_) fun h1 => ?_⟩
  · have h1 : f ≠ 0 := by simpa using h1
    have hz : ss = [] := by rcases hR with ⟨_, e, _⟩ | ⟨_, _, e, _⟩ | ⟨_, _, _, _, e⟩ <;> first | exact e | exact absurd e h1
    subst hz
    exact ⟨[], ask, int, f, none, 0, rfl, hR, own_nil 2 (St.here (gw.trans (g12.trans h.gone1)))⟩
  have h1 : f = 0 := by simpa using h1
  subst h1
  obtain ⟨hc, hA⟩ := hR.aut rfl
  have r12 : rowH (hp w4) (aM k12) [.slice o ss.length c, .int .i64 ask, .int .i64 int] := rdCel 0 h.l
  have g24 : Gr w2 w4 := h.gone1
  clear h
  have g14 := g12.trans g24
  refine ⟨_, _, _, _, _, _, _, _, _, _, _, _, _, B.row g14, _, _, _, _, _, r12.at (sub.refl _) rfl, (d_All (hg.mono g14) hb hc hA (hs.mono g24)).mono ?_⟩
  rintro _ w5 ⟨o5, c5, rfl, h⟩
  exact ⟨_, _, _, rfl, ss, ask, int, 0, _, _, rfl, hR, St.on1 h (has_i (gw.trans g14))⟩
end
end Go.Proofs.YtkmjjnjngcpjmaaGreat
set_option linter.unusedVariables false
namespace Go.Proofs.YtkmjjnjngcpjmaaGreat
open Go.V
section
variable {w : World} {L : List Asn} {g : GramT} {x : GA} {ss : List SQ}
set_option maxHeartbeats 1000000 in
theorem d_Behind10 {o : Option Addr} {c : Nat} {ask int : Int} {t : TransT} {i0 j0 : Nat} (hg : gR (hp w) g x) (hb : okG g) (hc : ClosedP g) (hA : AutI g ss) (hs : stRd (hp w) ss o) (hst : t.st = i0) (hi0 : i0 < ss.length) (hnx : nxt ss i0 t.sym = some (j0 : Int)) : Run Tryz.prog n_presageref10_Behind [.agg ⟨x.cells⟩, .agg #[.slice o ss.length c, .int .i64 ask, .int .i64 int], .agg ⟨encR t⟩] w fun v w' => ∃ (o : Option Addr) (c : Nat), v = .slice o (dirOf g ss t).length c ∧ St w' (own 1 o (dirOf g ss t).length c (iv (dirOf g ss t)) :: all w) := by
  have hkl := hA.klen hc
  have h256 := hA.dn.2.1
  obtain ⟨hto1, hto2⟩ := nxt_pos hc hA hnx
  have hto : j0 < ss.length := by omega
  obtain ⟨r, hr⟩ : ∃ r, ss[j0]? = some r := ⟨_, List.getElem?_eq_getElem hto⟩
  have hdir : dirOf g ss t = preT g t ++ flT g r.2.2 := dirOf_eq (by rw [hst, Int.toNat_natCast]; exact hnx) hr
  have hrl := (hkl r (List.mem_of_getElem? hr)).2
  have hpl := preT_len g t
  have hTl : g.T = x.tl := hg.t.1
  have hgs : x.s = g.start := hg.s
  refine run_presageref10_Behind _ _ _ _ _ _ _ _ _ _ _ _ _ _ _ _ _ _ _ _ w _ (gbox hg fun k1 w1 gw hg B => newC_i (St.all w1) fun k2 w2 ha => newC_i ha fun k3 w3 h => ?_)
  have g13 : Gr w1 w3 := rdH 2 h.l
  have r2 : rowH (hp w3) (aM k2) [.slice o ss.length c, .int .i64 ask, .int .i64 int] := rdCel 1 h.l
  have r3 : rowH (hp w3) (aM k3) [.int .i64 t.st, .int .i64 t.sym] := rdCel 0 h.l
  clear h ha
  have hs := (hs.mono gw).mono g13
  have hno : ¬t = ⟨0, g.start⟩ → preT g t = [] := fun h => by unfold preT; rw [if_neg h]
  refine ⟨fun o n c w' => n = (preT g t).length ∧ St w' (own 1 o n c (iv (preT g t)) :: all w3), ⟨_, r3.cell0 (sub.refl _), br_intro (fun h1 => ⟨_, r3.cell (sub.refl _) (j := 1) rfl, _, B.c3 g13, br_intro (fun h2 => ?_) fun h2 => ?_⟩) fun h1 => ?_⟩, ?_⟩
  · have h1 : t.st = 0 := by simpa using h1
    have h2 : t.sym = g.start := by rw [← hgs]; simpa using h2
    have e : preT g t = [0] := by unfold preT; rw [if_pos (show t = ⟨0, g.start⟩ by rw [← h1, ← h2])]
    refine newC_i (St.all w3) fun k15 w7 h => ?_
    refine (app_one (us := []) tyOk (rfl : kdOfT Ty _ = .slice _) (rfl : kdOfT Ty _ = .slice _) rfl rfl rfl ((own_nil 1 h).pick 3 [1, 0, 2]) rfl (by simp [oneC]) (by decide) (by decide)).mono ?_
    rintro _ w8 ⟨o8, c8, rfl, h⟩
    rw [e]
    exact ⟨_, _, _, rfl, rfl, h.pick 3 [0, 2]⟩
  · have h2 : ¬t.sym = g.start := by rw [← hgs]; simpa using h2
    rw [hno fun h => h2 (by rw [h])]
    exact ⟨rfl, own_nil 1 (St.all w3)⟩
  · have h1 : ¬t.st = 0 := by simpa using h1
    rw [hno fun h => h1 (by rw [h])]
    exact ⟨rfl, own_nil 1 (St.all w3)⟩
  rintro _ o9 _ c9 w6 ⟨rfl, h⟩
  have s6 : sub (hp w3) (hp w6) := rdH 1 h.l
  refine ⟨_, _, _, _, _, r2.at s6 rfl, _, r3.cell0 s6, _, r3.cell s6 (j := 1) rfl, ?_⟩
  rw [hst]
  refine (d_Next (i := i0) hA (hs.mono s6) hi0 (fun q hq => (hkl q hq).2) h256).mono ?_
  rintro _ w7 ⟨rfl, g67⟩
  have h := h.gr g67
  have s7 := s6.trans g67
  have en : nextS ss i0 t.sym = (j0 : Int) := by unfold nextS; rw [hnx]; rfl
  rw [en]
  obtain ⟨sad, rfl, rs, _, re⟩ := hs j0 r hr
  refine ⟨_, rfl, _, _, _, r2.cell0 s7, idx_n rfl hto ⟨_, _, _, rs.cell s7 (j := 1) rfl, fun o n c z w' => ∃ j : Nat, z = j ∧ j ≤ r.2.2.length ∧ n = (preT g t ++ flT g (r.2.2.take j)).length ∧ St w' (own 1 o n c (iv (preT g t ++ flT g (r.2.2.take j))) :: all w3), fun _ _ _ z _ => r.2.2.length - z.toNat,
    ⟨0, rfl, Nat.zero_le _, by simp [flT], by simpa [flT] using h⟩, ?_⟩⟩
  clear h
  rintro _ o13 _ c13 _ w8 ⟨j, rfl, hj, rfl, h⟩
  have hfl := flT_len g (r.2.2.take j)
  rw [List.length_take] at hfl
  refine br_intro (fun h2 => ?_) fun h2 => ?_
  · have h2 : j < r.2.2.length := by have := of_decide_eq_true h2; omega
    obtain ⟨e, ead, he, hea, red⟩ := rdEd_get re h2
    have htj : r.2.2.take (j + 1) = r.2.2.take j ++ [e] := by rw [List.take_add_one, he]; rfl
    intro w9 hd
    have h := h.eq (drawn_hp hd)
    have s9 : sub (hp w3) (hp w9) := rdH 1 h.l
    refine ⟨fun u => Gr w9 u, Gr.refl _, idx_n hea h2 ⟨_, fun u s => red.cell0 (sub.trans s9 s), _, _, _, fun u s => B.c0 (sub.trans g13 (sub.trans s9 s)), br_intro (fun h3 => ?_) fun h3 => ?_⟩⟩
    · have h3 : e.sym < (g.T : Int) := by rw [hTl]; exact of_decide_eq_true h3
      have z1 : ((preT g t ++ flT g (r.2.2.take j)).length + 1) * 8 ≤ 140737488355328 ∧ (preT g t ++ flT g (r.2.2.take j)).length < 9223372036854775807 := by rw [List.length_append]; omega
      refine idx_n hea h2 ⟨_, red.cell0 s9, newC_i h fun k29 w20 h => ?_⟩
      refine (app_one (us := iv (preT g t ++ flT g (r.2.2.take j))) tyOk (rfl : kdOfT Ty _ = .slice _) (rfl : kdOfT Ty _ = .slice _) rfl rfl rfl h rfl (by simp [oneC]) z1.1 z1.2).mono ?_
      rintro _ w21 ⟨o15, c15, rfl, h⟩
      have e2 : preT g t ++ flT g (r.2.2.take (j + 1)) = preT g t ++ flT g (r.2.2.take j) ++ [e.sym] := by rw [htj, flT_snoc, if_pos h3, List.append_assoc]
      have e3 : iv (preT g t ++ flT g (r.2.2.take (j + 1))) = iv (preT g t ++ flT g (r.2.2.take j)) ++ [.int .i64 e.sym] := by rw [e2]; unfold iv; rw [List.map_append]; rfl
      refine ⟨_, _, _, rfl, ⟨by omega, by omega⟩, ⟨j + 1, by simp, h2, by rw [e2]; simp; omega, ?_⟩, msr h2⟩
      rw [e3]; exact h.pick 3 [0, 2]
    · have h3 : ¬e.sym < (g.T : Int) := by rw [hTl]; exact of_decide_eq_false h3
      have e2 : flT g (r.2.2.take (j + 1)) = flT g (r.2.2.take j) := by rw [htj, flT_snoc, if_neg h3]
      exact ⟨⟨by omega, by omega⟩, ⟨j + 1, by simp, h2, by rw [e2], by rw [e2]; exact h⟩, msr h2⟩
  have h2 : j = r.2.2.length := by have := of_decide_eq_false h2; omega
  rw [h2, List.take_length, ← hdir] at h ⊢
  exact ⟨_, _, rfl, St.on1 h (has_i (gw.trans g13))⟩
set_option maxHeartbeats 1000000 in
theorem d_Direct (hg : gR (hp w) g x) (hb : okG g) : Run Tryz.prog n_presageref10_Direct [.agg ⟨x.cells⟩] w fun v w' => ∃ (ss : List SQ) (ask int f : Int) (o : Option Addr) (c : Nat) (ds : List (Lq Int)), v = .tuple #[.slice o ds.length c, .int .i64 f] ∧ Res g ss ask int f ∧ ds.map (·.2) = (TrL g ss).map (dirOf g ss) ∧ St w' (own 1 o ds.length c (ds.map slQ) :: sta (ds.map (owQ 1 iv)) :: all w) := by
  refine run_presageref10_Direct _ _ _ _ _ _ _ _ _ _ _ _ _ w _ (gbox hg fun k1 w1 gw hg B => ?_)
  refine ⟨_, _, _, _, _, _, _, _, _, _, _, _, _, B.row (sub.refl _), (d_BuildR hg hb).mono ?_⟩
  rintro _ w2 ⟨o, c, ss, ask, int, f, rfl, hR, h⟩
  have g12 : Gr w1 w2 := rdH 3 h.l
  have hs := stRd_of h.l
  clear h
  refine ⟨_, _, _, _, _, _, rfl, newC_i (St.all w2) fun k12 w3 h => stR_i h rfl (by simp [oneC]) fun w4 h => br_intro (fun h1 => ?_) fun h1 => ?_⟩
  · have h1 : f ≠ 0 := by simpa using h1
    have hz : ss = [] := by rcases hR with ⟨_, e, _⟩ | ⟨_, _, e, _⟩ | ⟨_, _, _, _, e⟩ <;> first | exact e | exact absurd e h1
    subst hz
    exact ⟨[], ask, int, f, none, 0, [], rfl, hR, rfl, own_nil 1 ((St.flat (M := [])).2 (St.here (gw.trans (g12.trans h.gone1))))⟩
  have h1 : f = 0 := by simpa using h1
  subst h1
  obtain ⟨hc, hA⟩ := hR.aut rfl
  have hkl := hA.klen hc
  have h256 := hA.dn.2.1
  have hTn := TrN_len (g := g) (fun q hq => (hkl q hq).2) ss.length
  have r12 : rowH (hp w4) (aM k12) [.slice o ss.length c, .int .i64 ask, .int .i64 int] := rdCel 0 h.l
  have g24 : Gr w2 w4 := h.gone1
  clear h
  have g14 := g12.trans g24
  refine ⟨_, _, _, _, _, _, _, _, _, _, _, _, _, B.row g14, _, _, _, _, _, r12.at (sub.refl _) rfl, (d_All (hg.mono g14) hb hc hA (hs.mono g24)).mono ?_⟩
  rintro _ w5 ⟨oL, cL, rfl, h⟩
  have g45 : Gr w4 w5 := rdH 1 h.l
  have g15 := g14.trans g45
  have rL : rdS (hp w5) (TrL g ss) oL (TrL g ss).length := rdTr_of rfl (rdOv 0 h.l)
  clear h
  have hs := (hs.mono g24).mono g45
  have hTL : (TrL g ss).length ≤ ss.length * 130 := hTn
  refine ⟨_, _, _, rfl, fun o n c z w' => ∃ (i : Nat) (ds : List (Lq Int)), z = i ∧ i ≤ (TrL g ss).length ∧ n = ds.length ∧ ds.map (·.2) = ((TrL g ss).take i).map (dirOf g ss) ∧ St w' (own 1 o n c (ds.map slQ) :: sta (ds.map (owQ 1 iv)) :: all w5), fun _ _ _ z _ => (TrL g ss).length - z.toNat,
    ⟨0, [], rfl, Nat.zero_le _, rfl, rfl, own_nil 1 ((St.flat (M := [])).2 (St.all w5))⟩, ?_⟩
  rintro _ o7 _ c7 _ w6 ⟨i, ds, rfl, hi, rfl, hds, h⟩
  have hdl : ds.length = i := by have := congrArg List.length hds; rw [List.length_map, List.length_map, List.length_take] at this; omega
  refine br_intro (fun h1 => ?_) fun h1 => ?_
  rotate_left
  · have h1 : i = (TrL g ss).length := by have := of_decide_eq_false h1; omega
    rw [h1, List.take_length] at hds
    exact ⟨ss, ask, int, 0, _, _, ds, rfl, hR, hds, St.on2 h (has_i (gw.trans g15))⟩
  have h1 : i < (TrL g ss).length := by have := of_decide_eq_true h1; omega
  obtain ⟨t, tad, ht, hta, rt⟩ := rdTr_get rL h1
  obtain ⟨i0, q0, k0, e0, hi0, hq0, he0, hge, hte⟩ := TrN_mem (List.mem_of_getElem? ht)
  have hnx : nxt ss i0 t.sym = some e0.to := by rw [hte]; exact nxt_edge hA hq0 he0
  obtain ⟨hto1, hto2⟩ := nxt_pos hc hA hnx
  obtain ⟨j0, hj0⟩ : ∃ j0 : Nat, e0.to = j0 := ⟨e0.to.toNat, by omega⟩
  rw [hj0] at hnx
  have htk : (TrL g ss).take (i + 1) = (TrL g ss).take i ++ [t] := by rw [List.take_add_one, ht]; rfl
  intro w7 hd
  have h := h.eq (drawn_hp hd)
  have s7 : sub (hp w5) (hp w7) := rdH 2 h.l
  refine ⟨fun u => Gr w5 u, s7, _, _, _, _, _, _, _, _, _, _, _, _, _, fun u s => B.row (sub.trans g15 s), _, _, _, _, _, fun u s => r12.at (sub.trans g45 s) rfl, idx_n hta h1 ⟨_, _, fun u s => rt.at s rfl, (d_Behind10 (t := t) (hg.mono (sub.trans g15 s7)) hb hc hA (hs.mono s7) (by rw [hte]) hi0 hnx).mono ?_⟩⟩
  rintro _ w11 ⟨o18, c18, rfl, h2⟩
  have h := St.on1 h2 h.l
  clear h2
  refine ⟨_, _, _, rfl, rdH 3 h.l, newC_i h fun k39 w12 h => ⟨rdH 4 h.l, ?_⟩⟩
  have z1 : (ds.length + 1) * 24 ≤ 140737488355328 ∧ ds.length < 9223372036854775807 := by omega
  refine (app_one (us := ds.map slQ) tyOk (rfl : kdOfT Ty _ = .slice _) (rfl : kdOfT Ty _ = .slice _) rfl rfl rfl (h.pick 4 [0, 2, 1, 3]) rfl (by simp [oneC]) z1.1 z1.2).mono ?_
  rintro _ w13 ⟨o19, c19, rfl, h⟩
  have h := St.snoc (h.pick 4 [2, 3, 0])
  have h3 : St w13 (own 1 o19 (ds.length + 1) c19 (ds.map slQ ++ [.slice o18 (dirOf g ss t).length c18]) :: sta (ds.map (owQ 1 iv) ++ [own 1 o18 (dirOf g ss t).length c18 (iv (dirOf g ss t))]) :: all w5) := h.pick 2 [1, 0]
  refine ⟨_, _, _, rfl, rdH 2 h3.l, ⟨by omega, by omega⟩, ⟨i + 1, ds ++ [((o18, c18), dirOf g ss t)], by simp, h1, by simp, by rw [htk]; simp [hds], ?_⟩, msr h1⟩
  simpa [slQ, owQ] using h3
end
end Go.Proofs.YtkmjjnjngcpjmaaGreat
set_option linter.unusedVariables false
namespace Go.Proofs.YtkmjjnjngcpjmaaGreat
open Go.V
section
variable {w : World} {L : List Asn} {g : GramT} {x : GA} {ss : List SQ} {a : Option Addr} {l c : Nat} {row : List Int}
theorem d_Way {o : Option Addr} {c2 : Nat} {ask int : Int} {i : Nat} (hc : ClosedP g) (hA : AutI g ss) (hs : stRd (hp w) ss o) (hi : i < ss.length) (hr : rdS (hp w) row a l) (hl : l ≤ 4611686018427387904) : Run Tryz.prog n_presageref09_Way [.agg #[.slice o ss.length c2, .int .i64 ask, .int .i64 int], .int .i64 (i : Int), .slice a l c] w fun v w' => v = .int .i64 (wayN ss i row) ∧ Gr w w' := by
  have hkl := hA.klen hc
  have h256 := hA.dn.2.1
  have hrl := hr.1
  refine run_presageref09_Way _ _ _ _ _ _ _ _ _ w _ (newC_i (St.all w) fun k1 w1 h => ?_)
  have g1 : Gr w w1 := h.gone1
  have r1 : rowH (hp w1) (aM k1) [.slice o ss.length c2, .int .i64 ask, .int .i64 int] := rdCel 0 h.l
  clear h
  have hs := hs.mono g1
  refine ⟨fun q z w' => ∃ j : Nat, z = j ∧ j ≤ l ∧ (q = -1 ∧ wayN ss i row = -1 ∨ 0 ≤ q ∧ q < ss.length ∧ wayN ss i row = wayN ss q (row.drop j)) ∧ Gr w1 w', fun _ z _ => l - z.toNat, ⟨0, rfl, by omega, .inr ⟨by omega, by omega, rfl⟩, Gr.refl _⟩, ?_⟩
  rintro _ q _ w2 ⟨j, rfl, hj, hq, g2⟩
  refine br_intro (fun h1 => br_intro (fun h2 => ?_) fun h2 => ?_) fun h1 => ?_
  · have h1 : j < l := by have := of_decide_eq_true h1; omega
    have h2 := of_decide_eq_true h2
    obtain ⟨q0, q1, he⟩ := hq.resolve_left (by omega)
    obtain ⟨n, rfl⟩ : ∃ n : Nat, q = n := ⟨q.toNat, by omega⟩
    obtain ⟨y, ad, hy1, hya, hy2⟩ := hr.get1 h1
    have hd : row.drop j = y :: row.drop (j + 1) := by
      rw [List.drop_eq_getElem_cons (by omega)]
      congr 1
      exact (List.getElem?_eq_some_iff.1 hy1).2
    intro w3 hdr
    have g3 := g2.trans (Gr.drawn hdr)
    refine ⟨fun u => Gr w3 u, Gr.refl _, _, _, _, _, _, fun u s => r1.at (sub.trans g3 s) rfl, idx_i hya h1 ⟨y, fun u s => hy2 _ (sub.trans g1 (sub.trans g3 s)), (d_Next (i := n) (s := y) hA (hs.mono g3) (by omega) (fun q hq => (hkl q hq).2) h256).mono ?_⟩⟩
    rintro _ w6 ⟨rfl, g6⟩
    refine ⟨_, rfl, g6, ⟨by omega, by omega⟩, ⟨j + 1, by simp, h1, ?_, g3.trans g6⟩, msr h1⟩
    rw [he, hd, wayN_cons, Int.toNat_natCast]
    unfold nextS
    cases hn : nxt ss n y with
    | none => exact .inl ⟨rfl, rfl⟩
    | some t =>
      have := nxt_pos hc hA hn
      exact .inr ⟨this.1, this.2, rfl⟩
  · have h2 := of_decide_eq_false h2
    rcases hq with ⟨rfl, e⟩ | ⟨q0, _⟩
    · exact ⟨by rw [e], g1.trans g2⟩
    · omega
  · have h1 : j = l := by have := of_decide_eq_false h1; omega
    subst h1
    rcases hq with ⟨rfl, e⟩ | ⟨_, _, e⟩
    · exact ⟨by rw [e], g1.trans g2⟩
    · rw [← hrl, List.drop_length] at e
      exact ⟨by rw [e]; rfl, g1.trans g2⟩
theorem bS_no0 {s : Int} (h0 : 0 ≤ s) (h1 : s < (g.T : Int) + g.N) : bS g s = false := by
  unfold bS; rw [Bool.or_eq_false_iff]; exact ⟨decide_eq_false (by omega), decide_eq_false (by omega)⟩
theorem any_take {f : Int → Bool} {row : List Int} {j : Nat} {y : Int} (h : row[j]? = some y) (hf : f y = true) : row.any f = true := List.any_eq_true.2 ⟨y, List.mem_of_getElem? h, hf⟩
theorem d_Walk {fr : Int} (hg : gR (hp w) g x) (hb : okG g) (hr : rdS (hp w) row a l) (hl : l ≤ 4611686018427387904) : Run Tryz.prog n_presageref10_Walk [.agg ⟨x.cells⟩, .int .i64 fr, .slice a l c] w fun v w' => ∃ (ss : List SQ) (ask int f : Int), v = .tuple #[.int .i64 (wlk g ss f fr row).1, .int .i64 (wlk g ss f fr row).2] ∧ Res g ss ask int f ∧ Gr w w' := by
  have hrl := hr.1
  refine run_presageref10_Walk _ _ _ _ _ _ _ _ _ _ _ _ _ _ _ _ _ w _ (gbox hg fun k1 w1 gw hg B => ?_)
  refine ⟨_, _, _, _, _, _, _, _, _, _, _, _, _, B.row (sub.refl _), (d_BuildR hg hb).mono ?_⟩
  rintro _ w2 ⟨o, c1, ss, ask, int, f, rfl, hR, h⟩
  have g12 : Gr w1 w2 := rdH 3 h.l
  have hs := stRd_of h.l
  clear h
  refine ⟨_, _, _, _, _, _, rfl, newC_i (St.all w2) fun k12 w3 h => stR_i h rfl (by simp [oneC]) fun w4 h => br_intro (fun h1 => ?_) fun h1 => ?_⟩
  · have h1 : f ≠ 0 := by simpa using h1
    exact ⟨ss, ask, int, f, by unfold wlk; rw [if_pos h1], hR, gw.trans (g12.trans h.gone1)⟩
  have h1 : f = 0 := by simpa using h1
  subst h1
  obtain ⟨hc, hA⟩ := hR.aut rfl
  have r12 : rowH (hp w4) (aM k12) [.slice o ss.length c1, .int .i64 ask, .int .i64 int] := rdCel 0 h.l
  have g24 : Gr w2 w4 := h.gone1
  clear h
  have g14 := g12.trans g24
  have gw4 := gw.trans g14
  have hs := hs.mono g24
  have hr4 := hr.mono gw4
  refine ⟨fun b w' => b = (decide (fr < 0) || decide ((ss.length : Int) ≤ fr)) ∧ w' = w4, br_intro (fun h2 => ⟨by rw [h2]; rfl, rfl⟩) fun h2 => ⟨_, _, _, r12.cell0 (sub.refl _), by rw [h2]; rfl, rfl⟩, ?_⟩
  rintro _ b w5 ⟨rfl, rfl⟩
  refine br_intro (fun h2 => ?_) fun h2 => ?_
  · refine ⟨ss, ask, int, 0, ?_, hR, gw4⟩
    have h2 : fr < 0 ∨ (ss.length : Int) ≤ fr ∨ row.any (bS g) = true := by
      rw [Bool.or_eq_true] at h2
      exact h2.elim (fun h => .inl (of_decide_eq_true h)) fun h => .inr (.inl (of_decide_eq_true h))
    unfold wlk
    rw [if_neg (by simp), if_pos h2]
  rw [Bool.or_eq_false_iff] at h2
  have hf0 := of_decide_eq_false h2.1
  have hf1 := of_decide_eq_false h2.2
  obtain ⟨i, rfl⟩ : ∃ n : Nat, fr = n := ⟨fr.toNat, by omega⟩
  refine ⟨fun z w' => ∃ j : Nat, z = j ∧ j ≤ l ∧ (row.take j).any (bS g) = false ∧ Gr w5 w', fun z _ => l - z.toNat, ⟨0, rfl, by omega, rfl, Gr.refl _⟩, ?_⟩
  rintro _ _ w6 ⟨j, rfl, hj, hno, g6⟩
  refine br_intro (fun h3 => ?_) fun h3 => ?_
  · have h3 : j < l := by have := of_decide_eq_true h3; omega
    obtain ⟨y, ad, hy1, hya, hy2⟩ := hr4.get1 h3
    intro w7 hdr
    have g7 := g6.trans (Gr.drawn hdr)
    have bad : ∀ {w' : World}, bS g y = true → Gr w5 w' → ∃ (ss : List SQ) (ask int f : Int), (Value.tuple #[.int .i64 0, .int .i64 1] : Value) = .tuple #[.int .i64 (wlk g ss f (i : Int) row).1, .int .i64 (wlk g ss f (i : Int) row).2] ∧ Res g ss ask int f ∧ Gr w w' := fun hb gr => by
      refine ⟨ss, ask, int, 0, ?_, hR, gw4.trans gr⟩
      unfold wlk
      rw [if_neg (by simp), if_pos (.inr (.inr (any_take hy1 hb)))]
    refine ⟨fun u => Gr w7 u, Gr.refl _, idx_i hya h3 ⟨y, fun u s => hy2 _ (sub.trans g7 s), br_intro (fun h4 => bad (by unfold bS; rw [h4]; rfl) g7) fun h4 => idx_i hya h3 ⟨y, fun u s => hy2 _ (sub.trans g7 s), _, _, _, _, _, _, _, _, _, _, _, _, _, fun u s => B.row (sub.trans g14 (sub.trans g7 s)), (d_Symbols (hg.mono (g14.trans g7)) hb).mono ?_⟩⟩⟩
    rintro _ w11 ⟨rfl, g11⟩
    refine ⟨_, rfl, g11, br_intro (fun h5 => bad ?_ (g7.trans g11)) fun h5 => ⟨⟨by omega, by omega⟩, ⟨j + 1, by simp, h3, ?_, g7.trans g11⟩, msr h3⟩⟩
    · have := of_decide_eq_true h5
      unfold bS
      rw [Bool.or_eq_true]
      exact .inr (decide_eq_true (by omega))
    · rw [take_succ_get hy1, List.any_append, hno]
      have := of_decide_eq_false h5
      have := of_decide_eq_false h4
      simp [bS_no0 (g := g) (s := y) (by omega) (by omega)]
  have h3 : j = l := by have := of_decide_eq_false h3; omega
  subst h3
  rw [List.take_of_length_le (by omega)] at hno
  refine ⟨_, _, _, _, _, r12.at g6 rfl, (d_Way (i := i) hc hA (hs.mono g6) (by omega) (hr4.mono g6) hl).mono ?_⟩
  rintro _ w12 ⟨rfl, g12'⟩
  refine ⟨_, rfl, ss, ask, int, 0, ?_, hR, gw4.trans (g6.trans g12')⟩
  unfold wlk
  rw [if_neg (by simp), if_neg (by rw [hno]; rintro (h | h | h) <;> first | omega | cases h)]
end
end Go.Proofs.YtkmjjnjngcpjmaaGreat
set_option linter.unusedVariables false
namespace Go.V
theorem lent_rd {h : Hp} {xs : List Int} {a : Option Addr} {l : Nat} (hx : xs.length = l) (hr : rdS h (lentL xs) a (l + 8)) : rdS h xs a l := by
  have := hr.take (k := l) (by omega)
  have e : (lentL xs).take l = xs := by unfold lentL; rw [List.take_append_of_le_length (by omega), List.take_of_length_le (by omega)]
  rwa [e] at this
theorem rdLq {w : World} {L : List Asn} {o : Option Addr} {c : Nat} {ds : List (Lq Int)} (h : St w (own 1 o ds.length c (ds.map slQ) :: sta (ds.map (owQ 1 iv)) :: L)) : rdS (hp w) (ds.map (·.2)) o ds.length := by
  have hr := rdOv 0 h.l
  refine ⟨by simp, fun i x hi => ?_⟩
  rw [List.getElem?_map] at hi
  cases hd : ds[i]? with
  | none => rw [hd] at hi; cases hi
  | some p =>
    rw [hd] at hi
    simp only [Option.map_some, Option.some.injEq] at hi
    subst hi
    have hA : (ds.map (owQ 1 iv))[i]? = some (owQ 1 iv p) := by rw [List.getElem?_map, hd]; rfl
    have h2 := St.out (h.pick 2 [1]) hA
    have hle : p.2.length ≤ p.1.2 := own_le h2
    have rp : rdS (hp w) p.2 p.1.1 p.2.length := rdI_of rfl (rdOv 0 h2.l)
    rcases hr with e | ⟨ad, e, hc⟩
    · rw [List.map_eq_nil_iff] at e; subst e; simp at hd
    · refine ⟨ad, [slQ p], e, fun j v hj => ?_, p.1.1, p.2.length, p.1.2, rfl, hle, rp⟩
      cases j with
      | zero =>
        simp at hj; subst hj
        rw [add_add, mulS_eq]
        have := hc i (slQ p) (by rw [List.getElem?_map, hd]; rfl)
        rw [show i * Rep.n (List Int) + 0 = i from by show i * 1 + 0 = i; omega]
        exact this
      | succ j => simp at hj
end Go.V
namespace Go.Proofs.YtkmjjnjngcpjmaaGreat
open Go.V
section
variable {w : World} {L : List Asn} {g : GramT} {x : GA} {a : Option Addr} {l c : Nat} {row : List Int}
theorem l_TransWalks {fr : Int} (hg : gR (hp w) g x) (hb : okG g) (hr : rdS (hp w) row a l) (hrb : l * 8 ≤ 140737488355264) : Run Tryz.prog n_presagelaw10_TransWalks [.agg ⟨x.cells⟩, .int .i64 fr, .slice a l c] w fun v w' => v = .bool true ∧ Gr w w' := by
  have hrl := hr.1
  have hl : l ≤ 4611686018427387904 := by omega
  refine run_presagelaw10_TransWalks _ _ _ _ _ _ _ _ _ _ _ _ _ _ _ _ _ w _ (gbox hg fun k1 w1 gw hg B => l_awake10.mono ?_)
  rintro _ w2 ⟨rfl, g2⟩
  refine ⟨_, rfl, (r_Lent (hr.mono (gw.trans g2)) hrb).mono ?_⟩
  rintro _ w3 ⟨kl, cl, hcl, rfl, h⟩
  have g23 : Gr w2 w3 := h.gone1
  have rA : rdS (hp w3) (lentL row) (some ⟨kl, 0, none⟩) (l + 8) := rdI_of (by rw [lentL_len, hrl]) (rdOv 0 h.l)
  clear h
  have g13 := g2.trans g23
  refine ⟨_, _, _, _, _, _, rfl, _, _, _, _, _, _, _, _, _, _, _, _, _, B.row g13, (y_trWalk (fr := fr) (hg.mono g13) hb (lent_rd hrl rA) hl).mono ?_⟩
  rintro _ w4 ⟨ss, ask, int, f, rfl, hR, g34⟩
  have g14 := g13.trans g34
  refine ⟨_, _, rfl, _, _, _, _, _, _, _, _, _, _, _, _, _, B.row g14, (d_Walk (fr := fr) (hg.mono g14) hb ((hr.mono gw).mono g14) hl).mono ?_⟩
  rintro _ w5 ⟨ss2, ask2, int2, f2, rfl, hR2, g45⟩
  obtain ⟨_, hes, _, _, rfl, _⟩ := hR.one hR2
  rw [← wlk_es hes]
  have g15 := g14.trans g45
  refine ⟨_, _, rfl, (r_Whole (rA.mono (g34.trans g45)) ((hr.mono gw).mono g15) hl).mono ?_⟩
  rintro _ w6 ⟨rfl, e6⟩
  exact ⟨_, rfl, br_t rfl (br_t rfl (br_t (by simp) ⟨by simp, gw.trans (g15.trans (Gr.of_eq e6))⟩))⟩
end
end Go.Proofs.YtkmjjnjngcpjmaaGreat
set_option linter.unusedVariables false
namespace Go.V
theorem trv_set {xs : List TransT} {i : Nat} {x : TransT} (hi : i < xs.length) : (trv xs).take (i * 2) ++ [.int .i64 x.st, .int .i64 x.sym] ++ (trv xs).drop (i * 2 + 2) = trv (xs.set i x) := by
  rw [List.set_eq_take_append_cons_drop, if_pos hi]
  have e1 : trv xs = trv (xs.take i) ++ trv (xs.drop i) := by rw [← trv_app, List.take_append_drop]
  have e2 : trv xs = trv (xs.take (i + 1)) ++ trv (xs.drop (i + 1)) := by rw [← trv_app, List.take_append_drop]
  have l1 : (trv (xs.take i)).length = i * 2 := by rw [trv_len, List.length_take]; omega
  have l2 : (trv (xs.take (i + 1))).length = i * 2 + 2 := by rw [trv_len, List.length_take]; omega
  have t1 : (trv xs).take (i * 2) = trv (xs.take i) := by rw [e1, List.take_left' l1]
  have t2 : (trv xs).drop (i * 2 + 2) = trv (xs.drop (i + 1)) := by rw [e2, List.drop_left' l2]
  rw [t1, t2, trv_app, List.append_assoc]
  rfl
theorem dirOf_len {g : GramT} {ss : List SQ} (hk : ∀ q ∈ ss, q.2.2.length ≤ 130) (t : TransT) : (dirOf g ss t).length ≤ 131 := by
  unfold dirOf
  rw [List.length_append]
  have h1 : (if t = ⟨0, g.start⟩ then [(0 : Int)] else []).length ≤ 1 := by split <;> simp
  have h2 : ((match nxt ss t.st.toNat t.sym with | none => [] | some j => (match ss[j.toNat]? with | none => [] | some q => (q.2.2.filter fun e => decide (e.sym < (g.T : Int))).map (·.sym))) : List Int).length ≤ 130 := by
    split
    · simp
    · split
      · simp
      · rename_i q hq
        rw [List.length_map]
        exact Nat.le_trans (List.length_filter_le _ _) (hk q (List.mem_of_getElem? hq))
  exact Nat.le_trans (Nat.add_le_add h1 h2) (by decide)
end Go.V
namespace Go.Proofs.YtkmjjnjngcpjmaaGreat
open Go.V
section
variable {w : World} {L : List Asn} {g : GramT} {x : GA}
set_option maxHeartbeats 4000000 in
theorem l_TransExact (hg : gR (hp w) g x) (hb : okG g) (hbT : g.terms.length * 24 ≤ 140737488355328) (hbN : g.nons.length * 16 ≤ 140737488355328) : Run Tryz.prog n_presagelaw10_TransExact [.agg ⟨x.cells⟩] w fun v w' => v = .bool true ∧ Gr w w' := by
  refine run_presagelaw10_TransExact _ _ _ _ _ _ _ _ _ _ _ _ _ w _ (gbox hg fun k1 w1 gw hg B => l_awake10.mono ?_)
  rintro _ w2 ⟨rfl, g2⟩
  refine ⟨_, rfl, _, _, _, _, _, _, _, _, _, _, _, _, _, B.row g2, (d_Copy (x := x) (hg.mono g2) hb hbT hbN).mono ?_⟩
  rintro _ w3 ⟨y, os, rfl, hy, hos, h3⟩
  have hk3 : gR (hp w3) g y := ownG_gR hy hos h3
  have g3 : Gr w2 w3 := rdH 5 h3.l
  refine ⟨_, _, _, _, _, _, _, _, _, _, _, _, _, rfl, newC_i (St.all w3) fun k18 w4 h4 => stR_i h4 rfl (by intro v hv; simp at hv; rcases hv with rfl | rfl | rfl | rfl | rfl <;> rfl) fun w5 h5 => ?_⟩
  have C : GB (hp w5) k18 y := gb_of h5.row
  have g5 : Gr w3 w5 := h5.gone1
  have s5 : Gr w1 w5 := (g2.trans g3).trans g5
  have hk5 : gR (hp w5) g y := hk3.mono g5
  have hg5 : gR (hp w5) g x := hg.mono s5
  have gw5 : Gr w w5 := gw.trans s5
  clear h3 h4 h5
  refine ⟨_, _, _, _, _, _, _, _, _, _, _, _, _, C.row (sub.refl _), (d_List hk5 hb).mono ?_⟩
  rintro _ w6 ⟨ss, ask, int, f, oW, cW, rfl, hR, h⟩
  have g56 : Gr w5 w6 := h.gone1
  have rW : rdS (hp w6) (TrL g ss) oW (TrL g ss).length := rdTr_of rfl (rdOv 0 h.l)
  clear h
  refine ⟨_, _, _, _, rfl, _, _, _, _, _, _, _, _, _, _, _, _, _, C.row g56, (d_Direct (hk5.mono g56) hb).mono ?_⟩
  rintro _ w7 ⟨ss2, ask2, int2, f2, oD, cD, ds2, rfl, hR2, hds2, h⟩
  obtain ⟨_, hes2, _, _, rfl, _⟩ := hR.one hR2
  have g67 : Gr w6 w7 := rdH 2 h.l
  have rD := rdLq h
  clear h
  have g57 := g56.trans g67
  have rW := rW.mono g67
  rw [← TrL_es hes2, show dirOf g ss2 = dirOf g ss from funext fun t => (dirOf_es hes2 t).symm] at hds2
  rw [hds2] at rD
  have hn2 : ds2.length = (TrL g ss).length := by have := congrArg List.length hds2; simpa using this
  rw [hn2] at rD ⊢
  have hTL : (TrL g ss).length ≤ 33280 ∧ ∀ t, (dirOf g ss t).length ≤ 131 := by
    by_cases hf : f = 0
    · obtain ⟨hc, hA⟩ := hR.aut hf
      have hk : ∀ q ∈ ss, q.2.2.length ≤ 130 := fun q hq => (hA.klen hc q hq).2
      have h1 := TrN_len (g := g) hk ss.length
      have h2 := hA.dn.2.1
      exact ⟨by show (TrN g ss ss.length).length ≤ _; omega, dirOf_len hk⟩
    · have hz : ss = [] := by rcases hR with ⟨_, e, _⟩ | ⟨_, _, e, _⟩ | ⟨_, _, _, _, e⟩ <;> first | exact e | exact absurd e hf
      subst hz
      exact ⟨by simp [TrL, TrN], dirOf_len (by simp)⟩
  obtain ⟨hTl, hDl⟩ := hTL
  refine ⟨_, _, _, _, rfl, fun n w' => ∃ j : Nat, n = j ∧ j ≤ 2 ∧ Gr w7 w', fun n _ => 2 - n.toNat, ⟨0, rfl, by omega, Gr.refl _⟩, ?_⟩
  rintro _ n w8 ⟨j, rfl, hj, g78⟩
  have g58 := g57.trans g78
  refine br_intro (fun hlt => ?_) fun _ => ?_
  rotate_left
  · refine ⟨_, _, _, _, _, _, _, _, _, _, _, _, _, B.row (s5.trans g58), _, _, _, _, _, _, _, _, _, _, _, _, _, C.row g58, (d_Same (x := x) (y := y) (hg5.mono g58) (hk5.mono g58) hb).mono ?_⟩
    rintro _ w29 ⟨rfl, g29⟩
    exact ⟨_, rfl, br_t rfl ⟨rfl, gw5.trans (g58.trans g29)⟩⟩
  have hlt : j < 2 := by have := of_decide_eq_true hlt; omega
  refine ⟨_, _, _, _, _, _, _, _, _, _, _, _, _, B.row (s5.trans g58), (y_trList (hg5.mono g58) hb).mono ?_⟩
  rintro _ w9 ⟨ss3, ask3, int3, f3, oL, cL, rfl, hR3, h⟩
  obtain ⟨_, hes3, _, _, rfl, _⟩ := hR.one hR3
  rw [← TrL_es hes3] at h ⊢
  have g89 : Gr w8 w9 := h.gone1
  have g59 := g58.trans g89
  refine ⟨_, _, _, _, rfl, _, _, _, _, _, _, _, _, _, _, _, _, _, B.row (s5.trans g59), (y_trDirect (hg5.mono g59) hb).mono ?_⟩
  rintro _ w10 ⟨ss4, ask4, int4, f4, oE, cE, ds, rfl, hR4, hds, h10⟩
  obtain ⟨_, hes4, _, _, rfl, _⟩ := hR.one hR4
  have h : St w10 (own 1 oE ds.length cE (ds.map slQ) :: sta (ds.map (owQ 1 iv)) :: own 2 oL (TrL g ss).length cL (trv (TrL g ss)) :: all w8) := St.on2 h10 h.l
  clear h10
  rw [← TrL_es hes4, show dirOf g ss4 = dirOf g ss from funext fun t => (dirOf_es hes4 t).symm] at hds
  have hn : ds.length = (TrL g ss).length := by have := congrArg List.length hds; simpa using this
  have rE := rdLq h
  rw [hds, hn] at rE
  have g810 : Gr w8 w10 := rdH 3 h.l
  rw [hn] at h ⊢
  have hdl : ∀ (k : Nat) q, ds[k]? = some q → q.2.length ≤ 131 := fun k q hq => by
    have : (ds.map (·.2))[k]? = some q.2 := by rw [List.getElem?_map, hq]; rfl
    rw [hds, List.getElem?_map] at this
    cases ht : (TrL g ss)[k]? with
    | none => rw [ht] at this; cases this
    | some t => rw [ht] at this; rw [← Option.some.inj this]; exact hDl t
  refine ⟨_, _, _, _, rfl, (r_Lists rE (rD.mono (g78.trans g810)) (by omega) (fun xs hx => by
    obtain ⟨t, _, rfl⟩ := List.mem_map.1 hx
    have := hDl t; omega)).mono ?_⟩
  rintro _ w11 ⟨rfl, e11⟩
  have h := h.eq e11
  refine ⟨_, rfl, fun b w' => b = false ∧ w' = w11, br_f rfl (br_f (by simp) (br_f (by simp) ⟨by simp, rfl⟩)), ?_⟩
  rintro _ b w12 ⟨rfl, e12⟩
  rw [e12]
  refine br_f rfl ?_
  generalize hT : TrL g ss = T at *
  refine ⟨fun z w' => ∃ (i : Nat) (xs : List TransT) (es : List (Lq Int)), z = i ∧ i ≤ T.length ∧ xs.length = T.length ∧ es.length = T.length ∧ (∀ k, i ≤ k → xs[k]? = T[k]?) ∧ (∀ k q, i ≤ k → es[k]? = some q → q.2.length ≤ 131) ∧ St w' (own 1 oE T.length cE (es.map slQ) :: sta (es.map (owQ 1 iv)) :: own 2 oL T.length cL (trv xs) :: all w8), fun z _ => T.length - z.toNat,
    ⟨0, T, ds, rfl, Nat.zero_le _, rfl, hn, fun _ _ => rfl, fun k q _ hq => hdl k q hq, h⟩, ?_⟩
  clear h hdl hds hn rE e11 e12
  rintro _ _ w13 ⟨i, xs, es, rfl, hi, hxs, hes, hxi, hei, h⟩
  refine br_intro (fun h1 => ?_) fun h1 => ?_
  rotate_left
  · exact ⟨⟨by omega, by omega⟩, ⟨j + 1, by simp, by omega, g78.trans (rdH 3 h.l)⟩, msr hlt⟩
  have h1 : i < T.length := by have := of_decide_eq_true h1; omega
  intro w14 hd
  have h := h.eq (drawn_hp hd)
  have s14 : sub (hp w8) (hp w14) := rdH 3 h.l
  have rL : rdS (hp w14) xs oL T.length := rdTr_of hxs (rdOv 2 h.l)
  obtain ⟨t, tad, ht, hta, rt⟩ := rdTr_get rL h1
  obtain ⟨t', tad', ht', hta', rt'⟩ := rdTr_get rW h1
  have htt : t' = t := by
    have := hxi i (Nat.le_refl _)
    rw [ht, ht'] at this
    exact (Option.some.inj this).symm
  subst htt
  have gW : Gr w7 w14 := g78.trans s14
  obtain ⟨q, hq⟩ : ∃ q, es[i]? = some q := ⟨_, List.getElem?_eq_getElem (by omega)⟩
  have hq131 := hei i q (Nat.le_refl _) hq
  refine ⟨fun u => Gr w14 u, Gr.refl _, idx_n hta h1 ⟨_, _, fun u s => rt.at s rfl, idx_n hta' h1 ⟨_, _, fun u s => rt'.at (sub.trans gW s) rfl, .bool (!decide (t' = t')), fun u _ => neTrans u _ _ t' t', _, rfl, br_f (by simp) (idx_n hta h1 ?_)⟩⟩⟩
  rw [mulS_eq]
  refine own_stR (vs := [.int .i64 (-9), .int .i64 0]) (i := i * 2) (h.pick 3 [2, 0, 1]) hta (by rw [trv_len]; simp; omega) (by simp [oneC]) (by simp) fun w18 h => ?_
  have ex : (trv xs).take (i * 2) ++ [Value.int .i64 (-9), .int .i64 0] ++ (trv xs).drop (i * 2 + 2) = trv (xs.set i ⟨-9, 0⟩) := trv_set (x := ⟨-9, 0⟩) (by omega)
  rw [show (i * 2 + [Value.int .i64 (-9), Value.int .i64 0].length) = i * 2 + 2 from rfl, ex] at h
  have hxl : (xs.set i ⟨-9, 0⟩).length = T.length := by rw [List.length_set, hxs]
  have hxk : ∀ k, i + 1 ≤ k → (xs.set i ⟨-9, 0⟩)[k]? = T[k]? := fun k hk => by rw [List.getElem?_set_ne (by omega)]; exact hxi k (by omega)
  generalize xs.set i ⟨-9, 0⟩ = xs' at *
  have hA : (es.map (owQ 1 iv))[i]? = some (owQ 1 iv q) := by rw [List.getElem?_map, hq]; rfl
  have hV : (es.map slQ)[i]? = some (slQ q) := by rw [List.getElem?_map, hq]; rfl
  have h := St.out (h.pick 3 [2, 0, 1]) hA
  have h : St w18 (own 1 q.1.1 q.2.length q.1.2 (iv q.2) :: sta ((es.map (owQ 1 iv)).eraseIdx i) :: own 2 oL T.length cL (trv xs') :: own 1 oE T.length cE (es.map slQ) :: all w8) := h
  refine ⟨fun z w' => ∃ (m : Nat) (vs : List Int), z = m ∧ m ≤ q.2.length ∧ vs.length = q.2.length ∧ St w' (own 1 q.1.1 q.2.length q.1.2 (iv vs) :: sta ((es.map (owQ 1 iv)).eraseIdx i) :: own 2 oL T.length cL (trv xs') :: own 1 oE T.length cE (es.map slQ) :: all w8), fun z _ => q.2.length - z.toNat, ⟨0, q.2, rfl, Nat.zero_le _, rfl, h⟩, ?_⟩
  clear h
  rintro _ _ w19 ⟨m, vs, rfl, hm, hvs, h⟩
  obtain ⟨ado, hado, hco⟩ := own_cell (h.pick 4 [3]) hV
  refine idx_i hado h1 ⟨_, _, _, hco, br_intro (fun h2 => ?_) fun h2 => ?_⟩
  · have h2 : m < q.2.length := by have := of_decide_eq_true h2; omega
    obtain ⟨adr, hadr⟩ := own_addr h (by rw [iv_len]; omega)
    refine idx_i hado h1 ⟨_, _, _, hco, idx_i hadr h2 (own_st1 h hadr (by rw [iv_len]; omega) fun w21 h => ⟨⟨by omega, by omega⟩, ⟨m + 1, vs.set m (-9), by simp, h2, by rw [List.length_set]; exact hvs, ?_⟩, msr h2⟩)⟩
    have e : (iv vs).set m (.int .i64 (-9)) = iv (vs.set m (-9)) := by unfold iv; rw [List.map_set]
    rw [e] at h
    exact h
  refine idx_i hado h1 ⟨_, _, _, hco, newC_i h fun k89 w22 h => ?_⟩
  refine (app_one (us := iv vs) tyOk (rfl : kdOfT Ty _ = .slice _) (rfl : kdOfT Ty _ = .slice _) rfl rfl rfl h rfl (by simp [oneC]) (by show (_ + 1) * 8 ≤ _; omega) (by omega)).mono ?_
  rintro _ w23 ⟨o', c', rfl, h⟩
  refine ⟨_, _, _, rfl, idx_i hado h1 (own_st1 (h.pick 5 [4, 0, 2, 3]) hado (by rw [List.length_map]; omega) fun w24 h => ⟨⟨by omega, by omega⟩, ⟨i + 1, xs', es.set i ((o', c'), vs ++ [-8]), by simp, h1, hxl, by rw [List.length_set]; exact hes, hxk, fun k q' hk hq' => ?_, ?_⟩, msr h1⟩)⟩
  · rw [List.getElem?_set_ne (by omega)] at hq'
    exact hei k q' (by omega) hq'
  · have e1 : (.slice o' (q.2.length + 1) c' : Value) = slQ (((o', c'), vs ++ [-8]) : Lq Int) := by simp [slQ, hvs]
    have e2 : own 1 o' (q.2.length + 1) c' (iv vs ++ [.int .i64 (-8)]) = owQ 1 iv (((o', c'), vs ++ [-8]) : Lq Int) := by simp [owQ, hvs, iv]
    have h : St w24 (own 1 oE T.length cE ((es.map slQ).set i (.slice o' (q.2.length + 1) c')) :: own 1 o' (q.2.length + 1) c' (iv vs ++ [.int .i64 (-8)]) :: sta ((es.map (owQ 1 iv)).eraseIdx i) :: own 2 oL T.length cL (trv xs') :: all w8) := h
    rw [e1, ← List.map_set] at h
    have h := St.back (B := own 1 o' (q.2.length + 1) c' (iv vs ++ [.int .i64 (-8)])) (h.pick 4 [1, 2, 0, 3]) hA
    rw [e2, ← List.map_set] at h
    exact h.pick 3 [1, 0, 2]
end
end Go.Proofs.YtkmjjnjngcpjmaaGreat
set_option linter.unusedVariables false
namespace Go.V
open Go.RowKit Go.WideShapes Go.ChangeShapes
theorem cellH_of {w : World} {a : Addr} {v : Value} (h : w.cell? a = some v) : cellH (hp w) a = some v := by
  unfold World.cell? at h
  unfold cellH hp
  cases ho : w.heap[a.block]? with
  | none => rw [ho] at h; cases h
  | some o => rw [ho] at h; cases o <;> first | exact h | cases h
theorem mapM_get' {α β : Type} {f : α → Option β} : ∀ {l : List α} {r : List β}, l.mapM f = some r → r.length = l.length ∧ ∀ (i : Nat) (a : α) (b : β), l[i]? = some a → r[i]? = some b → f a = some b
  | [], r, h => by
    simp at h; subst h; exact ⟨rfl, fun i a b ha => by simp at ha⟩
  | x :: l, r, h => by
    simp only [List.mapM_cons, Option.bind_eq_bind, Option.bind_eq_some_iff, Option.pure_def, Option.some.injEq] at h
    obtain ⟨b, hb, r', hr', rfl⟩ := h
    obtain ⟨h1, h2⟩ := mapM_get' hr'
    refine ⟨by simp [h1], fun i a b' ha hb' => ?_⟩
    cases i with
    | zero => simp at ha hb'; subst ha; subst hb'; exact hb
    | succ i => exact h2 i a b' (by simpa using ha) (by simpa using hb')
theorem cells_row {w : World} {base n : Nat} {a : Addr} {vs : List Value} (h : w.cells? base a n = some vs) : rowH (hp w) a vs := by
  unfold World.cells? at h
  split at h
  · obtain ⟨h1, h2⟩ := mapM_get' h
    intro j v hj
    have hlt := (List.getElem?_eq_some_iff.1 hj).1
    rw [h1, List.length_range] at hlt
    exact cellH_of (h2 j j v (by simp [hlt]) hj)
  · cases h
theorem weightsAll_get {H : Type} {P : Program} {e : TypeId} {N : Nat} : ∀ {l : List (DataW H)}, (DataW.weightsAll P e l).all (· ≤ N) = true → ∀ d ∈ l, (d.weights P e).all (· ≤ N) = true
  | [], _, d, hd => by simp at hd
  | x :: l, h, d, hd => by
    rw [DataW.weightsAll, List.all_append, Bool.and_eq_true] at h
    rcases List.mem_cons.1 hd with rfl | hd
    · exact h.1
    · exact weightsAll_get h.2 d hd
theorem weightsEach_get {H : Type} {P : Program} {N : Nat} : ∀ {ts : List TypeId} {l : List (DataW H)}, (DataW.weightsEach P ts l).all (· ≤ N) = true → ∀ (i : Nat) t d, ts[i]? = some t → l[i]? = some d → (d.weights P t).all (· ≤ N) = true
  | [], l, _, i, t, d, ht, _ => by simp at ht
  | _ :: _, [], _, i, t, d, _, hd => by simp at hd
  | t0 :: ts, x :: l, h, i, t, d, ht, hd => by
    rw [DataW.weightsEach, List.all_append, Bool.and_eq_true] at h
    cases i with
    | zero => simp at ht hd; subst ht; subst hd; exact h.1
    | succ i => exact weightsEach_get h.2 i t d (by simpa using ht) (by simpa using hd)
def Opn (P : Program) (α : Type) [Rep α] (bd : α → Prop) (t : TypeId) : Prop :=
  ∀ {H : Type} (enc : TypeId × Value → H) (W : World) (n : Nat) (cs : List Value) (x : DataW H × List MemPlace), DataW.trod enc P W 0 (fun _ => true) true n t cs = some x → (x.1.weights P t).all (· ≤ reachBytes) = true → ∃ y : α, rd (hp W) y cs ∧ bd y
def anyS : ByteArray → Prop := fun s => s.size ≤ reachBytes
def anyL {α : Type} (bytes : Nat) (bd : α → Prop) : List α → Prop := fun xs => xs.length * bytes ≤ reachBytes ∧ ∀ x ∈ xs, bd x
section
variable {P : Program} {t e : TypeId}
theorem opn_int (ht : P.underlying t = some (.int .i64)) : Opn P Int anyI t := by
  intro H enc W n cs x h hw
  obtain ⟨z, rfl, _, hwf⟩ := DataW.trod_int ht h
  refine ⟨z, rfl, ?_⟩
  have : IntKind.i64.min ≤ z ∧ z ≤ IntKind.i64.max := by simpa [Lit.wf] using hwf
  exact this
theorem opn_str (ht : P.underlying t = some .string) : Opn P ByteArray anyS t := by
  intro H enc W n cs x h hw
  obtain ⟨z, rfl, rfl, _⟩ := DataW.trod_string ht h
  refine ⟨z, rfl, ?_⟩
  simpa [DataW.weights, anyS] using hw
theorem opn_slice {α : Type} [Rep α] {bd : α → Prop} {bb : Nat} (ht : P.underlying t = some (.slice e)) (hc : P.cellsOf e = Rep.n α) (hb : P.bytesOf e = bb) (he : Opn P α bd e) : Opn P (List α) (anyL bb bd) t := by
  intro H enc W n cs x h hw
  rcases DataW.trod_slice ht h with ⟨rfl, rfl⟩ | ⟨a, len, cap, elems, rest, m, rfl, rfl, rfl, _, hlc, hcm, hel, hg, _, _⟩
  · exact ⟨[], ⟨none, 0, 0, rfl, Nat.le_refl _, rdS.nil⟩, by simp [reachBytes], fun x hx => by simp at hx⟩
  · simp only [DataW.weights, ht, List.all_cons, List.all_append, Bool.and_eq_true, decide_eq_true_eq, List.length_map] at hw
    obtain ⟨hw1, hw2, _⟩ := hw
    have key : ∀ k, k ≤ len → ∃ ys : List α, ys.length = k ∧ (∀ i y, ys[i]? = some y → ∃ vs, rowH (hp W) (a.add (mulS i (Rep.n α))) vs ∧ rd (hp W) y vs) ∧ ∀ y ∈ ys, bd y := by
      intro k
      induction k with
      | zero => exact fun _ => ⟨[], rfl, fun i y hy => by simp at hy, fun y hy => by simp at hy⟩
      | succ k ih =>
        intro hk
        obtain ⟨ys, h1, h2, h3⟩ := ih (by omega)
        have hgk := hg k (by omega)
        obtain ⟨d, hd⟩ : ∃ d, elems[k]? = some d := ⟨elems[k]'(by omega), List.getElem?_eq_getElem _⟩
        rw [hd, Option.bind_eq_some_iff] at hgk
        obtain ⟨vs, hv1, hv2⟩ := hgk
        obtain ⟨y, hy1, hy2⟩ := he enc W m vs d hv2 (weightsAll_get hw2 _ (by
          have := List.mem_of_getElem? hd
          exact List.mem_map_of_mem this))
        refine ⟨ys ++ [y], by simp [h1], fun i z hz => ?_, fun z hz => ?_⟩
        · by_cases hi : i < k
          · rw [List.getElem?_append_left (by omega)] at hz
            exact h2 i z hz
          · have : i = k := by
              have := (List.getElem?_eq_some_iff.1 hz).1
              simp at this; omega
            subst this
            rw [List.getElem?_append_right (by omega), h1, Nat.sub_self] at hz
            cases hz
            refine ⟨vs, ?_, hy1⟩
            rw [mulS_eq, ← hc]
            exact cells_row hv1
        · rcases List.mem_append.1 hz with hz | hz
          · exact h3 z hz
          · simp at hz; subst hz; exact hy2
    obtain ⟨ys, h1, h2, h3⟩ := key len (Nat.le_refl _)
    refine ⟨ys, ⟨some a, len, cap, rfl, hlc, h1, fun i y hy => ?_⟩, ?_, h3⟩
    · obtain ⟨vs, h4, h5⟩ := h2 i y hy
      exact ⟨a, vs, rfl, h4, h5⟩
    · rw [h1, ← hb, ← hel]
      exact Nat.le_trans (Nat.mul_le_mul_right _ (Nat.le_add_right _ _)) hw1
theorem opn_struct {fs : Array Field} (ht : P.underlying t = some (.struct fs)) {H : Type} {enc : TypeId × Value → H} {W : World} {n : Nat} {cs : List Value} {x : DataW H × List MemPlace} (h : DataW.trod enc P W 0 (fun _ => true) true n t cs = some x) (hw : (x.1.weights P t).all (· ≤ reachBytes) = true) :
    cs.length = P.cellsOf t ∧ ∀ (i : Nat) (f : Field) (ty k o : Nat), fs[i]? = some f → P.cellsOf ty = k → f.type = ty → f.offset = o → ∃ (m : Nat) (d : DataW H × List MemPlace), DataW.trod enc P W 0 (fun _ => true) true m ty ((cs.drop o).take k) = some d ∧ (d.1.weights P ty).all (· ≤ reachBytes) = true := by
  obtain ⟨xs, m, rfl, rfl, hl, hxs, hf⟩ := DataW.trod_struct ht h
  refine ⟨hl, ?_⟩
  rintro i f _ _ _ hi rfl rfl rfl
  have hlt := (Array.getElem?_eq_some_iff.1 hi).1
  obtain ⟨d, hd⟩ : ∃ d, xs[i]? = some d := ⟨xs[i]'(by omega), List.getElem?_eq_getElem _⟩
  refine ⟨m, d, by rw [hf i f hi, hd], ?_⟩
  simp only [DataW.weights, ht] at hw
  exact weightsEach_get hw i f.type d.1 (by simp [hi]) (by simp [hd])
theorem opn_arg {α : Type} [Rep α] {bd : α → Prop} (ho : Opn P α bd t) {H : Type} {enc : TypeId × Value → H} {W : World} {v : Value} {d : DataW H} {ps : List MemPlace} (h : DataW.Trod enc P W 0 (fun _ => true) true t v d ps)
    (hw : (d.weights P t).all (· ≤ reachBytes) = true) : ∃ y : α, rd (hp W) y v.cells.toList ∧ bd y := by
  obtain ⟨n, h⟩ := h
  exact ho enc W n _ _ h hw
theorem arg_int {H : Type} {enc : TypeId × Value → H} {W : World} {b : Nat} {v : Value} {d : DataW H} {ps : List MemPlace} (ht : P.underlying t = some (.int .i64)) (hval : Value.okWide P W .any b t v) (h : DataW.Trod enc P W 0 (fun _ => true) true t v d ps) : ∃ x : Int, v = .int .i64 x ∧ anyI x := by
  obtain ⟨n, rfl, _, _, hwf⟩ := open_int ht hval h
  refine ⟨n, rfl, ?_⟩
  have : IntKind.i64.min ≤ n ∧ n ≤ IntKind.i64.max := by simpa [Lit.wf] using hwf
  exact this
theorem arg_slice {α : Type} [Rep α] {bd : α → Prop} {bb : Nat} (ho : Opn P (List α) (anyL bb bd) t) (ht : P.underlying t = some (.slice e)) {H : Type} {enc : TypeId × Value → H} {W : World} {b : Nat} {v : Value} {d : DataW H} {ps : List MemPlace}
    (hval : Value.okWide P W .any b t v) (h : DataW.Trod enc P W 0 (fun _ => true) true t v d ps) (hw : (d.weights P t).all (· ≤ reachBytes) = true) : ∃ (xs : List α) (a : Option Addr) (l c : Nat), v = .slice a l c ∧ l ≤ c ∧ rdS (hp W) xs a l ∧ anyL bb bd xs := by
  obtain ⟨xs, ⟨a, l, c, hv, hlc, hr⟩, hb⟩ := opn_arg ho h hw
  refine ⟨xs, a, l, c, ?_, hlc, hr, hb⟩
  cases v <;> first | (simp [Value.okWide, ht, Cell.okWide, Cell.ok] at hval; done) | simpa [Value.cells] using hv
theorem arg_struct {α : Type} [Rep α] {bd : α → Prop} {fs : Array Field} (ho : Opn P α bd t) (ht : P.underlying t = some (.struct fs)) {H : Type} {enc : TypeId × Value → H} {W : World} {b : Nat} {v : Value} {d : DataW H} {ps : List MemPlace}
    (hval : Value.okWide P W .any b t v) (h : DataW.Trod enc P W 0 (fun _ => true) true t v d ps) (hw : (d.weights P t).all (· ≤ reachBytes) = true) : ∃ (x : α) (cs : List Value), v = .agg ⟨cs⟩ ∧ rd (hp W) x cs ∧ bd x := by
  obtain ⟨x, hr, hb⟩ := opn_arg ho h hw
  simp only [Value.okWide, ht] at hval
  obtain ⟨cs, rfl, _⟩ := hval
  exact ⟨x, cs.toList, rfl, hr, hb⟩
theorem below_of {w w' : World} (h : Ev w w') (g : Gr w w') : Below w.heap.size w w' := by
  refine ⟨h.os, h.tape, h.output, h.size, fun k hk => ?_⟩
  cases ho : w.heap[k]? with
  | none => rw [Array.getElem?_eq_none_iff] at ho; omega
  | some o =>
    by_cases hd : notD o = true
    · have : hp w k = some o := by unfold hp; rw [ho, hidD_not hd]
      exact hidD_some (g k o this)
    · cases o <;> first | exact absurd rfl hd | exact h.dfr _ _ ho
theorem trodAll_below (hl : laidOutB P = true) {H : Type} {enc : TypeId × Value → H} {W W' : World} (hb : Below W.heap.size W W') {sp : Nat → Bool} : ∀ {ts : List TypeId} {vs : List Value} {ds : List (DataW H)} {ps : List MemPlace},
    (ts.all fun t => P.readableRec t && decide (t < P.types.size)) = true → DataW.TrodAll enc P W 0 (fun _ => true) true ts vs ds ps → (∀ x ∈ ps, x.block < W.heap.size) → (∀ x ∈ ps, sp x.block = true) →
    DataW.TrodAll enc P W' 0 sp true ts vs ds ps
  | [], [], [], ps, _, h, _, _ => h
  | [], _ :: _, _, _, _, h, _, _ => h.elim
  | [], [], _ :: _, _, _, h, _, _ => h.elim
  | _ :: _, [], _, _, _, h, _, _ => h.elim
  | _ :: _, _ :: _, [], _, _, h, _, _ => h.elim
  | t :: ts, v :: vs, d :: ds, ps, ht, h, hlt, hsp => by
    obtain ⟨p, q, h1, h2, rfl⟩ := h
    rw [List.all_cons, Bool.and_eq_true, Bool.and_eq_true, decide_eq_true_eq] at ht
    exact ⟨p, q, WideElems.Trod_stays hl ht.1.1 ht.1.2 h1 (fun x hx => hb.same (hlt x (by simp [hx]))) (fun x hx => hsp x (by simp [hx])), trodAll_below hl hb ht.2 h2 (fun x hx => hlt x (by simp [hx])) (fun x hx => hsp x (by simp [hx])), rfl⟩
theorem law_post {H : Type} {enc : TypeId × Value → H} {s : ChangeSpec} {f : Func} {W W' : World} {args : Array Value} {ds gs : List (DataW H)} {before : List MemPlace} {tb : TypeId} (hv : s.vars = []) (hrt : f.resultTypes = #[tb]) (htb : P.underlying tb = some .bool)
    (hsp : s.fn H (ds ++ gs) = { results := [.lit (.bool true)], args := ds }) (hl : laidOutB P = true) (hrd : (f.params.toList.all fun t => P.readableRec t && decide (t < P.types.size)) = true)
    (hW : DataW.Whole enc P f.params.toList s.vars false W args.toList ds gs before) (hE : Ev W W') (hg : Gr W W') : s.post enc P f false true false false W args (.bool true) W' := by
  have hb := below_of hE hg
  have hlt : ∀ p ∈ before, p.block < W.heap.size := fun p hp => hW.lt p hp
  have hold : ∀ p ∈ before, (fun b => decide (b < W.heap.size)) p.block = true := fun p hp => by simpa using hlt p hp
  have hW' := hW
  obtain ⟨p, q, h1, h2, rfl, h3, h4⟩ := hW
  have hq : q = [] := by
    rw [hv] at h2
    cases gs with
    | nil => exact h2
    | cons _ _ => exact h2.elim
  subst hq
  rw [List.append_nil] at *
  have hargs : ∀ sp : Nat → Bool, (∀ x ∈ p, sp x.block = true) → DataW.TrodAll enc P W' 0 sp true f.params.toList args.toList (s.fn H (ds ++ gs)).args p := fun sp hs => by
    rw [hsp]; exact trodAll_below hl hb hrd h1 hlt hs
  have hvars : ∀ sp : Nat → Bool, DataW.TrodVars enc P W' sp s.vars (s.fn H (ds ++ gs)).vars [] := fun sp => by
    rw [hsp, hv]; exact rfl
  have hres : ∀ (b : Nat) (sp : Nat → Bool) (hd : Bool), DataW.TrodAll enc P W' b sp hd f.resultTypes.toList ((Value.bool true).resultList f.resultTypes.size) (s.fn H (ds ++ gs)).results [] := fun b sp hd => by
    rw [hsp, hrt]; exact trodAll_cons_mk (shut_bool htb _) trodAll_mk0
  have hok : ∀ (j : Nat) (t : TypeId) (r : Value), f.resultTypes[j]? = some t → ((Value.bool true).resultList f.resultTypes.size)[j]? = some r → Value.okWide P W' .any 0 t r := ok_one hrt rfl (okWide_bool_mk htb _)
  refine ⟨ds, gs, p, [], p, [], hW', hres _ _ _, hargs _ hold, hvars _, World.keptBut_mono (fun x hx => ⟨hx, ?_⟩) (hb.frame (· ∈ p)), fun _ => ?_⟩
  · exact Or.inr (by simpa using hx)
  · refine ⟨hok, _, _, ([] ++ p) ++ [], ⟨[] ++ p, [], trodAll_append (hargs _ (fun _ _ => rfl)) (hres _ _ _), hvars _, rfl, ?_, ?_⟩, ?_⟩
    · intro b off hp
      have hin : MemPlace.cell b off ∈ p := by simpa using hp
      rw [hb.frozen (hlt _ hin)]
      exact h3 b off hin
    · intro ha; cases ha
    · intro x hx _
      simpa using hx
end
end Go.V
set_option linter.unusedVariables false
namespace Go.Proofs.YtkmjjnjngcpjmaaGreat
open Go.V Go.RowKit Go.WideShapes Go.ChangeShapes Go.ChangeAt
theorem ownK : ownKnob Tryz.prog.godebug = none := by kernel_rfl
theorem laidO : laidOutB Tryz.prog = true := by kernel_rfl
theorem cellsI : Tryz.prog.cellsOf 3 = 1 := by kernel_rfl
theorem bytesI : Tryz.prog.bytesOf 3 = 8 := by kernel_rfl
theorem cellsStr : Tryz.prog.cellsOf 9 = 1 := by kernel_rfl
theorem bytesStr : Tryz.prog.bytesOf 9 = 16 := by kernel_rfl
theorem cellsS24 : Tryz.prog.cellsOf 24 = 1 := by kernel_rfl
theorem cellsS22 : Tryz.prog.cellsOf 22 = 1 := by kernel_rfl
theorem cellsS23 : Tryz.prog.cellsOf 23 = 1 := by kernel_rfl
theorem cellsS25 : Tryz.prog.cellsOf 25 = 1 := by kernel_rfl
theorem cellsT : Tryz.prog.cellsOf 75 = 2 := by kernel_rfl
theorem bytesT : Tryz.prog.bytesOf 75 = 24 := by kernel_rfl
theorem cellsP : Tryz.prog.cellsOf 51 = 3 := by kernel_rfl
theorem bytesP : Tryz.prog.bytesOf 51 = 40 := by kernel_rfl
theorem cellsG : Tryz.prog.cellsOf 27 = 5 := by kernel_rfl
theorem oInt : Opn Tryz.prog Int anyI 3 := opn_int Tryz.underlying3
theorem oInts : Opn Tryz.prog (List Int) (anyL 8 anyI) 24 := opn_slice Tryz.underlying24 cellsI bytesI oInt
theorem oStr : Opn Tryz.prog ByteArray anyS 9 := opn_str Tryz.underlying9
theorem oStrs : Opn Tryz.prog (List ByteArray) (anyL 16 anyS) 23 := opn_slice Tryz.underlying23 cellsStr bytesStr oStr
theorem oTerm : Opn Tryz.prog TermT (fun t => anyS t.name ∧ anyI t.level) 75 := by
  intro H enc W n cs x h hw
  obtain ⟨hl, hf⟩ := opn_struct Tryz.underlying75 h hw
  rw [cellsT] at hl
  obtain ⟨_, _, t0, w0⟩ := hf 0 _ 9 1 0 rfl cellsStr rfl rfl
  obtain ⟨_, _, t1, w1⟩ := hf 1 _ 3 1 1 rfl cellsI rfl rfl
  obtain ⟨y0, r0, b0⟩ := oStr enc W _ _ _ t0 w0
  obtain ⟨y1, r1, b1⟩ := oInt enc W _ _ _ t1 w1
  match cs, hl with
  | [c0, c1], _ =>
    have e0 : [c0] = [.string y0] := r0
    have e1 : [c1] = [.int .i64 y1] := r1
    cases e0; cases e1
    exact ⟨⟨y0, y1⟩, rfl, b0, b1⟩
theorem oTerms : Opn Tryz.prog (List TermT) (anyL 24 fun t => anyS t.name ∧ anyI t.level) 22 := opn_slice Tryz.underlying22 cellsT bytesT oTerm
theorem oProd : Opn Tryz.prog ProdT (fun p => anyI p.left ∧ anyL 8 anyI p.right ∧ anyI p.level) 51 := by
  intro H enc W n cs x h hw
  obtain ⟨hl, hf⟩ := opn_struct Tryz.underlying51 h hw
  rw [cellsP] at hl
  obtain ⟨_, _, t0, w0⟩ := hf 0 _ 3 1 0 rfl cellsI rfl rfl
  obtain ⟨_, _, t1, w1⟩ := hf 1 _ 24 1 1 rfl cellsS24 rfl rfl
  obtain ⟨_, _, t2, w2⟩ := hf 2 _ 3 1 2 rfl cellsI rfl rfl
  obtain ⟨y0, r0, b0⟩ := oInt enc W _ _ _ t0 w0
  obtain ⟨y1, ⟨a, l, c, r1, hlc, r1'⟩, b1⟩ := oInts enc W _ _ _ t1 w1
  obtain ⟨y2, r2, b2⟩ := oInt enc W _ _ _ t2 w2
  match cs, hl with
  | [c0, c1, c2], _ =>
    have e0 : [c0] = [.int .i64 y0] := r0
    have e1 : [c1] = [.slice a l c] := r1
    have e2 : [c2] = [.int .i64 y2] := r2
    cases e0; cases e1; cases e2
    exact ⟨⟨y0, y1, y2⟩, ⟨a, l, c, rfl, hlc, r1'⟩, b0, b1, b2⟩
theorem oProds : Opn Tryz.prog (List ProdT) (anyL 40 fun p => anyI p.left ∧ anyL 8 anyI p.right ∧ anyI p.level) 25 := opn_slice Tryz.underlying25 cellsP bytesP oProd
def okG2 (g : GramT) : Prop := okG g ∧ g.terms.length * 24 ≤ 140737488355328 ∧ g.nons.length * 16 ≤ 140737488355328
theorem oGram : Opn Tryz.prog GramT okG2 27 := by
  intro H enc W n cs x h hw
  obtain ⟨hl, hf⟩ := opn_struct Tryz.underlying27 h hw
  rw [cellsG] at hl
  obtain ⟨_, _, t0, w0⟩ := hf 0 _ 22 1 0 rfl cellsS22 rfl rfl
  obtain ⟨_, _, t1, w1⟩ := hf 1 _ 23 1 1 rfl cellsS23 rfl rfl
  obtain ⟨_, _, t2, w2⟩ := hf 2 _ 24 1 2 rfl cellsS24 rfl rfl
  obtain ⟨_, _, t3, w3⟩ := hf 3 _ 3 1 3 rfl cellsI rfl rfl
  obtain ⟨_, _, t4, w4⟩ := hf 4 _ 25 1 4 rfl cellsS25 rfl rfl
  obtain ⟨y0, ⟨a0, l0, c0', r0, k0, q0⟩, b0⟩ := oTerms enc W _ _ _ t0 w0
  obtain ⟨y1, ⟨a1, l1, c1', r1, k1, q1⟩, b1⟩ := oStrs enc W _ _ _ t1 w1
  obtain ⟨y2, ⟨a2, l2, c2', r2, k2, q2⟩, b2⟩ := oInts enc W _ _ _ t2 w2
  obtain ⟨y3, r3, b3⟩ := oInt enc W _ _ _ t3 w3
  obtain ⟨y4, ⟨a4, l4, c4', r4, k4, q4⟩, b4⟩ := oProds enc W _ _ _ t4 w4
  match cs, hl with
  | [c0, c1, c2, c3, c4], _ =>
    have e0 : [c0] = [.slice a0 l0 c0'] := r0
    have e1 : [c1] = [.slice a1 l1 c1'] := r1
    have e2 : [c2] = [.slice a2 l2 c2'] := r2
    have e3 : [c3] = [.int .i64 y3] := r3
    have e4 : [c4] = [.slice a4 l4 c4'] := r4
    cases e0; cases e1; cases e2; cases e3; cases e4
    refine ⟨⟨y0, y1, y2, y3, y4⟩, ⟨⟨a0, l0, c0', a1, l1, c1', a2, l2, c2', y3, a4, l4, c4'⟩, rfl, q0, q1, q2, rfl, q4, k0, k1, k2, k4⟩, ?_⟩
    have z0 := b0.1
    have z1 := b1.1
    have z2 := b2.1
    have z4 := b4.1
    unfold reachBytes at z0 z1 z2 z4
    refine ⟨⟨by show y0.length ≤ _; omega, by show y1.length ≤ _; omega, by show y2.length ≤ _; omega, by show y4.length * 40 ≤ _; omega, fun t ht => ⟨?_, (b0.2 t ht).2⟩, fun s hs => ?_, fun p hp => ?_⟩, by show y0.length * 24 ≤ _; omega, by show y1.length * 16 ≤ _; omega⟩
    · have := (b0.2 t ht).1; unfold anyS reachBytes at this; omega
    · have := b1.2 s hs; unfold anyS reachBytes at this; omega
    · have := (b4.2 p hp).2.1.1; unfold reachBytes at this; omega

noncomputable def laidWorld (os : Os) : World := World.holding Tryz.prog os ⟨#[], #[], []⟩
end Go.Proofs.YtkmjjnjngcpjmaaGreat
