/- Laws of sets (4): scripts over several sets. -/
import Derived.Test.YtcipljcagejjaaaDoorVLaw3
set_option linter.unusedVariables false
namespace Go.V
theorem perm_erase {M : List Asn} : ∀ {i : Nat} {A : Asn}, M[i]? = some A → M.Perm (A :: M.eraseIdx i) := by
  induction M with
  | nil => intro i A h; simp at h
  | cons B M ih =>
    intro i A h
    cases i with
    | zero => simp at h; subst h; exact List.Perm.refl _
    | succ i => exact (List.Perm.cons B (ih (by simpa using h))).trans (List.Perm.swap _ _ _)
theorem perm_set {M : List Asn} {B : Asn} : ∀ {i : Nat} {A : Asn}, M[i]? = some A → (M.set i B).Perm (B :: M.eraseIdx i) := by
  induction M with
  | nil => intro i A h; simp at h
  | cons C M ih =>
    intro i A h
    cases i with
    | zero => exact List.Perm.refl _
    | succ i => exact (List.Perm.cons C (ih (A := A) (by simpa using h))).trans (List.Perm.swap _ _ _)
section
variable {w : World} {L M : List Asn} {A B : Asn} {i : Nat}
/- one of several, taken out; put back -/
theorem St.out (h : St w (sta M :: L)) (hi : M[i]? = some A) : St w (A :: sta (M.eraseIdx i) :: L) := by
  have h1 : St w (M.eraseIdx i ++ A :: L) := (St.flat.1 h).perm (((perm_erase hi).append_right L).trans List.perm_middle.symm)
  exact (St.flat.2 h1).swap
theorem St.back (h : St w (B :: sta (M.eraseIdx i) :: L)) (hi : M[i]? = some A) : St w (sta (M.set i B) :: L) := by
  have h1 := St.flat.1 h.swap
  exact St.flat.2 (h1.perm (List.perm_middle.trans ((perm_set hi).symm.append_right L)))
theorem St.snoc (h : St w (A :: sta M :: L)) : St w (sta (M ++ [A]) :: L) := by
  have h1 := St.flat.1 h.swap
  exact St.flat.2 (by rw [List.append_assoc]; exact h1)
theorem sta_nth {h : Hp} (hs : starL (sta M :: L) h) (hi : A ∈ M) : ∃ h1, sub h1 h ∧ A h1 := by
  obtain ⟨h1, h2, d, s1, s2, ha, hl⟩ := hs
  obtain ⟨h3, s3, h4⟩ := starL_in hi ha
  exact ⟨h3, s3.trans s1, h4⟩
theorem St.merge {C : Asn} (h : St w (A :: B :: L)) (hm : ∀ h h1 h2, sub h1 h → sub h2 h → A h1 → B h2 → C h) : St w (C :: L) := by
  obtain ⟨h1, h2, d, s1, s2, ha, h3, h4, d', s3, s4, hb, hl⟩ := h
  have d13 : dis h1 h3 := d.sub (sub.refl _) s3
  refine ⟨uni h1 h3, h4, dis_uni (d.sub (sub.refl _) s4) d', uni_sub s1 (s3.trans s2), s4.trans s2, hm _ h1 h3 (sub_uni_l _ _) (sub_uni_r d13) ha hb, hl⟩
end
theorem zip_set {α β : Type} (f : α → β → Asn) {ps : List α} {vs : List β} {i : Nat} {p : α} {v' : β} (hp : ps[i]? = some p) : (List.zipWith f ps vs).set i (f p v') = List.zipWith f ps (vs.set i v') := by
  apply List.ext_getElem?
  intro k
  rw [List.getElem?_set, List.getElem?_zipWith, List.getElem?_zipWith, List.getElem?_set, List.length_zipWith]
  by_cases hk : i = k
  · subst hk
    rw [if_pos rfl, if_pos rfl, hp]
    have := (List.getElem?_eq_some_iff.1 hp).1
    by_cases hl : i < vs.length
    · simp [hl, this]; omega
    · simp [hl]; omega
  · rw [if_neg hk, if_neg hk]
def bk (p : Nat) : Option Addr := some ⟨p, 0, none⟩
def pv (os : List (Option Addr)) : List Value := os.map fun o => Value.pointer o
theorem pv_len (os : List (Option Addr)) : (pv os).length = os.length := by simp [pv]
def setsA (ps : List Nat) (vss : List (List Bool)) : List Asn := List.zipWith (fun p v => setO (bk p) v) ps vss
def refsA (ps : List Nat) (vss : List (List Bool)) : List Asn := List.zipWith (fun p v => refO (bk p) v) ps vss
theorem own_rdP {w : World} {L : List Asn} {a : Option Addr} {l c : Nat} {os : List (Option Addr)} (h : St w (own 1 a l c (pv os) :: L)) : rdS (hp w) os a l := by
  have hl := own_len h
  obtain ⟨h1, s, ha⟩ := h.first
  exact (rdS_of_row (by simpa [pv] using hl) (own_rdVh ha)).mono s
/- the two lists -/
def wrlA (b : Nat) (ps qs : List Nat) (n : Nat) : Asn := ex fun y : (Option Addr × Nat) × (Option Addr × Nat) =>
  sta [cel b [.slice y.1.1 n y.1.2, .slice y.2.1 n y.2.2], own 1 y.1.1 n y.1.2 (pv (ps.map bk)), own 1 y.2.1 n y.2.2 (pv (qs.map bk))]
/- empty sets that were made on the way -/
def frA (n : Nat) (ks : List Nat) (rs : List (Option Addr)) : Asn := fun h => ∀ (j : Nat) r, rs[j]? = some r → ks[j]? = some n → refR h r []
theorem orj {c1 c2 : Bool} {w : World} {K : Bool → World → Prop} (h1 : (c1 || c2) = true → K true w) (h2 : (c1 || c2) = false → K false w) : ∃ x : Bool → World → Prop, br c1 (x c1 w) (x c2 w) ∧ ∀ (I : Nat → Value) (b : Bool) (w' : World), x b w' → K b w' := by
  refine ⟨fun b w' => b = (c1 || c2) ∧ w' = w, ?_, ?_⟩
  · cases c1
    · exact ⟨rfl, rfl⟩
    · exact ⟨rfl, rfl⟩
  · rintro _ _ _ ⟨rfl, rfl⟩
    cases hc : (c1 || c2)
    · exact h2 hc
    · exact h1 hc
end Go.V
namespace Go.Proofs.YtcipljcagejjaaaDoor
open Go.V
section
variable {w : World} {L : List Asn} {a a2 a3 : Option Addr} {l c l2 c2 l3 c3 n : Nat} {p q : Option Addr} {bs cs : List Bool} {xs ys zs : List Int} {os : List (Option Addr)} {vss : List (List Bool)} {ps qs : List Nat}
theorem l_some {b : Nat} {ax ar : Option Addr} {cx cr : Nat} (hc : rowH (hp w) ⟨b, 0, none⟩ [.slice ax n cx, .slice ar n cr]) (hp1 : rdS (hp w) (ps.map bk) ax n) (hq1 : rdS (hp w) (qs.map bk) ar n) (hx : rdS (hp w) xs a l) (hb : l * 8 ≤ 140737488355328) (hn : n ≤ 1000000) (hxI : ∀ x ∈ xs, -9223372036854775808 ≤ x ∧ x ≤ 9223372036854775807) :
    Run Tryd.prog n_presagelaw01_world_some [.pointer (some ⟨b, 0, none⟩), .slice a l c] w fun v w' => ∃ (ks : List Nat) (os rs : List (Option Addr)) (o1 o2 : Option Addr) (c1 c2 : Nat), ks.length = l ∧ os.length = l ∧ rs.length = l ∧
      v = .tuple #[.slice o1 l c1, .slice o2 l c2] ∧ (∀ k ∈ ks, k ≤ n) ∧ (∀ (j : Nat) (k : Nat), ks[j]? = some k → os[j]? = some ((ps.map bk)[k]?.getD none)) ∧ (∀ (j : Nat) (k : Nat), ks[j]? = some k → k < n → rs[j]? = (qs.map bk)[k]?) ∧
      St w' (own 1 o1 l c1 (pv os) :: own 1 o2 l c2 (pv rs) :: frA n ks rs :: all w) := by
  refine run_presagelaw01_world_some _ _ _ _ w _ ?_
  refine ⟨fun o1 l1 c1 o2 l2 c2 n1 w' => ∃ (j : Nat) (ks : List Nat) (os rs : List (Option Addr)), n1 = j ∧ j ≤ l ∧ j = l1 ∧ j = l2 ∧ ks.length = j ∧ os.length = j ∧ rs.length = j ∧ (∀ k ∈ ks, k ≤ n) ∧ (∀ (j : Nat) (k : Nat), ks[j]? = some k → os[j]? = some ((ps.map bk)[k]?.getD none)) ∧ (∀ (j : Nat) (k : Nat), ks[j]? = some k → k < n → rs[j]? = (qs.map bk)[k]?) ∧
      St w' (own 1 o1 j c1 (pv os) :: own 1 o2 j c2 (pv rs) :: frA n ks rs :: all w), fun _ _ _ _ _ _ n1 _ => l - n1.toNat,
    ⟨0, [], [], [], rfl, by omega, rfl, rfl, rfl, rfl, rfl, by simp, by simp, by simp, own_nil 1 (own_nil 1 ?_)⟩, ?_⟩
  · exact ⟨fun _ => none, hp w, fun _ => .inl rfl, fun _ _ h => (nomatch h), sub.refl _, fun j r h => by simp at h, St.all w⟩
  rintro _ o1 _ c1 o2 _ c2 n1 w1 ⟨j, ks, os, rs, rfl, hj, rfl, rfl, hks, hos, hrs, hk1, hk2, hk3, h⟩
  have hg : sub (hp w) (hp w1) := rdH 3 h.l
  have hl := hx.1
  refine br_intro (fun hlt => ?_) fun hlt => ?_
  · have hlt : j < l := by have := of_decide_eq_true hlt; omega
    intro w2 hd
    have h := h.drawn hd
    have hg : sub (hp w) (hp w2) := rdH 3 h.l
    obtain ⟨x, ad, hx1, rfl, hx2⟩ := hx.get1 hlt
    refine ⟨fun w' => sub (hp w) (hp w'), hg, idx_i rfl hlt ⟨x, fun w3 h3 => hx2 _ h3, ax, n, cx, fun w3 h3 => hc.cell0 h3, ⟨by omega, by omega⟩, (l_pick x (by omega) (hxI x (List.mem_of_getElem? hx1))).mono ?_⟩⟩
    rintro _ _ ⟨⟨k, rfl, hk⟩, rfl⟩
    have hk : k ≤ n := by omega
    refine ⟨_, rfl, hg, ax, n, cx, hc.cell0 hg, ?_⟩
    have fin : ∀ (o1' : Option Addr) (c1' : Nat) (o2' : Option Addr) (c2' : Nat) (ro : Option Addr) (w3 : World), (k < n → some ro = (qs.map bk)[k]?) →
        St w3 (own 1 o1' (j + 1) c1' (pv os ++ [.pointer ((ps.map bk)[k]?.getD none)]) :: own 1 o2' (j + 1) c2' (pv rs ++ [.pointer ro]) :: frA n (ks ++ [k]) (rs ++ [ro]) :: all w) →
        inI ((j : Int) + 1) ∧ (∃ (j' : Nat) (ks : List Nat) (os rs : List (Option Addr)), (j : Int) + 1 = j' ∧ j' ≤ l ∧ j' = j + 1 ∧ j' = j + 1 ∧ ks.length = j' ∧ os.length = j' ∧ rs.length = j' ∧ (∀ k ∈ ks, k ≤ n) ∧ (∀ (j : Nat) (k : Nat), ks[j]? = some k → os[j]? = some ((ps.map bk)[k]?.getD none)) ∧ (∀ (j : Nat) (k : Nat), ks[j]? = some k → k < n → rs[j]? = (qs.map bk)[k]?) ∧
          St w3 (own 1 o1' j' c1' (pv os) :: own 1 o2' j' c2' (pv rs) :: frA n ks rs :: all w)) ∧ l - ((j : Int) + 1).toNat < l - (j : Int).toNat := by
      intro o1' c1' o2' c2' ro w3 hro hs
      refine ⟨⟨by omega, by omega⟩, ⟨j + 1, ks ++ [k], os ++ [(ps.map bk)[k]?.getD none], rs ++ [ro], by simp, by omega, rfl, rfl, by simp [hks], by simp [hos], by simp [hrs], ?_, ?_, ?_, ?_⟩, msr hlt⟩
      · intro k' hk'
        rcases List.mem_append.1 hk' with hk' | hk'
        · exact hk1 k' hk'
        · simp at hk'; omega
      · intro i k' hi
        by_cases hij : i < j
        · rw [List.getElem?_append_left (by omega)] at hi ⊢
          exact hk2 i k' hi
        · have := (List.getElem?_eq_some_iff.1 hi).1
          have : i = j := by simp [hks] at this; omega
          subst this
          rw [List.getElem?_append_right (by omega), hks, Nat.sub_self] at hi
          cases hi
          rw [List.getElem?_append_right (by omega), hos, Nat.sub_self]; rfl
      · intro i k' hi hkn
        by_cases hij : i < j
        · rw [List.getElem?_append_left (by omega)] at hi ⊢
          exact hk3 i k' hi hkn
        · have := (List.getElem?_eq_some_iff.1 hi).1
          have : i = j := by simp [hks] at this; omega
          subst this
          rw [List.getElem?_append_right (by omega), hks, Nat.sub_self] at hi
          cases hi
          rw [List.getElem?_append_right (by omega), hrs, Nat.sub_self]
          exact hro hkn
      · have e1 : pv (os ++ [(ps.map bk)[k]?.getD none]) = pv os ++ [.pointer ((ps.map bk)[k]?.getD none)] := by simp [pv]
        have e2 : pv (rs ++ [ro]) = pv rs ++ [.pointer ro] := by simp [pv]
        rw [e1, e2]; exact hs
    refine br_intro (fun h3 => ?_) fun h3 => ?_
    · have h3 : k = n := by simp at h3; omega
      subst h3
      have hnone : (ps.map bk)[k]?.getD none = none := by rw [List.getElem?_eq_none (by rw [hp1.1]; omega)]; rfl
      rw [hnone] at fin
      refine newC_i h fun b1 w3 h => ?_
      refine (app_one tyOk (rfl : kdOfT Ty _ = .slice _) (rfl : kdOfT Ty _ = .slice _) rfl rfl rfl h rfl (by simp [oneC]) (by show (j + 1) * 8 ≤ _; omega) (by omega)).mono ?_
      rintro _ w4 ⟨a', c', rfl, h⟩
      refine ⟨_, _, _, rfl, newC_i h fun b2 w5 h => newC_i h fun b3 w6 h => ?_⟩
      refine (app_one tyOk (rfl : kdOfT Ty _ = .slice _) (rfl : kdOfT Ty _ = .slice _) rfl rfl rfl (h.pick 7 [0, 4, 1, 2, 5, 6]) rfl (by simp [oneC]) (by show (j + 1) * 8 ≤ _; omega) (by omega)).mono ?_
      rintro _ w7 ⟨a'', c'', rfl, h⟩
      refine ⟨_, _, _, rfl, fin _ _ _ _ (some ⟨b2, 0, none⟩) _ (fun h => by omega) ?_⟩
      have h1 : St w7 (refO (some ⟨b2, 0, none⟩) [] :: frA k ks rs :: own 1 a' (j + 1) c' (pv os ++ [.pointer none]) :: own 1 a'' (j + 1) c'' (pv rs ++ [.pointer (some ⟨b2, 0, none⟩)]) :: V.all w) :=
        refO_open.2 ⟨b2, none, 0, rfl, by simp, (own_nil 1 h).pick 7 [3, 0, 5, 4, 1, 6]⟩
      exact (St.merge h1 (C := frA k (ks ++ [k]) (rs ++ [some ⟨b2, 0, none⟩])) (fun h h1 h2 s1 s2 ha hb i r hr hk' => by
        by_cases hij : i < j
        · rw [List.getElem?_append_left (by omega)] at hr hk'
          exact (hb i r hr hk').mono s2
        · have := (List.getElem?_eq_some_iff.1 hr).1
          have : i = j := by simp [hrs] at this; omega
          subst this
          rw [List.getElem?_append_right (by omega), hrs, Nat.sub_self] at hr
          cases hr
          exact (refO_R ha).mono s1)).pick 4 [1, 2, 0, 3]
    · have h3 : k < n := by simp at h3; omega
      obtain ⟨o8, ad8, ho1, rfl, ho2⟩ := hp1.get1 h3
      have hsome : (ps.map bk)[k]?.getD none = o8 := by rw [ho1]; rfl
      rw [hsome] at fin
      obtain ⟨o9, ad9, hr1, rfl, hr2⟩ := hq1.get1 h3
      refine ⟨_, n, cx, hc.cell0 hg, idx_i rfl h3 ⟨o8, ho2 _ hg, newC_i h fun b1 w3 h => ?_⟩⟩
      refine (app_one tyOk (rfl : kdOfT Ty _ = .slice _) (rfl : kdOfT Ty _ = .slice _) rfl rfl rfl h rfl (by simp [oneC]) (by show (j + 1) * 8 ≤ _; omega) (by omega)).mono ?_
      rintro _ w4 ⟨a', c', rfl, h⟩
      have hg4 : sub (hp w) (hp w4) := rdH 4 h.l
      refine ⟨_, _, _, rfl, _, n, cr, hc.cell hg4 (j := 1) rfl, idx_i rfl h3 ⟨o9, hr2 _ hg4, newC_i h fun b3 w6 h => ?_⟩⟩
      refine (app_one tyOk (rfl : kdOfT Ty _ = .slice _) (rfl : kdOfT Ty _ = .slice _) rfl rfl rfl (h.pick 6 [0, 3, 1, 4, 5]) rfl (by simp [oneC]) (by show (j + 1) * 8 ≤ _; omega) (by omega)).mono ?_
      rintro _ w7 ⟨a'', c'', rfl, h⟩
      refine ⟨_, _, _, rfl, fin _ _ _ _ o9 _ (fun _ => hr1.symm) ?_⟩
      have h1 : St w7 (own 1 a' (j + 1) c' (pv os ++ [.pointer o8]) :: own 1 a'' (j + 1) c'' (pv rs ++ [.pointer o9]) :: frA n ks rs :: V.all w) := h.pick 5 [2, 0, 3, 4]
      refine (h1.pick 4 [2, 0, 1, 3]).head (fun h hf i r hr hk' => ?_) |>.pick 4 [1, 2, 0, 3]
      by_cases hij : i < j
      · rw [List.getElem?_append_left (by omega)] at hr hk'
        exact hf i r hr hk'
      · have := (List.getElem?_eq_some_iff.1 hr).1
        have : i = j := by simp [hrs] at this; omega
        subst this
        rw [List.getElem?_append_right (by omega), hks, Nat.sub_self] at hk'
        simp at hk'; omega
  · have hlt : j = l := by have := of_decide_eq_false hlt; omega
    subst hlt
    exact ⟨ks, os, rs, o1, o2, c1, c2, hks, hos, hrs, rfl, hk1, hk2, hk3, h⟩
end
end Go.Proofs.YtcipljcagejjaaaDoor
