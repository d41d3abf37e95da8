/- The document's sets: contracts. -/
import Derived.Test.YtcipljcagejjaaaDoorVSet2
import Derived.Test.YtcipljcagejjaaaDoorVLib
set_option linter.unusedVariables false
namespace Go.V
/- the document's set, owned; read -/
def refO (q : Option Addr) (bs : List Bool) : Asn := ex fun x : Nat × Option Addr × Nat => sta [pu (q = some ⟨x.1, 0, none⟩ ∧ bs.length ≤ 1024), cel x.1 [.slice x.2.1 bs.length x.2.2], own 1 x.2.1 bs.length x.2.2 (bv bs)]
def refR (h : Hp) (q : Option Addr) (bs : List Bool) : Prop := ∃ b a c, q = some ⟨b, 0, none⟩ ∧ bs.length ≤ 1024 ∧ rowH h ⟨b, 0, none⟩ [.slice a bs.length c] ∧ rdS h bs a bs.length
theorem refR.mono {h h' : Hp} {p : Option Addr} {bs : List Bool} (s : sub h h') (r : refR h p bs) : refR h' p bs := by
  obtain ⟨b, a, c, h1, h0, h2, h3⟩ := r
  exact ⟨b, a, c, h1, h0, h2.mono s, h3.mono s⟩
theorem refO_open {w : World} {L : List Asn} {q : Option Addr} {bs : List Bool} : St w (refO q bs :: L) ↔ ∃ b a c, q = some ⟨b, 0, none⟩ ∧ bs.length ≤ 1024 ∧ St w (cel b [.slice a bs.length c] :: own 1 a bs.length c (bv bs) :: L) := by
  unfold refO
  rw [St.ex]
  constructor
  · rintro ⟨⟨b, a, c⟩, h⟩
    have h := St.pu.1 (St.flat.1 h)
    exact ⟨b, a, c, h.1.1, h.1.2, h.2⟩
  · rintro ⟨b, a, c, h1, h2, h⟩
    exact ⟨⟨b, a, c⟩, St.flat.2 (St.pu.2 ⟨⟨h1, h2⟩, h⟩)⟩
theorem own_rdB {w : World} {L : List Asn} {a : Option Addr} {l c : Nat} {bs : List Bool} (h : St w (own 1 a l c (bv bs) :: L)) : rdS (hp w) bs a l := by
  have hl := own_len h
  obtain ⟨h1, s, ha⟩ := h.first
  exact (rdB_of (by simpa [bv] using hl) (own_rdVh ha)).mono s
theorem St.row {w : World} {L : List Asn} {b : Nat} {vs : List Value} (h : St w (cel b vs :: L)) : rowH (hp w) ⟨b, 0, none⟩ vs := by
  obtain ⟨h1, s, ha⟩ := h.first
  exact (cel_row ha).mono s
theorem St.refR {w : World} {L : List Asn} {q : Option Addr} {bs : List Bool} (h : St w (refO q bs :: L)) : refR (hp w) q bs := by
  obtain ⟨b, a, c, h1, h2, h3⟩ := refO_open.1 h
  exact ⟨b, a, c, h1, h2, h3.row, own_rdB h3.swap⟩
theorem refO_R {h : Hp} {q : Option Addr} {bs : List Bool} (ho : refO q bs h) : V.refR h q bs := by
  obtain ⟨⟨b, a, c⟩, g1, g2, d, s1, s2, ⟨h1, h2⟩, g3, g4, d2, s3, s4, h3, g5, g6, d3, s5, s6, h4, _⟩ := ho
  have hl : (bv bs).length = bs.length * 1 := by simp [bv]
  exact ⟨b, a, c, h1, h2, (cel_row h3).mono (s3.trans s2), (rdB_of rfl (own_rdVh h4)).mono (s5.trans (s4.trans s2))⟩
def lentL (xs : List Int) : List Int := xs ++ (List.range 8).map fun (k : Nat) => 7000 + (k : Int)
theorem lentL_len (xs : List Int) : (lentL xs).length = xs.length + 8 := by simp [lentL]
theorem lentL_lo {xs : List Int} {i : Nat} (h : i < xs.length) : (lentL xs)[i]? = xs[i]? := by simp [lentL, List.getElem?_append_left h]
theorem lentL_hi {xs : List Int} {i : Nat} (h : i < 8) : (lentL xs)[xs.length + i]? = some (7000 + (i : Int)) := by
  unfold lentL; rw [List.getElem?_append_right (by omega), Nat.add_sub_cancel_left]; simp [h]
theorem tmodB {c n : Int} (hc : 0 ≤ c) (hn : 0 < n) : 0 ≤ c.tmod n ∧ c.tmod n < n := by
  rw [Int.tmod_eq_emod_of_nonneg hc]
  exact ⟨Int.emod_nonneg _ (by omega), Int.emod_lt_of_pos _ hn⟩
theorem cnt_le_of {n j : Nat} (m : Nat → Bool) (h : j ≤ n) : cnt j m ≤ n := Nat.le_trans (cnt_le j m) h
theorem membs_succ (j : Nat) (m : Nat → Bool) : membs (j + 1) m = membs j m ++ if m j then [j] else [] := by
  unfold membs; rw [List.range_succ, List.filter_append]; congr 1; cases h : m j <;> simp [h]
theorem own_set1 {w w' : World} {L : List Asn} {sz l c j : Nat} {a : Option Addr} {ad : Addr} {v : Value} {vs : List Value} {k : World → Prop} (h : St w (own sz a l c vs :: L)) (ha : a = some ad) (hj : j < vs.length)
    (hk : ∀ w', St w' (own sz a l c (vs.set j v) :: L) → k w') (hv : oneC v = true := by rfl) : st1 w (ad.add j) v k := own_st1 h ha hj hk hv
theorem bv_set (bs : List Bool) (j : Nat) (b : Bool) : (bv bs).set j (.bool b) = bv (bs.set j b) := by simp [bv]
theorem fnB_set {bs : List Bool} {j : Nat} (h : j < bs.length) (b : Bool) (k : Nat) : fnB (bs.set j b) k = if k = j then b else fnB bs k := by
  unfold fnB
  rw [List.getD_eq_getElem?_getD, List.getElem?_set]
  by_cases e : k = j
  · subst e; simp [h]
  · rw [if_neg (fun h => e h.symm), if_neg e, List.getD_eq_getElem?_getD]
theorem addB_step {bs : List Bool} {xs : List Int} {j : Nat} {x : Nat} (h : xs[j]? = some (x : Int)) (hx : x < bs.length) : addB bs (xs.take (j + 1)) = (addB bs (xs.take j)).set x true := by
  refine fnB_inj (by simp [addB_len]) fun k => ?_
  rw [fnB_set (by rw [addB_len]; exact hx), fnB_add, fnB_add, addS_step h hx]
  by_cases e : k = x <;> simp [e]
theorem addB_skip {bs : List Bool} {xs : List Int} {j : Nat} {x : Int} (h : xs[j]? = some x) (hx : ∀ k : Nat, k < bs.length → (k : Int) = x → fnB (addB bs (xs.take j)) k = true) : addB bs (xs.take (j + 1)) = addB bs (xs.take j) := by
  refine fnB_inj (by simp [addB_len]) fun k => ?_
  rw [fnB_add, fnB_add, addS_skip h]
  intro k h1 h2
  have := hx k h1 h2
  rwa [fnB_add] at this
theorem addB_nil (bs : List Bool) : addB bs [] = bs := fnB_inj (addB_len _ _) fun k => by rw [fnB_add, addS_nil]
theorem dropB_nil (bs : List Bool) : dropB bs [] = bs := fnB_inj (dropB_len _ _) fun k => by rw [fnB_drop, dropS_nil]
theorem dropB_step {bs : List Bool} {xs : List Int} {j : Nat} {x : Nat} (h : xs[j]? = some (x : Int)) (hx : x < bs.length) : dropB bs (xs.take (j + 1)) = (dropB bs (xs.take j)).set x false := by
  refine fnB_inj (by simp [dropB_len]) fun k => ?_
  rw [fnB_set (by rw [dropB_len]; exact hx), fnB_drop, fnB_drop, dropS_step h]
  by_cases e : k = x <;> simp [e]
theorem dropB_skip {bs : List Bool} {xs : List Int} {j : Nat} {x : Int} (h : xs[j]? = some x) (hx : hasB (dropB bs (xs.take j)) x = false) : dropB bs (xs.take (j + 1)) = dropB bs (xs.take j) := by
  refine fnB_inj (by simp [dropB_len]) fun k => ?_
  rw [fnB_drop, fnB_drop, dropS_skip h]
  rintro k rfl
  rw [← fnB_drop]
  simpa [hasB] using hx
theorem cntB_set_true {bs : List Bool} {x : Nat} (hx : x < bs.length) (hf : fnB bs x = false) : cntB (bs.set x true) = cntB bs + 1 := by
  unfold cntB
  rw [List.length_set, ← cnt_add hx hf]
  refine cnt_congr fun k _ => ?_
  rw [fnB_set hx]
  by_cases e : k = x <;> simp [e]
theorem cntB_set_false {bs : List Bool} {x : Nat} (hx : x < bs.length) (hf : fnB bs x = true) : cntB (bs.set x false) + 1 = cntB bs := by
  unfold cntB
  rw [List.length_set, ← cnt_drop hx hf]
  congr 1
  refine cnt_congr fun k _ => ?_
  rw [fnB_set hx]
  by_cases e : k = x <;> simp [e]
theorem hasB_lt {bs : List Bool} {x : Int} (h : hasB bs x = true) : ∃ k : Nat, x = k ∧ k < bs.length ∧ fnB bs k = true := by
  simp only [hasB, Bool.and_eq_true, decide_eq_true_eq] at h
  refine ⟨x.toNat, by omega, Nat.lt_of_not_le fun hl => ?_, h.2⟩
  rw [fnB_out hl] at h; cases h.2
theorem hasB_nat (bs : List Bool) (k : Nat) : hasB bs (k : Int) = fnB bs k := by simp [hasB]
end Go.V
namespace Go.Proofs.YtcipljcagejjaaaDoor
open Go.V
section
variable {w : World} {L : List Asn} {a a2 : Option Addr} {l c l2 c2 : Nat} {p q : Option Addr} {bs cs : List Bool} {xs ys : List Int} {os : List (Option Addr)} {vss : List (List Bool)}
theorem r_Ints (hx : rdS (hp w) xs a l) (hy : rdS (hp w) ys a2 l2) (hb : l ≤ 4611686018427387904) :
    Run Tryd.prog n_presageref01_Ints [.slice a l c, .slice a2 l2 c2] w fun v w' => v = .bool (decide (xs = ys)) ∧ hp w' = hp w := by
  refine run_presageref01_Ints _ _ _ _ _ _ w _ ?_
  have hl := hx.1
  have hl2 := hy.1
  refine br_intro (fun h0 => ?_) fun h0 => ?_
  · have h0 : l ≠ l2 := natNe h0
    exact ⟨by rw [decide_eq_false fun e => h0 (by rw [← hl, ← hl2, e])], rfl⟩
  · have h0 : l = l2 := natEq' h0
    subst h0
    refine ⟨fun n1 w' => ∃ j : Nat, n1 = j ∧ j ≤ l ∧ xs.take j = ys.take j ∧ hp w' = hp w, fun n1 _ => l - n1.toNat, ⟨0, rfl, by omega, by simp, rfl⟩, ?_⟩
    rintro _ n1 w1 ⟨j, rfl, hj, hpre, hw⟩
    refine br_intro (fun h1 => ?_) fun h1 => ?_
    · have h1 : j < l := by have := of_decide_eq_true h1; omega
      intro w2 hd
      have hw2 : hp w2 = hp w := (hp_drawn hd).trans hw
      obtain ⟨x, ad, hx1, rfl, hx2⟩ := hx.get1 h1
      obtain ⟨y, ad2, hy1, rfl, hy2⟩ := hy.get1 h1
      refine ⟨fun w3 => hp w3 = hp w, hw2, idx_i rfl h1 ⟨x, fun w3 h3 => hx2 _ (hp_sub h3), idx_i rfl h1 ⟨y, fun w3 h3 => hy2 _ (hp_sub h3), ?_⟩⟩⟩
      refine br_intro (fun h2 => ?_) fun h2 => ?_
      · have h2 : x ≠ y := by simpa using h2
        refine ⟨?_, hw2⟩
        rw [decide_eq_false fun e => ?_]
        subst e
        rw [hx1] at hy1; cases hy1; exact h2 rfl
      · have h2 : x = y := by simpa using h2
        subst h2
        refine ⟨⟨by omega, by omega⟩, ⟨j + 1, by simp, by omega, ?_, hw2⟩, msr h1⟩
        rw [take_succ_get hx1, take_succ_get hy1, hpre]
    · have h1 : j = l := by have := of_decide_eq_false h1; omega
      subst h1
      have e1 : xs.take j = xs := List.take_of_length_le (by omega)
      have e2 : ys.take j = ys := List.take_of_length_le (by omega)
      rw [e1, e2] at hpre
      exact ⟨by simp [hpre], hw⟩
theorem r_Count (h : refR (hp w) q bs) : Run Tryd.prog n_presageref01_Set_Count [.pointer q] w fun v w' => v = .int .i64 (cntB bs : Int) ∧ w' = w := by
  refine run_presageref01_Set_Count _ w _ ?_
  obtain ⟨b, a, c, rfl, hle, h1, h2⟩ := h
  refine ⟨fun n1 n2 w' => ∃ j : Nat, n2 = j ∧ j ≤ bs.length ∧ n1 = (cnt j (fnB bs) : Int) ∧ w' = w, fun _ n2 _ => bs.length - n2.toNat, ⟨0, rfl, by omega, by simp [cnt], rfl⟩, ?_⟩
  rintro _ n1 n2 _ ⟨j, rfl, hj, rfl, rfl⟩
  have hc := h1.cell0 (sub.refl _)
  refine ⟨a, bs.length, c, hc, br_intro (fun h0 => ?_) fun h0 => ?_⟩
  · have h0 : j < bs.length := by have := of_decide_eq_true h0; omega
    refine ⟨a, bs.length, c, hc, ?_⟩
    obtain ⟨x, ad, hx1, rfl, hx2⟩ := h2.get1 h0
    have hcl := cnt_le_of (fnB bs) hj
    have hs := cnt_succ j (fnB bs)
    rw [fnB_get hx1] at hs
    refine idx_i rfl h0 ⟨x, hx2 _ (sub.refl _), br_intro (fun h3 => ?_) fun h3 => ?_⟩
    · subst h3
      exact ⟨⟨by omega, by omega⟩, ⟨by omega, by omega⟩, ⟨j + 1, by simp, by omega, by rw [hs]; simp, rfl⟩, msr h0⟩
    · subst h3
      exact ⟨⟨by omega, by omega⟩, ⟨j + 1, by simp, by omega, by rw [hs]; simp, rfl⟩, msr h0⟩
  · have h0 : j = bs.length := by have := of_decide_eq_false h0; omega
    subst h0
    exact ⟨rfl, rfl⟩
theorem r_Has (h : refR (hp w) q bs) (k : Int) : Run Tryd.prog n_presageref01_Set_Has [.pointer q, .int .i64 k] w fun v w' => v = .bool (hasB bs k) ∧ w' = w := by
  refine run_presageref01_Set_Has _ _ w _ ?_
  obtain ⟨b, a, c, rfl, hle, h1, h2⟩ := h
  have hc := h1.cell0 (sub.refl _)
  refine br_intro (fun h0 => ?_) fun h0 => ?_
  · refine ⟨a, bs.length, c, hc, br_intro (fun h3 => ?_) fun h3 => ?_⟩
    · have h0 := of_decide_eq_true h0
      have h3 := of_decide_eq_true h3
      obtain ⟨j, rfl⟩ := Int.eq_ofNat_of_zero_le h0
      have h4 : j < bs.length := by omega
      obtain ⟨x, ad, hx1, rfl, hx2⟩ := h2.get1 h4
      refine ⟨_, bs.length, c, hc, idx_i rfl h4 ⟨x, hx2 _ (sub.refl _), ?_, rfl⟩⟩
      rw [hasB_nat, fnB_get hx1]
    · have h3 := of_decide_eq_false h3
      refine ⟨?_, rfl⟩
      unfold hasB
      rw [fnB_out (k := k.toNat) (by omega)]; simp
  · exact ⟨by unfold hasB; rw [h0]; rfl, rfl⟩
theorem r_Members (h : refR (hp w) q bs) : Run Tryd.prog n_presageref01_Set_Members [.pointer q] w fun v w' => ∃ a c, v = .slice a (cntB bs) c ∧ St w' (own 1 a (cntB bs) c (iv (mbI bs)) :: all w) := by
  refine run_presageref01_Set_Members _ w _ ?_
  obtain ⟨b, a, c, rfl, hle, h1, h2⟩ := h
  refine ⟨fun o k1 k2 n1 w' => ∃ j : Nat, n1 = j ∧ j ≤ bs.length ∧ k1 = cnt j (fnB bs) ∧ St w' (own 1 o k1 k2 (ivn (membs j (fnB bs))) :: all w), fun _ _ _ n1 _ => bs.length - n1.toNat, ⟨0, rfl, by omega, rfl, own_nil 1 (St.all w)⟩, ?_⟩
  rintro _ o k1 k2 n1 w1 ⟨j, rfl, hj, rfl, hs⟩
  have hg := hs.gone1
  have hc := h1.cell0 hg
  refine ⟨a, bs.length, c, hc, br_intro (fun h0 => ?_) fun h0 => ?_⟩
  · have h0 : j < bs.length := by have := of_decide_eq_true h0; omega
    refine ⟨a, bs.length, c, hc, ?_⟩
    obtain ⟨x, ad, hx1, rfl, hx2⟩ := h2.get1 h0
    have hcl := cnt_le_of (fnB bs) hj
    have hs1 := cnt_succ j (fnB bs)
    have hm1 := membs_succ j (fnB bs)
    rw [fnB_get hx1] at hs1 hm1
    refine idx_i rfl h0 ⟨x, hx2 _ hg, br_intro (fun h3 => ?_) fun h3 => ?_⟩
    · subst h3
      refine newC_i hs fun b2 w2 hs2 => ?_
      refine (app_one tyOk (rfl : kdOfT Ty _ = .slice _) (rfl : kdOfT Ty _ = .slice _) rfl rfl rfl hs2 rfl (by simp [oneC]) (by show (cnt j (fnB bs) + 1) * 8 ≤ _; omega) (by omega)).mono ?_
      rintro _ w3 ⟨a', c', rfl, hs3⟩
      refine ⟨_, _, _, rfl, ⟨by omega, by omega⟩, ⟨j + 1, by simp, by omega, by rw [hs1]; simp, ?_⟩, msr h0⟩
      have e : ivn (membs (j + 1) (fnB bs)) = ivn (membs j (fnB bs)) ++ [.int .i64 (j : Int)] := by rw [hm1]; simp [ivn]
      rw [e]
      exact hs3.pick 3 [0, 2]
    · subst h3
      refine ⟨⟨by omega, by omega⟩, ⟨j + 1, by simp, by omega, by rw [hs1]; simp, ?_⟩, msr h0⟩
      rw [hm1]
      simpa using hs
  · have h0 : j = bs.length := by have := of_decide_eq_false h0; omega
    subst h0
    rw [iv_mbI]
    exact ⟨o, k2, rfl, hs⟩
theorem r_Add (h : St w (refO q bs :: L)) (hx : ∀ h, starL L h → rdS h xs a l) (hb : l ≤ 4611686018427387904) :
    Run Tryd.prog n_presageref01_Set_Add [.pointer q, .slice a l c] w fun v w' => v = .int .i64 ((cntB (addB bs xs) : Int) - cntB bs) ∧ St w' (refO q (addB bs xs) :: L) := by
  obtain ⟨h0, hl, _, h1⟩ := h.freeze
  have hx := hx h0 hl
  have done : ∀ w' bs, St w' (refO q bs :: [has h0]) → St w' (refO q bs :: L) := fun w' _ h => h.on1 hl
  clear h hl
  refine run_presageref01_Set_Add _ _ _ _ w _ ?_
  refine ⟨fun n1 n2 w => ∃ j : Nat, n2 = j ∧ j ≤ l ∧ n1 = (cntB (addB bs (xs.take j)) : Int) - cntB bs ∧ St w [refO q (addB bs (xs.take j)), has h0],
    fun _ n2 _ => l - n2.toNat, ⟨0, rfl, by omega, by simp [addB_nil], by simpa [addB_nil] using h1⟩, ?_⟩
  rintro _ n1 n2 w1 ⟨j, rfl, hj, hn1, hs⟩
  refine br_intro (fun hlt => ?_) fun hlt => ?_
  · have hlt : j < l := by have := of_decide_eq_true hlt; omega
    have hg := hs.gone1
    obtain ⟨x, ad, hx1, rfl, hx2⟩ := hx.get1 hlt
    have mI : inI ((j : Int) + 1) := ⟨by omega, by omega⟩
    obtain ⟨b2, a2, c2, rfl, hle, hs2⟩ := refO_open.1 hs
    have hlen := addB_len bs (xs.take j)
    have hcl := cntB_le (addB bs (xs.take j))
    have hcl0 := cntB_le bs
    have hc2 := hs2.cell 0
    have skip : (∀ k : Nat, k < bs.length → (k : Int) = x → fnB (addB bs (xs.take j)) k = true) → inI ((j : Int) + 1) ∧
        (∃ j' : Nat, (j : Int) + 1 = j' ∧ j' ≤ l ∧ n1 = (cntB (addB bs (xs.take j')) : Int) - cntB bs ∧ St w1 [refO (some ⟨b2, 0, none⟩) (addB bs (xs.take j')), has h0]) ∧ l - ((j : Int) + 1).toNat < l - (j : Int).toNat := by
      intro hx'
      refine ⟨mI, ⟨j + 1, by simp, by omega, ?_, ?_⟩, msr hlt⟩
      · rw [addB_skip hx1 hx']; exact hn1
      · rw [addB_skip hx1 hx']; exact hs
    refine idx_i rfl hlt ⟨x, hx2 _ hg, br_intro (fun h3 => ?_) fun h3 => ?_⟩
    · have h3 := of_decide_eq_true h3
      obtain ⟨x, rfl⟩ := Int.eq_ofNat_of_zero_le h3
      refine ⟨a2, _, c2, hc2, br_intro (fun h4 => ?_) fun h4 => ?_⟩
      · have h4 : x < (addB bs (xs.take j)).length := by have := of_decide_eq_true h4; omega
        refine ⟨a2, _, c2, hc2, ?_⟩
        obtain ⟨y, ad2, hy1, rfl, hy2⟩ := (own_rdB hs2.swap).get1 h4
        refine idx_i rfl h4 ⟨y, hy2 _ (sub.refl _), br_intro (fun h5 => ?_) fun h5 => ?_⟩
        · refine ⟨_, _, c2, hc2, idx_i rfl h4 ?_⟩
          refine own_st1 hs2.swap rfl (by rw [bv_len]; exact h4) fun w2 hs3 => ?_
          rw [bv_set] at hs3
          have hf : fnB (addB bs (xs.take j)) x = false := by rw [fnB_get hy1]; simpa using h5
          have hst := addB_step hx1 (by omega : x < bs.length)
          have hcs := cntB_set_true h4 hf
          rw [← hst] at hs3 hcs
          refine ⟨⟨by omega, by omega⟩, mI, ⟨j + 1, by simp, by omega, by omega, ?_⟩, msr hlt⟩
          have hlen' := addB_len bs (xs.take (j + 1))
          refine refO_open.2 ⟨b2, some ad2, c2, rfl, by omega, ?_⟩
          rw [hlen] at hs3
          rw [hlen']
          exact hs3.swap
        · refine skip fun k hk he => ?_
          have : k = x := by omega
          subst this
          rw [fnB_get hy1]; simpa using h5
      · refine skip fun k hk he => ?_
        have := of_decide_eq_false h4; omega
    · refine skip fun k hk he => ?_
      have := of_decide_eq_false h3; omega
  · have hlt : j = l := by have := of_decide_eq_false hlt; omega
    subst hlt
    rw [← hx.1, List.take_length] at hs hn1
    exact ⟨by rw [hn1], done _ _ hs⟩
theorem r_Drop (h : St w (refO q bs :: L)) (hx : ∀ h, starL L h → rdS h xs a l) (hb : l ≤ 4611686018427387904) :
    Run Tryd.prog n_presageref01_Set_Drop [.pointer q, .slice a l c] w fun v w' => v = .int .i64 ((cntB bs : Int) - cntB (dropB bs xs)) ∧ St w' (refO q (dropB bs xs) :: L) := by
  obtain ⟨h0, hl, _, h1⟩ := h.freeze
  have hx := hx h0 hl
  have done : ∀ w' bs, St w' (refO q bs :: [has h0]) → St w' (refO q bs :: L) := fun w' _ h => h.on1 hl
  clear h hl
  refine run_presageref01_Set_Drop _ _ _ _ w _ ?_
  refine ⟨fun n1 n2 w => ∃ j : Nat, n2 = j ∧ j ≤ l ∧ n1 = (cntB bs : Int) - cntB (dropB bs (xs.take j)) ∧ St w [refO q (dropB bs (xs.take j)), has h0],
    fun _ n2 _ => l - n2.toNat, ⟨0, rfl, by omega, by simp [dropB_nil], by simpa [dropB_nil] using h1⟩, ?_⟩
  rintro _ n1 n2 w1 ⟨j, rfl, hj, hn1, hs⟩
  refine br_intro (fun hlt => ?_) fun hlt => ?_
  · have hlt : j < l := by have := of_decide_eq_true hlt; omega
    have hg := hs.gone1
    obtain ⟨x, ad, hx1, rfl, hx2⟩ := hx.get1 hlt
    have mI : inI ((j : Int) + 1) := ⟨by omega, by omega⟩
    have hlen := dropB_len bs (xs.take j)
    have hcl := cntB_le (dropB bs (xs.take j))
    have hcl0 := cntB_le bs
    refine idx_i rfl hlt ⟨x, hx2 _ hg, ?_⟩
    refine (r_Has hs.refR x).mono ?_
    rintro _ _ ⟨rfl, rfl⟩
    refine ⟨_, rfl, br_intro (fun h3 => ?_) fun h3 => ?_⟩
    · obtain ⟨x, rfl, h4, h5⟩ := hasB_lt h3
      intro w2 hd
      have hs' := hs.drawn hd
      obtain ⟨b2, a2, c2, rfl, hle, hs2⟩ := refO_open.1 hs'
      have hw2 : ∀ w3, hp w3 = hp w2 → sub h0 (hp w3) := fun w3 h => by rw [h]; exact hs'.gone1
      obtain ⟨y, ad2, hy1, rfl, hy2⟩ := (own_rdB hs2.swap).get1 h4
      refine ⟨fun w3 => hp w3 = hp w2, rfl, _, _, c2, fun w3 h3 => (hs2.eq h3).cell 0, idx_i rfl hlt ⟨x, fun w3 h3 => hx2 _ (hw2 _ h3), idx_i rfl h4 ?_⟩⟩
      refine own_st1 hs2.swap rfl (by rw [bv_len]; exact h4) fun w2 hs3 => ?_
      rw [bv_set] at hs3
      have hst := dropB_step hx1 (by omega : x < bs.length)
      have hcs := cntB_set_false h4 h5
      rw [← hst] at hs3 hcs
      refine ⟨⟨by omega, by omega⟩, mI, ⟨j + 1, by simp, by omega, by omega, ?_⟩, msr hlt⟩
      have hlen' := dropB_len bs (xs.take (j + 1))
      refine refO_open.2 ⟨b2, some ad2, c2, rfl, by omega, ?_⟩
      rw [hlen] at hs3
      rw [hlen']
      exact hs3.swap
    · refine ⟨mI, ⟨j + 1, by simp, by omega, ?_, ?_⟩, msr hlt⟩
      · rw [dropB_skip hx1 h3]; exact hn1
      · rw [dropB_skip hx1 h3]; exact hs
  · have hlt : j = l := by have := of_decide_eq_false hlt; omega
    subst hlt
    rw [← hx.1, List.take_length] at hs hn1
    exact ⟨by rw [hn1], done _ _ hs⟩
theorem r_Of (size : Int) (hx : rdS (hp w) xs a l) (hb : l ≤ 4611686018427387904) :
    Run Tryd.prog n_presageref01_Of [.int .i64 size, .slice a l c] w fun v w' => ∃ b, v = .pointer (some ⟨b, 0, none⟩) ∧ St w' (refO (some ⟨b, 0, none⟩) (ofB size xs) :: all w) := by
  refine run_presageref01_Of _ _ _ _ w _ ?_
  unfold vc_presageref01_Of
  rw [ofN_eq]
  have hle := ofN_le size
  unfold ofB
  generalize ofN size = N at *
  refine ⟨⟨by omega, rfl, by omega⟩, ?_⟩
  rw [Int.toNat_natCast, reps_one]
  refine newC_i (St.all w) fun b1 w1 h1 => newC_i h1 fun b2 w2 h2 => ?_
  have hg : sub (hp w) (hp w2) := h2.gone2
  have h3 : St w2 (refO (some ⟨b2, 0, none⟩) (List.replicate N false) :: all w) := by
    refine refO_open.2 ⟨b2, some ⟨b1, 0, none⟩, N, rfl, by simpa using hle, ?_⟩
    rw [List.length_replicate]
    refine St.swap (own_some (cs := []) ?_ ?_ ?_ (Nat.le_refl _))
    · rw [List.append_nil]
      have : bv (List.replicate N false) = List.replicate N (.bool false) := by simp [bv]
      rw [this]; exact h2.swap
    · simp [bv]
    · simp [bv]
  refine (r_Add h3 (fun h hh => hx.mono (starL_has hh)) hb).mono ?_
  rintro _ w3 ⟨rfl, h4⟩
  exact ⟨_, rfl, b2, rfl, h4⟩
end
end Go.Proofs.YtcipljcagejjaaaDoor
