/- Sets of small numbers: unions; what sets have in common. -/
import Derived.Test.YtcipljcagejjaaaDoorVSet
set_option linter.unusedVariables false
namespace Go.V
theorem addB_self {bs cs : List Bool} (h : ∀ k, fnB cs k = true → fnB bs k = true) : addB bs (mbI cs) = bs := by
  refine fnB_inj (addB_len _ _) fun k => ?_
  rw [fnB_add_mb]
  cases hk : fnB cs k
  · simp
  · simp [h k hk]
theorem fnB_union_sub (bs : List Bool) (vss : List (List Bool)) (k : Nat) (h : fnB bs k = true) : fnB (unionB bs vss) k = true := by
  rw [fnB_union, h]; rfl
theorem cntB_union (vss : List (List Bool)) : ∀ bs, cntB bs ≤ cntB (unionB bs vss) := by
  induction vss with
  | nil => exact fun _ => Nat.le_refl _
  | cons v l ih => exact fun bs => Nat.le_trans (cntB_add bs (mbI v)) (ih _)
theorem ivm_get {ks : List Nat} {i : Nat} {us : List Value} (h : (ivm ks)[i]? = some us) : ∃ k, ks[i]? = some k ∧ us = [.int .i64 (k : Int)] := by
  unfold ivm at h
  rw [List.getElem?_map] at h
  cases hk : ks[i]? with
  | none => rw [hk] at h; cases h
  | some k => rw [hk] at h; cases h; exact ⟨k, rfl, rfl⟩
theorem ivm_len (ks : List Nat) : (ivm ks).length = ks.length := by simp [ivm]
theorem mbI_get {bs : List Bool} {i k : Nat} (h : (mb bs)[i]? = some k) : (mbI bs)[i]? = some (k : Int) := by simp [mbI, h]
theorem starL_in {L : List Asn} {A : Asn} : ∀ {h : Hp}, A ∈ L → starL L h → ∃ h1, sub h1 h ∧ A h1 := by
  induction L with
  | nil => intro h hm; simp at hm
  | cons B L ih =>
    rintro h hm ⟨h1, h2, d, s1, s2, ha, hl⟩
    rcases List.mem_cons.1 hm with rfl | hm
    · exact ⟨h1, s1, ha⟩
    · obtain ⟨h3, s3, h4⟩ := ih hm hl
      exact ⟨h3, s3.trans s2, h4⟩
end Go.V
namespace Go.Proofs.YtcipljcagejjaaaDoor
open Go.V
section
variable {w : World} {L : List Asn} {a : Option Addr} {l c : Nat} {p q : Option Addr} {bs cs : List Bool} {xs : List Int} {os : List (Option Addr)} {vss : List (List Bool)}
theorem s_Union (h : St w (setO p bs :: L)) (hx : ∀ h, starL L h → rdS h os a l) (hv : vss.length = os.length) (ho : ∀ h, starL L h → ∀ (i : Nat) q v, os[i]? = some q → vss[i]? = some v → setR h q v ∨ (q = p ∧ v = bs))
    (ht : ∀ h, starL L h → tabA h) (hb : l ≤ 4611686018427387904) :
    Run Tryd.prog n_bits_Set_Union [.pointer p, .slice a l c] w fun v w' => v = .int .i64 ((cntB (unionB bs vss) : Int) - cntB bs) ∧ St w' (setO p (unionB bs vss) :: L) := by
  obtain ⟨h0, hl, _, h1⟩ := h.freeze
  have hx := hx h0 hl
  have ho := ho h0 hl
  have ht : tabA h0 := ht h0 hl
  have hn := h.setR.le
  have done : ∀ w', St w' (setO p (unionB bs vss) :: [has h0]) → St w' (setO p (unionB bs vss) :: L) := fun w' h => h.on1 hl
  clear h hl
  refine run_bits_Set_Union _ _ _ _ w _ ?_
  refine newC_i h1 fun b1 w1 h1 => newC_i h1 fun b2 w2 h1 => st1_i h1 (by simp) fun w3 h1 => ?_
  have cb : ∀ j, cntB (unionB bs (vss.take j)) ≤ 1024 := fun j => by
    have := cntB_le (unionB bs (vss.take j)); rw [unionB_len] at this; omega
  refine ⟨fun n1 w => ∃ j : Nat, n1 = j ∧ j ≤ l ∧ St w [cel b2 [.int .i64 ((cntB (unionB bs (vss.take j)) : Int) - cntB bs)], cel b1 [.pointer p], setO p (unionB bs (vss.take j)), has h0], fun n1 _ => l - n1.toNat,
    ⟨0, rfl, by omega, ?_⟩, ?_⟩
  · show St w3 [cel b2 [.int .i64 ((cntB bs : Int) - cntB bs)], _, _, _]
    rw [Int.sub_self]; exact h1
  rintro _ n1 w4 ⟨j, rfl, hj, hs⟩
  refine br_intro (fun hlt => ?_) fun hlt => ?_
  · have hlt : j < l := by have := of_decide_eq_true hlt; omega
    obtain ⟨q, ad, hq, rfl, hc⟩ := hx.get1 hlt
    have hs0 : sub h0 (hp w4) := (hs.pick 4 [3]).has
    refine idx_i rfl hlt ⟨q, hc _ hs0, ?_⟩
    obtain ⟨v, hvj⟩ : ∃ v, vss[j]? = some v := ⟨vss[j]'(by rw [hv, hx.1]; omega), List.getElem?_eq_getElem _⟩
    have hU := unionB_take (bs := bs) hvj
    have hlenU : (unionB bs (vss.take j)).length = bs.length := unionB_len _ _
    have cbj := cb j
    have cbj1 := cb (j + 1)
    have c0 := cntB_union (vss.take j) bs
    have c1 := cntB_add (unionB bs (vss.take j)) (mbI v)
    rw [← hU] at c1
    obtain ⟨v', hr', he'⟩ : ∃ v', setR (hp w4) q v' ∧ addB (unionB bs (vss.take j)) (mbI v') = unionB bs (vss.take (j + 1)) := by
      rcases ho j q v hq hvj with hr | ⟨rfl, rfl⟩
      · exact ⟨v, hr.mono hs0, hU.symm⟩
      · refine ⟨unionB v (vss.take j), (hs.pick 4 [2]).setR, ?_⟩
        rw [hU, addB_self fun _ h => h, addB_self fun k hk => fnB_union_sub _ _ _ hk]
    rw [← he'] at c1 cbj1
    generalize hU0 : unionB bs (vss.take j) = U at *
    refine (s_All hr').mono ?_
    rintro _ w5 ⟨b3, rfl, h5⟩
    have h6 := h5.on1 hs
    refine ⟨_, _, rfl, ifT_iff.2 ⟨rfl, ?_⟩⟩
    refine ⟨ivm (mb v'), itD b3 v'.length (fnB v'), tabA, fun i => sta [cel b2 [.int .i64 ((cntB (addB U ((mbI v').take i)) : Int) - cntB bs)], cel b1 [.pointer p], setO p (addB U ((mbI v').take i))], pu False, fun _ => pu False, [has h0], ?_, (fun h hh => rdV.mono (starL_has hh) ht), c_All_itr, ?_, ?_, ?_, ?_, trivial⟩
    · have h7 := h6.pick 5 [1, 2, 3, 0, 4]
      have e : addB U [] = U := fnB_inj (addB_len _ _) fun k => by rw [fnB_add]; simp [addS]
      show St w5 [sta [cel b2 [.int .i64 ((cntB (addB U []) : Int) - cntB bs)], _, setO p (addB U [])], _, _]
      rw [e]
      exact (St.flat.2 (show St w5 ([_, _, _] ++ [_, _]) from h7))
    · intro x hx
      obtain ⟨i, hi, rfl⟩ := List.mem_iff_getElem.1 hx
      obtain ⟨k, _, e⟩ := ivm_get (List.getElem?_eq_getElem hi)
      exact ⟨_, e⟩
    · intro i x hx L' w6 _ hs6
      obtain ⟨k, hk, e⟩ := ivm_get hx
      cases e
      refine ⟨_, hs6, fun L'' w7 _ hs7 w8 hd => ?_⟩
      have hs8 := St.flat.1 (hs7.drawn hd)
      refine ⟨fun w => w.cell? ⟨b2, 0, none⟩ = some (.int .i64 ((cntB (addB U ((mbI v').take i)) : Int) - cntB bs)) ∧ w.cell? ⟨b1, 0, none⟩ = some (.pointer p), ⟨hs8.cell 0, hs8.swap.cell 0⟩, _, fun w h => h.1, _, fun w h => h.2, ?_⟩
      refine newC_i hs8 fun b4 w9 h9 => ⟨⟨h9.swap.cell 0, h9.rot3.cell 0⟩, ?_⟩
      refine (s_Add (xs := [(k : Int)]) (l := 1) (h9.pick 4 [3, 0, 1, 2]) (fun h hh => ?_) (by omega)).mono ?_
      · obtain ⟨h1, _, _, s1, _, ⟨e, he⟩, _⟩ := hh
        exact (rdI_of (xs := [(k : Int)]) rfl (.inr ⟨_, rfl, cel_row ⟨e, he⟩⟩)).mono s1
      · rintro _ w10 ⟨rfl, h10⟩
        rw [addB_take (mbI_get hk)] at h10 ⊢
        have k1 := cntB_add U ((mbI v').take i)
        have k2 := cntB_le (addB U ((mbI v').take i))
        have k3 := cntB_le (addB U ((mbI v').take (i + 1)))
        rw [addB_len] at k2 k3
        refine ⟨_, rfl, ⟨(h10.pick 4 [2]).cell 0, (h10.pick 4 [3]).cell 0⟩, ⟨by omega, by omega⟩, ?_⟩
        refine st1_i (h10.pick 4 [2, 3, 0]) (by simp) fun w11 h11 => St.flat.2 ?_
        have e : ((cntB (addB U ((mbI v').take i)) : Int) - cntB bs + ((cntB (addB U ((mbI v').take (i + 1))) : Int) - cntB (addB U ((mbI v').take i)))) = (cntB (addB U ((mbI v').take (i + 1))) : Int) - cntB bs := by omega
        rw [e] at h11
        exact h11
    · intro w6 h6
      refine ⟨⟨by omega, by omega⟩, ⟨j + 1, by simp, by omega, ?_⟩, msr hlt⟩
      have e : (mbI v').take (ivm (mb v')).length = mbI v' := List.take_of_length_le (by rw [ivm_len, mbI_len]; exact Nat.le_refl _)
      dsimp only at h6
      rw [e, he'] at h6
      exact (show St w6 [_, _, _, _, _] from St.flat.1 h6).pick 5 [0, 1, 2, 4]
    · intro w6 h6
      exact (St.pu.1 h6).1.elim
  · have hlt : j = l := by have := of_decide_eq_false hlt; omega
    subst hlt
    rw [← hx.1, ← hv, List.take_length] at hs
    refine ⟨_, hs.cell 0, fun w5 h5 => ⟨rfl, done _ ?_⟩⟩
    exact (hs.eq h5).pick 4 [2, 3]
theorem s_MeetsF {c0 : Addr} {x : Int} (hc : w.cell? c0 = some (.int .i64 x)) (h : setR (hp w) p bs) : Run Tryd.prog n_bits_Set_Meets_S1 [.pointer p, .pointer (some c0)] w fun v w' => v = .bool (!hasB bs x) ∧ w' = w := by
  refine run_bits_Set_Meets_S1 _ _ w _ ?_
  refine ⟨x, hc, (s_Has h x).mono ?_⟩
  rintro _ _ ⟨rfl, rfl⟩
  exact ⟨_, rfl, rfl, rfl⟩
theorem s_ContainsFunc {c0 : Addr} {x : Int} (hc : w.cell? c0 = some (.int .i64 x)) (hx : rdS (hp w) os a l) (hv : vss.length = os.length) (ho : ∀ (i : Nat) q v, os[i]? = some q → vss[i]? = some v → setR (hp w) q v) (hb : l ≤ 4611686018427387904) :
    Run Tryd.prog n_slices_ContainsFunc_bits_Set_bits_Set_ [.slice a l c, .func (.func n_bits_Set_Meets_S1) #[] #[.pointer (some c0)]] w fun v w' => v = .bool (!vss.all fun v => hasB v x) ∧ w' = w := by
  refine run_slices_ContainsFunc_bits_Set_bits_Set_ _ _ _ _ _ w _ ?_
  have key : Run Tryd.prog n_slices_IndexFunc_bits_Set_bits_Set_ [.slice a l c, .func (.func n_bits_Set_Meets_S1) #[] #[.pointer (some c0)]] w fun v w' => (∃ n : Int, v = .int .i64 n ∧ (decide (0 ≤ n)) = !vss.all fun v => hasB v x) ∧ w' = w := by
    refine run_slices_IndexFunc_bits_Set_bits_Set_ _ _ _ _ _ w _ ?_
    refine ⟨fun n1 w' => ∃ j : Nat, n1 = j ∧ j ≤ l ∧ ((vss.take j).all fun v => hasB v x) = true ∧ w' = w, fun n1 _ => l - n1.toNat, ⟨0, rfl, by omega, rfl, rfl⟩, ?_⟩
    rintro _ n1 _ ⟨j, rfl, hj, hall, rfl⟩
    refine br_intro (fun hlt => ?_) fun hlt => ?_
    · have hlt : j < l := by have := of_decide_eq_true hlt; omega
      obtain ⟨q, ad, hq, rfl, hcq⟩ := hx.get1 hlt
      obtain ⟨v, hvj⟩ : ∃ v, vss[j]? = some v := ⟨vss[j]'(by rw [hv, hx.1]; omega), List.getElem?_eq_getElem _⟩
      refine idx_i rfl hlt ⟨q, hcq _ (sub.refl _), ifT_iff.2 ⟨rfl, ?_⟩⟩
      refine (s_MeetsF hc (ho j q v hq hvj)).mono ?_
      rintro _ _ ⟨rfl, rfl⟩
      refine ⟨_, rfl, br_intro (fun h1 => ?_) fun h1 => ?_⟩
      · refine ⟨⟨_, rfl, ?_⟩, rfl⟩
        have : vss.all (fun v => hasB v x) = false := by
          rw [List.all_eq_false]
          exact ⟨v, List.mem_of_getElem? hvj, by simpa using h1⟩
        rw [this]; simp
      · refine ⟨⟨by omega, by omega⟩, ⟨j + 1, by simp, by omega, ?_, rfl⟩, msr hlt⟩
        rw [List.take_add_one, hvj, List.all_append, hall]
        simpa using h1
    · have hlt : j = l := by have := of_decide_eq_false hlt; omega
      subst hlt
      rw [← hx.1, ← hv, List.take_length] at hall
      exact ⟨⟨_, rfl, by rw [hall]; rfl⟩, rfl⟩
  refine key.mono ?_
  rintro _ _ ⟨⟨n, rfl, hn⟩, rfl⟩
  exact ⟨n, rfl, by rw [hn], rfl⟩
theorem s_Meets (h : setR (hp w) p bs) (hx : rdS (hp w) os a l) (hv : vss.length = os.length) (ho : ∀ (i : Nat) q v, os[i]? = some q → vss[i]? = some v → setR (hp w) q v) (ht : tabA (hp w)) (hb : l ≤ 4611686018427387904) :
    Run Tryd.prog n_bits_Set_Meets [.pointer p, .slice a l c] w fun v w' => v = .bool (meetsB bs vss) ∧ Gr w w' := by
  refine run_bits_Set_Meets _ _ _ _ w _ ?_
  have hs := St.all w
  have hfin : ∀ w', sub (hp w) (hp w') → Gr w w' := fun w' h => h
  unfold V.all at hs
  generalize hp w = h0 at *
  refine newC_i hs fun b1 w1 h1 => newC_i h1 fun b2 w2 h2 => ?_
  have hs0 : sub h0 (hp w2) := h2.gone2
  refine (s_All (h.mono hs0)).mono ?_
  rintro _ w3 ⟨b3, rfl, h3⟩
  have h4 := h3.on1 h2
  refine ⟨_, _, rfl, ifT_iff.2 ⟨rfl, ?_⟩⟩
  refine ⟨ivm (mb bs), itD b3 bs.length (fnB bs), tabA, fun i => sta [pu (((mb bs).take i).any (fun m => vss.all fun v => fnB v m) = false), cel b2 [.bool false], cel b1 [.slice a l c]], sta [pu (meetsB bs vss = true), cel b2 [.bool true]], fun _ => pu False, [has h0], ?_, (fun h hh => rdV.mono (starL_has hh) ht), c_All_itr, ?_, ?_, ?_, ?_, trivial⟩
  · exact St.flat.2 (St.pu.2 ⟨rfl, h4.pick 4 [1, 2, 0, 3]⟩)
  · intro x hx
    obtain ⟨i, hi, rfl⟩ := List.mem_iff_getElem.1 hx
    obtain ⟨k, _, e⟩ := ivm_get (List.getElem?_eq_getElem hi)
    exact ⟨_, e⟩
  · intro i x hxi L' w4 hsup hs4
    obtain ⟨k, hk, e⟩ := ivm_get hxi
    cases e
    refine newC_i hs4 fun b4 w5 h5 => st1_i h5 (by simp) fun w6 h6 => ?_
    refine ⟨sta [cel b4 [.int .i64 (k : Int)], pu (((mb bs).take i).any (fun m => vss.all fun v => fnB v m) = false), cel b2 [.bool false], cel b1 [.slice a l c]], ?_, fun L'' w7 hsup2 hs7 => ?_⟩
    · have h7 := h6.swap
      exact St.flat.2 (show St w6 ([_, _, _, _] ++ L') from (show St w6 (_ :: _ :: _ :: _ :: L') from St.flat.1 h7).pick 4 [3, 0, 1, 2])
    have h8 := St.flat.1 hs7
    have h9 := (St.pu.1 (show St w7 (_ :: _) from h8.swap)).2
    have hany := (St.pu.1 (show St w7 (_ :: _) from h8.swap)).1
    have hsub : sub h0 (hp w7) := starL_has (hsup2 _ h9.tail.tail.tail)
    refine ⟨a, l, c, h9.rot3.cell 0, ?_⟩
    refine (s_ContainsFunc (h9.cell 0) (hx.mono hsub) hv (fun i q v h1 h2 => (ho i q v h1 h2).mono hsub) hb).mono ?_
    rintro _ w8 ⟨rfl, rfl⟩
    refine ⟨_, rfl, br_intro (fun h1 => ?_) fun h1 => ?_⟩
    · refine st1_i h9.swap (by simp) fun w9 h10 => St.flat.2 (St.pu.2 ⟨?_, ?_⟩)
      · unfold meetsB
        rw [List.any_eq_true]
        exact ⟨k, List.mem_of_getElem? hk, by simpa [hasB] using h1⟩
      · exact h10.swap.tail.swap.tail
    · refine St.flat.2 (St.pu.2 ⟨?_, h9.tail⟩)
      rw [List.take_add_one, hk, List.any_append, hany]
      simpa [hasB] using h1
  · intro w4 h4
    have h5 := St.flat.1 h4
    obtain ⟨h6, h7⟩ := St.pu.1 (show St w4 (_ :: _) from h5)
    refine st1_i h7 (by simp) fun w5 h8 => ⟨_, h8.cell 0, fun w6 h9 => ⟨?_, ?_⟩⟩
    · rw [List.take_of_length_le (by rw [ivm_len]; exact Nat.le_refl _)] at h6
      rw [← h6]; rfl
    · have := (show St w5 [_, _, _, _] from h8).pick 4 [3]
      exact hfin _ (this.has.trans (hp_sub h9))
  · intro w4 h4
    have h5 := St.flat.1 h4
    obtain ⟨h6, h7⟩ := St.pu.1 (show St w4 (_ :: _) from h5)
    refine ⟨_, h7.cell 0, fun w6 h9 => ⟨by rw [h6], ?_⟩⟩
    have := (show St w4 [_, _, _] from h7).pick 3 [2]
    exact hfin _ (this.has.trans (hp_sub h9))
end
end Go.Proofs.YtcipljcagejjaaaDoor
