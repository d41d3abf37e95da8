/- The document's sets: contracts (2). -/
import Derived.Test.YtcipljcagejjaaaDoorVRef01
set_option linter.unusedVariables false
namespace Go.Proofs.YtcipljcagejjaaaDoor
open Go.V
section
variable {w : World} {L : List Asn} {a a2 : Option Addr} {l c l2 c2 : Nat} {p q : Option Addr} {bs cs : List Bool} {xs ys : List Int} {os : List (Option Addr)} {vss : List (List Bool)}
theorem r_Union (h : St w (refO q bs :: L)) (hx : ∀ h, starL L h → rdS h os a l) (hv : vss.length = os.length) (ho : ∀ h, starL L h → ∀ (i : Nat) r v, os[i]? = some r → vss[i]? = some v → refR h r v ∨ (r = q ∧ v = bs)) (hb : l ≤ 4611686018427387904) :
    Run Tryd.prog n_presageref01_Set_Union [.pointer q, .slice a l c] w fun v w' => v = .int .i64 ((cntB (unionB bs vss) : Int) - cntB bs) ∧ St w' (refO q (unionB bs vss) :: L) := by
  obtain ⟨h0, hl, _, h1⟩ := h.freeze
  have hx := hx h0 hl
  have ho := ho h0 hl
  have done : ∀ w' bs, St w' (refO q bs :: [has h0]) → St w' (refO q bs :: L) := fun w' _ h => h.on1 hl
  have hlen : bs.length ≤ 1024 := by obtain ⟨_, _, _, _, h, _⟩ := h.refR; exact h
  clear h hl
  refine run_presageref01_Set_Union _ _ _ _ w _ ?_
  refine ⟨fun n1 n2 w => ∃ j : Nat, n2 = j ∧ j ≤ l ∧ n1 = (cntB (unionB bs (vss.take j)) : Int) - cntB bs ∧ St w [refO q (unionB bs (vss.take j)), has h0],
    fun _ n2 _ => l - n2.toNat, ⟨0, rfl, by omega, by simp [unionB], by simpa [unionB] using h1⟩, ?_⟩
  rintro _ n1 n2 w1 ⟨j, rfl, hj, hn1, hs⟩
  refine br_intro (fun hlt => ?_) fun hlt => ?_
  · have hlt : j < l := by have := of_decide_eq_true hlt; omega
    have hg := hs.gone1
    obtain ⟨r, ad, hq, rfl, hc⟩ := hx.get1 hlt
    obtain ⟨v, hvj⟩ : ∃ v, vss[j]? = some v := ⟨vss[j]'(by rw [hv, hx.1]; omega), List.getElem?_eq_getElem _⟩
    have hU := unionB_take (bs := bs) hvj
    obtain ⟨v', hr', he'⟩ : ∃ v', refR (hp w1) r v' ∧ addB (unionB bs (vss.take j)) (mbI v') = unionB bs (vss.take (j + 1)) := by
      rcases ho j r v hq hvj with hr | ⟨rfl, rfl⟩
      · exact ⟨v, hr.mono hg, hU.symm⟩
      · refine ⟨unionB v (vss.take j), hs.refR, ?_⟩
        rw [hU, addB_self fun _ h => h, addB_self fun k hk => fnB_union_sub _ _ _ hk]
    have k1 := cntB_le (unionB bs (vss.take j))
    have k2 := cntB_le (unionB bs (vss.take (j + 1)))
    have k3 := cntB_union (vss.take j) bs
    have k4 := cntB_union (vss.take (j + 1)) bs
    rw [unionB_len] at k1 k2
    refine idx_i rfl hlt ⟨r, hc _ hg, (r_Members hr').mono ?_⟩
    rintro _ w2 ⟨a', c', rfl, h2⟩
    refine ⟨_, _, _, rfl, ?_⟩
    have h3 := h2.on1 hs
    have hlen' : cntB v' ≤ 1024 := by
      obtain ⟨_, _, _, _, h, _⟩ := hr'
      exact Nat.le_trans (cntB_le _) h
    refine (r_Add (xs := mbI v') h3.swap (fun h hh => ?_) (by omega)).mono ?_
    · obtain ⟨h1, _, _, s1, _, ha, _⟩ := hh
      exact (rdI_of (mbI_len v') (own_rdVh ha)).mono s1
    rintro _ w3 ⟨rfl, h4⟩
    rw [he'] at h4 ⊢
    refine ⟨_, rfl, ⟨by omega, by omega⟩, ⟨by omega, by omega⟩, ⟨j + 1, by simp, by omega, by omega, h4.pick 3 [0, 2]⟩, msr hlt⟩
  · have hlt : j = l := by have := of_decide_eq_false hlt; omega
    subst hlt
    rw [← hx.1, ← hv, List.take_length] at hs hn1
    exact ⟨by rw [hn1], done _ _ hs⟩
theorem r_Meets (h : refR (hp w) q bs) (hx : rdS (hp w) os a l) (hv : vss.length = os.length) (ho : ∀ (i : Nat) r v, os[i]? = some r → vss[i]? = some v → refR (hp w) r v) (hb : l ≤ 4611686018427387904) :
    Run Tryd.prog n_presageref01_Set_Meets [.pointer q, .slice a l c] w fun v w' => v = .bool (meetsB bs vss) ∧ w' = w := by
  refine run_presageref01_Set_Meets _ _ _ _ w _ ?_
  obtain ⟨b, a1, c1, rfl, hle, h1, h2⟩ := h
  have hc := h1.cell0 (sub.refl _)
  refine ⟨fun n1 w' => ∃ j : Nat, n1 = j ∧ j ≤ bs.length ∧ (∀ k, k < j → (fnB bs k && vss.all fun v => fnB v k) = false) ∧ w' = w, fun n1 _ => bs.length - n1.toNat, ⟨0, rfl, by omega, by intro k hk; omega, rfl⟩, ?_⟩
  rintro _ n1 w1 ⟨j, rfl, hj, hpre, rfl⟩
  refine ⟨a1, _, c1, hc, br_intro (fun hlt => ?_) fun hlt => ?_⟩
  · have hlt : j < bs.length := by have := of_decide_eq_true hlt; omega
    obtain ⟨x, ad, hx1, rfl, hx2⟩ := h2.get1 hlt
    have hxj := fnB_get hx1
    refine ⟨_, _, c1, hc, idx_i rfl hlt ⟨x, hx2 _ (sub.refl _), ?_⟩⟩
    have yes : (fnB bs j && vss.all fun v => fnB v j) = true → meetsB bs vss = true := fun h => by
      simp only [Bool.and_eq_true] at h
      exact List.any_eq_true.2 ⟨j, mem_mb.2 h.1, h.2⟩
    have no : (fnB bs j && vss.all fun v => fnB v j) = false → inI ((j : Int) + 1) ∧ (∃ j' : Nat, (j : Int) + 1 = j' ∧ j' ≤ bs.length ∧ (∀ k, k < j' → (fnB bs k && vss.all fun v => fnB v k) = false) ∧ w1 = w1) ∧ bs.length - ((j : Int) + 1).toNat < bs.length - (j : Int).toNat := fun h => by
      refine ⟨⟨by omega, by omega⟩, ⟨j + 1, by simp, by omega, fun k hk => ?_, rfl⟩, msr hlt⟩
      by_cases e : k = j
      · rw [e]; exact h
      · exact hpre k (by omega)
    refine ⟨fun b2 n2 w' => ∃ i : Nat, n2 = i ∧ i ≤ l ∧ b2 = (fnB bs j && (vss.take i).all fun v => fnB v j) ∧ w' = w1, fun b2 n2 _ => l - n2.toNat, ⟨0, rfl, by omega, by simp [hxj], rfl⟩, ?_⟩
    rintro _ b2 n2 _ ⟨i, rfl, hi, rfl, rfl⟩
    refine br_intro (fun h3 => ?_) fun h3 => ?_
    · have h3 : i < l := by have := of_decide_eq_true h3; omega
      refine br_intro (fun h4 => ?_) fun h4 => ?_
      · obtain ⟨r, ad2, hr1, rfl, hr2⟩ := hx.get1 h3
        obtain ⟨v, hvj⟩ : ∃ v, vss[i]? = some v := ⟨vss[i]'(by rw [hv, hx.1]; omega), List.getElem?_eq_getElem _⟩
        refine idx_i rfl h3 ⟨r, hr2 _ (sub.refl _), (r_Has (ho i r v hr1 hvj) j).mono ?_⟩
        rintro _ _ ⟨rfl, rfl⟩
        refine ⟨_, rfl, ⟨by omega, by omega⟩, ⟨i + 1, by simp, by omega, ?_, rfl⟩, msr h3⟩
        rw [hasB_nat, List.take_add_one, hvj, List.all_append, ← Bool.and_assoc, h4]; simp
      · refine br_intro (fun h5 => ?_) fun h5 => ?_
        · rw [h4] at h5; cases h5
        · refine no ?_
          cases hb : fnB bs j
          · rfl
          · rw [hb] at h4
            rw [Bool.true_and] at h4 ⊢
            rw [List.all_eq_false] at h4 ⊢
            obtain ⟨v, hv, hf⟩ := h4
            exact ⟨v, List.mem_of_mem_take hv, hf⟩
    · have h3 : i = l := by have := of_decide_eq_false h3; omega
      subst h3
      rw [← hx.1, ← hv, List.take_length]
      refine br_intro (fun h5 => ⟨by rw [yes h5], rfl⟩) fun h5 => ?_
      have := no h5
      rw [← hx.1, ← hv] at hx
      exact no h5
  · have hlt : j = bs.length := by have := of_decide_eq_false hlt; omega
    subst hlt
    refine ⟨?_, rfl⟩
    congr 1
    symm
    unfold meetsB
    rw [List.any_eq_false]
    intro k hk
    rw [mem_mb] at hk
    have hkl : k < bs.length := Nat.lt_of_not_le fun hl => by rw [fnB_out hl] at hk; cases hk
    have := hpre k hkl
    rw [hk, Bool.true_and] at this
    rw [this]; simp
theorem r_Equal (h : refR (hp w) q bs) (h' : refR (hp w) p cs) : Run Tryd.prog n_presageref01_Set_Equal [.pointer q, .pointer p] w fun v w' => v = .bool (decide (bs = cs)) ∧ hp w' = hp w := by
  refine run_presageref01_Set_Equal _ _ w _ ?_
  obtain ⟨b, a1, c1, rfl, hle, h1, h2⟩ := h
  obtain ⟨b', a2, c2, rfl, hle', h1', h2'⟩ := h'
  intro w1 hd
  have hw1 := hp_drawn hd
  refine ⟨fun w3 => hp w3 = hp w, hw1, a1, _, c1, fun w2 h => h1.cell0 (hp_sub h), a2, _, c2, fun w2 h => h1'.cell0 (hp_sub h), br_intro (fun h0 => ?_) fun h0 => ?_⟩
  · have h0 : bs.length ≠ cs.length := natNe h0
    exact ⟨by rw [decide_eq_false fun e => h0 (by rw [e])], hw1⟩
  · have h0 : bs.length = cs.length := natEq' h0
    refine ⟨fun n1 w' => ∃ j : Nat, n1 = j ∧ j ≤ bs.length ∧ bs.take j = cs.take j ∧ hp w' = hp w, fun n1 _ => bs.length - n1.toNat, ⟨0, rfl, by omega, by simp, hw1⟩, ?_⟩
    rintro _ n1 w4 ⟨j, rfl, hj, hpre, hw4⟩
    refine ⟨a1, _, c1, h1.cell0 (hp_sub hw4), br_intro (fun h3 => ?_) fun h3 => ?_⟩
    · have h3 : j < bs.length := by have := of_decide_eq_true h3; omega
      intro w5 hd5
      have hw5 := (hp_drawn hd5).trans hw4
      obtain ⟨x, ad, hx1, rfl, hx2⟩ := h2.get1 h3
      obtain ⟨y, ad2, hy1, rfl, hy2⟩ := h2'.get1 (by omega : j < cs.length)
      refine ⟨fun w3 => hp w3 = hp w, hw5, _, _, c1, fun w2 h => h1.cell0 (hp_sub h), idx_i rfl h3 ⟨x, fun w3 h => hx2 _ (hp_sub h), _, _, c2, fun w2 h => h1'.cell0 (hp_sub h), idx_i rfl (by omega) ⟨y, fun w3 h => hy2 _ (hp_sub h), ?_⟩⟩⟩
      refine br_intro (fun h5 => ?_) fun h5 => ?_
      · have h5 : x ≠ y := by simpa using h5
        refine ⟨?_, hw5⟩
        rw [decide_eq_false fun e => ?_]
        subst e
        rw [hx1] at hy1; cases hy1; exact h5 rfl
      · have h5 : x = y := by simpa using h5
        subst h5
        refine ⟨⟨by omega, by omega⟩, ⟨j + 1, by simp, by omega, ?_, hw5⟩, msr h3⟩
        rw [List.take_add_one, List.take_add_one, hx1, hy1, hpre]
    · have h3 : j = bs.length := by have := of_decide_eq_false h3; omega
      subst h3
      rw [List.take_length, h0, List.take_length] at hpre
      exact ⟨by simp [hpre], hw4⟩
theorem r_Copy (h : refR (hp w) q bs) : Run Tryd.prog n_presageref01_Set_Copy [.pointer q] w fun v w' => ∃ b, v = .pointer (some ⟨b, 0, none⟩) ∧ St w' (refO (some ⟨b, 0, none⟩) bs :: all w) := by
  refine run_presageref01_Set_Copy _ w _ ?_
  intro w1 hd
  have hw1 := hp_drawn hd
  have hh := h
  obtain ⟨b, a1, c1, rfl, hle, h1, h2⟩ := h
  refine ⟨fun w3 => sub (hp w) (hp w3), hp_sub hw1, a1, _, c1, fun w2 h => h1.cell0 h, (r_Members (hh.mono (hp_sub hw1))).mono ?_⟩
  rintro _ w2 ⟨a', c', rfl, h3⟩
  have hc := cntB_le bs
  have g3 : sub (hp w) (hp w2) := (hp_sub hw1).trans h3.gone1
  refine ⟨_, _, _, rfl, g3, (r_Of (bs.length : Int) (own_rdI h3) (by omega)).mono ?_⟩
  rintro _ w3 ⟨b', rfl, h4⟩
  rw [ofB_mb bs hle] at h4
  have g4 : sub (hp w) (hp w3) := g3.trans h4.gone1
  exact ⟨_, rfl, g4, b', rfl, h4.on1 (has_i g3)⟩
theorem r_Lent (hx : rdS (hp w) xs a l) (hb : l * 8 ≤ 140737488355264) : Run Tryd.prog n_presageref01_Lent [.slice a l c] w fun v w' => ∃ b c', l ≤ c' ∧ v = .tuple #[.slice (some ⟨b, 0, none⟩) l c', .slice (some ⟨b, 0, none⟩) (l + 8) (l + 8)] ∧ St w' (own 1 (some ⟨b, 0, none⟩) (l + 8) (l + 8) (iv (lentL xs)) :: all w) := by
  refine run_presageref01_Lent _ _ _ w _ ?_
  have e8 : ((l : Int) + 8) = ((l + 8 : Nat) : Int) := by omega
  unfold vc_presageref01_Lent
  rw [e8, Int.toNat_natCast, reps_one]
  refine ⟨inI_nat (by omega), ⟨by omega, rfl, by omega⟩, newC_i (St.all w) fun b w1 h1 => ?_⟩
  have h2 : St w1 (own 1 (some ⟨b, 0, none⟩) (l + 8) (l + 8) (List.replicate (l + 8) (.int .i64 0)) :: all w) := own_some (cs := []) (by simpa using h1) (by simp) (by simp) (Nat.le_refl _)
  refine (copy_own tyOk (rfl : kdOfT Ty _ = .slice _) rfl rfl h2 (news := iv xs) (by rw [iv_len, hx.1]) (rdV.mono h1.gone1 hx.iv) (by simp [iv, oneC]) (by omega)).mono ?_
  rintro _ w2 ⟨rfl, h3⟩
  have hl := hx.1
  refine ⟨_, rfl, fun n2 w' => ∃ j : Nat, n2 = j ∧ j ≤ 8 ∧ St w' (own 1 (some ⟨b, 0, none⟩) (l + 8) (l + 8) (iv (xs ++ ((List.range j).map fun (k : Nat) => 7000 + (k : Int)) ++ List.replicate (8 - j) 0)) :: all w), fun n2 _ => 8 - n2.toNat, ⟨0, rfl, by omega, ?_⟩, ?_⟩
  · have e : iv xs ++ (List.replicate (l + 8) (Value.int .i64 0)).drop l = iv (xs ++ ((List.range 0).map fun (k : Nat) => 7000 + (k : Int)) ++ List.replicate (8 - 0) 0) := by
      simp [iv]
    rw [e] at h3; exact h3
  rintro _ n2 w3 ⟨j, rfl, hj, hs⟩
  refine br_intro (fun hlt => ?_) fun hlt => ?_
  · have hlt : j < 8 := by have := of_decide_eq_true hlt; omega
    have e9 : ((l : Int) + (j : Int)) = ((l + j : Nat) : Int) := by omega
    rw [e9]
    refine ⟨⟨by omega, by omega⟩, ⟨by omega, by omega⟩, idx_i rfl (by omega) ?_⟩
    refine own_st1 hs rfl (by rw [iv_len]; simp; omega) fun w4 hs4 => ?_
    refine ⟨⟨by omega, by omega⟩, ⟨j + 1, by simp, by omega, ?_⟩, by show 8 - ((j : Int) + 1).toNat < 8 - (j : Int).toNat; omega⟩
    have e : (iv (xs ++ ((List.range j).map fun (k : Nat) => 7000 + (k : Int)) ++ List.replicate (8 - j) 0)).set (l + j) (.int .i64 (7000 + (j : Int))) = iv (xs ++ ((List.range (j + 1)).map fun (k : Nat) => 7000 + (k : Int)) ++ List.replicate (8 - (j + 1)) 0) := by
      have e1 : List.replicate (8 - j) (0 : Int) = 0 :: List.replicate (8 - (j + 1)) 0 := by
        rw [show 8 - j = (8 - (j + 1)) + 1 by omega, List.replicate_succ]
      rw [e1]
      unfold iv
      rw [List.map_append, List.set_append_right _ _ (by simp; omega), List.map_append]
      simp [hl, List.range_succ]
    rw [e] at hs4
    exact hs4
  · have hlt : j = 8 := by have := of_decide_eq_false hlt; omega
    subst hlt
    refine ⟨.inl rfl, .inr ⟨?_, ?_⟩, ⟨?_, ?_⟩, ?_⟩
    · show (0 : Int) ≤ (l : Int); omega
    · show (l : Int) ≤ ((l + 8 : Nat) : Int); omega
    · exact Int.le_refl _
    · show (0 : Int) ≤ (l : Int); omega
    · refine ⟨b, l + 8, by omega, ?_, ?_⟩
      · have : ∀ m : Nat, slP (some ⟨b, 0, none⟩) 0 m 1 = some ⟨b, 0, none⟩ := fun m => by
          unfold slP; split
          · rfl
          · rfl
        simp only [Option.getD_none, Option.getD_some, Int.toNat_natCast, Int.toNat_zero]
        rw [this]
        simp
      · have e : (xs ++ ((List.range 8).map fun (k : Nat) => 7000 + (k : Int)) ++ List.replicate (8 - 8) 0) = lentL xs := by simp [lentL]
        rw [e] at hs
        exact hs
theorem r_Whole (hy : rdS (hp w) (lentL xs) a2 l2) (hx : rdS (hp w) xs a l) (hb : l ≤ 4611686018427387904) : Run Tryd.prog n_presageref01_Whole [.slice a2 l2 c2, .slice a l c] w fun v w' => v = .bool true ∧ hp w' = hp w := by
  refine run_presageref01_Whole _ _ _ _ _ _ w _ ?_
  have hl := hx.1
  have hl2 := hy.1
  rw [lentL_len] at hl2
  refine ⟨fun n1 w' => ∃ j : Nat, n1 = j ∧ j ≤ l2 ∧ hp w' = hp w, fun n1 _ => l2 - n1.toNat, ⟨0, rfl, by omega, rfl⟩, ?_⟩
  rintro _ n1 w1 ⟨j, rfl, hj, hw1⟩
  refine br_intro (fun h3 => ?_) fun h3 => ?_
  · have h3 : j < l2 := by have := of_decide_eq_true h3; omega
    intro w2 hd
    have hw2 := (hp_drawn hd).trans hw1
    obtain ⟨y, ad, hy1, rfl, hy2⟩ := hy.get1 h3
    have stp : inI ((j : Int) + 1) ∧ (∃ j' : Nat, (j : Int) + 1 = j' ∧ j' ≤ l2 ∧ hp w2 = hp w) ∧ l2 - ((j : Int) + 1).toNat < l2 - (j : Int).toNat := ⟨⟨by omega, by omega⟩, ⟨j + 1, by simp, by omega, hw2⟩, msr h3⟩
    refine ⟨fun w3 => hp w3 = hp w, hw2, br_intro (fun h4 => ?_) fun h4 => ?_⟩
    · have h4 : j < l := by have := of_decide_eq_true h4; omega
      obtain ⟨x, ad2, hx1, rfl, hx2⟩ := hx.get1 h4
      refine idx_i rfl h3 ⟨y, fun w3 h => hy2 _ (hp_sub h), idx_i rfl h4 ⟨x, fun w3 h => hx2 _ (hp_sub h), ?_⟩⟩
      rw [lentL_lo (by omega), hx1] at hy1
      cases hy1
      refine br_intro (fun h5 => by simp at h5) fun h5 => br_intro (fun h6 => ?_) fun h6 => stp
      have := of_decide_eq_true h6; omega
    · have h4 : l ≤ j := by have := of_decide_eq_false h4; omega
      refine br_intro (fun h5 => ?_) fun h5 => ?_
      · refine idx_i rfl h3 ⟨y, fun w3 h => hy2 _ (hp_sub h), ⟨by omega, by omega⟩, ⟨by omega, by omega⟩, ?_⟩
        have e : j = xs.length + (j - l) := by omega
        rw [e, lentL_hi (by omega)] at hy1
        cases hy1
        refine br_intro (fun h6 => ?_) fun h6 => stp
        exfalso
        have : 7000 + ((j - l : Nat) : Int) ≠ 7000 + (j : Int) - (l : Int) := by simpa using h6
        omega
      · have := of_decide_eq_false h5; omega
  · exact ⟨rfl, hw1⟩
theorem l_pick (x : Int) {n : Int} (hn : 0 < n) (hx : -9223372036854775808 ≤ x ∧ x ≤ 9223372036854775807) : Run Tryd.prog n_presagelaw01_pick [.int .i64 x, .int .i64 n] w fun v w' => (∃ k : Nat, v = .int .i64 (k : Int) ∧ (k : Int) < n) ∧ w' = w := by
  refine run_presagelaw01_pick _ _ w _ ?_
  have key : ∀ y : Int, 0 ≤ y → ∃ k : Nat, Value.int .i64 (y.tmod n) = .int .i64 (k : Int) ∧ (k : Int) < n := fun y hy => by
    have h := tmodB hy hn
    exact ⟨(y.tmod n).toNat, by rw [Int.toNat_of_nonneg h.1], by rw [Int.toNat_of_nonneg h.1]; exact h.2⟩
  refine br_intro (fun h => ?_) fun h => ?_
  · have h := of_decide_eq_true h
    exact ⟨⟨by omega, by omega⟩, ⟨by omega, by omega⟩, by unfold nz; omega, key _ (by omega), rfl⟩
  · have h := of_decide_eq_false h
    exact ⟨by unfold nz; omega, key _ (by omega), rfl⟩
end
end Go.Proofs.YtcipljcagejjaaaDoor
