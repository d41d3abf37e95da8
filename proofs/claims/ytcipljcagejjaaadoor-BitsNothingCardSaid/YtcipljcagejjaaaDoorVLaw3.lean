/- Laws of sets (3): a set is the document's; what goes over the members. -/
import Derived.Test.YtcipljcagejjaaaDoorVLaw2
set_option linter.unusedVariables false
namespace Go.V
theorem rdR {L : List Asn} {h : Hp} {q : Option Addr} {v : List Bool} (i : Nat) (hl : starL L h) (e : nthA L i = refO q v := by rfl) (hi : Nat.blt i (lenA L) = true := by rfl) : refR h q v := by
  obtain ⟨h1, s, ha⟩ := starL_nth i (by simpa [lenA_eq] using hi) hl
  rw [e] at ha
  exact (refO_R ha).mono s
theorem rdW {L : List Asn} {h : Hp} {a : Option Addr} {l c : Nat} (xs : List Int) (i : Nat) (hl : starL L h) (e : nthA L i = own 1 a l c (iv xs) := by rfl) (hi : Nat.blt i (lenA L) = true := by rfl) : xs.length = l → rdS h xs a l := fun hx => by
  obtain ⟨h1, s, ha⟩ := starL_nth i (by simpa [lenA_eq] using hi) hl
  rw [e] at ha
  exact (rdI_of hx (own_rdVh ha)).mono s
end Go.V
namespace Go.Proofs.YtcipljcagejjaaaDoor
open Go.V
section
variable {w : World} {L : List Asn} {a a2 a3 : Option Addr} {l c l2 c2 l3 c3 : Nat} {p q : Option Addr} {bs cs : List Bool} {xs ys zs : List Int} {os : List (Option Addr)} {vss : List (List Bool)}
theorem l_is {b : Nat} (hx : setR (hp w) (some ⟨b, 0, none⟩) bs) (hr : refR (hp w) q bs) (ht : tabA (hp w)) : Run Tryd.prog n_presagelaw01_is [.pointer (some ⟨b, 0, none⟩), .pointer q] w fun v w' => v = .bool true ∧ Gr w w' := by
  refine run_presagelaw01_is _ _ w _ ?_
  intro w1 hd
  have g1 : Gr w w1 := Gr.of_eq (hp_drawn hd)
  have hr' := hr
  obtain ⟨b2, a2, c2, rfl, hle, hr1, hr2⟩ := hr
  have hc := cntB_le bs
  refine ⟨fun w3 => Gr w w3, g1, br_t rfl ⟨a2, _, c2, fun w2 h => hr1.cell0 h, (s_Size (hx.mono g1)).mono ?_⟩⟩
  rintro _ _ ⟨rfl, rfl⟩
  refine ⟨_, rfl, g1, br_t (by simp) ((s_Count (hx.mono g1)).mono ?_)⟩
  rintro _ _ ⟨rfl, rfl⟩
  refine ⟨_, rfl, g1, (r_Count (hr'.mono g1)).mono ?_⟩
  rintro _ _ ⟨rfl, rfl⟩
  refine ⟨_, rfl, g1, br_t (by simp) ((s_Members (hx.mono g1) (rdV.mono g1 ht)).mono ?_)⟩
  rintro _ w6 ⟨a3, c3, rfl, h6⟩
  have g6 : Gr w w6 := g1.trans h6.gone1
  refine ⟨_, _, _, rfl, g6, (r_Members (hr'.mono g6)).mono ?_⟩
  rintro _ w7 ⟨a4, c4, rfl, h7⟩
  have g7 : Gr w w7 := g6.trans h7.gone1
  have h8 := h7.on1 h6
  refine ⟨_, _, _, rfl, g7, (r_Ints (own_rdI h8.tail) (own_rdI h8) (by omega)).mono ?_⟩
  rintro _ w8 ⟨rfl, h9⟩
  have g8 : Gr w w8 := g7.trans (Gr.of_eq h9)
  exact ⟨_, rfl, g8, by simp, g8⟩
set_option maxHeartbeats 1000000 in
theorem l_BitsGoes (size stop : Int) (hx : rdS (hp w) xs a l) (hy : rdS (hp w) ys a2 l2) (ht : tabA (hp w)) (hb : l ≤ 4611686018427387904) (hb2 : l2 ≤ 4611686018427387904) (hst : -9223372036854775808 ≤ stop ∧ stop ≤ 9223372036854775807) :
    Run Tryd.prog n_presagelaw01_BitsGoes [.int .i64 size, .slice a l c, .slice a2 l2 c2, .int .i64 stop] w fun v w' => v = .bool true ∧ Gr w w' := by
  refine run_presagelaw01_BitsGoes _ _ _ _ _ _ _ _ w _ ?_
  have hfin : ∀ w', sub (hp w) (hp w') → Gr w w' := fun w' h => h
  have hs := St.all w
  unfold V.all at hs
  refine newC_i hs fun k1 w1 h => l_awake.mono ?_
  rintro _ w2 ⟨rfl, hg⟩
  have h := h.gr hg
  clear hs
  generalize hp w = h0 at *
  have tb : ∀ {w : World}, sub h0 (hp w) → tabA (hp w) := fun s => rdV.mono s ht
  refine ⟨_, rfl, br_f rfl ((s_Of size (hx.mono (rdH 1 h.l)) hb).mono ?_)⟩
  rintro _ w5 ⟨bx, rfl, h1⟩
  have h := h1.on1 h
  refine ⟨_, rfl, (r_Of size (hx.mono (rdH 2 h.l)) hb).mono ?_⟩
  rintro _ w6 ⟨br, rfl, h1⟩
  have h := h1.on1 h
  clear h1
  generalize ofB size xs = A at *
  have cA := cntB_le A
  have lA : A.length ≤ 1024 := (rdO (q := some ⟨bx, 0, none⟩) (v := A) 1 h.l).le
  refine ⟨_, rfl, br_f rfl ((r_Members (rdR 0 h.l)).mono ?_)⟩
  rintro _ w9 ⟨ao, co, rfl, h1⟩
  have h := h1.on1 h
  refine ⟨_, _, _, rfl, newC_i h fun k4 w10 h => st1_i h (by simp) fun w11 h => ?_⟩
  have h : St w11 [cel k4 [.slice ao (cntB A) co], own 1 ao (cntB A) co (iv (mbI A)), refO (some ⟨br, 0, none⟩) A, setO (some ⟨bx, 0, none⟩) A, cel k1 [.bool false], has h0] := h
  refine (s_All (rdO 3 h.l)).mono ?_
  rintro _ w12 ⟨g1, rfl, h1⟩
  have h := h1.on1 h
  refine ⟨_, _, rfl, (s_All (rdO 4 h.l)).mono ?_⟩
  rintro _ w13 ⟨g2, rfl, h1⟩
  have h := h1.on1 h
  clear h1
  refine ⟨_, _, rfl, fun b w => b = false ∧ St w [itD g2 A.length (fnB A), itD g1 A.length (fnB A), cel k4 [.slice ao (cntB A) co], own 1 ao (cntB A) co (iv (mbI A)), refO (some ⟨br, 0, none⟩) A, setO (some ⟨bx, 0, none⟩) A, cel k1 [.bool false], has h0], ⟨rfl, h⟩, ?_⟩
  clear h
  rintro _ _ w14 ⟨rfl, h⟩
  refine br_f rfl ((s_Members (rdO 5 h.l) (tb (rdH 7 h.l))).mono ?_)
  rintro _ w17 ⟨am, cm, rfl, h1⟩
  have h := h1.on1 h
  clear h1
  -- the list is spoilt
  refine ⟨_, _, _, rfl, fun n w => ∃ (j : Nat) (us : List Int), n = j ∧ j ≤ cntB A ∧ St w [own 1 am (cntB A) cm (iv us), itD g2 A.length (fnB A), itD g1 A.length (fnB A), cel k4 [.slice ao (cntB A) co], own 1 ao (cntB A) co (iv (mbI A)), refO (some ⟨br, 0, none⟩) A, setO (some ⟨bx, 0, none⟩) A, cel k1 [.bool false], has h0], fun n _ => cntB A - n.toNat, ⟨0, _, rfl, by omega, h⟩, ?_⟩
  clear h
  rintro _ n1 w18 ⟨j, us, rfl, hj, h⟩
  have hus := own_len h
  rw [iv_len, Nat.mul_one] at hus
  refine br_intro (fun hlt => ?_) fun hlt => ?_
  · have hlt : j < cntB A := by have := of_decide_eq_true hlt; omega
    obtain ⟨ad, rfl⟩ := own_addr h (by rw [iv_len]; omega)
    refine idx_i rfl hlt (own_st1 h rfl (by rw [iv_len]; omega) fun w19 h => ⟨⟨by omega, by omega⟩, ⟨j + 1, us.set j (-1), by simp, by omega, ?_⟩, msr hlt⟩)
    have e : (iv us).set j (.int .i64 (-1)) = iv (us.set j (-1)) := by simp [iv]
    rw [e] at h
    exact h
  refine ⟨fun o k1' k2 n w => ∃ (j : Nat) (us : List Int), n = j ∧ j ≤ 4 ∧ k1' = cntB A + j ∧ St w [own 1 o k1' k2 (iv us), itD g2 A.length (fnB A), itD g1 A.length (fnB A), cel k4 [.slice ao (cntB A) co], own 1 ao (cntB A) co (iv (mbI A)), refO (some ⟨br, 0, none⟩) A, setO (some ⟨bx, 0, none⟩) A, cel k1 [.bool false], has h0], fun _ _ _ n _ => 4 - n.toNat, ⟨0, us, rfl, by omega, rfl, h⟩, ?_⟩
  clear h
  rintro _ o5 _ k8 n2 w20 ⟨j, us, rfl, hj, rfl, h⟩
  refine br_intro (fun hlt => ?_) fun hlt => ?_
  · have hlt : j < 4 := by have := of_decide_eq_true hlt; omega
    refine newC_i h fun k9 w21 h => ?_
    refine (app_one tyOk (rfl : kdOfT Ty _ = .slice _) (rfl : kdOfT Ty _ = .slice _) rfl rfl rfl h rfl (by simp [oneC]) (by show (cntB A + j + 1) * 8 ≤ _; omega) (by omega)).mono ?_
    rintro _ w22 ⟨a', c', rfl, h⟩
    refine ⟨_, _, _, rfl, ⟨by omega, by omega⟩, ⟨j + 1, us ++ [5], by simp, by omega, by omega, ?_⟩, by show 4 - ((j : Int) + 1).toNat < 4 - (j : Int).toNat; omega⟩
    have e : iv us ++ [.int .i64 5] = iv (us ++ [5]) := by simp [iv]
    rw [e] at h
    exact h.pick 10 [0, 2, 3, 4, 5, 6, 7, 8, 9]
  have h := h.tail.pick 8 [5, 0, 1, 2, 3, 4, 6, 7]
  refine (s_Add (xs := ys) h (fun h hh => hy.mono (rdH 6 hh)) hb2).mono ?_
  rintro _ w23 ⟨rfl, h⟩
  refine ⟨_, rfl, (s_Drop (xs := xs) h (fun h hh => hx.mono (rdH 6 hh)) hb).mono ?_⟩
  rintro _ w24 ⟨rfl, h⟩
  have h : St w24 [setO (some ⟨bx, 0, none⟩) (dropB (addB A ys) xs), itD g2 A.length (fnB A), itD g1 A.length (fnB A), cel k4 [.slice ao (cntB A) co], own 1 ao (cntB A) co (iv (mbI A)), refO (some ⟨br, 0, none⟩) A, cel k1 [.bool false], has h0] := h
  refine ⟨_, rfl, ao, cntB A, co, (h.pick 8 [3]).cell 0, ⟨by omega, by omega⟩, (l_pick stop (by omega) hst).mono ?_⟩
  rintro _ _ ⟨⟨k, rfl, hk⟩, rfl⟩
  have hk : k ≤ cntB A := by omega
  refine ⟨_, rfl, newC_i h fun k14 w26 h => st1_i h (by simp) fun w27 h => newC_i h fun k15 w28 h => st1_i h (by simp) fun w29 h => ?_⟩
  have h : St w29 [cel k15 [.int .i64 ((0 : Nat) : Int)], cel k14 [.int .i64 (k : Int)], setO (some ⟨bx, 0, none⟩) (dropB (addB A ys) xs), itD g2 A.length (fnB A), itD g1 A.length (fnB A), cel k4 [.slice ao (cntB A) co], own 1 ao (cntB A) co (iv (mbI A)), refO (some ⟨br, 0, none⟩) A, cel k1 [.bool false], has h0] := h
  refine ⟨fun w => St w [cel k15 [.int .i64 (k : Int)], cel k14 [.int .i64 (k : Int)], setO (some ⟨bx, 0, none⟩) (dropB (addB A ys) xs), itD g2 A.length (fnB A), itD g1 A.length (fnB A), cel k4 [.slice ao (cntB A) co], own 1 ao (cntB A) co (iv (mbI A)), refO (some ⟨br, 0, none⟩) A, cel k1 [.bool false], has h0], ⟨(k : Int), h.swap.cell 0, br_intro (fun hpos => ?_) fun hpos => ?_⟩, ?_⟩
  · have hpos : 0 < k := by have := of_decide_eq_true hpos; omega
    refine ifT_iff.2 ⟨rfl, ivm (mb A), itD g1 A.length (fnB A), tabA, fun i => sta [pu (i < k), cel k15 [.int .i64 (i : Int)], cel k14 [.int .i64 (k : Int)], cel k4 [.slice ao (cntB A) co], own 1 ao (cntB A) co (iv (mbI A))], pu False, fun _ => sta [cel k15 [.int .i64 (k : Int)], cel k14 [.int .i64 (k : Int)], cel k4 [.slice ao (cntB A) co], own 1 ao (cntB A) co (iv (mbI A))],
      [setO (some ⟨bx, 0, none⟩) (dropB (addB A ys) xs), itD g2 A.length (fnB A), refO (some ⟨br, 0, none⟩) A, cel k1 [.bool false], has h0], ?_, fun h hh => rdV.mono (rdH 4 hh) ht, c_All_itr, ?_, ?_, ?_, ?_, ?_⟩
    · exact St.flat.2 (St.pu.2 ⟨hpos, h.pick 10 [0, 1, 5, 6, 4, 2, 3, 7, 8, 9]⟩)
    · intro x hx
      obtain ⟨i, hi, rfl⟩ := List.mem_iff_getElem.1 hx
      obtain ⟨k, _, e⟩ := ivm_get (List.getElem?_eq_getElem hi)
      exact ⟨_, e⟩
    · intro i x hxi L' w30 hsup h
      obtain ⟨m, hm, e⟩ := ivm_get hxi
      cases e
      refine ⟨_, h, fun L'' w31 hsup h => ?_⟩
      obtain ⟨hik, h⟩ := St.pu.1 (show St w31 (_ :: _) from St.flat.1 h)
      have hi : i < cntB A := by omega
      have c4 := (h.pick 4 [2]).cell 0
      obtain ⟨y, ad, hy1, rfl, hy2⟩ := (rdW (mbI A) 3 h.l rfl (by rfl) (mbI_len A)).get1 hi
      refine ⟨_, h.cell 0, _, _, _, c4, br_f (by simp; omega) ⟨_, _, _, c4, _, h.cell 0, idx_i rfl hi ⟨y, hy2 _ (sub.refl _), ?_⟩⟩⟩
      rw [mbI_get hm] at hy1
      cases hy1
      refine br_f (by simp) ⟨_, h.cell 0, ⟨by omega, by omega⟩, st1_i h (by simp) fun w34 h => ⟨_, h.cell 0, _, h.swap.cell 0, br_intro (fun he => ?_) fun he => ?_⟩⟩
      · have he : i + 1 = k := by simp at he; omega
        have e2 : ((i : Int) + 1) = (k : Int) := by omega
        rw [e2] at h
        exact St.flat.2 h
      · have he : i + 1 ≠ k := by simp at he; omega
        exact St.flat.2 (St.pu.2 ⟨by omega, h⟩)
    · intro w35 h
      obtain ⟨hik, h⟩ := St.pu.1 (show St w35 (_ :: _) from St.flat.1 h)
      rw [ivm_len, mb_len] at hik; omega
    · intro w36 h
      exact (St.pu.1 h).1.elim
    · intro w38 h
      have h : St w38 [_, _, _, _, _, _, _, _, _, _] := St.flat.1 h
      exact h.pick 10 [0, 1, 5, 6, 4, 2, 3, 7, 8, 9]
  · have hpos : k = 0 := by have := of_decide_eq_false hpos; omega
    subst hpos
    exact h
  clear h
  rintro _ w39 h
  refine newC_i h fun k21 w40 h => ifT_iff.2 ⟨rfl, ivm (mb A), itD g1 A.length (fnB A), tabA, fun i => ex fun y : Option Addr × Nat => sta [cel k21 [.slice y.1 i y.2], own 1 y.1 i y.2 (iv ((mbI A).take i)), cel k4 [.slice ao (cntB A) co]], pu False, fun _ => pu False, [cel k15 [.int .i64 (k : Int)], cel k14 [.int .i64 (k : Int)], setO (some ⟨bx, 0, none⟩) (dropB (addB A ys) xs), itD g2 A.length (fnB A), own 1 ao (cntB A) co (iv (mbI A)), refO (some ⟨br, 0, none⟩) A, cel k1 [.bool false], has h0], ?_, fun h hh => rdV.mono (rdH 7 hh) ht, c_All_itr, ?_, ?_, ?_, ?_, trivial⟩
  · refine St.ex.2 ⟨(none, 0), St.flat.2 ?_⟩
    exact (own_nil 1 h).pick 12 [1, 0, 7, 6, 2, 3, 4, 5, 8, 9, 10, 11]
  · intro x hx
    obtain ⟨i, hi, rfl⟩ := List.mem_iff_getElem.1 hx
    obtain ⟨k, _, e⟩ := ivm_get (List.getElem?_eq_getElem hi)
    exact ⟨_, e⟩
  · intro i x hxi L' w30 hsup h
    obtain ⟨m, hm, e⟩ := ivm_get hxi
    cases e
    refine ⟨_, h, fun L'' w31 hsup h => ?_⟩
    have hi : i < cntB A := (List.getElem?_eq_some_iff.1 hm).1
    obtain ⟨⟨o, cc⟩, h⟩ := St.ex.1 h
    have h := St.flat.1 h
    refine ⟨o, i, cc, h.cell 0, newC_i h fun k25 w43 h => ?_⟩
    refine (app_one tyOk (rfl : kdOfT Ty _ = .slice _) (rfl : kdOfT Ty _ = .slice _) rfl rfl rfl (h.pick 4 [0, 2, 1, 3]) rfl (by simp [oneC]) (by show (i + 1) * 8 ≤ _; omega) (by omega)).mono ?_
    rintro _ w44 ⟨a', c', rfl, h⟩
    refine ⟨_, _, _, rfl, st1_i (h.pick 4 [2, 0, 3]) (by simp) fun w45 h => ⟨_, _, _, h.cell 0, _, _, _, (h.pick 3 [2]).cell 0, br_f (by simp; omega) (St.ex.2 ⟨(a', c'), St.flat.2 ?_⟩)⟩⟩
    have e : iv ((mbI A).take i) ++ [.int .i64 (m : Int)] = iv ((mbI A).take (i + 1)) := by
      rw [take_succ_get (mbI_get hm)]; simp [iv]
    rw [e] at h
    exact h
  · intro w41 h
    obtain ⟨⟨o, cc⟩, h⟩ := St.ex.1 h
    have h := St.flat.1 h
    dsimp only at h
    rw [ivm_len, mb_len, List.take_of_length_le (Nat.le_of_eq (mbI_len A))] at h
    have h : St w41 [cel k21 [.slice o (cntB A) cc], own 1 o (cntB A) cc (iv (mbI A)), cel k4 [.slice ao (cntB A) co], itD g1 A.length (fnB A), cel k15 [.int .i64 (k : Int)], cel k14 [.int .i64 (k : Int)], setO (some ⟨bx, 0, none⟩) (dropB (addB A ys) xs), itD g2 A.length (fnB A), own 1 ao (cntB A) co (iv (mbI A)), refO (some ⟨br, 0, none⟩) A, cel k1 [.bool false], has h0] := h
    obtain ⟨o1, rfl⟩ : ∃ o1, o1 = o := ⟨_, rfl⟩
    obtain ⟨c1, rfl⟩ : ∃ c1, c1 = cc := ⟨_, rfl⟩
    refine newC_i h fun k32 w40 h => ifT_iff.2 ⟨rfl, ivm (mb A), itD g2 A.length (fnB A), tabA, fun i => ex fun y : Option Addr × Nat => sta [cel k32 [.slice y.1 i y.2], own 1 y.1 i y.2 (iv ((mbI A).take i)), cel k4 [.slice ao (cntB A) co]], pu False, fun _ => pu False, [cel k21 [.slice o1 (cntB A) c1], own 1 o1 (cntB A) c1 (iv (mbI A)), itD g1 A.length (fnB A), cel k15 [.int .i64 (k : Int)], cel k14 [.int .i64 (k : Int)], setO (some ⟨bx, 0, none⟩) (dropB (addB A ys) xs), own 1 ao (cntB A) co (iv (mbI A)), refO (some ⟨br, 0, none⟩) A, cel k1 [.bool false], has h0], ?_, fun h hh => rdV.mono (rdH 9 hh) ht, c_All_itr, ?_, ?_, ?_, ?_, trivial⟩
    · refine St.ex.2 ⟨(none, 0), St.flat.2 ?_⟩
      exact (own_nil 1 h).pick 14 [1, 0, 4, 9, 2, 3, 5, 6, 7, 8, 10, 11, 12, 13]
    · intro x hx
      obtain ⟨i, hi, rfl⟩ := List.mem_iff_getElem.1 hx
      obtain ⟨k, _, e⟩ := ivm_get (List.getElem?_eq_getElem hi)
      exact ⟨_, e⟩
    · intro i x hxi L' w30 hsup h
      obtain ⟨m, hm, e⟩ := ivm_get hxi
      cases e
      refine ⟨_, h, fun L'' w31 hsup h => ?_⟩
      have hi : i < cntB A := (List.getElem?_eq_some_iff.1 hm).1
      obtain ⟨⟨o, cc⟩, h⟩ := St.ex.1 h
      have h := St.flat.1 h
      refine ⟨o, i, cc, h.cell 0, newC_i h fun k25 w43 h => ?_⟩
      refine (app_one tyOk (rfl : kdOfT Ty _ = .slice _) (rfl : kdOfT Ty _ = .slice _) rfl rfl rfl (h.pick 4 [0, 2, 1, 3]) rfl (by simp [oneC]) (by show (i + 1) * 8 ≤ _; omega) (by omega)).mono ?_
      rintro _ w44 ⟨a', c', rfl, h⟩
      refine ⟨_, _, _, rfl, st1_i (h.pick 4 [2, 0, 3]) (by simp) fun w45 h => ⟨_, _, _, h.cell 0, _, _, _, (h.pick 3 [2]).cell 0, br_f (by simp; omega) (St.ex.2 ⟨(a', c'), St.flat.2 ?_⟩)⟩⟩
      have e : iv ((mbI A).take i) ++ [.int .i64 (m : Int)] = iv ((mbI A).take (i + 1)) := by
        rw [take_succ_get (mbI_get hm)]; simp [iv]
      rw [e] at h
      exact h
    · intro w41 h
      obtain ⟨⟨o, cc⟩, h⟩ := St.ex.1 h
      have h := St.flat.1 h
      dsimp only at h
      rw [ivm_len, mb_len, List.take_of_length_le (Nat.le_of_eq (mbI_len A))] at h
      have h : St w41 [cel k32 [.slice o (cntB A) cc], own 1 o (cntB A) cc (iv (mbI A)), cel k4 [.slice ao (cntB A) co], itD g2 A.length (fnB A), cel k21 [.slice o1 (cntB A) c1], own 1 o1 (cntB A) c1 (iv (mbI A)), itD g1 A.length (fnB A), cel k15 [.int .i64 (k : Int)], cel k14 [.int .i64 (k : Int)], setO (some ⟨bx, 0, none⟩) (dropB (addB A ys) xs), own 1 ao (cntB A) co (iv (mbI A)), refO (some ⟨br, 0, none⟩) A, cel k1 [.bool false], has h0] := h
      refine (r_Add (xs := ys) (h.pick 14 [11, 0, 1, 2, 4, 5, 7, 8, 9, 10, 12, 13]) (fun h hh => hy.mono (rdH 10 hh)) hb2).mono ?_
      rintro _ w56 ⟨rfl, h⟩
      refine ⟨_, rfl, (r_Drop (xs := xs) h (fun h hh => hx.mono (rdH 10 hh)) hb).mono ?_⟩
      rintro _ w57 ⟨rfl, h⟩
      have h : St w57 [refO (some ⟨br, 0, none⟩) (dropB (addB A ys) xs), cel k32 [.slice o (cntB A) cc], own 1 o (cntB A) cc (iv (mbI A)), cel k4 [.slice ao (cntB A) co], cel k21 [.slice o1 (cntB A) c1], own 1 o1 (cntB A) c1 (iv (mbI A)), cel k15 [.int .i64 (k : Int)], cel k14 [.int .i64 (k : Int)], setO (some ⟨bx, 0, none⟩) (dropB (addB A ys) xs), own 1 ao (cntB A) co (iv (mbI A)), cel k1 [.bool false], has h0] := h
      have q21 := (h.pick 12 [4]).cell 0
      have q4 := (h.pick 12 [3]).cell 0
      have q32 := (h.pick 12 [1]).cell 0
      refine ⟨_, rfl, _, (h.pick 12 [6]).cell 0, _, (h.pick 12 [7]).cell 0, br_t (by simp) ⟨_, _, _, q21, _, _, _, q4, (r_Ints (rdW (mbI A) 5 h.l rfl rfl (mbI_len A)) (rdW (mbI A) 9 h.l rfl rfl (mbI_len A)) (by omega)).mono ?_⟩⟩
      rintro _ w58 ⟨rfl, hw⟩
      have h := h.eq hw
      have q4 := (h.pick 12 [3]).cell 0
      have q32 := (h.pick 12 [1]).cell 0
      refine ⟨_, rfl, br_t (by simp) ⟨_, _, _, q32, _, _, _, q4, (r_Ints (rdW (mbI A) 2 h.l rfl rfl (mbI_len A)) (rdW (mbI A) 9 h.l rfl rfl (mbI_len A)) (by omega)).mono ?_⟩⟩
      rintro _ w59 ⟨rfl, hw⟩
      have h := h.eq hw
      refine ⟨_, rfl, br_t (by simp) ((l_is (rdO 8 h.l) (rdR 0 h.l) (tb (rdH 11 h.l))).mono ?_)⟩
      rintro _ w60 ⟨rfl, hg⟩
      have h := h.gr hg
      refine ⟨_, rfl, st1_i (h.pick 12 [10, 11]) (by simp) fun w61 h => ⟨_, h.cell 0, fun w62 hw => ⟨rfl, hfin _ ?_⟩⟩⟩
      exact (rdH 1 h.l).trans (hp_sub hw)
    · intro w41 h
      obtain ⟨⟩ := (St.pu.1 h).1
  · intro w41 h
    obtain ⟨⟩ := (St.pu.1 h).1
end
end Go.Proofs.YtcipljcagejjaaaDoor
