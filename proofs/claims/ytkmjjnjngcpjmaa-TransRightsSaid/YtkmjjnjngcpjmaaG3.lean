/- Texts of this claim, one behind the other. -/
import Derived.Test.YtkmjjnjngcpjmaaG2
import Derived.Test.YtkmjjnjngcpjmaaG1
import Derived.Laws.StructEq
import Derived.Test.YtkmjjnjngcpjmaaRows
import Derived.WalkKit
import Derived.ProofKit
import Derived.OpenShut
import Derived.Carry
import Derived.OpenVars
import Derived.Deep.DeepHandedRow
import Derived.Lib.LaidTab
set_option linter.unusedVariables false
namespace Go.V
theorem totE_le {g : GramT} : ∀ i, totE (bst g i).2 ≤ i * (g.T + g.N)
  | 0 => Nat.zero_le _
  | i + 1 => by
    cases h : (bst g i).1[i]? with
    | none => rw [bst_none h, Nat.succ_mul]; exact Nat.le_trans (totE_le i) (Nat.le_add_right _ _)
    | some K =>
      rw [bst_succ h, totE_snoc, bsy_len2, Nat.succ_mul]
      have h1 : (symsOf g K).length ≤ g.T + g.N := by
        have := List.length_filter_le (fun s => decide (kern g K (s : Nat) ≠ [])) (List.range (g.T + g.N))
        rwa [List.length_range] at this
      have := totE_le (g := g) i
      simp; omega
theorem newS_len (ss : List SQ) (b : Option Addr) (d : Nat) (K : Kern) : ss.length ≤ (newS ss b d K).length ∧ (newS ss b d K).length ≤ ss.length + 1 := by
  unfold newS; split <;> simp
theorem mV_keys {κ α : Type} (ps : List (κ × Lq α)) : (mV ps).map Prod.fst = ps.map Prod.fst := by unfold mV; rw [List.map_map]; rfl
theorem mV_len {κ α : Type} (ps : List (κ × Lq α)) : (mV ps).length = ps.length := List.length_map _
abbrev z3 : List Value := [.slice none 0 0, .int .i64 0, .int .i64 0]
end Go.V
namespace Go.Proofs.Ytkmjjnjngcpjmaa
open Go.V
variable {w : World} {L : List Asn} {g : GramT} {x : GA}
set_option maxHeartbeats 4000000 in
theorem y_Build (hg : gR (hp w) g x) (hb : okG g) : Run Try.prog n_lr0_Build [.agg ⟨x.cells⟩] w fun v w' =>
    (¬ClosedP g ∧ v = .tuple #[.agg #[.slice none 0 0, .int .i64 0, .int .i64 0], .int .i64 1] ∧ Gr w w') ∨
    (ClosedP g ∧ BigP g ∧ v = .tuple #[.agg #[.slice none 0 0, .int .i64 0, .int .i64 0], .int .i64 11] ∧ Gr w w') ∨
    (ClosedP g ∧ ∃ (o : Option Addr) (ss : List SQ), AutI g ss ∧ v = .tuple #[.agg #[.slice o ss.length ss.length, .int .i64 (1 + (totE (esOf ss) : Int)), .int .i64 (ss.length : Int)], .int .i64 0] ∧
      St w' (own 2 o ss.length ss.length (ssV ss) :: sta (kOw ss) :: sta (eOw ss) :: all w)) := by
  refine run_lr0_Build _ _ _ _ _ _ _ _ _ _ _ _ _ w _ (gbox hg fun k1 w1 gw hg B => ?_)
  refine newC_i (St.all w1) fun k2 w2 h => ?_
  refine ⟨_, _, _, _, _, _, _, _, _, _, _, _, _, B.row h.gone1, (g_Closed (hg.mono h.gone1) hb).mono ?_⟩
  rintro _ w3 ⟨⟨rb, rfl, hrb⟩, g3⟩
  have h := h.gr g3
  have s3 : sub (hp w1) (hp w3) := h.gone1
  refine ⟨_, rfl, br_intro (fun h1 => ?_) fun h1 => ?_⟩
  · have hn : ¬ClosedP g := fun hc => by rw [hrb.2 hc] at h1; simp at h1
    exact stR_i h rfl (by simp [oneC]) fun w4 h => ⟨_, _, _, _, _, (rdCel 0 h.l).at (sub.refl _) rfl, .inl ⟨hn, rfl, gw.trans h.gone1⟩⟩
  have hc : ClosedP g := hrb.1 (by simpa using h1)
  obtain ⟨hT, hN, hP, hP2, hT1, hN2⟩ := hc.sizes
  obtain ⟨_, _, _, _, _, _, hbr⟩ := id hb
  refine ⟨_, _, _, _, _, _, _, _, _, _, _, _, _, B.row s3, (y_ofA (hg.mono s3) hb).mono ?_⟩
  rintro _ w5 ⟨km, kb, pb, rfl, hpb, h5⟩
  have h := (St.on (N := [_, _, _]) h5 h.l).pick 5 [3, 0, 1, 2, 4]
  obtain ⟨H, hlH, sH, h⟩ := St.freeze h
  have s1H : sub (hp w1) H := rdH 3 hlH
  have hm : MkR H g km := mk_of (hg.mono s1H) hpb hlH
  have sw : sub (hp w) H := sub.trans gw s1H
  clear hlH h5 sH B s3 g3
  refine ⟨_, rfl, new_i h fun ka w6 h => ?_⟩
  have h := mapA_new (κ := ByteArray) h
  refine newC_i h fun kt w7 h => newC_i h fun k3 w8 h => ?_
  have h : St w8 (own 2 (some (aM k3)) 1 1 (tv [⟨0, 0⟩]) :: cel kt [.slice none 0 0, .int .i64 0, .int .i64 0, .map (some ka)] :: mapA ka ([] : List (ByteArray × Value)) :: cel k2 z3 :: [has H]) := own_some (cs := []) h rfl rfl (Nat.le_refl _)
  have h := own_nil 2 ((St.flat (M := [])).2 ((St.flat (M := [])).2 h))
  refine (y_intern (ss := []) (h.pick 8 [4, 0, 5, 1, 2, 3, 6, 7]) KeyI.start (by simp) (by simp [smallI]) ⟨by decide, by decide⟩ ⟨by decide, by decide⟩ (by simp) (by decide)).mono ?_
  rintro _ w9 ⟨rfl, o1, c1, m1, hk1, h⟩
  refine ⟨_, rfl, fun z w' => ∃ (i : Nat) (ss : List SQ) (o : Option Addr) (c : Nat) (m : List (ByteArray × Value)) (asked : Int), z = i ∧ i ≤ ss.length ∧ BldI g ss m asked i ∧ St w' (tabL kt ka o c asked ss.length m ss (cel k2 z3 :: [has H])), fun z _ => 300 - z.toNat,
    ⟨0, newS [] (some (aM k3)) 1 [⟨0, 0⟩], o1, c1, m1, 1, rfl, Nat.zero_le _, .start hk1, ?_⟩, ?_⟩
  · have e : (0 : Int) + (((newS [] (some (aM k3)) 1 [⟨0, 0⟩]).length - ([] : List SQ).length : Nat) : Int) = ((newS [] (some (aM k3)) 1 [⟨0, 0⟩]).length : Int) := by simp
    rw [e] at h
    exact h
  clear h hk1
  rintro _ _ w10 ⟨i, ss, o, c, m, asked, rfl, hi, hB, h⟩
  have hlen : ss.length ≤ 256 := hB.le
  refine ⟨_, _, _, (rdCel 0 h.l).cell0 (sub.refl _), br_intro (fun h1 => ?_) fun h1 => ?_⟩
  rotate_left
  · have h1 : i = ss.length := by have := of_decide_eq_false h1; omega
    subst h1
    have hkl := ksOf_len ss
    have hes := hB.es
    rw [Nat.sub_self, List.replicate_zero, List.append_nil] at hes
    have hA : AutI g ss := ⟨⟨by rw [← hB.ks, hkl], hlen, hB.lt⟩, hB.ks, hes⟩
    refine ⟨_, _, _, (rdCel 0 h.l).cell0 (sub.refl _), run_slices_Clip_api_State_api_State_ _ _ _ w10 _ (slc_clip (own_le (h.pick 2 [1])) ⟨_, _, _, rfl, ?_⟩)⟩
    have h := own_clip (h.pick 7 [1, 0, 3, 4, 5, 6])
    refine st1_i (h.pick 2 [1, 0]) (by simp) fun w31 h => ?_
    have r31 : rowH (hp w31) (aM kt) ([.slice (slP o 0 ss.length 2) ss.length ss.length, .int .i64 asked, .int .i64 (ss.length : Int)] ++ [.map (some ka)]) := rdCel 0 h.l
    refine ⟨_, _, _, _, _, r31.take.at (sub.refl _) rfl, stR_i (h.pick 6 [4, 1, 2, 3, 5]) rfl (by simp [oneC]) fun w32 h => ⟨_, _, _, _, _, (rdCel 0 h.l).at (sub.refl _) rfl, .inr (.inr ⟨hc, slP o 0 ss.length 2, ss, hA, ?_, ?_⟩)⟩⟩
    · rw [hes, ← hB.ask]
    · exact St.on (N := [_, _, _]) (h.pick 5 [1, 2, 3, 4]) (has_i sw)
  have h1 : i < ss.length := by have := of_decide_eq_true h1; omega
  obtain ⟨q, hq⟩ : ∃ q, ss[i]? = some q := ⟨_, List.getElem?_eq_getElem h1⟩
  obtain ⟨K, hKq⟩ : ∃ K, K = q.1.2 := ⟨_, rfl⟩
  have hK : (bst g i).1[i]? = some K := by rw [← hB.ks]; unfold ksOf; rw [List.getElem?_map, hq, hKq]; rfl
  have hI := bst_inv (g := g) (by omega) i
  have hKm := List.mem_of_getElem? hK
  have hKf := hI.fit K hKm
  have hKd : ∀ x ∈ K, x.dot ≤ i := hI.dots i K hK
  have hKl := kern_len hP (hI.srt K hKm) hKf fun x hx => by have := hKd x hx; omega
  have htot := totE_le (g := g) i
  have htot2 : totE (bst g i).2 ≤ 33280 := Nat.le_trans htot (Nat.mul_le_mul (show i ≤ 256 by omega) (show g.T + g.N ≤ 130 by omega))
  have hes := bst_es (g := g) i (by rw [← hB.ks, ksOf_len]; omega)
  obtain ⟨ad, rfl, rs⟩ := st_row (rdOv 1 h.l) hq
  obtain ⟨h6, s6, ho6⟩ := staRead (h.pick 4 [3]).l (kOw_get hq)
  have hrK : rdS (hp w10) K q.1.1.1 q.1.2.length := by have := (owQ_rdI ho6).mono s6; rwa [hKq]
  have hql : q.1.2.length = K.length := by rw [hKq]
  clear ho6 s6
  have s10 : sub H (hp w10) := rdH 6 h.l
  refine ⟨_, _, _, (rdCel 0 h.l).cell0 (sub.refl _), idx_n rfl h1 ⟨_, _, _, rs.cell0 (sub.refl _), (y_kernels (hm.mono s10) hrK hKf (by rw [hql]; omega) hbr).mono ?_⟩⟩
  rintro _ w11 ⟨kk, ps, rfl, hps, hnd, hks, h2⟩
  have h := h2.on2 h.l
  clear rs hrK h2 s10
  have hkeys : ps.length ≤ 130 := by
    have := nodup_len (m := (List.range 130).map Int.ofNat) hnd fun s hs => by
      obtain ⟨h0, hne⟩ := (hks s).1 hs
      obtain ⟨_, h4⟩ := kern_sym hc hKf h0 hne
      exact List.mem_map.2 ⟨s.toNat, List.mem_range.2 (by omega), by simp; omega⟩
    rwa [List.length_map, List.length_map, List.length_range] at this
  refine ⟨_, rfl, (map_range tyOk (rfl : kdOfT Ty _ = .map _ _) h).mono ?_⟩
  rintro _ w12 ⟨r, rfl, h⟩
  refine ⟨_, rfl, fun o n c' w' => ∃ ks : List Int, n = ks.length ∧ St w' (own 1 o n c' (iv ks) :: mapIt kk r (mV ps) ks :: sta (mO 2 tv ps) :: tabL kt ka (some ad) c asked ss.length m ss (cel k2 z3 :: [has H])), fun _ n _ _ => ps.length - n, ⟨[], rfl, own_nil 1 h⟩, ?_⟩
  clear h
  rintro _ o16 _ c16 w13 ⟨ks, rfl, h⟩
  refine (map_next (h.pick 2 [1, 0])).mono ?_
  rintro _ w14 (⟨rfl, hperm, h⟩ | ⟨s, u, hsm, rfl, hkl, h⟩)
  rotate_left
  · rw [mV_len] at hkl
    refine .inr ⟨s, u, rfl, (map_entry h).mono ?_⟩
    rintro _ w27 ⟨rfl, e27⟩
    rw [e27]
    refine ⟨s, u, rfl, newC_i (mapItL_it h) fun k49 w28 h => ?_⟩
    refine (app_one (us := iv ks) tyOk (rfl : kdOfT Ty _ = .slice _) (rfl : kdOfT Ty _ = .slice _) rfl rfl rfl (h.pick 3 [0, 2, 1]) rfl (by simp [oneC]) (by show (ks.length + 1) * 8 ≤ _; omega) (by omega)).mono ?_
    rintro _ w29 ⟨o29, c29, rfl, h⟩
    refine ⟨_, _, _, rfl, ⟨ks ++ [s], by simp, ?_⟩, by dsimp only; omega⟩
    have e : iv (ks ++ [s]) = iv ks ++ [.int .i64 s] := by simp [iv]
    rw [e]
    exact h.pick 3 [0, 2]
  rw [mV_keys] at hperm
  obtain ⟨S, hS⟩ : ∃ S, S = symsOf g K := ⟨_, rfl⟩
  have hksS := syms_of (ks := ks) hc hKf (hperm.nodup_iff.2 hnd) fun s => by rw [hperm.mem_iff]; exact hks s
  rw [← hS] at hksS
  have hpS : (S.map Int.ofNat).Perm (ps.map Prod.fst) := by rw [← hksS]; exact (List.mergeSort_perm ks _).trans hperm
  have hksl : ks.length = S.length := by rw [hperm.length_eq, ← hpS.length_eq, List.length_map]
  have hSl : S.length ≤ 130 := by have := hpS.length_eq; rw [List.length_map, List.length_map] at this; omega
  refine .inl ⟨rfl, (y_sortI (h.pick 2 [1, 0]) (by omega)).mono ?_⟩
  rintro _ w15 ⟨rfl, h⟩
  rw [hksS] at h
  have h := sta_perm (h.pick 3 [2, 0, 1]) (mO_order hnd hpS)
  refine ⟨rfl, fun o n c' z w' => ∃ (t : Nat) (es : List EdgeT) (ss' : List SQ) (o' : Option Addr) (c'' : Nat) (m' : List (ByteArray × Value)) (asked' : Int), z = t ∧ t ≤ S.length ∧ n = es.length ∧ BltI g K ss' m' asked' i t es ∧ ss.length ≤ ss'.length ∧
      St w' (own 2 o n c' (ev2 es) :: own 1 o16 ks.length c16 (iv (S.map Int.ofNat)) :: mapA kk (mV ps) :: sta (((S.map Int.ofNat).drop t).map fun s => owQ 2 tv (getD' s ps)) :: tabL kt ka o' c'' asked' ss'.length m' ss' (cel k2 z3 :: [has H])), fun _ _ _ z _ => S.length - z.toNat,
    ⟨0, [], ss, some ad, c, m, asked, rfl, Nat.zero_le _, rfl, hB.inner hK, Nat.le_refl _, own_nil 2 (h.pick 3 [1, 2, 0])⟩, ?_⟩
  clear h hq hKq hql
  rintro _ o17 _ c17 _ w16 ⟨t, es, ss', o', c'', m', asked', rfl, ht, rfl, hT2, hle, h⟩
  have hle2 : ss'.length ≤ 256 := hT2.le
  have hesl : es.length = t := by
    rw [hT2.ed, bsy_len2, List.length_take, ← hS, Nat.min_eq_left ht]; simp
  refine br_intro (fun h3 => ?_) fun h3 => ?_
  · have h3 : t < S.length := by have := of_decide_eq_true h3; omega
    obtain ⟨s, hs⟩ : ∃ s, S[t]? = some s := ⟨_, List.getElem?_eq_getElem h3⟩
    have hsI : (S.map Int.ofNat)[t]? = some (s : Int) := by rw [List.getElem?_map, hs]; rfl
    obtain ⟨oad, hoa, hoc⟩ := own_cell (h.pick 2 [1]) (j := t) (v := .int .i64 (s : Int)) (by unfold iv; rw [List.getElem?_map, hsI]; rfl)
    have hkn : kern g K (s : Int) ≠ [] := symsOf_ne s (by rw [← hS]; exact List.mem_of_getElem? hs)
    have hsk : (s : Int) ∈ ps.map Prod.fst := (hks s).2 ⟨by omega, hkn⟩
    obtain ⟨Q, hQ⟩ : ∃ Q, getQ (s : Int) ps = some Q := Option.isSome_iff_exists.1 (getQ_iff.2 hsk)
    have hQD : getD' (s : Int) ps = Q := by unfold getD'; rw [hQ]; rfl
    have hQ2 : Q.2 = kern g K (s : Int) := by rw [← hps s (by omega)]; unfold getK; rw [hQ]
    have hdrop : (S.map Int.ofNat).drop t = (s : Int) :: (S.map Int.ofNat).drop (t + 1) := by
      rw [List.drop_eq_getElem_cons (by rw [List.length_map]; exact h3)]
      congr 1
      exact (List.getElem?_eq_some_iff.1 hsI).2
    have hkl := cls_len g K
    have hkl2 : (kern g K (s : Int)).length ≤ (cls g K).length := kernN_len g _ _
    have hQl : Q.2.length ≤ 29300 := by rw [hQ2]; exact Nat.le_trans hkl2 (Nat.le_trans hkl (by omega))
    refine idx_i hoa (by omega) ⟨_, hoc, (map_lookup (κ := Int) tyOk (rfl : kdOfT Ty _ = .map _ _) und_int rfl rfl (h.pick 3 [2]) (s : Int)).mono ?_⟩
    rintro _ w17 ⟨rfl, e17⟩
    rw [e17]
    rw [hdrop, List.map_cons, hQD] at h
    have h := sta_pop (h.pick 4 [3, 0, 1, 2])
    refine ⟨Q.1.1, Q.2.length, Q.1.2, by rw [assoc_mV, hQ]; rfl, (y_laid h (by omega)).mono ?_⟩
    rintro _ w18 ⟨o18, rfl, h⟩
    rw [hQ2, lay_same kern_srt] at h ⊢
    have hsmall : ∀ x ∈ kern g K (s : Int), smallI x := fun x hx => by
      refine small_of hP (kern_fit hKf (Int.natCast_nonneg _) x hx) ?_
      obtain ⟨y, h1, _, rfl⟩ := kern_mem.1 hx
      have := h1.dot hKd (Int.natCast_nonneg _)
      show y.dot + 1 < 65536
      omega
    have hask := hT2.ask
    refine ⟨_, _, _, rfl, (y_intern (h.pick 10 [5, 6, 7, 8, 9, 0, 1, 2, 3, 4]) hT2.key hkn hsmall ⟨by omega, by omega⟩ ⟨by omega, by omega⟩ (by omega) (by rw [← hQ2]; omega)).mono ?_⟩
    rintro _ w19 ⟨rfl, o2', c2', m2', hk2, h⟩
    have hnl := newS_len ss' o18 (kern g K (s : Int)).length (kern g K (s : Int))
    have eint : (ss'.length : Int) + (((newS ss' o18 (kern g K (s : Int)).length (kern g K (s : Int))).length - ss'.length : Nat) : Int) = ((newS ss' o18 (kern g K (s : Int)).length (kern g K (s : Int))).length : Int) := by omega
    rw [eint] at h
    refine ⟨_, rfl, newC_i h fun k38 w20 h => ?_⟩
    refine (app_one (us := ev2 es) tyOk (rfl : kdOfT Ty _ = .slice _) (rfl : kdOfT Ty _ = .slice _) rfl rfl rfl (h.pick 8 [0, 7, 1, 2, 3, 4, 5, 6]) rfl (by simp [oneC]) (by show (es.length + 1) * 16 ≤ _; omega) (by omega)).mono ?_
    rintro _ w21 ⟨o20, c20, rfl, h⟩
    refine ⟨_, _, _, rfl, _, _, _, (rdCel 2 h.l).cell0 (sub.refl _), br_intro (fun h4 => ?_) fun h4 => ?_⟩
    · have h4 : 256 < (newS ss' o18 (kern g K (s : Int)).length (kern g K (s : Int))).length := by have := of_decide_eq_true h4; omega
      refine stR_i (h.pick 12 [10, 11]) rfl (by simp [oneC]) fun w22 h => ⟨_, _, _, _, _, (rdCel 0 h.l).at (sub.refl _) rfl, .inr (.inl ⟨hc, ⟨i, K, t + 1, hK, fun j hj => ?_, ?_⟩, rfl, sub.trans sw (rdH 1 h.l)⟩)⟩
      · by_cases e : j = i
        · subst e; exact (List.getElem?_eq_some_iff.1 hK).1
        · exact hB.lt j (by omega)
      · rw [hS] at hs
        rw [bsy_take hs, ← hT2.ks]
        have := ksOf_len (newS ss' o18 (kern g K (s : Int)).length (kern g K (s : Int)))
        rw [newS_ks] at this
        show 256 < (inK _ _).length
        omega
    · have h4 : (newS ss' o18 (kern g K (s : Int)).length (kern g K (s : Int))).length ≤ 256 := by have := of_decide_eq_false h4; omega
      refine ⟨⟨by omega, by omega⟩, ⟨t + 1, es ++ [⟨(s : Int), (((ksOf ss').idxOf (kern g K (s : Int)) : Nat) : Int)⟩], _, o2', c2', m2', _, by simp, h3, by simp, hT2.next (by rw [← hS]; exact hs) (by omega) hk2 h4, by omega, ?_⟩, msr h3⟩
      have e : ev2 (es ++ [⟨(s : Int), (((ksOf ss').idxOf (kern g K (s : Int)) : Nat) : Int)⟩]) = ev2 es ++ [.int .i64 (s : Int), .int .i64 (((ksOf ss').idxOf (kern g K (s : Int)) : Nat) : Int)] := by unfold ev2; rw [List.flatMap_append]; rfl
      rw [e]
      exact h.pick 10 [0, 8, 9, 7, 2, 3, 4, 5, 6]
  · have h3 : t = S.length := by have := of_decide_eq_false h3; omega
    intro w23 hd
    have h := h.eq (drawn_hp hd)
    obtain ⟨q', hq'⟩ : ∃ q', ss'[i]? = some q' := ⟨_, List.getElem?_eq_getElem (by omega)⟩
    have rt : rowH (hp w23) (aM kt) [.slice o' ss'.length c'', .int .i64 asked', .int .i64 (ss'.length : Int), .map (some ka)] := rdCel 4 h.l
    obtain ⟨ad', rfl, _⟩ := st_row (rdOv 5 h.l) hq'
    refine ⟨fun u => Gr w23 u, Gr.refl _, _, _, _, fun u s => rt.cell0 s, run_slices_Clip_api_Edge_api_Edge_ _ _ _ w23 _ (slc_clip (own_le h) ⟨_, _, _, rfl, Gr.refl _, idx_n rfl (by omega) ?_⟩)⟩
    have h := own_clip h
    rw [add_add, mulS_eq]
    refine own_st1 (h.pick 6 [5, 0, 4]) rfl (by rw [ssV_len]; omega) fun w26 h => ?_
    rw [h3] at hT2
    have hen : (slP o17 0 es.length 2, es.length, es).2.2 = es := rfl
    have e1 := ssV_set hq' ((slP o17 0 es.length 2, es.length), es)
    have e2 := ks_set hq' ((slP o17 0 es.length 2, es.length), es)
    have h := (St.staSet (n := i) (h.pick 6 [1, 5, 0, 2, 3, 4]) (by unfold eOw; rw [List.length_map]; omega)).pick 5 [2, 1, 3, 4, 0]
    refine ⟨⟨by omega, by omega⟩, ⟨i + 1, ss'.set i (q'.1, ((slP o17 0 es.length 2, es.length), es)), some ad', c'', m', asked', by simp, by rw [List.length_set]; omega, (by rw [← hS]; exact hT2 : BltI g K ss' m' asked' i (symsOf g K).length es).done hB.lt hK hes (by omega) hq' _ rfl, ?_⟩, by dsimp only; omega⟩
    unfold tabL
    rw [List.length_set, e2.2.1, e2.2.2.2, ← e1]
    exact h
end Go.Proofs.Ytkmjjnjngcpjmaa
set_option linter.unusedVariables false
namespace Go.V
theorem szA {l p : Nat} (h : (l + 98) * 16 ≤ 140737488355328) (hp : p ≤ 97) : (l + p + 1) * 16 ≤ 140737488355328 := Nat.le_trans (Nat.mul_le_mul_right 16 (Nat.add_le_add_left (show p + 1 ≤ 98 by omega) l)) h
theorem szB {l : Nat} (h : (l + 98) * 16 ≤ 140737488355328) : l ≤ 8796093022110 := by
  have := (Nat.le_div_iff_mul_le (by decide : 0 < 16)).2 h
  have h2 : 140737488355328 / 16 = 8796093022208 := by decide
  rw [h2] at this
  omega
end Go.V
namespace Go.Proofs.Ytkmjjnjngcpjmaa
open Go.V
variable {w : World} {L : List Asn} {g : GramT} {x : GA} {a : Option Addr} {l c : Nat} {I : List ItemT}
theorem y_Closure (hg : gR (hp w) g x) (hb : okG g) (hr : rdS (hp w) I a l) (hl : (l + 98) * 16 ≤ 140737488355328) : Run Try.prog n_lr0_Closure [.agg ⟨x.cells⟩, .slice a l c] w fun v w' =>
    (¬(ClosedP g ∧ fitsB g I) ∧ v = .tuple #[.slice none 0 0, .int .i64 1] ∧ Gr w w') ∨
    (ClosedP g ∧ fitsB g I ∧ ∃ o, v = .tuple #[.slice o (cls g I).length (cls g I).length, .int .i64 0] ∧ St w' (own 2 o (cls g I).length (cls g I).length (tv (cls g I)) :: all w)) := by
  refine run_lr0_Closure _ _ _ _ _ _ _ _ _ _ _ _ _ _ _ _ w _ (gbox hg fun k1 w1 gw hg B => ?_)
  refine ⟨_, _, _, _, _, _, _, _, _, _, _, _, _, B.row (sub.refl _), (y_of hg hb).mono ?_⟩
  rintro _ w2 ⟨km, rfl, hm, g2⟩
  refine ⟨_, rfl, _, _, _, _, _, _, _, _, _, _, _, _, _, B.row g2, (g_Closed (hg.mono g2) hb).mono ?_⟩
  rintro _ w3 ⟨⟨rb, rfl, hrb⟩, g3⟩
  have gw3 : Gr w w3 := gw.trans (g2.trans g3)
  refine ⟨_, rfl, br_intro (fun h1 => ?_) fun h1 => ?_⟩
  · exact .inl ⟨fun ⟨hc, _⟩ => by rw [hrb.2 hc] at h1; simp at h1, rfl, gw3⟩
  have hc : ClosedP g := hrb.1 (by simpa using h1)
  obtain ⟨_, _, hP, _⟩ := hc.sizes
  obtain ⟨_, _, _, _, _, _, hbr⟩ := id hb
  refine (y_fits (hm.mono g3) (hr.mono gw3) (Nat.le_trans (szB hl) (by decide)) hbr).mono ?_
  rintro _ w4 ⟨⟨rb2, rfl, hrb2⟩, g4⟩
  refine ⟨_, rfl, br_intro (fun h2 => ?_) fun h2 => ?_⟩
  · exact .inl ⟨fun ⟨_, hf⟩ => by rw [hrb2.2 hf] at h2; simp at h2, rfl, gw3.trans g4⟩
  have hf : fitsB g I := hrb2.1 (by simpa using h2)
  refine (y_closure ((hm.mono g3).mono g4) (hr.mono (gw3.trans g4)) hf (szA hl hP)).mono ?_
  rintro _ w5 ⟨o, rfl, h⟩
  exact ⟨_, _, _, rfl, .inr ⟨hc, hf, o, rfl, h.on1 (has_i (gw3.trans g4))⟩⟩
end Go.Proofs.Ytkmjjnjngcpjmaa
set_option linter.unusedVariables false
namespace Go.Proofs.Ytkmjjnjngcpjmaa
open Go.V
end Go.Proofs.Ytkmjjnjngcpjmaa
set_option linter.unusedVariables false
namespace Go.V
structure StT where
  kern : List ItemT
  edges : List EdgeT
instance : Rep StT := { n := 2, rd := fun h q vs => ∃ a l c b n d, vs = [.slice a l c, .slice b n d] ∧ l ≤ c ∧ n ≤ d ∧ rdS h q.kern a l ∧ rdS h q.edges b n, mono := fun s ⟨a, l, c, b, n, d, h1, h2, h3, h4, h5⟩ => ⟨a, l, c, b, n, d, h1, h2, h3, h4.mono s, h5.mono s⟩, len := fun ⟨_, _, _, _, _, _, h, _⟩ => by rw [h]; rfl }
end Go.V
namespace Go.Proofs.Ytkmjjnjngcpjmaa
open Go.V
variable {w : World} {L : List Asn} {g : GramT} {x : GA} {a a2 : Option Addr} {l c l2 c2 : Nat} {I J : List ItemT}
end Go.Proofs.Ytkmjjnjngcpjmaa
set_option linter.unusedVariables false
namespace Go.Proofs.Ytkmjjnjngcpjmaa
open Go.V
variable {w : World} {L : List Asn} {g : GramT} {x : GA} {a a2 : Option Addr} {l c l2 c2 : Nat} {I J : List ItemT}
end Go.Proofs.Ytkmjjnjngcpjmaa
set_option linter.unusedVariables false
namespace Go.V
section
variable {g : GramT} {I ls : List ItemT} {bs : List Bool} {i : Nat} {x y : ItemT}
theorem ClosedP.left (h : ClosedP g) {p : ProdT} (hp : p ∈ g.prods) : (g.T : Int) ≤ p.left := by
  obtain ⟨_, h1, h2, p0, hp0, hl, _⟩ := h
  obtain ⟨n, hn⟩ := List.getElem?_of_mem hp
  cases n with
  | zero => rw [hp0] at hn; cases hn; omega
  | succ n =>
    have hm : p ∈ g.prods.drop 1 := by
      refine List.mem_of_getElem? (i := n) ?_
      rw [List.getElem?_drop, Nat.add_comm]; exact hn
    have := ((h2.2.2.1 p hm).1).1
    omega
structure DclI (g : GramT) (I : List ItemT) (bs : List Bool) (i : Nat) (ls : List ItemT) : Prop where
  nd : ls.Nodup
  sb : ∀ x ∈ I, x ∈ ls
  ok : ∀ x ∈ ls, ClM g I x
  ln : bs.length = g.T + g.N
  bt : ∀ s : Nat, bs[s]? = some true → ∀ k ∈ byL g s, it0 k ∈ ls
  dn : ∀ (j : Nat) y, j < i → ls[j]? = some y → (g.T : Int) ≤ aft g y → bs[(aft g y).toNat]? = some true
theorem DclI.start : DclI g I (List.replicate (g.T + g.N) false) 0 (lay I) :=
  ⟨(lay_srt I).nodup, fun x hx => lay_mem.2 hx, fun x hx => .base (lay_mem.1 hx), by simp, fun s hs => by rw [List.getElem?_replicate] at hs; split at hs <;> simp at hs, fun j y hj => by omega⟩
theorem item_len (h1 : ls.Nodup) (h2 : ∀ x ∈ ls, ClM g I x) : ls.length ≤ I.length + g.prods.length := by
  have := nodup_len (m := I ++ (List.range g.prods.length).map it0) h1 fun x hx => by
    rw [List.mem_append]
    rcases (h2 x hx).or with h | ⟨i, hi, rfl⟩
    · exact .inl h
    · exact .inr (List.mem_map.2 ⟨i, List.mem_range.2 hi, rfl⟩)
  simpa using this
theorem DclI.len (h : DclI g I bs i ls) : ls.length ≤ I.length + g.prods.length := item_len h.nd h.ok
theorem DclI.skip (h : DclI g I bs i ls) (hy : ls[i]? = some y) (hs : aft g y < g.T ∨ bs[(aft g y).toNat]? = some true) : DclI g I bs (i + 1) ls :=
  ⟨h.nd, h.sb, h.ok, h.ln, h.bt, fun j z hj hz h0 => by
    by_cases e : j = i
    · subst e; rw [hy] at hz; cases hz
      rcases hs with hs | hs
      · omega
      · exact hs
    · exact h.dn j z (by omega) hz h0⟩
structure DclJ (g : GramT) (I : List ItemT) (s : Int) (ls : List ItemT) (j : Nat) (ms : List ItemT) : Prop where
  nd : ms.Nodup
  pre : ∃ ex, ms = ls ++ ex
  ok : ∀ x ∈ ms, ClM g I x
  al : ∀ k ∈ byN g j s, it0 k ∈ ms
theorem DclI.inner (h : DclI g I bs i ls) (s : Int) : DclJ g I s ls 0 ls := ⟨h.nd, ⟨[], by simp⟩, h.ok, fun k hk => by simp [byN] at hk⟩
theorem DclI.more {ms : List ItemT} (h : DclI g I bs i ls) (hy : ls[i]? = some y) (h0 : 0 ≤ aft g y) (hl : (aft g y).toNat < bs.length) (hJ : DclJ g I (aft g y) ls g.prods.length ms) : DclI g I (bs.set (aft g y).toNat true) (i + 1) ms := by
  obtain ⟨ex, rfl⟩ := hJ.pre
  refine ⟨hJ.nd, fun x hx => List.mem_append_left _ (h.sb x hx), hJ.ok, by rw [List.length_set]; exact h.ln, fun s hs k hk => ?_, fun j z hj hz h1 => ?_⟩
  · by_cases e : (aft g y).toNat = s
    · have e2 : (s : Int) = aft g y := by omega
      rw [e2] at hk
      exact hJ.al k hk
    · rw [List.getElem?_set_ne e] at hs
      exact List.mem_append_left _ (h.bt s hs k hk)
  · have hjl : j < ls.length := by have := (List.getElem?_eq_some_iff.1 hy).1; omega
    rw [List.getElem?_append_left hjl] at hz
    by_cases e : (aft g y).toNat = (aft g z).toNat
    · rw [← e, List.getElem?_set_self hl]
    · rw [List.getElem?_set_ne e]
      by_cases e2 : j = i
      · subst e2; rw [hy] at hz; cases hz; exact absurd rfl e
      · exact h.dn j z (by omega) hz h1
theorem DclI.fin (h : DclI g I bs i ls) (hc : ClosedP g) (hi : i = ls.length) : lay ls = cls g I := by
  refine cls_one (lay_srt _) fun x => ?_
  rw [lay_mem]
  refine ⟨h.ok x, fun hx => ?_⟩
  induction hx with
  | base hx => exact h.sb _ hx
  | @step y k p _ h1 h2 h3 ih =>
    obtain ⟨j, hj⟩ := List.getElem?_of_mem ih
    have hl := hc.left (List.mem_of_getElem? h2)
    have := h.dn j y (by have := (List.getElem?_eq_some_iff.1 hj).1; omega) hj (by omega)
    exact h.bt _ this k (byL_mem.2 ⟨p, h2, by rw [h3]; omega⟩)
theorem DclJ.skip {s : Int} {j : Nat} {ms : List ItemT} {p : ProdT} (h : DclJ g I s ls j ms) (hp : g.prods[j]? = some p) (hs : p.left ≠ s ∨ it0 j ∈ ms) : DclJ g I s ls (j + 1) ms :=
  ⟨h.nd, h.pre, h.ok, fun k hk => by
    rw [byN_succ hp, List.mem_append] at hk
    rcases hk with hk | hk
    · exact h.al k hk
    · split at hk
      · rename_i e
        simp at hk; subst hk
        rcases hs with hs | hs
        · exact absurd e.symm hs
        · exact hs
      · simp at hk⟩
theorem DclJ.put {s : Int} {j : Nat} {ms : List ItemT} {p : ProdT} (h : DclJ g I s ls j ms) (hp : g.prods[j]? = some p) (hs : p.left = s) (hn : it0 j ∉ ms) (hy : ClM g I y) (ha : aft g y = s) (h0 : 0 ≤ s) : DclJ g I s ls (j + 1) (ms ++ [it0 j]) := by
  obtain ⟨ex, rfl⟩ := h.pre
  refine ⟨?_, ⟨ex ++ [it0 j], by simp⟩, fun x hx => ?_, fun k hk => ?_⟩
  · rw [List.nodup_append]
    exact ⟨h.nd, by simp, fun a ha b hb e => by simp at hb; subst hb; subst e; exact hn (by simpa using ha)⟩
  · rw [List.mem_append, List.mem_singleton] at hx
    rcases hx with hx | rfl
    · exact h.ok x hx
    · exact .step hy (by omega) hp (by omega)
  · rw [byN_succ hp, List.mem_append] at hk
    rcases hk with hk | hk
    · exact List.mem_append_left _ (h.al k hk)
    · split at hk
      · simp at hk; subst hk; simp
      · simp at hk
end
end Go.V
namespace Go.Proofs.Ytkmjjnjngcpjmaa
open Go.V
variable {w : World} {L : List Asn} {g : GramT} {x : GA} {a a2 : Option Addr} {l c l2 c2 : Nat} {I J : List ItemT}
end Go.Proofs.Ytkmjjnjngcpjmaa
set_option linter.unusedVariables false
namespace Go.V
def stRd (h : Hp) (ss : List SQ) (o : Option Addr) : Prop := ∀ (i : Nat) q, ss[i]? = some q → ∃ ad, o = some ad ∧ rowH h (ad.add (mulS i 2)) (stV q) ∧ rdS h q.1.2 q.1.1.1 q.1.2.length ∧ rdS h q.2.2 q.2.1.1 q.2.2.length
theorem stRd.mono {h h' : Hp} {ss : List SQ} {o : Option Addr} (s : sub h h') (r : stRd h ss o) : stRd h' ss o := fun i q hq => by
  obtain ⟨ad, h1, h2, h3, h4⟩ := r i q hq
  exact ⟨ad, h1, h2.mono s, h3.mono s, h4.mono s⟩
theorem rdEd_of {h : Hp} {xs : List EdgeT} {a : Option Addr} {l : Nat} (hl : xs.length = l) (r : rdV a (ev2 xs) h) : rdS h xs a l := by
  refine ⟨hl, fun i x hx => ?_⟩
  rcases r with e | ⟨ad, rfl, hc⟩
  · have h1 := congrArg List.length e
    rw [ev2_len, List.length_nil] at h1
    have := (List.getElem?_eq_some_iff.1 hx).1; omega
  · exact ⟨ad, encE x, rfl, rowH_unflat (n := 2) (fun _ => rfl) xs ad hc i x hx, rfl⟩
theorem rdEd_get {h : Hp} {xs : List EdgeT} {a : Option Addr} {l : Nat} (r : rdS h xs a l) {i : Nat} (hi : i < l) : ∃ x ad, xs[i]? = some x ∧ a = some ad ∧ rowH h (ad.add (mulS i 2)) (encE x) := by
  obtain ⟨x, ad, vs, hx, ha, hr, e⟩ := r.get hi
  rw [show vs = encE x from e] at hr
  exact ⟨x, ad, hx, ha, hr⟩
theorem stRd_of {h : Hp} {L : List Asn} {ss : List SQ} {o : Option Addr} {n c : Nat} (hs : starL (own 2 o n c (ssV ss) :: sta (kOw ss) :: sta (eOw ss) :: L) h) : stRd h ss o := fun i q hq => by
  obtain ⟨ad, e, r⟩ := st_row (rdOv 0 hs) hq
  obtain ⟨h1, s1, a1⟩ := staRead (starL_tail hs) (kOw_get hq)
  obtain ⟨h2, s2, a2⟩ := staRead (starL_tail (starL_tail hs)) (eOw_get hq)
  exact ⟨ad, e, r, (owQ_rdI a1).mono s1, (rdEd_of rfl (own_rdVh a2)).mono s2⟩
def symsTo (g : GramT) (K : Kern) (s : Nat) : List Nat := (List.range s).filter fun s => decide (kern g K s ≠ [])
section
variable {g : GramT} {K : Kern} {ss : List SQ} {asked : Int} {i s : Nat} {es : List EdgeT}
theorem symsTo_succ : symsTo g K (s + 1) = symsTo g K s ++ if kern g K (s : Int) ≠ [] then [s] else [] := by
  unfold symsTo
  rw [List.range_succ, List.filter_append]
  congr 1
  by_cases h : kern g K (s : Int) ≠ []
  · simp [h]
  · simp [h]
structure RldI (g : GramT) (ss : List SQ) (asked : Int) (i : Nat) : Prop where
  ks : ksOf ss = (bst g i).1
  es : esOf ss = (bst g i).2 ++ List.replicate (ss.length - i) []
  lt : ∀ j, j < i → j < (bst g j).1.length
  le : ss.length ≤ 256
  ask : asked = 1 + (totE (bst g i).2 : Int)
structure RltI (g : GramT) (K : Kern) (ss : List SQ) (asked : Int) (i s : Nat) (es : List EdgeT) : Prop where
  ks : ksOf ss = (bsy g K (symsTo g K s) ((bst g i).1, [])).1
  ed : es = (bsy g K (symsTo g K s) ((bst g i).1, [])).2
  eL : esOf ss = (bst g i).2 ++ es :: List.replicate (ss.length - i - 1) []
  le : ss.length ≤ 256
  ask : asked = 1 + (totE (bst g i).2 : Int) + es.length
theorem RldI.start {b : Option Addr} {d : Nat} : RldI g [(((b, d), [⟨0, 0⟩]), ((none, 0), []))] 1 0 := ⟨rfl, rfl, fun j hj => by omega, by simp, rfl⟩
theorem RldI.inner (h : RldI g ss asked i) (hi : i < ss.length) (h0 : kern g K 0 = []) : RltI g K ss asked i 1 [] := by
  have e : symsTo g K 1 = [] := by rw [show (1 : Nat) = 0 + 1 from rfl, symsTo_succ]; simp [h0, symsTo]
  refine ⟨by rw [e]; exact h.ks, by rw [e]; rfl, ?_, h.le, by rw [h.ask]; simp⟩
  rw [h.es, show ss.length - i = (ss.length - i - 1) + 1 by omega, List.replicate_succ]; simp
theorem RltI.skip (h : RltI g K ss asked i s es) (hk : kern g K (s : Int) = []) : RltI g K ss asked i (s + 1) es := by
  have e : symsTo g K (s + 1) = symsTo g K s := by rw [symsTo_succ]; simp [hk]
  exact ⟨by rw [e]; exact h.ks, by rw [e]; exact h.ed, h.eL, h.le, h.ask⟩
theorem newS_es (ss : List SQ) (b : Option Addr) (d : Nat) (K : Kern) : esOf (newS ss b d K) = esOf ss ++ List.replicate ((newS ss b d K).length - ss.length) [] := by
  unfold newS
  split
  · simp
  · simp [esOf]
theorem RltI.next (h : RltI g K ss asked i s es) (hk : kern g K (s : Int) ≠ []) (hi : i < ss.length) (hes : (bst g i).2.length = i) {b : Option Addr} {d : Nat} (hle : (newS ss b d (kern g K s)).length ≤ 256) {q : SQ} (hq : (newS ss b d (kern g K s))[i]? = some q) (E : Lq EdgeT)
    (hE : E.2 = es ++ [⟨(s : Int), (((ksOf ss).idxOf (kern g K s) : Nat) : Int)⟩]) : RltI g K ((newS ss b d (kern g K s)).set i (q.1, E)) (asked + 1) i (s + 1) E.2 := by
  have e : symsTo g K (s + 1) = symsTo g K s ++ [s] := by rw [symsTo_succ, if_pos hk]
  have hs := ks_set hq E
  have hnl := newS_len ss b d (kern g K s)
  refine ⟨?_, ?_, ?_, by rw [List.length_set]; exact hle, by rw [h.ask, hE]; simp; omega⟩
  · rw [hs.1, newS_ks, e, bsy_snoc, h.ks]
  · rw [hE, e, bsy_snoc, h.ed, h.ks]
  · rw [hs.2.2.1, newS_es, h.eL, List.length_set, List.append_assoc, List.set_append_right _ _ (by omega), hes, Nat.sub_self, List.cons_append, List.set_cons_zero, List.replicate_append_replicate]
    congr 3
    omega
theorem RltI.done (h : RltI g K ss asked i (g.T + g.N) es) (hb : ∀ j, j < i → j < (bst g j).1.length) (hK : (bst g i).1[i]? = some K) : RldI g ss asked (i + 1) := by
  have hb1 := bst_succ hK
  refine ⟨by rw [hb1]; exact h.ks, ?_, fun j hj => ?_, h.le, ?_⟩
  · rw [hb1, h.eL, h.ed, List.append_assoc]; rfl
  · by_cases e2 : j = i
    · subst e2; exact (List.getElem?_eq_some_iff.1 hK).1
    · exact hb j (by omega)
  · rw [hb1, totE_snoc, h.ask, h.ed]
    show _ = 1 + ((totE (bst g i).2 + (bsy g K (symsOf g K) ((bst g i).1, [])).2.length : Nat) : Int)
    rw [show symsOf g K = symsTo g K (g.T + g.N) from rfl]
    omega
theorem RltI.len (h : RltI g K ss asked i s es) (hs : s ≤ g.T + g.N) : es.length ≤ s := by
  rw [h.ed, bsy_len2]
  have := List.length_filter_le (fun s => decide (kern g K (s : Nat) ≠ [])) (List.range s)
  rw [List.length_range] at this
  simpa [symsTo] using this
theorem RltI.get (h : RltI g K ss asked i s es) (hes : (bst g i).2.length = i) {q : SQ} (hq : ss[i]? = some q) : q.2.2 = es := by
  have h1 : (esOf ss)[i]? = some q.2.2 := by unfold esOf; rw [List.getElem?_map, hq]; rfl
  rw [h.eL, List.getElem?_append_right (by omega), hes, Nat.sub_self] at h1
  simpa using h1.symm
end
end Go.V
namespace Go.Proofs.Ytkmjjnjngcpjmaa
open Go.V
variable {w : World} {L : List Asn} {g : GramT} {x : GA} {a a2 : Option Addr} {l c l2 c2 : Nat} {I J : List ItemT}
end Go.Proofs.Ytkmjjnjngcpjmaa
set_option linter.unusedVariables false
namespace Go.Proofs.Ytkmjjnjngcpjmaa
open Go.V
variable {w : World} {L : List Asn} {g : GramT} {x : GA}
end Go.Proofs.Ytkmjjnjngcpjmaa

set_option linter.unusedVariables false
namespace Go.V
theorem rdS_lit9 {α : Type} [Rep α] {h : Hp} {xs : List α} {b : Nat} {vs : List Value} (r : rowH h ⟨b, 0, none⟩ vs) (hx : ∀ (i : Nat) x, xs[i]? = some x → rd h x ((vs.drop (i * Rep.n α)).take (Rep.n α))) : rdS h xs (some ⟨b, 0, none⟩) xs.length :=
  ⟨rfl, fun i x hi => by
    refine ⟨_, _, rfl, fun j v hj => ?_, hx i x hi⟩
    rw [List.getElem?_take] at hj
    split at hj
    · rw [List.getElem?_drop] at hj
      rw [add_add, mulS_eq]
      exact r _ v hj
    · cases hj⟩
def lrG : GramT := ⟨[⟨⟨⟨[]⟩⟩, 0⟩, ⟨⟨⟨[43]⟩⟩, 0⟩, ⟨⟨⟨[110]⟩⟩, 0⟩], [⟨⟨[]⟩⟩, ⟨⟨[101]⟩⟩], [], 4, [⟨3, [4], 0⟩, ⟨4, [4, 1, 2], 0⟩, ⟨4, [2], 0⟩]⟩
theorem lr_closed : ClosedP lrG := by
  refine ⟨rfl, ⟨rfl, by decide, by decide, by decide, by decide, ?_, ?_, ?_, ?_, ?_⟩, ⟨by decide, by decide, ?_, by decide, by decide, by decide⟩, ⟨3, [4], 0⟩, rfl, rfl, rfl, rfl⟩
  · decide
  · intro i v h; simp [lrG] at h
  · decide
  · decide
  · decide
  · intro p hp
    simp only [List.drop_succ_cons, List.drop_zero, lrG, List.mem_cons, List.not_mem_nil, or_false] at hp
    unfold prodOk symOk
    rcases hp with rfl | rfl
    · refine ⟨by decide, ?_⟩
      intro s hs; simp at hs
      rcases hs with rfl | rfl | rfl <;> decide
    · refine ⟨by decide, ?_⟩
      intro s hs; simp at hs; subst hs; decide
theorem lr_ok : okG lrG := by
  refine ⟨by decide, by decide, by decide, by decide, ?_, by decide, by decide⟩
  intro t ht
  simp only [lrG, List.mem_cons, List.not_mem_nil, or_false] at ht
  unfold anyI
  rcases ht with rfl | rfl | rfl <;> decide
set_option maxRecDepth 100000 in
theorem lr_bst : ((bst lrG 5).1.length = 5 ∧ totE (bst lrG 5).2 = 4) ∧ ∀ i, i < 5 → i < (bst lrG i).1.length := by decide +kernel
theorem lr_done : DoneP lrG 5 := ⟨lr_bst.1.1, by decide, lr_bst.2⟩
end Go.V
namespace Go.Proofs.Ytkmjjnjngcpjmaa
open Go.V
variable {w : World} {L : List Asn} {g : GramT} {x : GA} {a a2 : Option Addr} {l c l2 c2 : Nat} {I J : List ItemT}
end Go.Proofs.Ytkmjjnjngcpjmaa
set_option linter.unusedVariables false
namespace Go.Proofs.Ytkmjjnjngcpjmaa
open Go.V
section
variable {g : GramT} {I J : List ItemT} {x : ItemT} {s : Int}
open Classical
noncomputable def clsR (g : GramT) (I : List ItemT) : List ItemT := if ClosedP g ∧ fitsB g I then cls g I else []
noncomputable def clsE (g : GramT) (I : List ItemT) : Int := if ClosedP g ∧ fitsB g I then 0 else 1
end
section
variable {w : World} {L : List Asn} {g : GramT} {x : GA} {a a2 : Option Addr} {l c l2 c2 : Nat} {I J : List ItemT} {s : Int}
theorem y_ClosureR (hg : gR (hp w) g x) (hb : okG g) (hr : rdS (hp w) I a l) (hl : (l + 98) * 16 ≤ 140737488355328) : Run Try.prog n_lr0_Closure [.agg ⟨x.cells⟩, .slice a l c] w fun v w' =>
    ∃ o c', v = .tuple #[.slice o (clsR g I).length c', .int .i64 (clsE g I)] ∧ St w' (own 2 o (clsR g I).length c' (tv (clsR g I)) :: all w) := by
  refine (y_Closure hg hb hr hl).mono ?_
  rintro _ w' (⟨hn, rfl, gr⟩ | ⟨hc, hf, o, rfl, h⟩)
  · unfold clsR clsE; rw [if_neg hn, if_neg hn]
    exact ⟨none, 0, rfl, own_nil 2 (St.here gr)⟩
  · unfold clsR clsE; rw [if_pos ⟨hc, hf⟩, if_pos ⟨hc, hf⟩]
    exact ⟨o, _, rfl, h⟩
end
end Go.Proofs.Ytkmjjnjngcpjmaa
set_option linter.unusedVariables false
namespace Go.Proofs.Ytkmjjnjngcpjmaa
open Go.V
section
variable {w : World} {L : List Asn} {g : GramT} {x : GA} {a a2 : Option Addr} {l c l2 c2 : Nat} {I J : List ItemT} {s : Int}
end
end Go.Proofs.Ytkmjjnjngcpjmaa
namespace Go.Proofs.Ytkmjjnjngcpjmaa
open Go.V
section
variable {w : World} {L : List Asn} {g : GramT} {x : GA} {a a2 : Option Addr} {l c l2 c2 : Nat} {I J : List ItemT} {s : Int}
end
end Go.Proofs.Ytkmjjnjngcpjmaa
set_option linter.unusedVariables false
namespace Go.V
def Res (g : GramT) (ss : List SQ) (ask int f : Int) : Prop :=
  (¬ClosedP g ∧ ss = [] ∧ ask = 0 ∧ int = 0 ∧ f = 1) ∨ (ClosedP g ∧ BigP g ∧ ss = [] ∧ ask = 0 ∧ int = 0 ∧ f = 11) ∨ (ClosedP g ∧ AutI g ss ∧ ask = 1 + (totE (esOf ss) : Int) ∧ int = (ss.length : Int) ∧ f = 0)
theorem Res.one {g : GramT} {ss ss' : List SQ} {a i f a' i' f' : Int} (h : Res g ss a i f) (h' : Res g ss' a' i' f') : ksOf ss = ksOf ss' ∧ esOf ss = esOf ss' ∧ a = a' ∧ i = i' ∧ f = f' ∧ ss.length = ss'.length := by
  rcases h with ⟨h1, rfl, rfl, rfl, rfl⟩ | ⟨h1, hb, rfl, rfl, rfl, rfl⟩ | ⟨h1, hA, rfl, rfl, rfl⟩
  · rcases h' with ⟨h2, rfl, rfl, rfl, rfl⟩ | ⟨h2, _⟩ | ⟨h2, _⟩
    · exact ⟨rfl, rfl, rfl, rfl, rfl, rfl⟩
    · exact absurd h2 h1
    · exact absurd h2 h1
  · rcases h' with ⟨h2, _⟩ | ⟨h2, _, rfl, rfl, rfl, rfl⟩ | ⟨h2, hA, _⟩
    · exact absurd h1 h2
    · exact ⟨rfl, rfl, rfl, rfl, rfl, rfl⟩
    · exact (done_big hA.dn hb).elim
  · rcases h' with ⟨h2, _⟩ | ⟨h2, hb, _⟩ | ⟨h2, hA', rfl, rfl, rfl⟩
    · exact absurd h1 h2
    · exact (done_big hA.dn hb).elim
    · have e := done_one hA.dn hA'.dn
      have e2 : esOf ss = esOf ss' := by rw [hA.es, hA'.es, e]
      refine ⟨by rw [hA.ks, hA'.ks, e], e2, by rw [e2], by rw [e], rfl, e⟩
theorem AutI.klen {g : GramT} {ss : List SQ} (hc : ClosedP g) (h : AutI g ss) : ∀ q ∈ ss, q.1.2.length ≤ 29100 ∧ q.2.2.length ≤ 130 := fun q hq => by
  obtain ⟨hT, hN, hP, hP2, _, _⟩ := hc.sizes
  have hI := bst_inv (g := g) (by omega) ss.length
  obtain ⟨j, hj⟩ := List.getElem?_of_mem hq
  have e : (bst g ss.length).1[j]? = some q.1.2 := by rw [← h.ks]; unfold ksOf; rw [List.getElem?_map, hj]; rfl
  have e2 : (bst g ss.length).2[j]? = some q.2.2 := by rw [← h.es]; unfold esOf; rw [List.getElem?_map, hj]; rfl
  have hm := List.mem_of_getElem? e
  have hjl := (List.getElem?_eq_some_iff.1 hj).1
  have h256 := h.dn.2.1
  refine ⟨kern_len hP (hI.srt _ hm) (hI.fit _ hm) fun x hx => by have := hI.dots j _ e x hx; omega, ?_⟩
  have key : ∀ i, ∀ es ∈ (bst g i).2, es.length ≤ g.T + g.N := by
    intro i
    induction i with
    | zero => intro es hes; simp [bst] at hes
    | succ i ih =>
      intro es hes
      cases hi : (bst g i).1[i]? with
      | none => rw [bst_none hi] at hes; exact ih es hes
      | some K =>
        rw [bst_succ hi] at hes
        rcases List.mem_append.1 hes with hes | hes
        · exact ih es hes
        · rw [List.mem_singleton] at hes
          subst hes
          rw [bsy_len2]
          have := List.length_filter_le (fun s => decide (kern g K (s : Nat) ≠ [])) (List.range (g.T + g.N))
          rw [List.length_range] at this
          simpa [symsOf] using this
  have := key _ _ (List.mem_of_getElem? e2)
  omega
theorem Res.klen {g : GramT} {ss : List SQ} {a i f : Int} (h : Res g ss a i f) : (∀ q ∈ ss, q.1.2.length ≤ 29100 ∧ q.2.2.length ≤ 130) ∧ ss.length ≤ 256 := by
  rcases h with ⟨_, rfl, _⟩ | ⟨_, _, rfl, _⟩ | ⟨hc, hA, _⟩
  · exact ⟨fun q hq => by simp at hq, by simp⟩
  · exact ⟨fun q hq => by simp at hq, by simp⟩
  · exact ⟨hA.klen hc, hA.dn.2.1⟩
end Go.V
namespace Go.Proofs.Ytkmjjnjngcpjmaa
open Go.V
section
variable {w : World} {L : List Asn} {g : GramT} {x : GA}
theorem y_BuildR (hg : gR (hp w) g x) (hb : okG g) : Run Try.prog n_lr0_Build [.agg ⟨x.cells⟩] w fun v w' => ∃ (o : Option Addr) (c : Nat) (ss : List SQ) (ask int f : Int), v = .tuple #[.agg #[.slice o ss.length c, .int .i64 ask, .int .i64 int], .int .i64 f] ∧ Res g ss ask int f ∧ St w' (own 2 o ss.length c (ssV ss) :: sta (kOw ss) :: sta (eOw ss) :: all w) := by
  refine (y_Build hg hb).mono ?_
  have z : ∀ {w' : World}, Gr w w' → St w' (own 2 none 0 0 (ssV []) :: sta (kOw []) :: sta (eOw []) :: all w) := fun gr => own_nil 2 ((St.flat (M := [])).2 ((St.flat (M := [])).2 (St.here gr)))
  rintro _ w' (⟨hn, rfl, gr⟩ | ⟨hc, hbig, rfl, gr⟩ | ⟨hc, o, ss, hA, rfl, h⟩)
  · exact ⟨none, 0, [], 0, 0, 1, rfl, .inl ⟨hn, rfl, rfl, rfl, rfl⟩, z gr⟩
  · exact ⟨none, 0, [], 0, 0, 11, rfl, .inr (.inl ⟨hc, hbig, rfl, rfl, rfl, rfl⟩), z gr⟩
  · exact ⟨o, _, ss, _, _, 0, rfl, .inr (.inr ⟨hc, hA, rfl, rfl, rfl⟩), h⟩
end
end Go.Proofs.Ytkmjjnjngcpjmaa
set_option linter.unusedVariables false
namespace Go.Proofs.Ytkmjjnjngcpjmaa
open Go.V
section
variable {w : World} {L : List Asn} {g : GramT} {x : GA}
end
end Go.Proofs.Ytkmjjnjngcpjmaa
set_option linter.unusedVariables false
namespace Go.Proofs.Ytkmjjnjngcpjmaa
open Go.V
section
variable {w : World} {L : List Asn} {g : GramT} {x : GA}
end
end Go.Proofs.Ytkmjjnjngcpjmaa
set_option linter.unusedVariables false
namespace Go.V
section
variable {g : GramT} {K : Kern} {st : List Kern} {n i j : Nat}
theorem idx_inK {k : Kern} : (inK st k)[st.idxOf k]? = some k := by
  unfold inK
  split
  · rename_i h
    rw [List.getElem?_eq_getElem (List.idxOf_lt_length_of_mem h), List.getElem_idxOf]
  · rename_i h
    rw [List.idxOf_eq_length h, List.getElem?_append_right (Nat.le_refl _), Nat.sub_self]; rfl
theorem bsy_edge : ∀ (l : List Nat) (st : List Kern) (es : List EdgeT) (k s : Nat), l[k]? = some s → ∃ to : Nat, (bsy g K l (st, es)).2[es.length + k]? = some ⟨(s : Int), (to : Int)⟩ ∧ (bsy g K l (st, es)).1[to]? = some (kern g K (s : Int))
  | [], _, _, _, _, h => by simp at h
  | a :: l, st, es, 0, s, h => by
    simp at h; subst h
    refine ⟨st.idxOf (kern g K (a : Int)), ?_, ?_⟩
    · show (bsy g K l (inK st (kern g K (a : Int)), es ++ [⟨(a : Int), _⟩])).2[es.length + 0]? = _
      have pre : ∀ (l : List Nat) (st : List Kern) (es : List EdgeT) (k : Nat) e, es[k]? = some e → (bsy g K l (st, es)).2[k]? = some e := by
        intro l
        induction l with
        | nil => exact fun st es k e h => h
        | cons b l ih =>
          intro st es k e h
          exact ih _ _ k e (by rw [List.getElem?_append_left (List.getElem?_eq_some_iff.1 h).1]; exact h)
      exact pre l _ _ _ _ (by rw [Nat.add_zero, List.getElem?_append_right (Nat.le_refl _), Nat.sub_self]; rfl)
    · show (bsy g K l (inK st (kern g K (a : Int)), es ++ [⟨(a : Int), _⟩])).1[_]? = _
      exact bsy_mono l _ _ _ _ idx_inK
  | a :: l, st, es, k + 1, s, h => by
    obtain ⟨to, h1, h2⟩ := bsy_edge l (inK st (kern g K (a : Int))) (es ++ [⟨(a : Int), ((st.idxOf (kern g K (a : Int)) : Nat) : Int)⟩]) k s (by simpa using h)
    refine ⟨to, ?_, h2⟩
    rw [List.length_append, List.length_singleton] at h1
    rw [show es.length + (k + 1) = es.length + 1 + k by omega]
    exact h1
theorem bst_emono {i n : Nat} (h : i ≤ n) (j : Nat) (e : List EdgeT) (he : (bst g i).2[j]? = some e) : (bst g n).2[j]? = some e := by
  induction h with
  | refl => exact he
  | @step m _ ih =>
    cases hi : (bst g m).1[m]? with
    | none => rw [bst_none hi]; exact ih
    | some K => rw [bst_succ hi, List.getElem?_append_left (List.getElem?_eq_some_iff.1 ih).1]; exact ih
theorem aut_at {ss : List SQ} (h : AutI g ss) {i : Nat} {q : SQ} (hq : ss[i]? = some q) : (bst g i).1[i]? = some q.1.2 ∧ q.2.2 = (bsy g q.1.2 (symsOf g q.1.2) ((bst g i).1, [])).2 ∧ ∀ (j : Nat) K, (bst g (i + 1)).1[j]? = some K → ∃ r, ss[j]? = some r ∧ r.1.2 = K := by
  have hil := (List.getElem?_eq_some_iff.1 hq).1
  have hlt := h.dn.2.2 i hil
  have e1 : (bst g ss.length).1[i]? = some q.1.2 := by rw [← h.ks]; unfold ksOf; rw [List.getElem?_map, hq]; rfl
  obtain ⟨K, hK⟩ : ∃ K, (bst g i).1[i]? = some K := ⟨_, List.getElem?_eq_getElem hlt⟩
  have e2 := bst_mono (Nat.le_of_lt hil) i K hK
  rw [e1] at e2
  cases e2
  refine ⟨hK, ?_, fun j K' hj => ?_⟩
  · have hb := bst_succ hK
    have hes := bst_es (g := g) i (by omega)
    have e3 : (bst g (i + 1)).2[i]? = some (bsy g q.1.2 (symsOf g q.1.2) ((bst g i).1, [])).2 := by
      rw [hb, List.getElem?_append_right (by omega), hes, Nat.sub_self]; rfl
    have e4 := bst_emono hil i _ e3
    rw [← h.es] at e4
    unfold esOf at e4
    rw [List.getElem?_map, hq] at e4
    exact Option.some.inj e4
  · have e5 := bst_mono hil j K' hj
    rw [← h.ks] at e5
    unfold ksOf at e5
    rw [List.getElem?_map] at e5
    cases hr : ss[j]? with
    | none => rw [hr] at e5; cases e5
    | some r => rw [hr] at e5; exact ⟨r, rfl, Option.some.inj e5⟩
theorem AutI.pos {ss : List SQ} (h : AutI g ss) : 0 < ss.length := by
  refine Nat.pos_of_ne_zero fun h0 => ?_
  have := h.dn.1
  rw [h0] at this
  simp [bst] at this
end
end Go.V
namespace Go.Proofs.Ytkmjjnjngcpjmaa
open Go.V
section
variable {w : World} {L : List Asn} {g : GramT} {x : GA} {st : Int}
end
end Go.Proofs.Ytkmjjnjngcpjmaa
set_option linter.unusedVariables false
namespace Go.V
section
variable {g : GramT} {K K' : Kern} {s s' : Int} {ss : List SQ}
theorem kern_one (h : kern g K s = kern g K' s') (hne : kern g K s ≠ []) : s = s' := by
  obtain ⟨x, hx⟩ := List.exists_mem_of_ne_nil _ hne
  have hx' := hx
  rw [h] at hx'
  obtain ⟨y, _, h1, rfl⟩ := kern_mem.1 hx
  obtain ⟨z, _, h2, e⟩ := kern_mem.1 hx'
  injection e with e1 e2
  have : y = z := ItemT.ext' e1 (by omega)
  rw [← h1, ← h2, this]
theorem bsy_new : ∀ (l : List Nat) (st : List Kern) (es : List EdgeT) (j : Nat) (L : Kern), st.length ≤ j → (bsy g K l (st, es)).1[j]? = some L → ∃ k s : Nat, l[k]? = some s ∧ L = kern g K (s : Int) ∧ (bsy g K l (st, es)).2[es.length + k]? = some ⟨(s : Int), (j : Int)⟩
  | [], st, es, j, L, hj, h => by
    have := (List.getElem?_eq_some_iff.1 h).1
    have h2 : (bsy g K [] (st, es)).1.length = st.length := rfl
    omega
  | a :: l, st, es, j, L, hj, h => by
    by_cases hlt : (inK st (kern g K (a : Int))).length ≤ j
    · obtain ⟨k, s, h1, h2, h3⟩ := bsy_new l (inK st (kern g K (a : Int))) (es ++ [(⟨(a : Int), ((st.idxOf (kern g K (a : Int)) : Nat) : Int)⟩ : EdgeT)]) j L hlt h
      refine ⟨k + 1, s, by simpa using h1, h2, ?_⟩
      rw [List.length_append, List.length_singleton] at h3
      rw [show es.length + (k + 1) = es.length + 1 + k by omega]
      exact h3
    · have hn : kern g K (a : Int) ∉ st := fun hm => by
        have : (inK st (kern g K (a : Int))).length = st.length := by unfold inK; rw [if_pos hm]
        omega
      have hlen : (inK st (kern g K (a : Int))).length = st.length + 1 := by unfold inK; rw [if_neg hn]; simp
      have hjs : j = st.length := by omega
      obtain ⟨to, h1, h2⟩ := bsy_edge (g := g) (K := K) (a :: l) st es 0 a rfl
      have e : st.idxOf (kern g K (a : Int)) = st.length := List.idxOf_eq_length hn
      have hj2 : (inK st (kern g K (a : Int)))[j]? = some (kern g K (a : Int)) := by rw [hjs, ← e]; exact idx_inK
      have hL := bsy_mono l (inK st (kern g K (a : Int))) (es ++ [(⟨(a : Int), ((st.idxOf (kern g K (a : Int)) : Nat) : Int)⟩ : EdgeT)]) j _ hj2 (g := g) (K := K)
      have h : (bsy g K l (inK st (kern g K (a : Int)), es ++ [(⟨(a : Int), ((st.idxOf (kern g K (a : Int)) : Nat) : Int)⟩ : EdgeT)])).1[j]? = some L := h
      rw [hL] at h
      refine ⟨0, a, rfl, (Option.some.inj h).symm, ?_⟩
      have pre : ∀ (l : List Nat) (st : List Kern) (es : List EdgeT) (k : Nat) e, es[k]? = some e → (bsy g K l (st, es)).2[k]? = some e := by
        intro l
        induction l with
        | nil => exact fun st es k e h => h
        | cons b l ih =>
          intro st es k e h
          exact ih _ _ k e (by rw [List.getElem?_append_left (List.getElem?_eq_some_iff.1 h).1]; exact h)
      show (bsy g K l (inK st (kern g K (a : Int)), es ++ [⟨(a : Int), _⟩])).2[es.length + 0]? = _
      exact pre l _ _ _ _ (by rw [Nat.add_zero, List.getElem?_append_right (Nat.le_refl _), Nat.sub_self, hjs, e]; rfl)
theorem aut_edge (hc : ClosedP g) (h : AutI g ss) {i : Nat} {q : SQ} (hq : ss[i]? = some q) {m : Nat} {e : EdgeT} (he : q.2.2[m]? = some e) : 1 ≤ e.sym ∧ e.sym < g.T + g.N ∧ ∃ (j : Nat) (r : SQ), e.to = j ∧ 1 ≤ j ∧ ss[j]? = some r ∧ r.1.2 = kern g q.1.2 e.sym ∧ kern g q.1.2 e.sym ≠ [] := by
  obtain ⟨hK, hE, hto⟩ := aut_at h hq
  obtain ⟨_, _, _, hP2, _, _⟩ := hc.sizes
  have hI := bst_inv (g := g) (by omega) i
  have hKf := hI.fit _ (List.mem_of_getElem? hK)
  have hml : m < (symsOf g q.1.2).length := by
    have := (List.getElem?_eq_some_iff.1 he).1
    rw [hE, bsy_len2] at this
    simpa using this
  obtain ⟨to, h1, h2⟩ := bsy_edge (g := g) (K := q.1.2) (symsOf g q.1.2) (bst g i).1 [] m _ (List.getElem?_eq_getElem hml)
  rw [← hE] at h1
  have h1 : q.2.2[m]? = some ⟨(((symsOf g q.1.2)[m] : Nat) : Int), (to : Int)⟩ := by simpa using h1
  rw [he] at h1
  have h1 := Option.some.inj h1
  have hne := symsOf_ne (g := g) (K := q.1.2) _ (List.getElem_mem hml)
  obtain ⟨r, hr, hrK⟩ := hto to _ (by rw [bst_succ hK]; exact h2)
  have hsy := kern_sym hc hKf (Int.natCast_nonneg _) hne
  rw [h1]
  refine ⟨hsy.1, hsy.2, to, r, rfl, Nat.pos_of_ne_zero fun h0 => ?_, hr, hrK, hne⟩
  subst h0
  have e0 : (bst g ss.length).1[0]? = some [⟨0, 0⟩] := bst_mono (Nat.zero_le _) 0 _ rfl
  rw [← h.ks] at e0
  unfold ksOf at e0
  rw [List.getElem?_map, hr] at e0
  have e0 : r.1.2 = [⟨0, 0⟩] := Option.some.inj e0
  rw [hrK] at e0
  have hm : (⟨0, 0⟩ : ItemT) ∈ kern g q.1.2 (((symsOf g q.1.2)[m] : Nat) : Int) := by rw [e0]; simp
  obtain ⟨y, hy, _, e⟩ := kern_mem.1 hm
  injection e with _ e2
  have := (hy.fit hKf).2.1
  omega
theorem aut_from (hc : ClosedP g) (h : AutI g ss) {j : Nat} (hj : 1 ≤ j) (hjl : j < ss.length) : ∃ (i : Nat) (q : SQ) (m : Nat) (e : EdgeT), i < j ∧ ss[i]? = some q ∧ q.2.2[m]? = some e ∧ e.to = j := by
  have key : ∀ n, n ≤ ss.length → j < (bst g n).1.length → ∃ (i : Nat) (K : Kern), i < n ∧ (bst g i).1[i]? = some K ∧ (bst g i).1.length ≤ j ∧ j < (bst g (i + 1)).1.length := by
    intro n
    induction n with
    | zero => intro _ h2; have : (bst g 0).1.length = 1 := rfl; omega
    | succ n ih =>
      intro hn h2
      by_cases h3 : j < (bst g n).1.length
      · obtain ⟨i, K, h4, h5⟩ := ih (by omega) h3
        exact ⟨i, K, by omega, h5⟩
      · exact ⟨n, _, Nat.lt_succ_self n, List.getElem?_eq_getElem (h.dn.2.2 n (by omega)), by omega, h2⟩
  obtain ⟨i, K, h1, h2, h3, h4⟩ := key ss.length (Nat.le_refl _) (by rw [h.dn.1]; exact hjl)
  have hil : i < ss.length := h1
  obtain ⟨q, hq⟩ : ∃ q, ss[i]? = some q := ⟨_, List.getElem?_eq_getElem hil⟩
  obtain ⟨hK, hE, _⟩ := aut_at h hq
  rw [h2] at hK
  cases hK
  have hlt := h.dn.2.2 i hil
  rw [bst_succ h2] at h4
  obtain ⟨m, s, h5, h6, h7⟩ := bsy_new (g := g) (symsOf g q.1.2) (bst g i).1 [] j _ h3 (List.getElem?_eq_getElem h4)
  exact ⟨i, q, m, _, by omega, hq, by rw [hE]; simpa using h7, rfl⟩
noncomputable def syAt (g : GramT) (ss : List SQ) (j : Nat) : Int := Classical.epsilon fun s : Int => ∃ (r : SQ) (K : Kern), ss[j]? = some r ∧ (∀ x ∈ K, fitI g x) ∧ r.1.2 = kern g K s ∧ kern g K s ≠ [] ∧ 1 ≤ s
theorem sy_spec {j : Nat} {r : SQ} {K : Kern} {s : Int} (hr : ss[j]? = some r) (hf : ∀ x ∈ K, fitI g x) (hk : r.1.2 = kern g K s) (hne : kern g K s ≠ []) (hs : 1 ≤ s) : syAt g ss j = s := by
  obtain ⟨r', K', h1, _, h2, h3, _⟩ := Classical.epsilon_spec (p := fun s : Int => ∃ (r : SQ) (K : Kern), ss[j]? = some r ∧ (∀ x ∈ K, fitI g x) ∧ r.1.2 = kern g K s ∧ kern g K s ≠ [] ∧ 1 ≤ s) ⟨s, r, K, hr, hf, hk, hne, hs⟩
  rw [hr] at h1
  cases h1
  show Classical.epsilon _ = s
  exact kern_one (h2.symm.trans hk) h3
theorem sy_item (hc : ClosedP g) (h : AutI g ss) {j : Nat} (hj : 1 ≤ j) {r : SQ} (hr : ss[j]? = some r) {x : ItemT} (hx : x ∈ r.1.2) : 0 ≤ x.prod ∧ 1 ≤ x.dot ∧ ∃ p, g.prods[x.prod.toNat]? = some p ∧ x.dot ≤ p.right.length ∧ p.right[(x.dot - 1).toNat]? = some (syAt g ss j) := by
  obtain ⟨i, q, m, e, hij, hq, he, hto⟩ := aut_from hc h hj (List.getElem?_eq_some_iff.1 hr).1
  obtain ⟨h1, h2, j', r', e1, _, hr', hk, hne⟩ := aut_edge hc h hq he
  have : j' = j := by omega
  subst this
  rw [hr] at hr'
  cases hr'
  obtain ⟨hK, _⟩ := aut_at h hq
  obtain ⟨_, _, _, hP2, _, _⟩ := hc.sizes
  have hKf := (bst_inv (g := g) (by omega) i).fit _ (List.mem_of_getElem? hK)
  rw [sy_spec hr hKf hk hne h1]
  rw [hk] at hx
  obtain ⟨y, hy, ha, rfl⟩ := kern_mem.1 hx
  obtain ⟨p, hp, h3, h4⟩ := aft_lt (hy.fit hKf) ha (by omega)
  have hyf := hy.fit hKf
  refine ⟨hyf.1, by have := hyf.2.1; show 1 ≤ y.dot + 1; omega, p, hp, by show y.dot + 1 ≤ _; omega, ?_⟩
  show p.right[(y.dot + 1 - 1).toNat]? = _
  rw [show y.dot + 1 - 1 = y.dot by omega]
  exact h4
theorem AutI.two (hc : ClosedP g) (h : AutI g ss) : 2 ≤ ss.length := by
  have hp := h.pos
  refine Classical.byContradiction fun hlt => ?_
  have h1 : ss.length = 1 := by omega
  obtain ⟨q, hq⟩ : ∃ q, ss[0]? = some q := ⟨_, List.getElem?_eq_getElem hp⟩
  obtain ⟨hK, hE, _⟩ := aut_at h hq
  have e0 : q.1.2 = [⟨0, 0⟩] := by
    have : (bst g 0).1[0]? = some [⟨0, 0⟩] := rfl
    rw [this] at hK
    exact (Option.some.inj hK).symm
  obtain ⟨_, h2, h3, p0, hp0, hl, hr, _⟩ := id hc
  obtain ⟨hT, hN, _, _, hT1, _⟩ := hc.sizes
  have hgT : g.T = g.terms.length := rfl
  have hst := h3.2.2.2
  have ha : aft g ⟨0, 0⟩ = g.start := by rw [aft_some hp0, hr]; rfl
  have hne : kern g q.1.2 (((g.start).toNat : Nat) : Int) ≠ [] := by
    refine List.ne_nil_of_mem (a := (⟨0, 1⟩ : ItemT)) (kern_mem.2 ⟨⟨0, 0⟩, .base (by rw [e0]; simp), ?_, rfl⟩)
    rw [ha]; omega
  have hm : (g.start).toNat ∈ symsOf g q.1.2 := List.mem_filter.2 ⟨List.mem_range.2 (by omega), decide_eq_true hne⟩
  obtain ⟨k, hk⟩ := List.getElem?_of_mem hm
  have hkl : k < q.2.2.length := by
    rw [hE, bsy_len2]
    have := (List.getElem?_eq_some_iff.1 hk).1
    simpa using this
  obtain ⟨_, _, j, r, _, hj, hr, _⟩ := aut_edge hc h hq (List.getElem?_eq_getElem hkl)
  have := (List.getElem?_eq_some_iff.1 hr).1
  omega
structure RchI (g : GramT) (ss : List SQ) (ins : List Bool) (bys : List Int) (todo : List Nat) (q0 k : Nat) : Prop where
  li : ins.length = ss.length
  lb : bys.length = ss.length
  z : ins[0]? = some true
  td : ∀ q ∈ todo, q < ss.length
  by' : ∀ (j : Nat) b, bys[j]? = some b → b = 0 ∨ b = syAt g ss j
  bt : ∀ j, ins[j]? = some true → 1 ≤ j → bys[j]? = some (syAt g ss j)
  cl : ∀ (q : Nat) r, ins[q]? = some true → ss[q]? = some r → q ∈ todo ∨ (∀ (m : Nat) e, r.2.2[m]? = some e → (q = q0 → m < k) → ins[e.to.toNat]? = some true)
def szR (ins : List Bool) (todo : List Nat) : Nat := 2 * ins.count false + todo.length
theorem RchI.all {ins : List Bool} {bys : List Int} {q0 k : Nat} (hc : ClosedP g) (hA : AutI g ss) (h : RchI g ss ins bys [] q0 k) (hk : q0 = ss.length) : ∀ j, j < ss.length → ins[j]? = some true := by
  intro j
  induction j using Nat.strongRecOn with
  | ind j ih =>
    intro hj
    cases j with
    | zero => exact h.z
    | succ j =>
      obtain ⟨i, q, m, e, hij, hq, he, hto⟩ := aut_from hc hA (by omega) hj
      have hil := (List.getElem?_eq_some_iff.1 hq).1
      rcases h.cl i q (ih i hij hil) hq with hm | hm
      · simp at hm
      · have := hm m e he (fun e => by omega)
        rw [hto, Int.toNat_natCast] at this
        exact this
theorem count_set {ins : List Bool} {j : Nat} (h : ins[j]? = some false) : (ins.set j true).count false + 1 = ins.count false := by
  induction ins generalizing j with
  | nil => simp at h
  | cons b l ih =>
    cases j with
    | zero => simp at h; subst h; simp
    | succ j =>
      have := ih (j := j) (by simpa using h)
      rw [List.set_cons_succ, List.count_cons, List.count_cons]
      omega
theorem RchI.pop {ins : List Bool} {bys : List Int} {q0 k q : Nat} {todo : List Nat} (h : RchI g ss ins bys (q :: todo) q0 k) (hk : q0 = ss.length) : RchI g ss ins bys todo q 0 :=
  ⟨h.li, h.lb, h.z, fun x hx => h.td x (by simp [hx]), h.by', h.bt, fun x r hx hr => by
    rcases h.cl x r hx hr with hm | hm
    · rcases List.mem_cons.1 hm with rfl | hm
      · exact .inr fun m e _ hlt => absurd (hlt rfl) (by omega)
      · exact .inl hm
    · exact .inr fun m e he _ => hm m e he fun e2 => by have := (List.getElem?_eq_some_iff.1 hr).1; omega⟩
theorem RchI.fin {ins : List Bool} {bys : List Int} {q0 k : Nat} {todo : List Nat} {r : SQ} (h : RchI g ss ins bys todo q0 k) (hr : ss[q0]? = some r) (hk : r.2.2.length ≤ k) : RchI g ss ins bys todo ss.length 0 :=
  ⟨h.li, h.lb, h.z, h.td, h.by', h.bt, fun x r' hx hr' => by
    rcases h.cl x r' hx hr' with hm | hm
    · exact .inl hm
    · refine .inr fun m e he _ => hm m e he fun e2 => ?_
      subst e2
      rw [hr] at hr'; cases hr'
      have := (List.getElem?_eq_some_iff.1 he).1; omega⟩
theorem RchI.step {ins : List Bool} {bys : List Int} {q0 k : Nat} {todo : List Nat} {r : SQ} (hc : ClosedP g) (hA : AutI g ss) (h : RchI g ss ins bys todo q0 k) (hr : ss[q0]? = some r) {e : EdgeT} (he : r.2.2[k]? = some e) {j : Nat} (hj : e.to = j) (hjl : j < ss.length) (hsy : syAt g ss j = e.sym) :
    (ins[j]? = some true → RchI g ss ins (bys.set j e.sym) todo q0 (k + 1)) ∧ (ins[j]? = some false → RchI g ss (ins.set j true) (bys.set j e.sym) (todo ++ [j]) q0 (k + 1)) := by
  have hby : ∀ (i : Nat) b, (bys.set j e.sym)[i]? = some b → b = 0 ∨ b = syAt g ss i := fun i b hb => by
    by_cases e2 : j = i
    · subst e2
      rw [List.getElem?_set_self (by rw [h.lb]; exact hjl)] at hb
      cases hb; exact .inr hsy.symm
    · rw [List.getElem?_set_ne e2] at hb; exact h.by' i b hb
  refine ⟨fun hin => ?_, fun hin => ?_⟩
  · refine ⟨h.li, by rw [List.length_set]; exact h.lb, h.z, h.td, hby, fun i hi h1 => ?_, fun x r' hx hr' => ?_⟩
    · by_cases e2 : j = i
      · subst e2; rw [List.getElem?_set_self (by rw [h.lb]; exact hjl), hsy]
      · rw [List.getElem?_set_ne e2]; exact h.bt i hi h1
    · rcases h.cl x r' hx hr' with hm | hm
      · exact .inl hm
      · refine .inr fun m e' he' hlt => ?_
        by_cases e2 : x = q0 ∧ m = k
        · obtain ⟨rfl, rfl⟩ := e2
          rw [hr] at hr'; cases hr'
          rw [he] at he'; cases he'
          rw [hj, Int.toNat_natCast]; exact hin
        · exact hm m e' he' fun e3 => by have := hlt e3; rcases Nat.lt_or_ge m k with h5 | h5; exact h5; exact absurd ⟨e3, by omega⟩ e2
  · have hge : ∀ i, ins[i]? = some true → (ins.set j true)[i]? = some true := fun i hi => by
      by_cases e2 : j = i
      · subst e2; rw [hin] at hi; cases hi
      · rw [List.getElem?_set_ne e2]; exact hi
    refine ⟨by rw [List.length_set]; exact h.li, by rw [List.length_set]; exact h.lb, hge 0 h.z, fun x hx => ?_, hby, fun i hi h1 => ?_, fun x r' hx hr' => ?_⟩
    · rw [List.mem_append, List.mem_singleton] at hx
      rcases hx with hx | rfl
      · exact h.td x hx
      · exact hjl
    · by_cases e2 : j = i
      · subst e2; rw [List.getElem?_set_self (by rw [h.lb]; exact hjl), hsy]
      · rw [List.getElem?_set_ne e2] at hi ⊢; exact h.bt i hi h1
    · by_cases e2 : j = x
      · subst e2; exact .inl (by simp)
      · rw [List.getElem?_set_ne e2] at hx
        rcases h.cl x r' hx hr' with hm | hm
        · exact .inl (by simp [hm])
        · refine .inr fun m e' he' hlt => ?_
          by_cases e3 : x = q0 ∧ m = k
          · obtain ⟨rfl, rfl⟩ := e3
            rw [hr] at hr'; cases hr'
            rw [he] at he'; cases he'
            rw [hj, Int.toNat_natCast, List.getElem?_set_self (by rw [h.li]; exact hjl)]
          · exact hge _ (hm m e' he' fun e4 => by have := hlt e4; rcases Nat.lt_or_ge m k with h5 | h5; exact h5; exact absurd ⟨e4, by omega⟩ e3)
theorem RchI.start (hp : 0 < ss.length) : RchI g ss ((List.replicate ss.length false).set 0 true) (List.replicate ss.length 0) [0] ss.length 0 := by
  have hi : ∀ i, ((List.replicate ss.length false).set 0 true)[i]? = some true → i = 0 := fun i h => by
    by_cases e : 0 = i
    · exact e.symm
    · rw [List.getElem?_set_ne e, List.getElem?_replicate] at h
      split at h <;> simp at h
  refine ⟨by simp, by simp, by rw [List.getElem?_set_self (by simpa using hp)], fun q hq => by simp at hq; omega, fun j b hb => ?_, fun j hj h1 => by have := hi j hj; omega, fun q r hq hr => .inl (by rw [hi q hq]; simp)⟩
  rw [List.getElem?_replicate] at hb
  split at hb
  · cases hb; exact .inl rfl
  · cases hb
end
end Go.V
set_option linter.unusedVariables false
namespace Go.V
variable {w : World} {L : List Asn}
theorem own_tl {a : Option Addr} {l c : Nat} {v : Value} {vs : List Value} (h : St w (own 1 a l c (v :: vs) :: L)) : St w (own 1 (slP a 1 c 1) (l - 1) (c - 1) vs :: L) := by
  rcases own_cases h with ⟨rfl, rfl, rfl, h0⟩ | ⟨b, pre, cs, post, rfl, hc, h1, h2, h3⟩
  · cases h0
  · rw [List.length_cons, Nat.mul_one] at h1
    by_cases hc1 : c = 1
    · have hl : l = 1 := by omega
      subst hc1; subst hl
      have hv : vs = [] := List.eq_nil_of_length_eq_zero (by omega)
      subst hv
      have e : slP (some (⟨b, pre.length, none⟩ : Addr)) 1 1 1 = some ⟨b, pre.length, none⟩ := by unfold slP; rw [if_pos rfl]
      rw [e]
      exact own_some' (cs := []) (post := [v] ++ (cs ++ post)) (by simpa using hc) rfl rfl (Nat.le_refl _)
    · have e : slP (some (⟨b, pre.length, none⟩ : Addr)) 1 c 1 = some ⟨b, (pre ++ [v]).length, none⟩ := by
        unfold slP; rw [if_neg hc1]; simp [mulS_eq, add_lit]
      rw [e]
      refine own_some' (cs := cs) (post := post) (by simpa using hc) (by omega) ?_ (by omega)
      rw [List.length_append, List.length_cons, Nat.mul_one] at h2
      rw [List.length_append]; omega
end Go.V
namespace Go.Proofs.Ytkmjjnjngcpjmaa
open Go.V
section
variable {w : World} {L : List Asn} {g : GramT} {x : GA}
abbrev ivN (l : List Nat) : List Value := iv (l.map Int.ofNat)
end
end Go.Proofs.Ytkmjjnjngcpjmaa
set_option linter.unusedVariables false
namespace Go.Proofs.Ytkmjjnjngcpjmaa
open Go.V
section
variable {w : World} {L : List Asn} {g : GramT} {x : GA}
end
end Go.Proofs.Ytkmjjnjngcpjmaa
set_option linter.unusedVariables false
namespace Go.V
class MKey2 (κ : Type) extends MVal κ where
  a : κ → Int
  b : κ → Int
  val2 : ∀ k, toMVal.val k = .agg ⟨[.int .i64 (a k), .int .i64 (b k)]⟩
  ext : ∀ k l, a k = a l → b k = b l → k = l
section
variable {P : Program} {κ : Type} [DecidableEq κ] [MKey2 κ] {kt ti : TypeId} {f0 f1 : Field}
structure Two (P : Program) (kt ti : TypeId) (f0 f1 : Field) : Prop where
  ht : P.underlying kt = some (.struct (P.fieldsOf kt))
  hf : P.fieldsOf kt = #[f0, f1]
  hi : P.underlying ti = some (.int .i64)
  ht0 : f0.type = ti
  ht1 : f1.type = ti
  n0 : f0.name ≠ "_"
  n1 : f1.name ≠ "_"
  o0 : f0.offset = 0
  o1 : f1.offset = 1
  sih : P.stoodInHeld kt = false
theorem two_eq (T : Two P kt ti f0 f1) (w : World) (x y u v : Int) : (Op.equal kt (.agg #[.int .i64 x, .int .i64 y]) (.agg #[.int .i64 u, .int .i64 v])).run P w = .ok (decide (x = u ∧ y = v)) w := by
  have p0 : ∀ (v u : Value) (w : World), (part ti #[v, u] 0).run P w = .ok v w := fun v u w => by simp [part, run_isAgg T.hi, kdOf, Kd.isAgg]
  have p1 : ∀ (v u : Value) (w : World), (part ti #[v, u] 1).run P w = .ok u w := fun v u w => by simp [part, run_isAgg T.hi, kdOf, Kd.isAgg]
  have eqI : ∀ n m d w, (Op.equalIn (d + 1) ti (.int .i64 n) (.int .i64 m)).run P w = .ok (n == m) w := fun n m d w => run_equalIn_int w d _ _ _ _ _ T.hi
  show (Op.equalIn (9998 + 1 + 1) kt _ _).run P w = _
  rw [run_equalIn_agg w (9998 + 1) kt _ _ T.ht T.sih, T.hf]
  have n0 := T.n0
  have n1 := T.n1
  have e : decide (x = u ∧ y = v) = (x == u && y == v) := by
    rw [Bool.eq_iff_iff]; simp
  rw [e]
  unfold Op.eqFields
  simp only [ne_eq, n0, not_false_eq_true, if_true, Sem.run_bind, T.ht0, T.o0, p0, Result.andThen_ok, eqI]
  cases hq : (x == u)
  · simp
  · unfold Op.eqFields
    simp only [ne_eq, n1, not_false_eq_true, if_true, Sem.run_bind, T.ht1, T.o1, p1, Result.andThen_ok, eqI, Bool.not_true, Bool.false_eq_true, if_false]
    cases hn : (y == v)
    · simp
    · unfold Op.eqFields; simp
theorem two_find (T : Two P kt ti f0 f1) (w : World) (k : κ) : ∀ (es : List MapEntry) (m : List (κ × Value)) (i : Nat), es.map (fun e => (e.key, e.val)) = m.map (fun x => (MVal.val x.1, x.2)) →
    ∃ r, (Instr.findAsking kt (MVal.val k) es i).run P w = .ok r w ∧ (r.map (·.2)) = assoc k m ∧ (∀ j v, r = some (j, v) → i ≤ j ∧ j < i + m.length ∧ (m[j - i]?).map (·.1) = some k ∧ ∀ u, aput k u m = m.set (j - i) (k, u)) ∧ (r = none → ∀ u, aput k u m = m ++ [(k, u)])
  | [], [], i, _ => ⟨none, rfl, rfl, fun j v h => (by cases h), fun _ u => rfl⟩
  | [], _ :: _, i, h => by simp at h
  | _ :: _, [], i, h => by simp at h
  | e :: es, (a, v) :: m, i, h => by
    simp only [List.map_cons, List.cons.injEq, Prod.mk.injEq] at h
    obtain ⟨⟨h1, h2⟩, h3⟩ := h
    have he : (Op.equal kt (MVal.val k) e.key).run P w = .ok (decide (k = a)) w := by
      rw [h1, MKey2.val2, MKey2.val2]
      have := two_eq T w (MKey2.a k) (MKey2.b k) (MKey2.a a) (MKey2.b a)
      have e2 : decide (MKey2.a k = MKey2.a a ∧ MKey2.b k = MKey2.b a) = decide (k = a) := decide_eq_decide.2 ⟨fun ⟨h1, h2⟩ => MKey2.ext k a h1 h2, fun h => by rw [h]; exact ⟨rfl, rfl⟩⟩
      rw [e2] at this
      exact this
    unfold Instr.findAsking
    simp only [Sem.run_bind, he, Result.andThen_ok]
    by_cases hk : k = a
    · subst hk
      refine ⟨some (i, e.val), by simp, by simp [assoc, h2], fun j u hj => ?_, fun hn => by cases hn⟩
      cases hj
      simp [aput]
    · obtain ⟨r, q1, q2, q3, q4⟩ := two_find T w k es m (i + 1) h3
      refine ⟨r, by simp [hk, q1], by simp [assoc, hk, q2], fun j u hj => ?_, fun hn u => by simp [aput, hk, q4 hn u]⟩
      obtain ⟨p1, p2, p3, p4⟩ := q3 j u hj
      have e1 : j - i = (j - (i + 1)) + 1 := by omega
      refine ⟨by omega, by simp; omega, by rw [e1]; simpa using p3, fun u => by rw [e1]; simp [aput, hk, p4 u]⟩
theorem KeyP.two (T : Two P kt ti f0 f1) : KeyP P kt κ where
  check := fun w em k => by
    rw [MKey2.val2]
    have hd := T.ht
    rw [T.hf] at hd
    have p0 : ∀ (v u : Value) (w : World), (part ti #[v, u] 0).run P w = .ok v w := fun v u w => by simp [part, run_isAgg T.hi, kdOf, Kd.isAgg]
    have p1 : ∀ (v u : Value) (w : World), (part ti #[v, u] 1).run P w = .ok u w := fun v u w => by simp [part, run_isAgg T.hi, kdOf, Kd.isAgg]
    have ci : ∀ (n : Nat) (z : Int) (w : World), (Instr.checkKey em (n + 1) ti (.int .i64 z)).run P w = .ok () w := fun n z w => MapKept.run_checkKey (P := P) (w := w) T.hi (by exact rfl) em n
    show (Instr.checkKey em (9998 + 1 + 1) kt _).run P w = _
    unfold Instr.checkKey
    simp only [Sem.run_bind, run_underlying hd, Result.andThen_ok]
    have n0 := T.n0
    have n1 := T.n1
    simp [n0, n1, T.ht0, T.ht1, T.o0, T.o1, Sem.run_bind, p0, p1, ci]
  find := fun w k es m he => by
    obtain ⟨r, q1, q2, q3, q4⟩ := two_find T w k es m 0 he
    refine ⟨r, ?_, q2, fun j v hj => ?_, q4⟩
    · have hd := T.ht
      cases es with
      | nil =>
        cases m with
        | nil => simp [Instr.findKey, run_underlying hd, Instr.findNow]; unfold Instr.findAsking at q1; simpa using q1
        | cons _ _ => simp at he
      | cons e es =>
        have hn : Instr.findNow (.struct (P.fieldsOf kt)) (MVal.val k) (e :: es) 0 = none := by
          unfold Instr.findNow
          simp [Instr.sameNow]
        simp only [Instr.findKey, Sem.run_bind, run_underlying hd, Result.andThen_ok, hn]
        exact q1
    · obtain ⟨_, p2, p3, p4⟩ := q3 j v hj
      rw [Nat.sub_zero] at p3 p4
      exact ⟨by omega, p3, p4⟩
  bits := fun k => by rw [MKey2.val2]; simp [Instr.sameBits]
end
end Go.V
set_option linter.unusedVariables false
namespace Go.V
structure TransT where
  st : Int
  sym : Int
deriving DecidableEq
instance : Inhabited TransT := ⟨⟨0, 0⟩⟩
instance : Rep TransT := { n := 2, rd := fun _ x vs => vs = [.int .i64 x.st, .int .i64 x.sym], mono := fun _ h => h, len := fun h => by rw [h]; rfl }
instance : MKey2 TransT := { val := fun k => .agg ⟨[.int .i64 k.st, .int .i64 k.sym]⟩, inj := fun a b h => by cases a; cases b; simp at h; obtain ⟨h1, h2⟩ := h; subst h1; subst h2; rfl, a := TransT.st, b := TransT.sym, val2 := fun _ => rfl, ext := fun k l h1 h2 => by cases k; cases l; cases h1; cases h2; rfl }
def encR (x : TransT) : List Value := [.int .i64 x.st, .int .i64 x.sym]
def trv (xs : List TransT) : List Value := xs.flatMap encR
theorem trv_len (xs : List TransT) : (trv xs).length = xs.length * 2 := fm_len (f := encR) (n := 2) (fun _ => rfl) xs
theorem trv_app (xs ys : List TransT) : trv (xs ++ ys) = trv xs ++ trv ys := List.flatMap_append
theorem rdTr_of {h : Hp} {xs : List TransT} {a : Option Addr} {l : Nat} (hl : xs.length = l) (r : rdV a (trv xs) h) : rdS h xs a l := by
  refine ⟨hl, fun i x hx => ?_⟩
  rcases r with e | ⟨ad, rfl, hc⟩
  · have h1 := congrArg List.length e
    rw [trv_len, List.length_nil] at h1
    have := (List.getElem?_eq_some_iff.1 hx).1; omega
  · exact ⟨ad, encR x, rfl, rowH_unflat (n := 2) (fun _ => rfl) xs ad hc i x hx, rfl⟩
theorem rdTr_get {h : Hp} {xs : List TransT} {a : Option Addr} {l : Nat} (r : rdS h xs a l) {i : Nat} (hi : i < l) : ∃ x ad, xs[i]? = some x ∧ a = some ad ∧ rowH h (ad.add (mulS i 2)) (encR x) := by
  obtain ⟨x, ad, vs, hx, ha, hr, e⟩ := r.get hi
  rw [show vs = encR x from e] at hr
  exact ⟨x, ad, hx, ha, hr⟩
def nxt (ss : List SQ) (i : Nat) (s : Int) : Option Int := match ss[i]? with
  | none => none
  | some q => (q.2.2.find? fun e => decide (e.sym = s)).map (·.to)
def trAt (g : GramT) (i : Nat) (es : List EdgeT) : List TransT := (es.filter fun e => decide ((g.T : Int) ≤ e.sym)).map fun e => ⟨(i : Int), e.sym⟩
def TrN (g : GramT) (ss : List SQ) : Nat → List TransT
  | 0 => []
  | i + 1 => TrN g ss i ++ (match ss[i]? with | some q => trAt g i q.2.2 | none => [])
def TrL (g : GramT) (ss : List SQ) : List TransT := TrN g ss ss.length
def dirOf (g : GramT) (ss : List SQ) (t : TransT) : List Int :=
  (if t = ⟨0, g.start⟩ then [0] else []) ++ (match nxt ss t.st.toNat t.sym with
    | none => []
    | some j => (match ss[j.toNat]? with | none => [] | some q => (q.2.2.filter fun e => decide (e.sym < (g.T : Int))).map (·.sym)))
def wayN (ss : List SQ) : Int → List Int → Int
  | q, [] => q
  | q, s :: l => match nxt ss q.toNat s with
    | none => -1
    | some j => wayN ss j l
section
variable {g : GramT} {ss : List SQ}
theorem TrN_succ {i : Nat} {q : SQ} (hq : ss[i]? = some q) : TrN g ss (i + 1) = TrN g ss i ++ trAt g i q.2.2 := by
  show TrN g ss i ++ (match ss[i]? with | some q => trAt g i q.2.2 | none => []) = _
  rw [hq]
theorem trAt_snoc {i : Nat} {es : List EdgeT} {e : EdgeT} : trAt g i (es ++ [e]) = if (g.T : Int) ≤ e.sym then trAt g i es ++ [⟨(i : Int), e.sym⟩] else trAt g i es := by
  unfold trAt
  rw [List.filter_append, List.map_append]
  by_cases h : (g.T : Int) ≤ e.sym <;> simp [h]
theorem nxt_some {i : Nat} {q : SQ} (hq : ss[i]? = some q) (s : Int) : nxt ss i s = (q.2.2.find? fun e => decide (e.sym = s)).map (·.to) := by unfold nxt; rw [hq]
theorem aut_rise (h : AutI g ss) {i : Nat} {q : SQ} (hq : ss[i]? = some q) : q.2.2.map (·.sym) = (symsOf g q.1.2).map Int.ofNat := by
  obtain ⟨hK, hE, _⟩ := aut_at h hq
  have key : ∀ (l : List Nat) (st : List Kern) (es : List EdgeT), (bsy g q.1.2 l (st, es)).2.map (·.sym) = es.map (·.sym) ++ l.map Int.ofNat := by
    intro l
    induction l with
    | nil => intro st es; simp [bsy]
    | cons a l ih =>
      intro st es
      show (bsy g q.1.2 l _).2.map _ = _
      rw [ih]; simp
  have := key (symsOf g q.1.2) (bst g i).1 []
  rw [← hE] at this
  simpa using this
theorem find_at : ∀ {es : List EdgeT} {k : Nat} {e : EdgeT}, (es.map (·.sym)).Nodup → es[k]? = some e → (es.find? fun x => decide (x.sym = e.sym)) = some e
  | [], k, e, _, h => by simp at h
  | x :: es, 0, e, _, h => by simp at h; subst h; simp
  | x :: es, k + 1, e, hn, h => by
    rw [List.map_cons, List.nodup_cons] at hn
    have h : es[k]? = some e := by simpa using h
    have hne : x.sym ≠ e.sym := fun e2 => hn.1 (by rw [e2]; exact List.mem_map.2 ⟨e, List.mem_of_getElem? h, rfl⟩)
    rw [List.find?_cons, decide_eq_false hne]
    exact find_at hn.2 h
theorem aut_nd (h : AutI g ss) {i : Nat} {q : SQ} (hq : ss[i]? = some q) : (q.2.2.map (·.sym)).Nodup := by
  rw [aut_rise h hq, List.nodup_iff_pairwise_ne, List.pairwise_map]
  exact (symsOf_srt g q.1.2).imp fun h e => by simp at e; omega
theorem nxt_edge (h : AutI g ss) {i : Nat} {q : SQ} (hq : ss[i]? = some q) {k : Nat} {e : EdgeT} (he : q.2.2[k]? = some e) : nxt ss i e.sym = some e.to := by
  rw [nxt_some hq, find_at (aut_nd h hq) he]; rfl
theorem nxt_inv {i : Nat} {s : Int} {j : Int} (h : nxt ss i s = some j) : ∃ (q : SQ) (k : Nat) (e : EdgeT), ss[i]? = some q ∧ q.2.2[k]? = some e ∧ e.sym = s ∧ e.to = j := by
  unfold nxt at h
  cases hq : ss[i]? with
  | none => rw [hq] at h; cases h
  | some q =>
    rw [hq] at h
    simp only [Option.map_eq_some_iff] at h
    obtain ⟨e, he, rfl⟩ := h
    obtain ⟨k, hk⟩ := List.getElem?_of_mem (List.mem_of_find?_eq_some he)
    have := List.find?_some he
    exact ⟨q, k, e, rfl, hk, of_decide_eq_true this, rfl⟩
end
end Go.V
set_option linter.unusedVariables false
namespace Go.Proofs.Ytkmjjnjngcpjmaa
open Go.V
abbrev n_trans_Walk : FuncId := 9
def ann_trans_Walk : Ann := { rngs := [], loops := [(7, [(1, (.one (.int .i64))), (41, (.one (.int .i64)))])], joins := [(5, [(38, (.one .bool))])], blocks := [] }
set_option maxRecDepth 100000 in
def vc_trans_Walk (a : Option Addr) (b c : Nat) (d : Option Addr) (e f : Nat) (g : Option Addr) (i j : Nat) (k : Int) (l : Option Addr) (m n : Nat) (o : Int) (p : Option Addr) (q s : Nat) (w : World) (R : Value → WP) : Prop :=  new w (oC [vS a b c, vS d e f, vS g i j, iI k, vS l m n] 27) fun k1 w1 => ∃ o1 k2 k3 o2 k4 k5 o3 k6 k7 n1 o4 k8 k9, V.rowAt w1 (aM k1) 0 5 = some [vS o1 k2 k3, vS o2 k4 k5, vS o3 k6 k7, iI n1, vS o4 k8 k9] ∧ RunE Proofs.Try.prog Ev 16 [vA (Array.mk [vS o1 k2 k3, vS o2 k4 k5, vS o3 k6 k7, iI n1, vS o4 k8 k9])] w1 fun v1 w2 => ∃ o5 n2, v1 = vT (Array.mk [vP o5, iI n2]) ∧ br (n2 != 0) (R (vT (Array.mk [iI 0, iI n2])) w2) (∃ (x1 : lP [(38, shB)]), br (decide (o < 0)) (x1 true w2) (nn o5 fun a1 => ∃ o6 k10 k11, World.cell? w2 (Addr.add a1 5) = some (vS o6 k10 k11) ∧ br (decide ((↑k10 : Int) ≤ o)) (x1 true w2) (RunE Proofs.Try.prog Ev 17 [vS p q s, Value.func (Fn.func 18) (Array.mk []) (Array.mk [vP (some (aM k1))])] w2 fun v2 w3 => ∃ b1, v2 = vB b1 ∧ x1 b1 w3)) ∧ ∀ (I1 : Nat → Value) (b2 : Bool) (w4 : World), x1 b2 w4 → br b2 (R (vT (Array.mk [iI 0, iI 1])) w4) (∃ (x2 : lP [(1, shI), (41, shI)]), ∃ (x3 : lN [(1, shI), (41, shI)]), x2 o 0 w4 ∧ ∀ (I2 : Nat → Value) (n3 n4 : Int) (w5 : World), x2 n3 n4 w5 → br (decide (n4 < (↑q : Int))) (idx p q n4 1 fun a2 => ∃ n5, World.cell? w5 a2 = some (iI n5) ∧ nn o5 fun a3 => ∃ o7, World.cell? w5 (Addr.add a3 8) = some (Value.map o7) ∧ RunS Proofs.Try.prog (Instr.lookup 68 (Value.map o7) (vG [iI n3, iI n5]) true) w5 fun v3 w6 => ∃ n6 b3, v3 = vT (Array.mk [iI n6, vB b3]) ∧ br (!b3) (R (vT (Array.mk [iI (-1), iI 0])) w6) (inI (n4 + 1) ∧ x2 n6 (n4 + 1) w6 ∧ x3 n6 (n4 + 1) w6 < x3 n3 n4 w5)) (R (vT (Array.mk [iI n3, iI 0])) w5)))
set_option maxRecDepth 100000 in
theorem run_trans_Walk (a : Option Addr) (b c : Nat) (d : Option Addr) (e f : Nat) (g : Option Addr) (i j : Nat) (k : Int) (l : Option Addr) (m n : Nat) (o : Int) (p : Option Addr) (q s : Nat) (w : World) (R : Value → WP) (h : vc_trans_Walk a b c d e f g i j k l m n o p q s w R) : Run Try.prog 9 [(.agg #[(.slice a b c), (.slice d e f), (.slice g i j), (.int .i64 k), (.slice l m n)]), (.int .i64 o), (.slice p q s)] w R := rv Try.func9 ann_trans_Walk (by kernel_rfl) h

abbrev n_trans_List : FuncId := 11
def ann_trans_List : Ann := { rngs := [], loops := [], joins := [], blocks := [] }
set_option maxRecDepth 100000 in
def vc_trans_List (a : Option Addr) (b c : Nat) (d : Option Addr) (e f : Nat) (g : Option Addr) (i j : Nat) (k : Int) (l : Option Addr) (m n : Nat) (w : World) (R : Value → WP) : Prop :=  new w (oC [vS a b c, vS d e f, vS g i j, iI k, vS l m n] 27) fun k1 w1 => ∃ o1 k2 k3 o2 k4 k5 o3 k6 k7 n1 o4 k8 k9, V.rowAt w1 (aM k1) 0 5 = some [vS o1 k2 k3, vS o2 k4 k5, vS o3 k6 k7, iI n1, vS o4 k8 k9] ∧ RunE Proofs.Try.prog Ev 16 [vA (Array.mk [vS o1 k2 k3, vS o2 k4 k5, vS o3 k6 k7, iI n1, vS o4 k8 k9])] w1 fun v1 w2 => ∃ o5 n2, v1 = vT (Array.mk [vP o5, iI n2]) ∧ br (n2 != 0) (R (vT (Array.mk [vS none 0 0, iI n2])) w2) (RunE Proofs.Try.prog Ev 27 [vP o5] w2 fun v2 w3 => ∃ o6 k10 k11, v2 = vS o6 k10 k11 ∧ R (vT (Array.mk [vS o6 k10 k11, iI 0])) w3)
set_option maxRecDepth 100000 in
theorem run_trans_List (a : Option Addr) (b c : Nat) (d : Option Addr) (e f : Nat) (g : Option Addr) (i j : Nat) (k : Int) (l : Option Addr) (m n : Nat) (w : World) (R : Value → WP) (h : vc_trans_List a b c d e f g i j k l m n w R) : Run Try.prog 11 [(.agg #[(.slice a b c), (.slice d e f), (.slice g i j), (.int .i64 k), (.slice l m n)])] w R := rv Try.func11 ann_trans_List (by kernel_rfl) h

abbrev n_trans_Direct : FuncId := 13
def ann_trans_Direct : Ann := { rngs := [], loops := [(6, [(6, (.one .slice)), (23, (.one (.int .i64)))]), (12, [(9, (.one .slice)), (50, (.one (.int .i64)))])], joins := [(11, [(9, (.one .slice))])], blocks := [] }
set_option maxRecDepth 100000 in
def vc_trans_Direct (a : Option Addr) (b c : Nat) (d : Option Addr) (e f : Nat) (g : Option Addr) (i j : Nat) (k : Int) (l : Option Addr) (m n : Nat) (w : World) (R : Value → WP) : Prop :=  new w (oC [vS a b c, vS d e f, vS g i j, iI k, vS l m n] 27) fun k1 w1 => ∃ o1 k2 k3 o2 k4 k5 o3 k6 k7 n1 o4 k8 k9, V.rowAt w1 (aM k1) 0 5 = some [vS o1 k2 k3, vS o2 k4 k5, vS o3 k6 k7, iI n1, vS o4 k8 k9] ∧ RunE Proofs.Try.prog Ev 16 [vA (Array.mk [vS o1 k2 k3, vS o2 k4 k5, vS o3 k6 k7, iI n1, vS o4 k8 k9])] w1 fun v1 w2 => ∃ o5 n2, v1 = vT (Array.mk [vP o5, iI n2]) ∧ br (n2 != 0) (R (vT (Array.mk [vS none 0 0, iI n2])) w2) (RunE Proofs.Try.prog Ev 27 [vP o5] w2 fun v2 w3 => ∃ o6 k10 k11, v2 = vS o6 k10 k11 ∧ ∃ (x1 : lP [(6, shS), (23, shI)]), ∃ (x2 : lN [(6, shS), (23, shI)]), x1 none 0 0 0 w3 ∧ ∀ (I1 : Nat → Value) (o7 : Option Addr) (k12 k13 : Nat) (n3 : Int) (w4 : World), x1 o7 k12 k13 n3 w4 → br (decide (n3 < (↑k10 : Int))) (idx o6 k10 n3 2 fun a1 => ∃ n4 n5, V.rowAt w4 a1 0 2 = some [iI n4, iI n5] ∧ new w4 (oC [iI 0, iI 0] 50) fun k14 w5 => stR w5 (aM k14) [iI n4, iI n5] fun w6 => ∃ (x3 : lP [(9, shS)]), (∃ n6 n7, V.rowAt w6 (aM k14) 0 2 = some [iI n6, iI n7] ∧ ∃ n8, World.cell? w6 (Addr.add (aM k1) 3) = some (iI n8) ∧ ∃ v3, Sem.run Proofs.Try.prog (cmpS BinOp.eql 50 (Operand.tmp 27) (Operand.tmp 30) (vG [iI n6, iI n7]) (vG [iI 0, iI n8])) w6 = Result.ok v3 w6 ∧ ∃ b1, v3 = vB b1 ∧ br b1 (new w6 (oC [iI 0] 3) fun k15 w7 => RunS Proofs.Try.prog (apB 24 (Array.mk [vS none 0 0, vS (some (aM k15)) 1 1])) w7 fun v4 w8 => ∃ o8 k16 k17, v4 = vS o8 k16 k17 ∧ x3 o8 k16 k17 w8) (x3 none 0 0 w6)) ∧ ∀ (I2 : Nat → Value) (o9 : Option Addr) (k18 k19 : Nat) (w9 : World), x3 o9 k18 k19 w9 → ∀ w10, drawn w9 w10 → ∃ (I3 : World → Prop), I3 w10 ∧ nn o5 fun a2 => ∃ o10 k20 k21, (∀ w11, I3 w11 → World.cell? w11 (Addr.add a2 5) = some (vS o10 k20 k21)) ∧ nn o5 fun a3 => ∃ o11, (∀ w12, I3 w12 → World.cell? w12 (Addr.add a3 8) = some (Value.map o11)) ∧ ∃ n9 n10, (∀ w13, I3 w13 → V.rowAt w13 (aM k14) 0 2 = some [iI n9, iI n10]) ∧ RunS Proofs.Try.prog (Instr.lookup 68 (Value.map o11) (vG [iI n9, iI n10]) false) w10 fun v5 w14 => ∃ n11, v5 = iI n11 ∧ ∃ (I4 : World → Prop), I4 w14 ∧ (∀ w15, I4 w15 → I3 w15) ∧ idx o10 k20 n11 2 fun a4 => ∃ o12 k22 k23, (∀ w16, I4 w16 → World.cell? w16 (Addr.add a4 1) = some (vS o12 k22 k23)) ∧ ∃ (x4 : lP [(9, shS), (50, shI)]), ∃ (x5 : lN [(9, shS), (50, shI)]), x4 o9 k18 k19 0 w14 ∧ ∀ (I5 : Nat → Value) (o13 : Option Addr) (k24 k25 : Nat) (n12 : Int) (w17 : World), x4 o13 k24 k25 n12 w17 → br (decide (n12 < (↑k22 : Int))) (idx o12 k22 n12 2 fun a5 => ∃ n13 n14, V.rowAt w17 a5 0 2 = some [iI n13, iI n14] ∧ new w17 (oC [iI 0, iI 0] 48) fun k26 w18 => stR w18 (aM k26) [iI n13, iI n14] fun w19 => ∃ n15, World.cell? w19 (aM k26) = some (iI n15) ∧ ∃ o14 k27 k28, World.cell? w19 (aM k1) = some (vS o14 k27 k28) ∧ br (decide (n15 < (↑k27 : Int))) (∃ n16, World.cell? w19 (aM k26) = some (iI n16) ∧ new w19 (oC [iI n16] 3) fun k29 w20 => RunS Proofs.Try.prog (apB 24 (Array.mk [vS o13 k24 k25, vS (some (aM k29)) 1 1])) w20 fun v6 w21 => ∃ o15 k30 k31, v6 = vS o15 k30 k31 ∧ inI (n12 + 1) ∧ x4 o15 k30 k31 (n12 + 1) w21 ∧ x5 o15 k30 k31 (n12 + 1) w21 < x5 o13 k24 k25 n12 w17) (inI (n12 + 1) ∧ x4 o13 k24 k25 (n12 + 1) w19 ∧ x5 o13 k24 k25 (n12 + 1) w19 < x5 o13 k24 k25 n12 w17)) (RunE Proofs.Try.prog Ev 28 [vS o13 k24 k25] w17 fun v7 w22 => ∃ o16 k32 k33, v7 = vS o16 k32 k33 ∧ new w22 (oC [vS o16 k32 k33] 24) fun k34 w23 => RunS Proofs.Try.prog (apB 53 (Array.mk [vS o7 k12 k13, vS (some (aM k34)) 1 1])) w23 fun v8 w24 => ∃ o17 k35 k36, v8 = vS o17 k35 k36 ∧ inI (n3 + 1) ∧ x1 o17 k35 k36 (n3 + 1) w24 ∧ x2 o17 k35 k36 (n3 + 1) w24 < x2 o7 k12 k13 n3 w4)) (RunE Proofs.Try.prog Ev 29 [vS o7 k12 k13] w4 fun v9 w25 => ∃ o18 k37 k38, v9 = vS o18 k37 k38 ∧ R (vT (Array.mk [vS o18 k37 k38, iI 0])) w25))
set_option maxRecDepth 100000 in
theorem run_trans_Direct (a : Option Addr) (b c : Nat) (d : Option Addr) (e f : Nat) (g : Option Addr) (i j : Nat) (k : Int) (l : Option Addr) (m n : Nat) (w : World) (R : Value → WP) (h : vc_trans_Direct a b c d e f g i j k l m n w R) : Run Try.prog 13 [(.agg #[(.slice a b c), (.slice d e f), (.slice g i j), (.int .i64 k), (.slice l m n)])] w R := rv Try.func13 ann_trans_Direct (by kernel_rfl) h

abbrev n_trans_of : FuncId := 16
def ann_trans_of : Ann := { rngs := [], loops := [(6, [(27, (.one (.int .i64)))]), (9, [(35, (.one (.int .i64)))])], joins := [], blocks := [] }
set_option maxRecDepth 100000 in
def vc_trans_of (a : Option Addr) (b c : Nat) (d : Option Addr) (e f : Nat) (g : Option Addr) (i j : Nat) (k : Int) (l : Option Addr) (m n : Nat) (w : World) (R : Value → WP) : Prop :=  new w (oC [vS a b c, vS d e f, vS g i j, iI k, vS l m n] 27) fun k1 w1 => ∃ o1 k2 k3 o2 k4 k5 o3 k6 k7 n1 o4 k8 k9, V.rowAt w1 (aM k1) 0 5 = some [vS o1 k2 k3, vS o2 k4 k5, vS o3 k6 k7, iI n1, vS o4 k8 k9] ∧ RunE Proofs.Try.prog Ev 10 [vA (Array.mk [vS o1 k2 k3, vS o2 k4 k5, vS o3 k6 k7, iI n1, vS o4 k8 k9])] w1 fun v1 w2 => ∃ o5 k10 k11 n2 n3 n4, v1 = vT (Array.mk [vA (Array.mk [vS o5 k10 k11, iI n2, iI n3]), iI n4]) ∧ new w2 (oC [vS none 0 0, iI 0, iI 0] 37) fun k12 w3 => stR w3 (aM k12) [vS o5 k10 k11, iI n2, iI n3] fun w4 => br (n4 != 0) (R (vT (Array.mk [vP none, iI n4])) w4) (∃ o6 k13 k14 o7 k15 k16 o8 k17 k18 n5 o9 k19 k20, V.rowAt w4 (aM k1) 0 5 = some [vS o6 k13 k14, vS o7 k15 k16, vS o8 k17 k18, iI n5, vS o9 k19 k20] ∧ ∃ o10 k21 k22 n6 n7, V.rowAt w4 (aM k12) 0 3 = some [vS o10 k21 k22, iI n6, iI n7] ∧ new w4 (Obj.map (Array.mk []) 0) fun k23 w5 => new w5 (oC [vS o6 k13 k14, vS o7 k15 k16, vS o8 k17 k18, iI n5, vS o9 k19 k20, vS o10 k21 k22, iI n6, iI n7, Value.map (some k23)] 70) fun k24 w6 => ∃ o11 k25 k26, World.cell? w6 (aM k12) = some (vS o11 k25 k26) ∧ ∃ (x1 : lP [(27, shI)]), ∃ (x2 : lN [(27, shI)]), x1 0 w6 ∧ ∀ (I1 : Nat → Value) (n8 : Int) (w7 : World), x1 n8 w7 → br (decide (n8 < (↑k25 : Int))) (idx o11 k25 n8 2 fun a1 => ∃ o12 k27 k28 o13 k29 k30, V.rowAt w7 a1 0 2 = some [vS o12 k27 k28, vS o13 k29 k30] ∧ new w7 (oC [vS none 0 0, vS none 0 0] 46) fun k31 w8 => stR w8 (aM k31) [vS o12 k27 k28, vS o13 k29 k30] fun w9 => ∃ o14 k32 k33, World.cell? w9 (Addr.add (aM k31) 1) = some (vS o14 k32 k33) ∧ ∃ (x3 : lP [(35, shI)]), ∃ (x4 : lN [(35, shI)]), x3 0 w9 ∧ ∀ (I2 : Nat → Value) (n9 : Int) (w10 : World), x3 n9 w10 → br (decide (n9 < (↑k32 : Int))) (idx o14 k32 n9 2 fun a2 => ∃ n10 n11, V.rowAt w10 a2 0 2 = some [iI n10, iI n11] ∧ new w10 (oC [iI 0, iI 0] 48) fun k34 w11 => stR w11 (aM k34) [iI n10, iI n11] fun w12 => ∀ w13, drawn w12 w13 → ∃ (I3 : World → Prop), I3 w13 ∧ ∃ o15, (∀ w14, I3 w14 → World.cell? w14 (Addr.add (aM k24) 8) = some (Value.map o15)) ∧ ∃ n12, (∀ w15, I3 w15 → World.cell? w15 (aM k34) = some (iI n12)) ∧ ∃ n13, (∀ w16, I3 w16 → World.cell? w16 (Addr.add (aM k34) 1) = some (iI n13)) ∧ RunS Proofs.Try.prog (Instr.mapUpdate 68 (Value.map o15) (vG [iI n8, iI n12]) (iI n13)) w13 fun (x5 : Unit) (w17 : World) => inI (n9 + 1) ∧ x3 (n9 + 1) w17 ∧ x4 (n9 + 1) w17 < x4 n9 w10) (inI (n8 + 1) ∧ x1 (n8 + 1) w10 ∧ x2 (n8 + 1) w10 < x2 n8 w7)) (R (vT (Array.mk [vP (some (aM k24)), iI 0])) w7))
set_option maxRecDepth 100000 in
theorem run_trans_of (a : Option Addr) (b c : Nat) (d : Option Addr) (e f : Nat) (g : Option Addr) (i j : Nat) (k : Int) (l : Option Addr) (m n : Nat) (w : World) (R : Value → WP) (h : vc_trans_of a b c d e f g i j k l m n w R) : Run Try.prog 16 [(.agg #[(.slice a b c), (.slice d e f), (.slice g i j), (.int .i64 k), (.slice l m n)])] w R := rv Try.func16 ann_trans_of (by kernel_rfl) h

abbrev n_trans_Walk_S1 : FuncId := 18
def ann_trans_Walk_S1 : Ann := { rngs := [], loops := [], joins := [], blocks := [] }
set_option maxRecDepth 100000 in
def vc_trans_Walk_S1 (a : Int) (b : Addr) (w : World) (R : Value → WP) : Prop :=  br (decide (a < 0)) (R (vB true) w) (∃ o1 k1 k2, World.cell? w b = some (vS o1 k1 k2) ∧ ∃ o2 k3 k4, World.cell? w (Addr.add b 1) = some (vS o2 k3 k4) ∧ inI ((↑k1 : Int) + (↑k3 : Int)) ∧ R (vB (decide ((↑k1 : Int) + (↑k3 : Int) ≤ a))) w)
set_option maxRecDepth 100000 in
theorem run_trans_Walk_S1 (a : Int) (b : Addr) (w : World) (R : Value → WP) (h : vc_trans_Walk_S1 a b w R) : Run Try.prog 18 [(.int .i64 a), (.pointer (some b))] w R := rv Try.func18 ann_trans_Walk_S1 (by kernel_rfl) h

abbrev n_trans_ways_list : FuncId := 27
def ann_trans_ways_list : Ann := { rngs := [], loops := [(3, [(3, (.one .slice)), (14, (.one (.int .i64)))]), (6, [(3, (.one .slice)), (22, (.one (.int .i64)))])], joins := [], blocks := [] }
set_option maxRecDepth 100000 in
def vc_trans_ways_list (a : Option Addr) (w : World) (R : Value → WP) : Prop :=  nn a fun a1 => ∃ o1 k1 k2, World.cell? w (Addr.add a1 5) = some (vS o1 k1 k2) ∧ ∃ (x1 : lP [(3, shS), (14, shI)]), ∃ (x2 : lN [(3, shS), (14, shI)]), x1 none 0 0 0 w ∧ ∀ (I1 : Nat → Value) (o2 : Option Addr) (k3 k4 : Nat) (n1 : Int) (w1 : World), x1 o2 k3 k4 n1 w1 → br (decide (n1 < (↑k1 : Int))) (idx o1 k1 n1 2 fun a2 => ∃ o3 k5 k6 o4 k7 k8, V.rowAt w1 a2 0 2 = some [vS o3 k5 k6, vS o4 k7 k8] ∧ new w1 (oC [vS none 0 0, vS none 0 0] 46) fun k9 w2 => stR w2 (aM k9) [vS o3 k5 k6, vS o4 k7 k8] fun w3 => ∃ o5 k10 k11, World.cell? w3 (Addr.add (aM k9) 1) = some (vS o5 k10 k11) ∧ ∃ (x3 : lP [(3, shS), (22, shI)]), ∃ (x4 : lN [(3, shS), (22, shI)]), x3 o2 k3 k4 0 w3 ∧ ∀ (I2 : Nat → Value) (o6 : Option Addr) (k12 k13 : Nat) (n2 : Int) (w4 : World), x3 o6 k12 k13 n2 w4 → br (decide (n2 < (↑k10 : Int))) (idx o5 k10 n2 2 fun a3 => ∃ n3 n4, V.rowAt w4 a3 0 2 = some [iI n3, iI n4] ∧ new w4 (oC [iI 0, iI 0] 48) fun k14 w5 => stR w5 (aM k14) [iI n3, iI n4] fun w6 => ∀ w7, drawn w6 w7 → ∃ (I3 : World → Prop), I3 w7 ∧ ∃ n5, (∀ w8, I3 w8 → World.cell? w8 (aM k14) = some (iI n5)) ∧ nn a fun a4 => ∃ o7 k15 k16, (∀ w9, I3 w9 → World.cell? w9 a4 = some (vS o7 k15 k16)) ∧ br (decide ((↑k15 : Int) ≤ n5)) (∃ n6, World.cell? w7 (aM k14) = some (iI n6) ∧ new w7 (oC [iI n1, iI n6] 50) fun k17 w10 => RunS Proofs.Try.prog (apB 40 (Array.mk [vS o6 k12 k13, vS (some (aM k17)) 1 1])) w10 fun v1 w11 => ∃ o8 k18 k19, v1 = vS o8 k18 k19 ∧ inI (n2 + 1) ∧ x3 o8 k18 k19 (n2 + 1) w11 ∧ x4 o8 k18 k19 (n2 + 1) w11 < x4 o6 k12 k13 n2 w4) (inI (n2 + 1) ∧ x3 o6 k12 k13 (n2 + 1) w7 ∧ x4 o6 k12 k13 (n2 + 1) w7 < x4 o6 k12 k13 n2 w4)) (inI (n1 + 1) ∧ x1 o6 k12 k13 (n1 + 1) w4 ∧ x2 o6 k12 k13 (n1 + 1) w4 < x2 o2 k3 k4 n1 w1)) (RunE Proofs.Try.prog Ev 45 [vS o2 k3 k4] w1 fun v2 w12 => ∃ o9 k20 k21, v2 = vS o9 k20 k21 ∧ R (vS o9 k20 k21) w12)
set_option maxRecDepth 100000 in
theorem run_trans_ways_list (a : Option Addr) (w : World) (R : Value → WP) (h : vc_trans_ways_list a w R) : Run Try.prog 27 [(.pointer a)] w R := rv Try.func27 ann_trans_ways_list (by kernel_rfl) h

def ann_slices_Clip_int_int_ : Ann := { rngs := [], loops := [], joins := [], blocks := [] }
set_option maxRecDepth 100000 in
def vc_slices_Clip_int_int_ (a : Option Addr) (b c : Nat) (w : World) (R : Value → WP) : Prop :=  slc a b c none (some (↑b : Int)) (some (↑b : Int)) 1 fun (o1 : Option Addr) (k1 k2 : Nat) => R (vS o1 k1 k2) w
set_option maxRecDepth 100000 in
theorem run_slices_Clip_int_int_ (a : Option Addr) (b c : Nat) (w : World) (R : Value → WP) (h : vc_slices_Clip_int_int_ a b c w R) : Run Try.prog 28 [(.slice a b c)] w R := rv Try.func28 ann_slices_Clip_int_int_ (by kernel_rfl) h

def ann_slices_Clip_LLint_int_ : Ann := { rngs := [], loops := [], joins := [], blocks := [] }
set_option maxRecDepth 100000 in
def vc_slices_Clip_LLint_int_ (a : Option Addr) (b c : Nat) (w : World) (R : Value → WP) : Prop :=  slc a b c none (some (↑b : Int)) (some (↑b : Int)) 1 fun (o1 : Option Addr) (k1 k2 : Nat) => R (vS o1 k1 k2) w
set_option maxRecDepth 100000 in
theorem run_slices_Clip_LLint_int_ (a : Option Addr) (b c : Nat) (w : World) (R : Value → WP) (h : vc_slices_Clip_LLint_int_ a b c w R) : Run Try.prog 29 [(.slice a b c)] w R := rv Try.func29 ann_slices_Clip_LLint_int_ (by kernel_rfl) h

def ann_slices_Clip_api_Trans_api_Trans_ : Ann := { rngs := [], loops := [], joins := [], blocks := [] }
set_option maxRecDepth 100000 in
def vc_slices_Clip_api_Trans_api_Trans_ (a : Option Addr) (b c : Nat) (w : World) (R : Value → WP) : Prop :=  slc a b c none (some (↑b : Int)) (some (↑b : Int)) 2 fun (o1 : Option Addr) (k1 k2 : Nat) => R (vS o1 k1 k2) w
set_option maxRecDepth 100000 in
theorem run_slices_Clip_api_Trans_api_Trans_ (a : Option Addr) (b c : Nat) (w : World) (R : Value → WP) (h : vc_slices_Clip_api_Trans_api_Trans_ a b c w R) : Run Try.prog 45 [(.slice a b c)] w R := rv Try.func45 ann_slices_Clip_api_Trans_api_Trans_ (by kernel_rfl) h

end Go.Proofs.Ytkmjjnjngcpjmaa
set_option linter.unusedVariables false
namespace Go.V
section
variable {κ : Type} [DecidableEq κ] [MVal κ] {P : Program} {Ty : TypeId → Option TyI} {w : World} {L : List Asn} {b : Nat} {m : List (κ × Value)} {h : Hp}
theorem map_lookupOkP (hT : TyOk P Ty) {t kt et : TypeId} {i : TyI} {z : Value} (hk : kdOfT Ty t = .map kt et) (hkt : KeyP P kt κ) (hi : Ty et = some i) (hz : i.zero = some z) {b : Nat} {m : List (κ × Value)} (h : St w (mapA b m :: L)) (k : κ) :
    RunS P (Instr.lookup t (.map (some b)) (MVal.val k) true) w fun v w' => v = .tuple #[(assoc k m).getD z, .bool (assoc k m).isSome] ∧ w' = w := by
  obtain ⟨d, hd, hd'⟩ := undOf hT hk (by simp)
  rw [kd_map' hd'] at hd
  obtain ⟨es, cl, ⟨he, _, _⟩, h⟩ := mapA_ex.1 h
  obtain ⟨r, hf, q2, _, _⟩ := hkt.find w k es.toList m he
  obtain ⟨info, d2, ha⟩ := tyAt hT hi
  have hzz : (zeroValue et).run P w = .ok z w := run_zero ha.inf (by rw [← ha.zero, hz])
  refine ⟨_, w, ?_, Ev.refl w, rfl, rfl⟩
  have hg := h.get
  have hc := fun e => hkt.check w e k
  unfold Instr.lookup
  simp only [Sem.run_bind, run_und hd, Result.andThen_ok, run_getObj_map w b es cl hg, Sem.run_pure, hc, hf]
  rw [← q2]
  cases r with
  | none => simp [Sem.run_bind, hzz]
  | some x => simp
theorem map_lookupOkHP (hm : mapA b m h) (s : sub h (hp w)) (hT : TyOk P Ty) {t kt et : TypeId} {i : TyI} {z : Value} (hk : kdOfT Ty t = .map kt et) (hkt : KeyP P kt κ) (hi : Ty et = some i) (hz : i.zero = some z) (k : κ) :
    RunS P (Instr.lookup t (.map (some b)) (MVal.val k) true) w fun v w' => v = .tuple #[(assoc k m).getD z, .bool (assoc k m).isSome] ∧ w' = w :=
  map_lookupOkP (L := []) hT hk hkt hi hz (starL_one (mapA_mono s hm)) k
end
def WayI (ss : List SQ) (m : List (TransT × Value)) (i : Nat) (es : List EdgeT) : Prop := ∀ k : TransT, assoc k m =
  if k.st < 0 then none else if k.st.toNat < i then (nxt ss k.st.toNat k.sym).map (Value.int .i64) else if k.st.toNat = i then (es.find? fun e => decide (e.sym = k.sym)).map (fun e => Value.int .i64 e.to) else none
section
variable {ss : List SQ} {m : List (TransT × Value)} {i : Nat}
theorem WayI.start : WayI ss [] 0 [] := fun k => by simp [assoc]
theorem find_snoc {es : List EdgeT} {e : EdgeT} (hn : e.sym ∉ es.map (·.sym)) (s : Int) : ((es ++ [e]).find? fun x => decide (x.sym = s)) = if s = e.sym then some e else es.find? fun x => decide (x.sym = s) := by
  rw [List.find?_append]
  by_cases h : s = e.sym
  · subst h
    have : (es.find? fun x => decide (x.sym = e.sym)) = none := List.find?_eq_none.2 fun x hx h2 => hn (List.mem_map.2 ⟨x, hx, by simpa using h2⟩)
    rw [this]; simp
  · rw [if_neg h]
    have : ([e].find? fun x => decide (x.sym = s)) = none := by simp [Ne.symm h]
    rw [this]; simp
theorem WayI.step {es : List EdgeT} (h : WayI ss m i es) {e : EdgeT} (hn : e.sym ∉ es.map (·.sym)) : WayI ss (aput ⟨(i : Int), e.sym⟩ (.int .i64 e.to) m) i (es ++ [e]) := fun k => by
  rw [assoc_put, h k, find_snoc hn]
  by_cases hk : k = ⟨(i : Int), e.sym⟩
  · subst hk
    simp
  · rw [if_neg hk]
    split
    · rfl
    · split
      · rfl
      · split
        · have : k.sym ≠ e.sym := fun h => hk (by cases k; simp at *; omega)
          rw [if_neg this]
        · rfl
theorem WayI.next {q : SQ} (hq : ss[i]? = some q) (h : WayI ss m i q.2.2) : WayI ss m (i + 1) [] := fun k => by
  rw [h k]
  split
  · rfl
  · by_cases h1 : k.st.toNat < i
    · rw [if_pos h1, if_pos (by omega)]
    · rw [if_neg h1]
      by_cases h2 : k.st.toNat = i
      · rw [if_pos h2, if_pos (by omega), h2, nxt_some hq, Option.map_map]; rfl
      · rw [if_neg h2, if_neg (by omega)]; simp
theorem WayI.all (h : WayI ss m ss.length []) {k : TransT} (hk : 0 ≤ k.st) : assoc k m = (nxt ss k.st.toNat k.sym).map (Value.int .i64) := by
  rw [h k, if_neg (by omega)]
  split
  · rfl
  · have : nxt ss k.st.toNat k.sym = none := by unfold nxt; rw [List.getElem?_eq_none (by omega)]
    rw [this]; simp
end
abbrev wyC (x : GA) (o : Option Addr) (n c : Nat) (a int : Int) (kb : Nat) : List Value := x.cells ++ [.slice o n c, .int .i64 a, .int .i64 int, .map (some kb)]
structure WyR (h : Hp) (g : GramT) (ss : List SQ) (k : Nat) : Prop where
  ex : ∃ (x : GA) (o : Option Addr) (c kb : Nat) (a int : Int) (m : List (TransT × Value)), rowH h (aM k) (wyC x o ss.length c a int kb) ∧ gR h g x ∧ stRd h ss o ∧ mapA kb m h ∧ WayI ss m ss.length []
theorem WyR.mono {h h' : Hp} {g : GramT} {ss : List SQ} {k : Nat} (s : sub h h') (r : WyR h g ss k) : WyR h' g ss k := by
  obtain ⟨x, o, c, kb, a, int, m, h1, h2, h3, h4, h5⟩ := r.ex
  exact ⟨x, o, c, kb, a, int, m, h1.mono s, h2.mono s, h3.mono s, mapA_mono s h4, h5⟩
end Go.V
namespace Go.Proofs.Ytkmjjnjngcpjmaa
open Go.V
variable {w : World} {L : List Asn} {g : GramT} {x : GA}
theorem two_Trans : Two Try.prog ty_api_Trans ty_int { name := "State", type := ty_int, offset := 0, embedded := false, tag := "", pkgPath := "", byteOffset := 0 } { name := "Sym", type := ty_int, offset := 1, embedded := false, tag := "", pkgPath := "", byteOffset := 8 } where
  ht := by kernel_rfl
  hf := by kernel_rfl
  hi := und_int
  ht0 := rfl
  ht1 := rfl
  n0 := by decide
  n1 := by decide
  o0 := rfl
  o1 := rfl
  sih := sih_api_Trans
theorem key_Trans : KeyP Try.prog ty_api_Trans TransT := KeyP.two two_Trans
theorem y_trof (hg : gR (hp w) g x) (hb : okG g) : Run Try.prog n_trans_of [.agg ⟨x.cells⟩] w fun v w' => ∃ (ss : List SQ) (ask int f : Int) (p : Option Addr), v = .tuple #[.pointer p, .int .i64 f] ∧ Res g ss ask int f ∧ Gr w w' ∧ (f = 0 → ∃ k, p = some (aM k) ∧ WyR (hp w') g ss k) ∧ (f ≠ 0 → p = none) := by
  refine run_trans_of _ _ _ _ _ _ _ _ _ _ _ _ _ w _ (gbox hg fun k1 w1 gw hg B => ?_)
  refine ⟨_, _, _, _, _, _, _, _, _, _, _, _, _, B.row (sub.refl _), (y_BuildR hg hb).mono ?_⟩
  rintro _ w2 ⟨o, c, ss, ask, int, f, rfl, hR, h⟩
  have g12 : Gr w1 w2 := rdH 3 h.l
  have hg := hg.mono g12
  have hs := stRd_of h.l
  refine ⟨_, _, _, _, _, _, rfl, newC_i (St.all w2) fun k12 w3 h => stR_i h rfl (by simp [oneC]) fun w4 h => br_intro (fun h1 => ?_) fun h1 => ?_⟩
  · have h1 : f ≠ 0 := by simpa using h1
    exact ⟨ss, ask, int, f, none, rfl, hR, gw.trans (g12.trans h.gone1), fun h => absurd h h1, fun _ => rfl⟩
  have h1 : f = 0 := by simpa using h1
  subst h1
  obtain ⟨hc, hA⟩ : ClosedP g ∧ AutI g ss := by
    rcases hR with ⟨_, _, _, _, e⟩ | ⟨_, _, _, _, _, e⟩ | ⟨hc, hA, _⟩
    · omega
    · omega
    · exact ⟨hc, hA⟩
  have hkl := hA.klen hc
  have h256 := hA.dn.2.1
  have g24 : Gr w2 w4 := h.gone1
  have hg := hg.mono g24
  have hs := hs.mono g24
  have r12 : rowH (hp w4) (aM k12) [.slice o ss.length c, .int .i64 ask, .int .i64 int] := rdCel 0 h.l
  clear h
  refine ⟨_, _, _, _, _, _, _, _, _, _, _, _, _, B.row (g12.trans g24), _, _, _, _, _, r12.at (sub.refl _) rfl, new_i (St.all w4) fun kb w5 h => ?_⟩
  have h := mapA_new (κ := TransT) h
  refine newC_i (vs := wyC x o ss.length c ask int kb) h fun km w6 h => ?_
  refine ⟨_, _, _, r12.cell0 (rdH 2 h.l), fun z w' => ∃ (i : Nat) (m : List (TransT × Value)), z = i ∧ i ≤ ss.length ∧ WayI ss m i [] ∧ St w' (cel km (wyC x o ss.length c ask int kb) :: mapA kb m :: all w4), fun z _ => ss.length - z.toNat,
    ⟨0, [], rfl, Nat.zero_le _, .start, h⟩, ?_⟩
  clear h
  rintro _ _ w7 ⟨i, m, rfl, hi, hW, h⟩
  have s7 : sub (hp w4) (hp w7) := rdH 2 h.l
  refine br_intro (fun h1 => ?_) fun h1 => ?_
  rotate_left
  · have h1 : i = ss.length := by have := of_decide_eq_false h1; omega
    subst h1
    obtain ⟨hm, sm, hA2⟩ := rdA 1 h.l
    exact ⟨ss, ask, int, 0, some (aM km), rfl, hR, gw.trans (g12.trans (g24.trans s7)), fun _ => ⟨km, rfl, x, o, c, kb, ask, int, m, rdCel 0 h.l, hg.mono s7, hs.mono s7, mapA_mono sm hA2, hW⟩, fun h => absurd rfl h⟩
  have h1 : i < ss.length := by have := of_decide_eq_true h1; omega
  obtain ⟨q, hq⟩ : ∃ q, ss[i]? = some q := ⟨_, List.getElem?_eq_getElem h1⟩
  obtain ⟨ad, rfl, rs, _, re⟩ := hs i q hq
  have hql := (hkl q (List.mem_of_getElem? hq)).2
  have hnd := aut_nd hA hq
  refine idx_n rfl h1 ⟨_, _, _, _, _, _, rs.at s7 rfl, newC_i h fun k31 w8 h => stR_i h rfl (by simp [oneC]) fun w9 h => ?_⟩
  have r31 : rowH (hp w9) (aM k31) (stV q) := rdCel 0 h.l
  refine ⟨_, _, _, r31.cell (sub.refl _) (j := 1) rfl, fun z w' => ∃ (k : Nat) (m : List (TransT × Value)), z = k ∧ k ≤ q.2.2.length ∧ WayI ss m i (q.2.2.take k) ∧ St w' (cel km (wyC x (some ad) ss.length c ask int kb) :: mapA kb m :: all w4), fun z _ => q.2.2.length - z.toNat,
    ⟨0, m, rfl, Nat.zero_le _, hW, h.pick 3 [1, 2]⟩, ?_⟩
  clear h hW
  rintro _ _ w10 ⟨k, m, rfl, hk, hW, h⟩
  have s10 : sub (hp w4) (hp w10) := rdH 2 h.l
  refine br_intro (fun h2 => ?_) fun h2 => ?_
  rotate_left
  · have h2 : k = q.2.2.length := by have := of_decide_eq_false h2; omega
    subst h2
    rw [List.take_length] at hW
    exact ⟨⟨by omega, by omega⟩, ⟨i + 1, m, by simp, h1, hW.next hq, h⟩, msr h1⟩
  have h2 : k < q.2.2.length := by have := of_decide_eq_true h2; omega
  obtain ⟨e, ead, he, hea, red⟩ := rdEd_get re h2
  refine idx_n hea h2 ⟨_, _, red.at s10 rfl, newC_i h fun k34 w11 h => stR_i h rfl (by simp [oneC]) fun w12 h => ?_⟩
  intro w13 hd
  have h := h.eq (drawn_hp hd)
  have r34 : rowH (hp w13) (aM k34) [.int .i64 e.sym, .int .i64 e.to] := rdCel 0 h.l
  have rm : rowH (hp w13) (aM km) (wyC x (some ad) ss.length c ask int kb) := rdCel 1 h.l
  refine ⟨fun u => Gr w13 u, Gr.refl _, _, fun u s => rm.cell s (j := 8) rfl, _, fun u s => r34.cell0 s, _, fun u s => r34.cell s (j := 1) rfl, (map_updateP (κ := TransT) tyOk (rfl : kdOfT Ty _ = .map _ _) key_Trans (h.pick 3 [2, 0, 1]) ⟨(i : Int), e.sym⟩ _).mono ?_⟩
  rintro _ w17 h
  have ht : q.2.2.take (k + 1) = q.2.2.take k ++ [e] := by rw [List.take_add_one, he]; rfl
  have hn : e.sym ∉ (q.2.2.take k).map (·.sym) := fun hm => by
    have e1 : q.2.2.map (·.sym) = (q.2.2.take k).map (·.sym) ++ e.sym :: (q.2.2.drop (k + 1)).map (·.sym) := by
      rw [← List.map_cons, ← List.map_append]
      congr 1
      have := List.take_append_drop (k + 1) q.2.2
      rw [ht] at this
      simpa using this.symm
    rw [e1, List.nodup_append] at hnd
    exact hnd.2.2 _ hm _ (by simp) rfl
  have hW := hW.step hn
  rw [← ht] at hW
  exact ⟨⟨by omega, by omega⟩, ⟨k + 1, _, by simp, h2, hW, h.pick 3 [2, 0]⟩, msr h2⟩
end Go.Proofs.Ytkmjjnjngcpjmaa
set_option linter.unusedVariables false
namespace Go.V
section
variable {g : GramT} {ss : List SQ}
theorem trAt_len (g : GramT) (i : Nat) (es : List EdgeT) : (trAt g i es).length ≤ es.length := by
  unfold trAt; rw [List.length_map]; exact List.length_filter_le _ _
theorem TrN_len (hk : ∀ q ∈ ss, q.2.2.length ≤ 130) : ∀ i, (TrN g ss i).length ≤ i * 130
  | 0 => by simp [TrN]
  | i + 1 => by
    have := TrN_len hk i
    cases hq : ss[i]? with
    | none => simp [TrN, hq]; omega
    | some q =>
      rw [TrN_succ hq, List.length_append]
      have h1 := trAt_len g i q.2.2
      have h2 := hk q (List.mem_of_getElem? hq)
      omega
theorem Res.aut {a i f : Int} (h : Res g ss a i f) (hf : f = 0) : ClosedP g ∧ AutI g ss := by
  subst hf
  rcases h with ⟨_, _, _, _, e⟩ | ⟨_, _, _, _, _, e⟩ | ⟨hc, hA, _⟩
  · omega
  · omega
  · exact ⟨hc, hA⟩
end
end Go.V
namespace Go.Proofs.Ytkmjjnjngcpjmaa
open Go.V
variable {w : World} {L : List Asn} {g : GramT} {x : GA} {ss : List SQ}
theorem y_trlist {k : Nat} (hw : WyR (hp w) g ss k) (hn : ss.length ≤ 256) (hk : ∀ q ∈ ss, q.2.2.length ≤ 130) : Run Try.prog n_trans_ways_list [.pointer (some (aM k))] w fun v w' => ∃ (o : Option Addr) (c : Nat), v = .slice o (TrL g ss).length c ∧ St w' (own 2 o (TrL g ss).length c (trv (TrL g ss)) :: all w) := by
  obtain ⟨x, oa, ca, kb, a, int, m, rk, hg, hs, hm, hW⟩ := hw.ex
  have hTl : g.T = x.tl := hg.t.1
  refine run_trans_ways_list _ w _ ⟨_, _, _, rk.cell (sub.refl _) (j := 5) rfl, fun o n c z w' => ∃ i : Nat, z = i ∧ i ≤ ss.length ∧ n = (TrN g ss i).length ∧ St w' (own 2 o n c (trv (TrN g ss i)) :: all w), fun _ _ _ z _ => ss.length - z.toNat,
    ⟨0, rfl, Nat.zero_le _, rfl, own_nil 2 (St.all w)⟩, ?_⟩
  rintro _ o2 _ c2 _ w1 ⟨i, rfl, hi, rfl, h⟩
  have s1 : sub (hp w) (hp w1) := rdH 1 h.l
  refine br_intro (fun h1 => ?_) fun h1 => ?_
  rotate_left
  · have h1 : i = ss.length := by have := of_decide_eq_false h1; omega
    subst h1
    refine run_slices_Clip_api_Trans_api_Trans_ _ _ _ w1 _ (slc_clip (own_le h) ⟨_, _, _, rfl, _, _, rfl, own_clip h⟩)
  have h1 : i < ss.length := by have := of_decide_eq_true h1; omega
  obtain ⟨q, hq⟩ : ∃ q, ss[i]? = some q := ⟨_, List.getElem?_eq_getElem h1⟩
  obtain ⟨ad, rfl, rs, _, re⟩ := hs i q hq
  have hql := hk q (List.mem_of_getElem? hq)
  have hNl := TrN_len (g := g) hk i
  refine idx_n rfl h1 ⟨_, _, _, _, _, _, rs.at s1 rfl, newC_i h fun k9 w2 h => stR_i h rfl (by simp [oneC]) fun w3 h => ?_⟩
  have r9 : rowH (hp w3) (aM k9) (stV q) := rdCel 0 h.l
  refine ⟨_, _, _, r9.cell (sub.refl _) (j := 1) rfl, fun o n c z w' => ∃ (j : Nat), z = j ∧ j ≤ q.2.2.length ∧ n = (TrN g ss i ++ trAt g i (q.2.2.take j)).length ∧ St w' (own 2 o n c (trv (TrN g ss i ++ trAt g i (q.2.2.take j))) :: all w), fun _ _ _ z _ => q.2.2.length - z.toNat,
    ⟨0, rfl, Nat.zero_le _, by simp [trAt], by simpa [trAt] using (show St w3 (own 2 o2 (TrN g ss i).length c2 (trv (TrN g ss i)) :: all w) from h.pick 2 [1])⟩, ?_⟩
  clear h
  rintro _ o6 _ c6 _ w4 ⟨j, rfl, hj, rfl, h⟩
  have s4 : sub (hp w) (hp w4) := rdH 1 h.l
  have hTA := trAt_len g i (q.2.2.take j)
  rw [List.length_take] at hTA
  refine br_intro (fun h2 => ?_) fun h2 => ?_
  rotate_left
  · have h2 : j = q.2.2.length := by have := of_decide_eq_false h2; omega
    subst h2
    rw [List.take_length] at h ⊢
    exact ⟨⟨by omega, by omega⟩, ⟨i + 1, by simp, h1, by rw [TrN_succ hq], by rw [TrN_succ hq]; exact h⟩, msr h1⟩
  have h2 : j < q.2.2.length := by have := of_decide_eq_true h2; omega
  obtain ⟨e, ead, he, hea, red⟩ := rdEd_get re h2
  have ht : q.2.2.take (j + 1) = q.2.2.take j ++ [e] := by rw [List.take_add_one, he]; rfl
  refine idx_n hea h2 ⟨_, _, red.at s4 rfl, newC_i h fun k14 w5 h => stR_i h rfl (by simp [oneC]) fun w6 h => ?_⟩
  intro w7 hd
  have h := h.eq (drawn_hp hd)
  have r14 : rowH (hp w7) (aM k14) [.int .i64 e.sym, .int .i64 e.to] := rdCel 0 h.l
  have s7 : sub (hp w) (hp w7) := rdH 2 h.l
  refine ⟨fun u => Gr w7 u, Gr.refl _, _, fun u s => r14.cell0 s, _, _, _, fun u s => rk.cell0 (sub.trans s7 s), br_intro (fun h3 => ?_) fun h3 => ?_⟩
  · have h3 : (g.T : Int) ≤ e.sym := by rw [hTl]; exact of_decide_eq_true h3
    have z1 : ((TrN g ss i ++ trAt g i (q.2.2.take j)).length + 1) * 16 ≤ 140737488355328 ∧ (TrN g ss i ++ trAt g i (q.2.2.take j)).length < 9223372036854775807 := by rw [List.length_append]; omega
    refine ⟨_, r14.cell0 (sub.refl _), newC_i h fun k17 w10 h => ?_⟩
    refine (app_one (us := trv (TrN g ss i ++ trAt g i (q.2.2.take j))) tyOk (rfl : kdOfT Ty _ = .slice _) (rfl : kdOfT Ty _ = .slice _) rfl rfl rfl (h.pick 3 [0, 2]) rfl (by simp [oneC]) z1.1 z1.2).mono ?_
    rintro _ w11 ⟨o8, c8, rfl, h⟩
    have e2 : trAt g i (q.2.2.take (j + 1)) = trAt g i (q.2.2.take j) ++ [⟨(i : Int), e.sym⟩] := by rw [ht, trAt_snoc, if_pos h3]
    have e3 : trv (TrN g ss i ++ trAt g i (q.2.2.take (j + 1))) = trv (TrN g ss i ++ trAt g i (q.2.2.take j)) ++ [.int .i64 (i : Int), .int .i64 e.sym] := by rw [e2, ← List.append_assoc, trv_app]; rfl
    refine ⟨_, _, _, rfl, ⟨by omega, by omega⟩, ⟨j + 1, by simp, h2, by rw [e2]; simp; omega, ?_⟩, msr h2⟩
    rw [e3]; exact h.pick 2 [0]
  · have h3 : ¬(g.T : Int) ≤ e.sym := by rw [hTl]; exact of_decide_eq_false h3
    have e2 : trAt g i (q.2.2.take (j + 1)) = trAt g i (q.2.2.take j) := by rw [ht, trAt_snoc, if_neg h3]
    exact ⟨⟨by omega, by omega⟩, ⟨j + 1, by simp, h2, by rw [e2], by rw [e2]; exact h.pick 2 [1]⟩, msr h2⟩
theorem y_trList (hg : gR (hp w) g x) (hb : okG g) : Run Try.prog n_trans_List [.agg ⟨x.cells⟩] w fun v w' => ∃ (ss : List SQ) (ask int f : Int) (o : Option Addr) (c : Nat), v = .tuple #[.slice o (TrL g ss).length c, .int .i64 f] ∧ Res g ss ask int f ∧ St w' (own 2 o (TrL g ss).length c (trv (TrL g ss)) :: all w) := by
  refine run_trans_List _ _ _ _ _ _ _ _ _ _ _ _ _ w _ (gbox hg fun k1 w1 gw hg B => ?_)
  refine ⟨_, _, _, _, _, _, _, _, _, _, _, _, _, B.row (sub.refl _), (y_trof hg hb).mono ?_⟩
  rintro _ w2 ⟨ss, ask, int, f, p, rfl, hR, g2, h0, hn⟩
  refine ⟨_, _, rfl, br_intro (fun h1 => ?_) fun h1 => ?_⟩
  · have h1 : f ≠ 0 := by simpa using h1
    have hz : ss = [] := by rcases hR with ⟨_, e, _⟩ | ⟨_, _, e, _⟩ | ⟨_, _, _, _, e⟩ <;> first | exact e | exact absurd e h1
    subst hz
    exact ⟨[], ask, int, f, none, 0, rfl, hR, own_nil 2 (St.here (gw.trans g2))⟩
  have h1 : f = 0 := by simpa using h1
  obtain ⟨k, rfl, hw⟩ := h0 h1
  obtain ⟨hc, hA⟩ := hR.aut h1
  have hkl := hA.klen hc
  refine (y_trlist hw hA.dn.2.1 fun q hq => (hkl q hq).2).mono ?_
  rintro _ w3 ⟨o, c, rfl, h⟩
  subst h1
  exact ⟨_, _, _, rfl, ss, ask, int, 0, o, c, rfl, hR, St.on1 h (has_i (gw.trans g2))⟩
end Go.Proofs.Ytkmjjnjngcpjmaa
set_option linter.unusedVariables false
namespace Go.V
def bS (g : GramT) (s : Int) : Bool := decide (s < 0) || decide (((g.T + g.N : Nat) : Int) ≤ s)
def wlk (g : GramT) (ss : List SQ) (f q : Int) (row : List Int) : Int × Int :=
  if f ≠ 0 then (0, f) else if q < 0 ∨ (ss.length : Int) ≤ q ∨ row.any (bS g) = true then (0, 1) else (wayN ss q row, 0)
theorem nxt_pos {g : GramT} {ss : List SQ} (hc : ClosedP g) (hA : AutI g ss) {i : Nat} {s j : Int} (h : nxt ss i s = some j) : 0 ≤ j ∧ j < ss.length := by
  obtain ⟨q, k, e, hq, he, rfl, rfl⟩ := nxt_inv h
  obtain ⟨_, _, n, r, hn, h1, hr, _⟩ := aut_edge hc hA hq he
  have := (List.getElem?_eq_some_iff.1 hr).1
  omega
end Go.V
namespace Go.Proofs.Ytkmjjnjngcpjmaa
open Go.V
variable {w : World} {L : List Asn} {g : GramT} {x : GA} {ss : List SQ} {a : Option Addr} {l c : Nat} {row : List Int}
theorem y_trS1 {k1 : Nat} {s : Int} (hg : gR (hp w) g x) (hb : okG g) (B : GB (hp w) k1 x) : Run Try.prog n_trans_Walk_S1 [.int .i64 s, .pointer (some (aM k1))] w fun v w' => v = .bool (bS g s) ∧ w' = w := by
  have hTl : g.T = x.tl := hg.t.1
  have hNl : g.N = x.nl := hg.n.1
  obtain ⟨b1, b2, _⟩ := hb
  have b1 : g.T ≤ 17592186044416 := b1
  have b2 : g.N ≤ 17592186044416 := b2
  refine run_trans_Walk_S1 _ _ w _ (br_intro (fun h1 => ⟨by unfold bS; rw [h1]; rfl, rfl⟩) fun h1 => ⟨_, _, _, B.c0 (sub.refl _), _, _, _, B.c1 (sub.refl _), ⟨by omega, by omega⟩, ?_, rfl⟩)
  unfold bS
  rw [h1, Bool.false_or, hTl, hNl]
  congr 1
theorem y_trBad {k1 : Nat} (hg : gR (hp w) g x) (hb : okG g) (B : GB (hp w) k1 x) (hr : rdS (hp w) row a l) (hl : l ≤ 4611686018427387904) : Run Try.prog n_slices_ContainsFunc_int_int_ [.slice a l c, .func (.func n_trans_Walk_S1) #[] #[.pointer (some (aM k1))]] w fun v w' => v = .bool (row.any (bS g)) ∧ w' = w := by
  refine run_slices_ContainsFunc_int_int_ _ _ _ _ _ w _ ?_
  have key : Run Try.prog n_slices_IndexFunc_int_int_ [.slice a l c, .func (.func n_trans_Walk_S1) #[] #[.pointer (some (aM k1))]] w fun v w' => (∃ n : Int, v = .int .i64 n ∧ (decide (0 ≤ n) = row.any (bS g))) ∧ w' = w := by
    refine run_slices_IndexFunc_int_int_ _ _ _ _ _ w _ ?_
    refine ⟨fun n w' => ∃ j : Nat, n = j ∧ j ≤ l ∧ (row.take j).any (bS g) = false ∧ w' = w, fun n _ => l - n.toNat, ⟨0, rfl, by omega, rfl, rfl⟩, ?_⟩
    rintro _ n w1 ⟨j, rfl, hj, ha, rfl⟩
    refine br_intro (fun h1 => ?_) fun h1 => ?_
    · have h1 : j < l := by have := of_decide_eq_true h1; omega
      obtain ⟨y, ad, hy1, hya, hy2⟩ := hr.get1 h1
      refine idx_i hya h1 ⟨y, hy2 _ (sub.refl _), ifT_iff.2 ⟨rfl, (y_trS1 hg hb B).mono ?_⟩⟩
      rintro _ _ ⟨rfl, rfl⟩
      refine ⟨_, rfl, br_intro (fun h2 => ⟨⟨_, rfl, ?_⟩, rfl⟩) fun h2 => ⟨⟨by omega, by omega⟩, ⟨j + 1, by simp, by omega, ?_, rfl⟩, msr h1⟩⟩
      · have : row.any (bS g) = true := List.any_eq_true.2 ⟨y, List.mem_of_getElem? hy1, h2⟩
        rw [this]; simp
      · rw [take_succ_get hy1, List.any_append, ha]
        simpa using h2
    · have h1 : j = l := by have := of_decide_eq_false h1; omega
      subst h1
      rw [List.take_of_length_le (by have := hr.1; omega)] at ha
      exact ⟨⟨_, rfl, by rw [ha]; rfl⟩, rfl⟩
  refine key.mono ?_
  rintro _ w2 ⟨⟨n, rfl, hn⟩, rfl⟩
  exact ⟨n, rfl, by rw [hn], rfl⟩
theorem y_trWalk {fr : Int} (hg : gR (hp w) g x) (hb : okG g) (hr : rdS (hp w) row a l) (hl : l ≤ 4611686018427387904) : Run Try.prog n_trans_Walk [.agg ⟨x.cells⟩, .int .i64 fr, .slice a l c] w fun v w' => ∃ (ss : List SQ) (ask int f : Int), v = .tuple #[.int .i64 (wlk g ss f fr row).1, .int .i64 (wlk g ss f fr row).2] ∧ Res g ss ask int f ∧ Gr w w' := by
  have hrl := hr.1
  refine run_trans_Walk _ _ _ _ _ _ _ _ _ _ _ _ _ _ _ _ _ w _ (gbox hg fun k1 w1 gw hg B => ?_)
  refine ⟨_, _, _, _, _, _, _, _, _, _, _, _, _, B.row (sub.refl _), (y_trof hg hb).mono ?_⟩
  rintro _ w2 ⟨ss, ask, int, f, p, rfl, hR, g2, h0, hn⟩
  refine ⟨_, _, rfl, br_intro (fun h1 => ?_) fun h1 => ?_⟩
  · have h1 : f ≠ 0 := by simpa using h1
    exact ⟨ss, ask, int, f, by unfold wlk; rw [if_pos h1], hR, gw.trans g2⟩
  have h1 : f = 0 := by simpa using h1
  subst h1
  obtain ⟨k, rfl, hw⟩ := h0 rfl
  obtain ⟨hc, hA⟩ := hR.aut rfl
  obtain ⟨x', oa, ca, kb, a', int', m, rk, hg', hs, hm, hW⟩ := hw.ex
  have hg2 := hg.mono g2
  have hr2 : rdS (hp w2) row a l := (hr.mono gw).mono g2
  have B2 : GB (hp w2) k1 x := ⟨fun s => B.c0 (sub.trans g2 s), fun s => B.c1 (sub.trans g2 s), fun s => B.c2 (sub.trans g2 s), fun s => B.c3 (sub.trans g2 s), fun s => B.c4 (sub.trans g2 s), fun s => B.row (sub.trans g2 s)⟩
  refine ⟨fun b w' => b = (decide (fr < 0) || decide ((ss.length : Int) ≤ fr) || row.any (bS g)) ∧ w' = w2, ?_, ?_⟩
  · refine br_intro (fun h2 => ⟨by rw [h2]; simp, rfl⟩) fun h2 => ⟨_, _, _, rk.cell (sub.refl _) (j := 5) rfl, br_intro (fun h3 => ⟨by rw [h3]; simp, rfl⟩) fun h3 => (y_trBad hg2 hb B2 hr2 hl).mono ?_⟩
    rintro _ w3 ⟨rfl, rfl⟩
    exact ⟨_, rfl, by rw [h2, h3]; simp, rfl⟩
  rintro _ b w4 ⟨rfl, rfl⟩
  refine br_intro (fun h2 => ?_) fun h2 => ?_
  · refine ⟨ss, ask, int, 0, ?_, hR, gw.trans g2⟩
    have h2 : fr < 0 ∨ (ss.length : Int) ≤ fr ∨ row.any (bS g) = true := by simpa [or_assoc] using h2
    unfold wlk
    rw [if_neg (by simp), if_pos h2]
  have h2 : ¬(fr < 0 ∨ (ss.length : Int) ≤ fr ∨ row.any (bS g) = true) := by
    intro h
    rw [Bool.or_eq_false_iff, Bool.or_eq_false_iff] at h2
    rcases h with h | h | h
    · exact absurd h (of_decide_eq_false h2.1.1)
    · exact absurd h (of_decide_eq_false h2.1.2)
    · rw [h] at h2; exact absurd h2.2 (by simp)
  have hwk : wlk g ss 0 fr row = (wayN ss fr row, 0) := by unfold wlk; rw [if_neg (by simp), if_neg h2]
  refine ⟨fun q z w' => ∃ j : Nat, z = j ∧ j ≤ l ∧ 0 ≤ q ∧ wayN ss fr row = wayN ss q (row.drop j) ∧ w' = w4, fun _ z _ => l - z.toNat, ⟨0, rfl, by omega, by omega, rfl, rfl⟩, ?_⟩
  rintro _ q _ w5 ⟨j, rfl, hj, hq0, he, rfl⟩
  refine br_intro (fun h3 => ?_) fun h3 => ?_
  rotate_left
  · have h3 : j = l := by have := of_decide_eq_false h3; omega
    subst h3
    rw [← hrl, List.drop_length] at he
    exact ⟨ss, ask, int, 0, by rw [hwk, he]; rfl, hR, gw.trans g2⟩
  have h3 : j < l := by have := of_decide_eq_true h3; omega
  obtain ⟨y, ad, hy1, hya, hy2⟩ := hr2.get1 h3
  have hd : row.drop j = y :: row.drop (j + 1) := by
    rw [List.drop_eq_getElem_cons (by omega)]
    congr 1
    exact (List.getElem?_eq_some_iff.1 hy1).2
  refine idx_i hya h3 ⟨y, hy2 _ (sub.refl _), _, rk.cell (sub.refl _) (j := 8) rfl, (map_lookupOkHP (κ := TransT) hm (sub.refl _) tyOk (rfl : kdOfT Ty _ = .map _ _) key_Trans rfl rfl ⟨q, y⟩).mono ?_⟩
  rintro _ w6 ⟨rfl, rfl⟩
  rw [hW.all (k := ⟨q, y⟩) hq0]
  rw [hd] at he
  cases hnx : nxt ss q.toNat y with
  | none =>
    refine ⟨0, false, rfl, br_t rfl ⟨ss, ask, int, 0, ?_, hR, gw.trans g2⟩⟩
    rw [hwk, he]
    show _ = _
    simp [wayN, hnx]
  | some to =>
    refine ⟨to, true, rfl, br_f rfl ⟨⟨by omega, by omega⟩, ⟨j + 1, by simp, h3, (nxt_pos hc hA hnx).1, ?_, rfl⟩, msr h3⟩⟩
    rw [he]
    simp [wayN, hnx]
end Go.Proofs.Ytkmjjnjngcpjmaa
set_option linter.unusedVariables false
namespace Go.V
section
variable {g : GramT} {ss : List SQ}
def flT (g : GramT) (es : List EdgeT) : List Int := (es.filter fun e => decide (e.sym < (g.T : Int))).map (·.sym)
theorem flT_snoc {es : List EdgeT} {e : EdgeT} : flT g (es ++ [e]) = if e.sym < (g.T : Int) then flT g es ++ [e.sym] else flT g es := by
  unfold flT
  rw [List.filter_append, List.map_append]
  by_cases h : e.sym < (g.T : Int) <;> simp [h]
theorem flT_len (g : GramT) (es : List EdgeT) : (flT g es).length ≤ es.length := by
  unfold flT; rw [List.length_map]; exact List.length_filter_le _ _
def preT (g : GramT) (t : TransT) : List Int := if t = ⟨0, g.start⟩ then [0] else []
theorem preT_len (g : GramT) (t : TransT) : (preT g t).length ≤ 1 := by unfold preT; split <;> simp
theorem TrN_mem {t : TransT} : ∀ {n : Nat}, t ∈ TrN g ss n → ∃ (i : Nat) (q : SQ) (k : Nat) (e : EdgeT), i < n ∧ ss[i]? = some q ∧ q.2.2[k]? = some e ∧ (g.T : Int) ≤ e.sym ∧ t = ⟨(i : Int), e.sym⟩
  | 0, h => by simp [TrN] at h
  | n + 1, h => by
    cases hq : ss[n]? with
    | none =>
      simp [TrN, hq] at h
      obtain ⟨i, q, k, e, h1, h2⟩ := TrN_mem h
      exact ⟨i, q, k, e, by omega, h2⟩
    | some q =>
      rw [TrN_succ hq, List.mem_append] at h
      rcases h with h | h
      · obtain ⟨i, q, k, e, h1, h2⟩ := TrN_mem h
        exact ⟨i, q, k, e, by omega, h2⟩
      · unfold trAt at h
        obtain ⟨e, he, rfl⟩ := List.mem_map.1 h
        obtain ⟨h1, h2⟩ := List.mem_filter.1 he
        obtain ⟨k, hk⟩ := List.getElem?_of_mem h1
        exact ⟨n, q, k, e, by omega, hq, hk, of_decide_eq_true h2, rfl⟩
theorem dirOf_eq {t : TransT} {j : Nat} {q : SQ} (h : nxt ss t.st.toNat t.sym = some (j : Int)) (hq : ss[j]? = some q) : dirOf g ss t = preT g t ++ flT g q.2.2 := by
  unfold dirOf
  rw [h]
  show _ ++ (match ss[(j : Int).toNat]? with | none => [] | some q => _) = _
  rw [Int.toNat_natCast, hq]
  rfl
end
end Go.V
namespace Go.Proofs.Ytkmjjnjngcpjmaa
open Go.V
variable {w : World} {L : List Asn} {g : GramT} {x : GA} {ss : List SQ}
theorem eqTrans (w : World) (xo yo : Operand) (x y : TransT) : Sem.run Try.prog (cmpS .eql ty_api_Trans xo yo (.agg ⟨encR x⟩) (.agg ⟨encR y⟩)) w = .ok (.bool (decide (x = y))) w := by
  unfold cmpS
  rw [Sem.run_bind, run_eqGuard_agg w _ _ _ _ _ _ eqg_api_Trans]
  simp only [Result.andThen_ok]
  rw [run_eql_struct]
  have e : decide (x = y) = decide (x.st = y.st ∧ x.sym = y.sym) := by
    cases x; cases y; simp
  rw [e]
  show ((Op.equal ty_api_Trans (.agg #[.int .i64 x.st, .int .i64 x.sym]) (.agg #[.int .i64 y.st, .int .i64 y.sym])).run Try.prog w).andThen _ = _
  rw [two_eq two_Trans]
  rfl
set_option maxHeartbeats 1000000 in
theorem y_trDirect (hg : gR (hp w) g x) (hb : okG g) : Run Try.prog n_trans_Direct [.agg ⟨x.cells⟩] w fun v w' => ∃ (ss : List SQ) (ask int f : Int) (o : Option Addr) (c : Nat) (ds : List (Lq Int)), v = .tuple #[.slice o ds.length c, .int .i64 f] ∧ Res g ss ask int f ∧ ds.map (·.2) = (TrL g ss).map (dirOf g ss) ∧ St w' (own 1 o ds.length c (ds.map slQ) :: sta (ds.map (owQ 1 iv)) :: all w) := by
  refine run_trans_Direct _ _ _ _ _ _ _ _ _ _ _ _ _ w _ (gbox hg fun k1 w1 gw hg B => ?_)
  refine ⟨_, _, _, _, _, _, _, _, _, _, _, _, _, B.row (sub.refl _), (y_trof hg hb).mono ?_⟩
  rintro _ w2 ⟨ss, ask, int, f, p, rfl, hR, g2, h0, hn⟩
  refine ⟨_, _, rfl, br_intro (fun h1 => ?_) fun h1 => ?_⟩
  · have h1 : f ≠ 0 := by simpa using h1
    have hz : ss = [] := by rcases hR with ⟨_, e, _⟩ | ⟨_, _, e, _⟩ | ⟨_, _, _, _, e⟩ <;> first | exact e | exact absurd e h1
    subst hz
    exact ⟨[], ask, int, f, none, 0, [], rfl, hR, rfl, own_nil 1 ((St.flat (M := [])).2 (St.here (gw.trans g2)))⟩
  have h1 : f = 0 := by simpa using h1
  subst h1
  obtain ⟨k, rfl, hw⟩ := h0 rfl
  obtain ⟨hc, hA⟩ := hR.aut rfl
  have hkl := hA.klen hc
  have h256 := hA.dn.2.1
  have hTn := TrN_len (g := g) (fun q hq => (hkl q hq).2) ss.length
  refine (y_trlist hw h256 fun q hq => (hkl q hq).2).mono ?_
  rintro _ w3 ⟨oL, cL, rfl, h⟩
  have g3 : Gr w2 w3 := rdH 1 h.l
  have rL : rdS (hp w3) (TrL g ss) oL (TrL g ss).length := rdTr_of rfl (rdOv 0 h.l)
  clear h
  obtain ⟨x', oa, ca, kb, a', int', m, rk, hg', hs, hm, hW⟩ := (hw.mono g3).ex
  have g13 : Gr w1 w3 := g2.trans g3
  have hTl : g.T = x.tl := hg.t.1
  have hst : x.s = g.start := hg.s
  refine ⟨_, _, _, rfl, fun o n c z w' => ∃ (i : Nat) (ds : List (Lq Int)), z = i ∧ i ≤ (TrL g ss).length ∧ n = ds.length ∧ ds.map (·.2) = ((TrL g ss).take i).map (dirOf g ss) ∧ St w' (own 1 o n c (ds.map slQ) :: sta (ds.map (owQ 1 iv)) :: all w3), fun _ _ _ z _ => (TrL g ss).length - z.toNat,
    ⟨0, [], rfl, Nat.zero_le _, rfl, rfl, own_nil 1 ((St.flat (M := [])).2 (St.all w3))⟩, ?_⟩
  rintro _ o7 _ c7 _ w4 ⟨i, ds, rfl, hi, rfl, hds, h⟩
  have s4 : sub (hp w3) (hp w4) := rdH 2 h.l
  have hdl : ds.length = i := by have := congrArg List.length hds; rw [List.length_map, List.length_map, List.length_take] at this; omega
  have hTL : (TrL g ss).length ≤ ss.length * 130 := hTn
  refine br_intro (fun h1 => ?_) fun h1 => ?_
  rotate_left
  · have h1 : i = (TrL g ss).length := by have := of_decide_eq_false h1; omega
    rw [h1, List.take_length] at hds
    refine run_slices_Clip_LLint_int_ _ _ _ w4 _ (slc_clip (own_le h) ⟨_, _, _, rfl, ss, ask, int, 0, _, _, ds, rfl, hR, hds, ?_⟩)
    exact St.on2 (own_clip h) (has_i (gw.trans g13))
  have h1 : i < (TrL g ss).length := by have := of_decide_eq_true h1; omega
  obtain ⟨t, tad, ht, hta, rt⟩ := rdTr_get rL h1
  obtain ⟨i0, q0, k0, e0, hi0, hq0, he0, hge, hte⟩ := TrN_mem (List.mem_of_getElem? ht)
  have hnx : nxt ss t.st.toNat t.sym = some e0.to := by rw [hte]; exact nxt_edge hA hq0 he0
  obtain ⟨hto1, hto2⟩ := nxt_pos hc hA hnx
  obtain ⟨j0, hj0⟩ : ∃ j0 : Nat, e0.to = j0 := ⟨e0.to.toNat, by omega⟩
  rw [hj0] at hnx hto2
  have hto : j0 < ss.length := by omega
  obtain ⟨r, hr⟩ : ∃ r, ss[j0]? = some r := ⟨_, List.getElem?_eq_getElem hto⟩
  have hdir : dirOf g ss t = preT g t ++ flT g r.2.2 := dirOf_eq hnx hr
  have hrl := (hkl r (List.mem_of_getElem? hr)).2
  have hpl := preT_len g t
  have hst0 : 0 ≤ t.st := by rw [hte]; exact Int.natCast_nonneg _
  have htk : (TrL g ss).take (i + 1) = (TrL g ss).take i ++ [t] := by rw [List.take_add_one, ht]; rfl
  obtain ⟨sad, rfl, rs, _, re⟩ := hs j0 r hr
  refine idx_n hta h1 ⟨_, _, rt.at s4 rfl, newC_i h fun k14 w5 h => stR_i h rfl (by simp [oneC]) fun w6 h => ?_⟩
  have h : St w6 (cel k14 (encR t) :: own 1 o7 ds.length c7 (ds.map slQ) :: sta (ds.map (owQ 1 iv)) :: all w3) := h
  have r14 : rowH (hp w6) (aM k14) (encR t) := rdCel 0 h.l
  have s6 : sub (hp w3) (hp w6) := rdH 3 h.l
  refine ⟨fun o n c w' => n = (preT g t).length ∧ St w' (own 1 o n c (iv (preT g t)) :: cel k14 (encR t) :: own 1 o7 ds.length c7 (ds.map slQ) :: sta (ds.map (owQ 1 iv)) :: all w3), ⟨_, _, r14.at (sub.refl _) rfl, _, B.c3 (sub.trans g13 s6), _, eqTrans w6 _ _ t ⟨0, x.s⟩, _, rfl, br_intro (fun h2 => ?_) fun h2 => ?_⟩, ?_⟩
  · have h2 : t = ⟨0, g.start⟩ := by rw [← hst]; exact of_decide_eq_true h2
    have e : preT g t = [0] := by unfold preT; rw [if_pos h2]
    refine newC_i h fun k15 w7 h => ?_
    refine (app_one (us := []) tyOk (rfl : kdOfT Ty _ = .slice _) (rfl : kdOfT Ty _ = .slice _) rfl rfl rfl ((own_nil 1 h).pick 5 [1, 0, 2, 3, 4]) rfl (by simp [oneC]) (by decide) (by decide)).mono ?_
    rintro _ w8 ⟨o8, c8, rfl, h⟩
    rw [e]
    exact ⟨_, _, _, rfl, rfl, h.pick 5 [0, 2, 3, 4]⟩
  · have h2 : ¬t = ⟨0, g.start⟩ := by rw [← hst]; exact of_decide_eq_false h2
    have e : preT g t = [] := by unfold preT; rw [if_neg h2]
    rw [e]
    exact ⟨rfl, own_nil 1 h⟩
  clear h r14 s6
  rintro _ o9 _ c9 w9 ⟨rfl, h⟩
  intro w10 hd
  have h := h.eq (drawn_hp hd)
  have s10 : sub (hp w3) (hp w10) := rdH 4 h.l
  have r14 : rowH (hp w10) (aM k14) (encR t) := rdCel 1 h.l
  refine ⟨fun u => Gr w10 u, Gr.refl _, _, _, _, fun u s => rk.cell (sub.trans s10 s) (j := 5) rfl, _, fun u s => rk.cell (sub.trans s10 s) (j := 8) rfl, _, _, fun u s => r14.at s rfl, (map_lookupHP (κ := TransT) hm s10 tyOk (rfl : kdOfT Ty _ = .map _ _) key_Trans rfl rfl t).mono ?_⟩
  rintro _ w14 ⟨rfl, e14⟩
  rw [e14]
  rw [hW.all hst0, hnx]
  refine ⟨_, rfl, fun u => Gr w10 u, Gr.refl _, fun _ h => h, idx_n rfl hto ⟨_, _, _, fun u s => rs.cell (sub.trans s10 s) (j := 1) rfl, fun o n c z w' => ∃ j : Nat, z = j ∧ j ≤ r.2.2.length ∧ n = (preT g t ++ flT g (r.2.2.take j)).length ∧
    St w' (own 1 o n c (iv (preT g t ++ flT g (r.2.2.take j))) :: own 1 o7 ds.length c7 (ds.map slQ) :: sta (ds.map (owQ 1 iv)) :: all w3), fun _ _ _ z _ => r.2.2.length - z.toNat,
    ⟨0, rfl, Nat.zero_le _, by simp [flT], by simpa [flT] using (show St w10 (own 1 o9 (preT g t).length c9 (iv (preT g t)) :: own 1 o7 ds.length c7 (ds.map slQ) :: sta (ds.map (owQ 1 iv)) :: all w3) from h.pick 4 [0, 2, 3])⟩, ?_⟩⟩
  clear h r14
  rintro _ o13 _ c13 _ w17 ⟨j, rfl, hj, rfl, h⟩
  have s17 : sub (hp w3) (hp w17) := rdH 3 h.l
  have hfl := flT_len g (r.2.2.take j)
  rw [List.length_take] at hfl
  refine br_intro (fun h2 => ?_) fun h2 => ?_
  · have h2 : j < r.2.2.length := by have := of_decide_eq_true h2; omega
    obtain ⟨e, ead, he, hea, red⟩ := rdEd_get re h2
    have htj : r.2.2.take (j + 1) = r.2.2.take j ++ [e] := by rw [List.take_add_one, he]; rfl
    refine idx_n hea h2 ⟨_, _, red.at s17 rfl, newC_i h fun k26 w18 h => stR_i h rfl (by simp [oneC]) fun w19 h => ?_⟩
    have r26 : rowH (hp w19) (aM k26) [.int .i64 e.sym, .int .i64 e.to] := rdCel 0 h.l
    have s19 : sub (hp w3) (hp w19) := rdH 4 h.l
    refine ⟨_, r26.cell0 (sub.refl _), _, _, _, B.c0 (sub.trans g13 s19), br_intro (fun h3 => ?_) fun h3 => ?_⟩
    · have h3 : e.sym < (g.T : Int) := by rw [hTl]; exact of_decide_eq_true h3
      have z1 : ((preT g t ++ flT g (r.2.2.take j)).length + 1) * 8 ≤ 140737488355328 ∧ (preT g t ++ flT g (r.2.2.take j)).length < 9223372036854775807 := by rw [List.length_append]; omega
      refine ⟨_, r26.cell0 (sub.refl _), newC_i h fun k29 w20 h => ?_⟩
      refine (app_one (us := iv (preT g t ++ flT g (r.2.2.take j))) tyOk (rfl : kdOfT Ty _ = .slice _) (rfl : kdOfT Ty _ = .slice _) rfl rfl rfl (h.pick 5 [0, 2, 3, 4]) rfl (by simp [oneC]) z1.1 z1.2).mono ?_
      rintro _ w21 ⟨o15, c15, rfl, h⟩
      have e2 : preT g t ++ flT g (r.2.2.take (j + 1)) = preT g t ++ flT g (r.2.2.take j) ++ [e.sym] := by rw [htj, flT_snoc, if_pos h3, List.append_assoc]
      have e3 : iv (preT g t ++ flT g (r.2.2.take (j + 1))) = iv (preT g t ++ flT g (r.2.2.take j)) ++ [.int .i64 e.sym] := by rw [e2]; unfold iv; rw [List.map_append]; rfl
      refine ⟨_, _, _, rfl, ⟨by omega, by omega⟩, ⟨j + 1, by simp, h2, by rw [e2]; simp; omega, ?_⟩, msr h2⟩
      rw [e3]; exact h.pick 4 [0, 2, 3]
    · have h3 : ¬e.sym < (g.T : Int) := by rw [hTl]; exact of_decide_eq_false h3
      have e2 : flT g (r.2.2.take (j + 1)) = flT g (r.2.2.take j) := by rw [htj, flT_snoc, if_neg h3]
      exact ⟨⟨by omega, by omega⟩, ⟨j + 1, by simp, h2, by rw [e2], by rw [e2]; exact h.pick 4 [1, 2, 3]⟩, msr h2⟩
  have h2 : j = r.2.2.length := by have := of_decide_eq_false h2; omega
  rw [h2, List.take_length, ← hdir] at h ⊢
  refine run_slices_Clip_int_int_ _ _ _ w17 _ (slc_clip (own_le h) ⟨_, _, _, rfl, ?_⟩)
  have h := own_clip h
  refine newC_i h fun k34 w23 h => ?_
  have z1 : (ds.length + 1) * 24 ≤ 140737488355328 ∧ ds.length < 9223372036854775807 := by omega
  refine (app_one (us := ds.map slQ) tyOk (rfl : kdOfT Ty _ = .slice _) (rfl : kdOfT Ty _ = .slice _) rfl rfl rfl (h.pick 4 [0, 2, 1, 3]) rfl (by simp [oneC]) z1.1 z1.2).mono ?_
  rintro _ w24 ⟨o17, c17, rfl, h⟩
  have h := St.snoc (h.pick 4 [2, 3, 0])
  refine ⟨_, _, _, rfl, ⟨by omega, by omega⟩, ⟨i + 1, ds ++ [((slP o13 0 (dirOf g ss t).length 1, (dirOf g ss t).length), dirOf g ss t)], by simp, h1, by simp, by rw [htk]; simp [hds], ?_⟩, msr h1⟩
  have h3 : St w24 (own 1 o17 (ds.length + 1) c17 (ds.map slQ ++ [.slice (slP o13 0 (dirOf g ss t).length 1) (dirOf g ss t).length (dirOf g ss t).length]) :: sta (ds.map (owQ 1 iv) ++ [own 1 (slP o13 0 (dirOf g ss t).length 1) (dirOf g ss t).length (dirOf g ss t).length (iv (dirOf g ss t))]) :: all w3) := h.pick 2 [1, 0]
  simpa [slQ, owQ] using h3
end Go.Proofs.Ytkmjjnjngcpjmaa
set_option linter.unusedVariables false
namespace Go.Proofs.Ytkmjjnjngcpjmaa
open Go.V
abbrev n_presagelaw10_TransTwice : FuncId := 3
def ann_presagelaw10_TransTwice : Ann := { rngs := [], loops := [], joins := [], blocks := [] }
set_option maxRecDepth 100000 in
def vc_presagelaw10_TransTwice (a : Option Addr) (b c : Nat) (d : Option Addr) (e f : Nat) (g : Option Addr) (i j : Nat) (k : Int) (l : Option Addr) (m n : Nat) (o : Int) (p : Option Addr) (q s : Nat) (t : Option Addr) (u v : Nat) (w : World) (R : Value → WP) : Prop :=  new w (oC [vS a b c, vS d e f, vS g i j, iI k, vS l m n] 27) fun k1 w1 => new w1 (oC [vS p q s, vS t u v] 29) fun k2 w2 => RunE Proofs.Try.prog Ev 8 [] w2 fun v1 w3 => ∃ b1, v1 = vB b1 ∧ ∃ o1 k3 k4, World.cell? w3 (aM k2) = some (vS o1 k3 k4) ∧ ∃ o2 k5 k6, World.cell? w3 (Addr.add (aM k2) 1) = some (vS o2 k5 k6) ∧ RunS Proofs.Try.prog (apB 24 (Array.mk [vS none 0 0, vS o1 k3 k4])) w3 fun v2 w4 => ∃ o3 k7 k8, v2 = vS o3 k7 k8 ∧ RunS Proofs.Try.prog (apB 24 (Array.mk [vS o3 k7 k8, vS o2 k5 k6])) w4 fun v3 w5 => ∃ o4 k9 k10, v3 = vS o4 k9 k10 ∧ ∃ o5 k11 k12 o6 k13 k14 o7 k15 k16 n1 o8 k17 k18, V.rowAt w5 (aM k1) 0 5 = some [vS o5 k11 k12, vS o6 k13 k14, vS o7 k15 k16, iI n1, vS o8 k17 k18] ∧ RunE Proofs.Try.prog Ev 9 [vA (Array.mk [vS o5 k11 k12, vS o6 k13 k14, vS o7 k15 k16, iI n1, vS o8 k17 k18]), iI o, vS o1 k3 k4] w5 fun v4 w6 => ∃ n2 n3, v4 = vT (Array.mk [iI n2, iI n3]) ∧ ∃ o9 k19 k20 o10 k21 k22 o11 k23 k24 n4 o12 k25 k26, V.rowAt w6 (aM k1) 0 5 = some [vS o9 k19 k20, vS o10 k21 k22, vS o11 k23 k24, iI n4, vS o12 k25 k26] ∧ RunE Proofs.Try.prog Ev 9 [vA (Array.mk [vS o9 k19 k20, vS o10 k21 k22, vS o11 k23 k24, iI n4, vS o12 k25 k26]), iI o, vS o4 k9 k10] w6 fun v5 w7 => ∃ n5 n6, v5 = vT (Array.mk [iI n5, iI n6]) ∧ br (n3 != 0) (br b1 (br (n6 != 0) (br (n2 == 0) (R (vB (n5 == 0)) w7) (R (vB false) w7)) (R (vB false) w7)) (R (vB false) w7)) (br (n2 == -1) (br b1 (br (n6 == 0) (br (n5 == -1) (R (vB true) w7) (br (n6 == 1) (R (vB (n5 == 0)) w7) (R (vB false) w7))) (br (n6 == 1) (R (vB (n5 == 0)) w7) (R (vB false) w7))) (R (vB false) w7)) (∃ o13 k27 k28 o14 k29 k30 o15 k31 k32 n7 o16 k33 k34, V.rowAt w7 (aM k1) 0 5 = some [vS o13 k27 k28, vS o14 k29 k30, vS o15 k31 k32, iI n7, vS o16 k33 k34] ∧ RunE Proofs.Try.prog Ev 9 [vA (Array.mk [vS o13 k27 k28, vS o14 k29 k30, vS o15 k31 k32, iI n7, vS o16 k33 k34]), iI n2, vS o2 k5 k6] w7 fun v6 w8 => ∃ n8 n9, v6 = vT (Array.mk [iI n8, iI n9]) ∧ br b1 (br (n5 == n8) (R (vB (n6 == n9)) w8) (R (vB false) w8)) (R (vB false) w8)))
set_option maxRecDepth 100000 in
theorem run_presagelaw10_TransTwice (a : Option Addr) (b c : Nat) (d : Option Addr) (e f : Nat) (g : Option Addr) (i j : Nat) (k : Int) (l : Option Addr) (m n : Nat) (o : Int) (p : Option Addr) (q s : Nat) (t : Option Addr) (u v : Nat) (w : World) (R : Value → WP) (h : vc_presagelaw10_TransTwice a b c d e f g i j k l m n o p q s t u v w R) : Run Try.prog 3 [(.agg #[(.slice a b c), (.slice d e f), (.slice g i j), (.int .i64 k), (.slice l m n)]), (.int .i64 o), (.agg #[(.slice p q s), (.slice t u v)])] w R := rv Try.func3 ann_presagelaw10_TransTwice (by kernel_rfl) h

abbrev n_presagelaw10_TransReached : FuncId := 5
def ann_presagelaw10_TransReached : Ann := { rngs := [], loops := [(12, [(10, (.one .slice))]), (16, [(10, (.one .slice)), (12, (.one (.int .i64)))]), (28, [(15, (.one (.int .i64)))])], joins := [(20, [(94, (.one .bool))])], blocks := [] }
set_option maxRecDepth 100000 in
def vc_presagelaw10_TransReached (a : Option Addr) (b c : Nat) (d : Option Addr) (e f : Nat) (g : Option Addr) (i j : Nat) (k : Int) (l : Option Addr) (m n : Nat) (w : World) (R : Value → WP) : Prop :=  new w (oC [vS a b c, vS d e f, vS g i j, iI k, vS l m n] 27) fun k1 w1 => RunE Proofs.Try.prog Ev 8 [] w1 fun v1 w2 => ∃ b1, v1 = vB b1 ∧ ∃ o1 k2 k3 o2 k4 k5 o3 k6 k7 n1 o4 k8 k9, V.rowAt w2 (aM k1) 0 5 = some [vS o1 k2 k3, vS o2 k4 k5, vS o3 k6 k7, iI n1, vS o4 k8 k9] ∧ RunE Proofs.Try.prog Ev 10 [vA (Array.mk [vS o1 k2 k3, vS o2 k4 k5, vS o3 k6 k7, iI n1, vS o4 k8 k9])] w2 fun v2 w3 => ∃ o5 k10 k11 n2 n3 n4, v2 = vT (Array.mk [vA (Array.mk [vS o5 k10 k11, iI n2, iI n3]), iI n4]) ∧ new w3 (oC [vS none 0 0, iI 0, iI 0] 37) fun k12 w4 => stR w4 (aM k12) [vS o5 k10 k11, iI n2, iI n3] fun w5 => br (n4 != 0) (∃ o6 k13 k14 o7 k15 k16 o8 k17 k18 n5 o9 k19 k20, V.rowAt w5 (aM k1) 0 5 = some [vS o6 k13 k14, vS o7 k15 k16, vS o8 k17 k18, iI n5, vS o9 k19 k20] ∧ RunE Proofs.Try.prog Ev 9 [vA (Array.mk [vS o6 k13 k14, vS o7 k15 k16, vS o8 k17 k18, iI n5, vS o9 k19 k20]), iI 0, vS none 0 0] w5 fun v3 w6 => ∃ n6 n7, v3 = vT (Array.mk [iI n6, iI n7]) ∧ br b1 (br (n7 == n4) (R (vB (n6 == 0)) w6) (R (vB false) w6)) (R (vB false) w6)) (∃ o10 k21 k22, World.cell? w5 (aM k12) = some (vS o10 k21 k22) ∧ mkOk (↑k21 : Int) (↑k21 : Int) 24 ∧ new w5 (Obj.cells (Array.mk (reps (Int.toNat (↑k21 : Int)) [vS none 0 0])) 24) fun k23 w7 => ∃ o11 k24 k25, World.cell? w7 (aM k12) = some (vS o11 k24 k25) ∧ mkOk (↑k24 : Int) (↑k24 : Int) 1 ∧ new w7 (Obj.cells (Array.mk (reps (Int.toNat (↑k24 : Int)) [vB false])) 4) fun k26 w8 => new w8 (oC [iI 0] 3) fun k27 w9 => ∃ o12 k28 k29, World.cell? w9 (aM k12) = some (vS o12 k28 k29) ∧ br ((↑k28 : Int) == 0) (R (vB false) w9) (idx (some (aM k26)) (Int.toNat (↑k24 : Int)) 0 1 fun a1 => st1 w9 a1 (vB true) fun w10 => ∃ (x1 : lP [(10, shS)]), ∃ (x2 : lN [(10, shS)]), x1 (some (aM k27)) 1 1 w10 ∧ ∀ (I1 : Nat → Value) (o13 : Option Addr) (k30 k31 : Nat) (w11 : World), x1 o13 k30 k31 w11 → br (decide (0 < (↑k30 : Int))) (idx o13 k30 0 1 fun a2 => ∃ n8, World.cell? w11 a2 = some (iI n8) ∧ slc o13 k30 k31 (some 1) none none 1 fun (o14 : Option Addr) (k32 k33 : Nat) => ∃ (x3 : lP [(10, shS), (12, shI)]), ∃ (x4 : lN [(10, shS), (12, shI)]), x3 o14 k32 k33 0 w11 ∧ ∀ (I2 : Nat → Value) (o15 : Option Addr) (k34 k35 : Nat) (n9 : Int) (w12 : World), x3 o15 k34 k35 n9 w12 → ∃ o16 k36 k37, World.cell? w12 (aM k12) = some (vS o16 k36 k37) ∧ idx o16 k36 n8 2 fun a3 => ∃ o17 k38 k39, World.cell? w12 (Addr.add a3 1) = some (vS o17 k38 k39) ∧ br (decide (n9 < (↑k38 : Int))) (∃ o18 k40 k41, World.cell? w12 (aM k12) = some (vS o18 k40 k41) ∧ idx o18 k40 n8 2 fun a4 => ∃ o19 k42 k43, World.cell? w12 (Addr.add a4 1) = some (vS o19 k42 k43) ∧ idx o19 k42 n9 2 fun a5 => ∃ n10 n11, V.rowAt w12 a5 0 2 = some [iI n10, iI n11] ∧ new w12 (oC [iI 0, iI 0] 48) fun k44 w13 => stR w13 (aM k44) [iI n10, iI n11] fun w14 => ∃ (x5 : lP [(94, shB)]), (∃ n12, World.cell? w14 (Addr.add (aM k44) 1) = some (iI n12) ∧ br (decide (n12 < 0)) (x5 true w14) (∃ n13, World.cell? w14 (Addr.add (aM k44) 1) = some (iI n13) ∧ ∃ o20 k45 k46, World.cell? w14 (aM k12) = some (vS o20 k45 k46) ∧ x5 (decide ((↑k45 : Int) ≤ n13)) w14)) ∧ ∀ (I3 : Nat → Value) (b2 : Bool) (w15 : World), x5 b2 w15 → br b2 (R (vB false) w15) (∃ n14, World.cell? w15 (Addr.add (aM k44) 1) = some (iI n14) ∧ idx (some (aM k26)) (Int.toNat (↑k24 : Int)) n14 1 fun a6 => ∃ b3, World.cell? w15 a6 = some (vB b3) ∧ br (!b3) (∃ n15, World.cell? w15 (Addr.add (aM k44) 1) = some (iI n15) ∧ idx (some (aM k26)) (Int.toNat (↑k24 : Int)) n15 1 fun a7 => st1 w15 a7 (vB true) fun w16 => idx (some (aM k23)) (Int.toNat (↑k21 : Int)) n8 1 fun a8 => ∃ o21 k47 k48, World.cell? w16 a8 = some (vS o21 k47 k48) ∧ RunS Proofs.Try.prog (apB 24 (Array.mk [vS none 0 0, vS o21 k47 k48])) w16 fun v4 w17 => ∃ o22 k49 k50, v4 = vS o22 k49 k50 ∧ ∀ w18, drawn w17 w18 → ∃ (I4 : World → Prop), I4 w18 ∧ ∃ n16, (∀ w19, I4 w19 → World.cell? w19 (Addr.add (aM k44) 1) = some (iI n16)) ∧ ∃ n17, (∀ w20, I4 w20 → World.cell? w20 (aM k44) = some (iI n17)) ∧ new w18 (oC [iI n17] 3) fun k51 w21 => I4 w21 ∧ RunS Proofs.Try.prog (apB 24 (Array.mk [vS o22 k49 k50, vS (some (aM k51)) 1 1])) w21 fun v5 w22 => ∃ o23 k52 k53, v5 = vS o23 k52 k53 ∧ I4 w22 ∧ idx (some (aM k23)) (Int.toNat (↑k21 : Int)) n16 1 fun a9 => st1 w22 a9 (vS o23 k52 k53) fun w23 => ∃ n18, World.cell? w23 (Addr.add (aM k44) 1) = some (iI n18) ∧ new w23 (oC [iI n18] 3) fun k54 w24 => RunS Proofs.Try.prog (apB 24 (Array.mk [vS o15 k34 k35, vS (some (aM k54)) 1 1])) w24 fun v6 w25 => ∃ o24 k55 k56, v6 = vS o24 k55 k56 ∧ inI (n9 + 1) ∧ x3 o24 k55 k56 (n9 + 1) w25 ∧ x4 o24 k55 k56 (n9 + 1) w25 < x4 o15 k34 k35 n9 w12) (inI (n9 + 1) ∧ x3 o15 k34 k35 (n9 + 1) w15 ∧ x4 o15 k34 k35 (n9 + 1) w15 < x4 o15 k34 k35 n9 w12))) (x1 o15 k34 k35 w12 ∧ x2 o15 k34 k35 w12 < x2 o13 k30 k31 w11)) (∃ (x6 : lP [(15, shI)]), ∃ (x7 : lN [(15, shI)]), x6 0 w11 ∧ ∀ (I5 : Nat → Value) (n19 : Int) (w26 : World), x6 n19 w26 → br (decide (n19 < (↑(Int.toNat (↑k24 : Int)) : Int))) (br (decide (n19 < 40)) (∀ w27, drawn w26 w27 → ∃ (I6 : World → Prop), I6 w27 ∧ ∃ o25 k57 k58 o26 k59 k60 o27 k61 k62 n20 o28 k63 k64, (∀ w28, I6 w28 → V.rowAt w28 (aM k1) 0 5 = some [vS o25 k57 k58, vS o26 k59 k60, vS o27 k61 k62, iI n20, vS o28 k63 k64]) ∧ idx (some (aM k23)) (Int.toNat (↑k21 : Int)) n19 1 fun a10 => ∃ o29 k65 k66, (∀ w29, I6 w29 → World.cell? w29 a10 = some (vS o29 k65 k66)) ∧ RunE Proofs.Try.prog Ev 9 [vA (Array.mk [vS o25 k57 k58, vS o26 k59 k60, vS o27 k61 k62, iI n20, vS o28 k63 k64]), iI 0, vS o29 k65 k66] w27 fun v7 w30 => ∃ n21 n22, v7 = vT (Array.mk [iI n21, iI n22]) ∧ I6 w30 ∧ ∀ w31, drawn w30 w31 → ∃ (I7 : World → Prop), I7 w31 ∧ idx (some (aM k26)) (Int.toNat (↑k24 : Int)) n19 1 fun a11 => ∃ b4, (∀ w32, I7 w32 → World.cell? w32 a11 = some (vB b4)) ∧ br (!b4) (R (vB false) w31) (br (n21 != n19) (R (vB false) w31) (br (n22 != 0) (R (vB false) w31) (idx (some (aM k23)) (Int.toNat (↑k21 : Int)) n19 1 fun a12 => ∃ o30 k67 k68, (∀ w33, I7 w33 → World.cell? w33 a12 = some (vS o30 k67 k68)) ∧ ∃ o31 k69 k70, (∀ w34, I7 w34 → World.cell? w34 (aM k12) = some (vS o31 k69 k70)) ∧ br (decide ((↑k69 : Int) ≤ (↑k67 : Int))) (R (vB false) w31) (inI (n19 + 1) ∧ x6 (n19 + 1) w31 ∧ x7 (n19 + 1) w31 < x7 n19 w26))))) (R (vB b1) w26)) (R (vB b1) w26))))
set_option maxRecDepth 100000 in
theorem run_presagelaw10_TransReached (a : Option Addr) (b c : Nat) (d : Option Addr) (e f : Nat) (g : Option Addr) (i j : Nat) (k : Int) (l : Option Addr) (m n : Nat) (w : World) (R : Value → WP) (h : vc_presagelaw10_TransReached a b c d e f g i j k l m n w R) : Run Try.prog 5 [(.agg #[(.slice a b c), (.slice d e f), (.slice g i j), (.int .i64 k), (.slice l m n)])] w R := rv Try.func5 ann_presagelaw10_TransReached (by kernel_rfl) h

abbrev n_presagelaw10_TransRights : FuncId := 7
def ann_presagelaw10_TransRights : Ann := { rngs := [], loops := [(15, [(13, (.one (.int .i64)))]), (25, [(19, (.one .bool)), (20, (.one (.int .i64)))])], joins := [(10, [(1, (.one (.int .i64)))]), (21, [(129, (.one .bool))])], blocks := [] }
set_option maxRecDepth 100000 in
def vc_presagelaw10_TransRights (a : Option Addr) (b c : Nat) (d : Option Addr) (e f : Nat) (g : Option Addr) (i j : Nat) (k : Int) (l : Option Addr) (m n : Nat) (o : Int) (w : World) (R : Value → WP) : Prop :=  new w (oC [vS a b c, vS d e f, vS g i j, iI k, vS l m n] 27) fun k1 w1 => RunE Proofs.Try.prog Ev 8 [] w1 fun v1 w2 => ∃ b1, v1 = vB b1 ∧ ∃ o1 k2 k3 o2 k4 k5 o3 k6 k7 n1 o4 k8 k9, V.rowAt w2 (aM k1) 0 5 = some [vS o1 k2 k3, vS o2 k4 k5, vS o3 k6 k7, iI n1, vS o4 k8 k9] ∧ RunE Proofs.Try.prog Ev 10 [vA (Array.mk [vS o1 k2 k3, vS o2 k4 k5, vS o3 k6 k7, iI n1, vS o4 k8 k9])] w2 fun v2 w3 => ∃ o5 k10 k11 n2 n3 n4, v2 = vT (Array.mk [vA (Array.mk [vS o5 k10 k11, iI n2, iI n3]), iI n4]) ∧ new w3 (oC [vS none 0 0, iI 0, iI 0] 37) fun k12 w4 => stR w4 (aM k12) [vS o5 k10 k11, iI n2, iI n3] fun w5 => br (n4 != 0) (∃ o6 k13 k14 o7 k15 k16 o8 k17 k18 n5 o9 k19 k20, V.rowAt w5 (aM k1) 0 5 = some [vS o6 k13 k14, vS o7 k15 k16, vS o8 k17 k18, iI n5, vS o9 k19 k20] ∧ RunE Proofs.Try.prog Ev 11 [vA (Array.mk [vS o6 k13 k14, vS o7 k15 k16, vS o8 k17 k18, iI n5, vS o9 k19 k20])] w5 fun v3 w6 => ∃ o10 k21 k22 n6, v3 = vT (Array.mk [vS o10 k21 k22, iI n6]) ∧ br b1 (R (vB (n6 == n4)) w6) (R (vB false) w6)) (∃ o11 k23 k24, World.cell? w5 (aM k12) = some (vS o11 k23 k24) ∧ br ((↑k23 : Int) == 0) (R (vB false) w5) (∃ (x1 : lP [(1, shI)]), br (decide (o < 0)) (inI (o + 1) ∧ inI (0 - (o + 1)) ∧ x1 (0 - (o + 1)) w5) (x1 o w5) ∧ ∀ (I1 : Nat → Value) (n7 : Int) (w7 : World), x1 n7 w7 → ∃ o12 k25 k26, World.cell? w7 (aM k12) = some (vS o12 k25 k26) ∧ nz (↑k25 : Int) ∧ ∀ w8, drawn w7 w8 → ∃ (I2 : World → Prop), I2 w8 ∧ ∃ o13 k27 k28 o14 k29 k30 o15 k31 k32 n8 o16 k33 k34, (∀ w9, I2 w9 → V.rowAt w9 (aM k1) 0 5 = some [vS o13 k27 k28, vS o14 k29 k30, vS o15 k31 k32, iI n8, vS o16 k33 k34]) ∧ ∃ o17 k35 k36, (∀ w10, I2 w10 → World.cell? w10 (aM k12) = some (vS o17 k35 k36)) ∧ idx o17 k35 (Int.tmod n7 (↑k25 : Int)) 2 fun a1 => ∃ o18 k37 k38, (∀ w11, I2 w11 → World.cell? w11 a1 = some (vS o18 k37 k38)) ∧ RunE Proofs.Try.prog Ev 14 [vA (Array.mk [vS o13 k27 k28, vS o14 k29 k30, vS o15 k31 k32, iI n8, vS o16 k33 k34]), vS o18 k37 k38] w8 fun v4 w12 => ∃ o19 k39 k40 n9, v4 = vT (Array.mk [vS o19 k39 k40, iI n9]) ∧ I2 w12 ∧ br (n9 != 0) (R (vB false) w12) (∃ (x2 : lP [(13, shI)]), ∃ (x3 : lN [(13, shI)]), x2 0 w12 ∧ ∀ (I3 : Nat → Value) (n10 : Int) (w13 : World), x2 n10 w13 → br (decide (n10 < (↑k39 : Int))) (∀ w14, drawn w13 w14 → ∃ (I4 : World → Prop), I4 w14 ∧ idx o19 k39 n10 2 fun a2 => ∃ n11, (∀ w15, I4 w15 → World.cell? w15 (Addr.add a2 1) = some (iI n11)) ∧ br (decide (0 < n11)) (inI (n10 + 1) ∧ x2 (n10 + 1) w14 ∧ x3 (n10 + 1) w14 < x3 n10 w13) (idx o19 k39 n10 2 fun a3 => ∃ n12, (∀ w16, I4 w16 → World.cell? w16 a3 = some (iI n12)) ∧ br (decide (n12 < 0)) (inI (n10 + 1) ∧ x2 (n10 + 1) w14 ∧ x3 (n10 + 1) w14 < x3 n10 w13) (idx o19 k39 n10 2 fun a4 => ∃ n13, (∀ w17, I4 w17 → World.cell? w17 a4 = some (iI n13)) ∧ ∃ o20 k41 k42, (∀ w18, I4 w18 → World.cell? w18 (Addr.add (aM k1) 4) = some (vS o20 k41 k42)) ∧ br (decide ((↑k41 : Int) ≤ n13)) (inI (n10 + 1) ∧ x2 (n10 + 1) w14 ∧ x3 (n10 + 1) w14 < x3 n10 w13) (∀ w19, drawn w14 w19 → ∃ (I5 : World → Prop), I5 w19 ∧ ∃ o21 k43 k44, (∀ w20, I5 w20 → World.cell? w20 (Addr.add (aM k1) 4) = some (vS o21 k43 k44)) ∧ idx o19 k39 n10 2 fun a5 => ∃ n14, (∀ w21, I5 w21 → World.cell? w21 a5 = some (iI n14)) ∧ idx o21 k43 n14 3 fun a6 => ∃ n15 o22 k45 k46 n16, (∀ w22, I5 w22 → V.rowAt w22 a6 0 3 = some [iI n15, vS o22 k45 k46, iI n16]) ∧ new w19 (oC [iI 0, vS none 0 0, iI 0] 62) fun k47 w23 => I5 w23 ∧ stR w23 (aM k47) [iI n15, vS o22 k45 k46, iI n16] fun w24 => ∃ o23 k48 k49 o24 k50 k51 o25 k52 k53 n17 o26 k54 k55, V.rowAt w24 (aM k1) 0 5 = some [vS o23 k48 k49, vS o24 k50 k51, vS o25 k52 k53, iI n17, vS o26 k54 k55] ∧ ∃ o27 k56 k57, World.cell? w24 (Addr.add (aM k47) 1) = some (vS o27 k56 k57) ∧ RunE Proofs.Try.prog Ev 9 [vA (Array.mk [vS o23 k48 k49, vS o24 k50 k51, vS o25 k52 k53, iI n17, vS o26 k54 k55]), iI (Int.tmod n7 (↑k25 : Int)), vS o27 k56 k57] w24 fun v5 w25 => ∃ n18 n19, v5 = vT (Array.mk [iI n18, iI n19]) ∧ ∃ (x4 : lP [(129, shB)]), br (n19 != 0) (x4 true w25) (br (decide (n18 < 0)) (x4 true w25) (∃ o28 k58 k59, World.cell? w25 (aM k12) = some (vS o28 k58 k59) ∧ x4 (decide ((↑k58 : Int) ≤ n18)) w25)) ∧ ∀ (I6 : Nat → Value) (b2 : Bool) (w26 : World), x4 b2 w26 → br b2 (R (vB false) w26) (∀ w27, drawn w26 w27 → ∃ (I7 : World → Prop), I7 w27 ∧ ∃ o29 k60 k61 o30 k62 k63 o31 k64 k65 n20 o32 k66 k67, (∀ w28, I7 w28 → V.rowAt w28 (aM k1) 0 5 = some [vS o29 k60 k61, vS o30 k62 k63, vS o31 k64 k65, iI n20, vS o32 k66 k67]) ∧ ∃ o33 k68 k69, (∀ w29, I7 w29 → World.cell? w29 (aM k12) = some (vS o33 k68 k69)) ∧ idx o33 k68 n18 2 fun a7 => ∃ o34 k70 k71, (∀ w30, I7 w30 → World.cell? w30 a7 = some (vS o34 k70 k71)) ∧ RunE Proofs.Try.prog Ev 14 [vA (Array.mk [vS o29 k60 k61, vS o30 k62 k63, vS o31 k64 k65, iI n20, vS o32 k66 k67]), vS o34 k70 k71] w27 fun v6 w31 => ∃ o35 k72 k73 n21, v6 = vT (Array.mk [vS o35 k72 k73, iI n21]) ∧ I7 w31 ∧ ∃ (x5 : lP [(19, shB), (20, shI)]), ∃ (x6 : lN [(19, shB), (20, shI)]), x5 false 0 w31 ∧ ∀ (I8 : Nat → Value) (b3 : Bool) (n22 : Int) (w32 : World), x5 b3 n22 w32 → br (decide (n22 < (↑k72 : Int))) (∀ w33, drawn w32 w33 → ∃ (I9 : World → Prop), I9 w33 ∧ br b3 (inI (n22 + 1) ∧ x5 true (n22 + 1) w33 ∧ x6 true (n22 + 1) w33 < x6 b3 n22 w32) (idx o35 k72 n22 2 fun a8 => ∃ n23 n24, (∀ w34, I9 w34 → V.rowAt w34 a8 0 2 = some [iI n23, iI n24]) ∧ idx o19 k39 n10 2 fun a9 => ∃ n25, (∀ w35, I9 w35 → World.cell? w35 a9 = some (iI n25)) ∧ ∃ o36 k74 k75, (∀ w36, I9 w36 → World.cell? w36 (Addr.add (aM k47) 1) = some (vS o36 k74 k75)) ∧ ∃ v7, (∀ w37, I9 w37 → Sem.run Proofs.Try.prog (cmpS BinOp.eql 60 (Operand.tmp 152) (Operand.tmp 161) (vG [iI n23, iI n24]) (vG [iI n25, iI (↑k74 : Int)])) w37 = Result.ok v7 w37) ∧ ∃ b4, v7 = vB b4 ∧ inI (n22 + 1) ∧ x5 b4 (n22 + 1) w33 ∧ x6 b4 (n22 + 1) w33 < x6 b3 n22 w32)) (∃ o37 k76 k77 o38 k78 k79 o39 k80 k81 n26 o40 k82 k83, V.rowAt w32 (aM k1) 0 5 = some [vS o37 k76 k77, vS o38 k78 k79, vS o39 k80 k81, iI n26, vS o40 k82 k83] ∧ ∃ n27, World.cell? w32 (aM k47) = some (iI n27) ∧ new w32 (oC [iI n27] 3) fun k84 w38 => RunE Proofs.Try.prog Ev 9 [vA (Array.mk [vS o37 k76 k77, vS o38 k78 k79, vS o39 k80 k81, iI n26, vS o40 k82 k83]), iI (Int.tmod n7 (↑k25 : Int)), vS (some (aM k84)) 1 1] w38 fun v8 w39 => ∃ n28 n29, v8 = vT (Array.mk [iI n28, iI n29]) ∧ br (!b3) (R (vB false) w39) (br (n21 != 0) (R (vB false) w39) (br (n29 != 0) (R (vB false) w39) (idx o19 k39 n10 2 fun a10 => ∃ n30, World.cell? w39 a10 = some (iI n30) ∧ br (!decide (n28 < 0) == (n30 == 0)) (R (vB false) w39) (inI (n10 + 1) ∧ x2 (n10 + 1) w39 ∧ x3 (n10 + 1) w39 < x3 n10 w13)))))))))) (R (vB b1) w13))))
set_option maxRecDepth 100000 in
theorem run_presagelaw10_TransRights (a : Option Addr) (b c : Nat) (d : Option Addr) (e f : Nat) (g : Option Addr) (i j : Nat) (k : Int) (l : Option Addr) (m n : Nat) (o : Int) (w : World) (R : Value → WP) (h : vc_presagelaw10_TransRights a b c d e f g i j k l m n o w R) : Run Try.prog 7 [(.agg #[(.slice a b c), (.slice d e f), (.slice g i j), (.int .i64 k), (.slice l m n)]), (.int .i64 o)] w R := rv Try.func7 ann_presagelaw10_TransRights (by kernel_rfl) h

abbrev n_presagelaw10_awake : FuncId := 8
def ann_presagelaw10_awake : Ann := { rngs := [], loops := [], joins := [], blocks := [] }
set_option maxRecDepth 100000 in
def vc_presagelaw10_awake  (w : World) (R : Value → WP) : Prop :=  RunE Proofs.Try.prog Ev 15 [] w fun v1 w1 => ∃ o1 k1 k2 o2 k3 k4 o3 k5 k6 n1 o4 k7 k8, v1 = vA (Array.mk [vS o1 k1 k2, vS o2 k3 k4, vS o3 k5 k6, iI n1, vS o4 k7 k8]) ∧ new w1 (oC [vS none 0 0, vS none 0 0, vS none 0 0, iI 0, vS none 0 0] 27) fun k9 w2 => stR w2 (aM k9) [vS o1 k1 k2, vS o2 k3 k4, vS o3 k5 k6, iI n1, vS o4 k7 k8] fun w3 => ∃ o5 k10 k11 o6 k12 k13 o7 k14 k15 n2 o8 k16 k17, V.rowAt w3 (aM k9) 0 5 = some [vS o5 k10 k11, vS o6 k12 k13, vS o7 k14 k15, iI n2, vS o8 k16 k17] ∧ RunE Proofs.Try.prog Ev 11 [vA (Array.mk [vS o5 k10 k11, vS o6 k12 k13, vS o7 k14 k15, iI n2, vS o8 k16 k17])] w3 fun v2 w4 => ∃ o9 k18 k19 n3, v2 = vT (Array.mk [vS o9 k18 k19, iI n3]) ∧ ∃ o10 k20 k21 o11 k22 k23 o12 k24 k25 n4 o13 k26 k27, V.rowAt w4 (aM k9) 0 5 = some [vS o10 k20 k21, vS o11 k22 k23, vS o12 k24 k25, iI n4, vS o13 k26 k27] ∧ new w4 (oC [iI 4, iI 1, iI 2] 3) fun k28 w5 => RunE Proofs.Try.prog Ev 9 [vA (Array.mk [vS o10 k20 k21, vS o11 k22 k23, vS o12 k24 k25, iI n4, vS o13 k26 k27]), iI 0, vS (some (aM k28)) 3 3] w5 fun v3 w6 => ∃ n5 n6, v3 = vT (Array.mk [iI n5, iI n6]) ∧ ∃ o14 k29 k30 o15 k31 k32 o16 k33 k34 n7 o17 k35 k36, V.rowAt w6 (aM k9) 0 5 = some [vS o14 k29 k30, vS o15 k31 k32, vS o16 k33 k34, iI n7, vS o17 k35 k36] ∧ RunE Proofs.Try.prog Ev 13 [vA (Array.mk [vS o14 k29 k30, vS o15 k31 k32, vS o16 k33 k34, iI n7, vS o17 k35 k36])] w6 fun v4 w7 => ∃ o18 k37 k38 n8, v4 = vT (Array.mk [vS o18 k37 k38, iI n8]) ∧ br (n3 == 0) (br (n6 == 0) (br (n8 == 0) (br ((↑k18 : Int) == 1) (idx o9 k18 0 2 fun a1 => ∃ n9 n10, V.rowAt w7 a1 0 2 = some [iI n9, iI n10] ∧ ∃ v5, Sem.run Proofs.Try.prog (cmpS BinOp.eql 50 (Operand.tmp 43) (Operand.tmp 44) (vG [iI n9, iI n10]) (vG [iI 0, iI 4])) w7 = Result.ok v5 w7 ∧ ∃ b1, v5 = vB b1 ∧ br b1 (br (n5 == 4) (br ((↑k37 : Int) == 1) (idx o18 k37 0 1 fun a2 => ∃ o19 k39 k40, World.cell? w7 a2 = some (vS o19 k39 k40) ∧ R (vB ((↑k39 : Int) == 2)) w7) (R (vB false) w7)) (R (vB false) w7)) (R (vB false) w7)) (R (vB false) w7)) (R (vB false) w7)) (R (vB false) w7)) (R (vB false) w7)
set_option maxRecDepth 100000 in
theorem run_presagelaw10_awake  (w : World) (R : Value → WP) (h : vc_presagelaw10_awake  w R) : Run Try.prog 8 [] w R := rv Try.func8 ann_presagelaw10_awake (by kernel_rfl) h

abbrev n_presagelaw10_small : FuncId := 15
def ann_presagelaw10_small : Ann := { rngs := [], loops := [], joins := [], blocks := [] }
set_option maxRecDepth 100000 in
def vc_presagelaw10_small  (w : World) (R : Value → WP) : Prop :=  new w (oC [vS none 0 0, vS none 0 0, vS none 0 0, iI 0, vS none 0 0] 27) fun k1 w1 => new w1 (oC [Value.string (ByteArray.mk (Array.mk [])), iI 0, Value.string (ByteArray.mk (Array.mk [43])), iI 0, Value.string (ByteArray.mk (Array.mk [110])), iI 0] 92) fun k2 w2 => new w2 (oC [Value.string (ByteArray.mk (Array.mk [])), Value.string (ByteArray.mk (Array.mk [101]))] 9) fun k3 w3 => new w3 (oC [iI 4] 3) fun k4 w4 => new w4 (oC [iI 4, iI 1, iI 2] 3) fun k5 w5 => new w5 (oC [iI 2] 3) fun k6 w6 => new w6 (oC [iI 3, vS (some (aM k4)) 1 1, iI 0, iI 4, vS (some (aM k5)) 3 3, iI 0, iI 4, vS (some (aM k6)) 1 1, iI 0] 62) fun k7 w7 => stR w7 (aM k1) [vS (some (aM k2)) 3 3, vS (some (aM k3)) 2 2, vS none 0 0, iI 4, vS (some (aM k7)) 3 3] fun w8 => ∃ o1 k8 k9 o2 k10 k11 o3 k12 k13 n1 o4 k14 k15, V.rowAt w8 (aM k1) 0 5 = some [vS o1 k8 k9, vS o2 k10 k11, vS o3 k12 k13, iI n1, vS o4 k14 k15] ∧ R (vG [vS o1 k8 k9, vS o2 k10 k11, vS o3 k12 k13, iI n1, vS o4 k14 k15]) w8
set_option maxRecDepth 100000 in
theorem run_presagelaw10_small  (w : World) (R : Value → WP) (h : vc_presagelaw10_small  w R) : Run Try.prog 15 [] w R := rv Try.func15 ann_presagelaw10_small (by kernel_rfl) h

end Go.Proofs.Ytkmjjnjngcpjmaa
set_option linter.unusedVariables false
namespace Go.V
section
variable {g : GramT} {ss ss' : List SQ}
theorem es_at (h : esOf ss = esOf ss') (i : Nat) : (ss[i]?).map (fun q => q.2.2) = (ss'[i]?).map fun q => q.2.2 := by
  have := congrArg (fun l => l[i]?) h
  unfold esOf at this
  simpa [List.getElem?_map] using this
theorem nxt_es (h : esOf ss = esOf ss') (i : Nat) (s : Int) : nxt ss i s = nxt ss' i s := by
  have := es_at h i
  unfold nxt
  cases h1 : ss[i]? <;> cases h2 : ss'[i]? <;> simp [h1, h2] at this ⊢
  rw [this]
theorem TrN_es (h : esOf ss = esOf ss') : ∀ i, TrN g ss i = TrN g ss' i
  | 0 => rfl
  | i + 1 => by
    have := es_at h i
    show TrN g ss i ++ _ = TrN g ss' i ++ _
    rw [TrN_es h i]
    cases h1 : ss[i]? <;> cases h2 : ss'[i]? <;> simp [h1, h2] at this ⊢
    rw [this]
theorem es_len (h : esOf ss = esOf ss') : ss.length = ss'.length := by have := congrArg List.length h; simpa [esOf] using this
theorem TrL_es (h : esOf ss = esOf ss') : TrL g ss = TrL g ss' := by unfold TrL; rw [es_len h, TrN_es h]
theorem dirOf_es (h : esOf ss = esOf ss') (t : TransT) : dirOf g ss t = dirOf g ss' t := by
  unfold dirOf
  rw [nxt_es h]
  congr 1
  cases nxt ss' t.st.toNat t.sym with
  | none => rfl
  | some j =>
    have := es_at h j.toNat
    show (match ss[j.toNat]? with | none => [] | some q => _) = (match ss'[j.toNat]? with | none => [] | some q => _)
    cases h1 : ss[j.toNat]? <;> cases h2 : ss'[j.toNat]? <;> simp [h1, h2] at this ⊢
    rw [this]
theorem wayN_es (h : esOf ss = esOf ss') : ∀ (l : List Int) (q : Int), wayN ss q l = wayN ss' q l
  | [], q => rfl
  | s :: l, q => by
    unfold wayN
    rw [nxt_es h]
    cases nxt ss' q.toNat s with
    | none => rfl
    | some j => exact wayN_es h l j
theorem wlk_es (h : esOf ss = esOf ss') (f q : Int) (l : List Int) : wlk g ss f q l = wlk g ss' f q l := by
  unfold wlk; rw [es_len h, wayN_es h]
end
def lrS : List SQ := (bst lrG 5).2.map fun es => (((none, 0), []), ((none, 0), es))
theorem lrS_is : TrL lrG lrS = [⟨0, 4⟩] ∧ wlk lrG lrS 0 0 [4, 1, 2] = (4, 0) ∧ (dirOf lrG lrS ⟨0, 4⟩).length = 2 := by decide +kernel
set_option maxRecDepth 100000 in
theorem lr_res {ss : List SQ} {a i f : Int} (h : Res lrG ss a i f) : f = 0 ∧ esOf ss = esOf lrS := by
  rcases h with ⟨hn, _⟩ | ⟨_, hbig, _⟩ | ⟨_, hA, _, _, rfl⟩
  · exact absurd lr_closed hn
  · exact (done_big lr_done hbig).elim
  · refine ⟨rfl, ?_⟩
    rw [hA.es, done_one hA.dn lr_done]
    unfold lrS esOf
    rw [List.map_map]
    simp [Function.comp_def]
end Go.V
namespace Go.Proofs.Ytkmjjnjngcpjmaa
open Go.V
variable {w : World} {L : List Asn} {g : GramT} {x : GA}
set_option maxHeartbeats 1000000 in
theorem l_small10 : Run Try.prog n_presagelaw10_small [] w fun v w' => ∃ x : GA, v = .agg ⟨x.cells⟩ ∧ gR (hp w') lrG x ∧ Gr w w' := by
  refine run_presagelaw10_small w _ ?_
  refine newC_i (St.all w) fun k1 w1 h => newC_i h fun k2 w2 h => newC_i h fun k3 w3 h => newC_i h fun k4 w4 h => newC_i h fun k5 w5 h => newC_i h fun k6 w6 h => newC_i h fun k7 w7 h => stR_i (h.pick 8 [6, 0, 1, 2, 3, 4, 5, 7]) rfl (by intro v hv; simp at hv; rcases hv with rfl | rfl | rfl | rfl | rfl <;> rfl) fun w8 h => ?_
  have r7 : rowH (hp w8) ⟨k7, 0, none⟩ _ := rdCel 1 h.l
  have r6 : rowH (hp w8) ⟨k6, 0, none⟩ _ := rdCel 2 h.l
  have r5 : rowH (hp w8) ⟨k5, 0, none⟩ _ := rdCel 3 h.l
  have r4 : rowH (hp w8) ⟨k4, 0, none⟩ _ := rdCel 4 h.l
  have r3 : rowH (hp w8) ⟨k3, 0, none⟩ _ := rdCel 5 h.l
  have r2 : rowH (hp w8) ⟨k2, 0, none⟩ _ := rdCel 6 h.l
  have r1 : rowH (hp w8) ⟨k1, 0, none⟩ _ := rdCel 0 h.l
  have g8 : sub (hp w) (hp w8) := rdH 7 h.l
  have p4 : rdS (hp w8) ([4] : List Int) (some ⟨k4, 0, none⟩) 1 := rdI_of rfl (.inr ⟨_, rfl, r4⟩)
  have p5 : rdS (hp w8) ([4, 1, 2] : List Int) (some ⟨k5, 0, none⟩) 3 := rdI_of rfl (.inr ⟨_, rfl, r5⟩)
  have p6 : rdS (hp w8) ([2] : List Int) (some ⟨k6, 0, none⟩) 1 := rdI_of rfl (.inr ⟨_, rfl, r6⟩)
  have p0 : rdS (hp w8) ([] : List Int) none 0 := rdI_of rfl (.inl rfl)
  refine ⟨_, _, _, _, _, _, _, _, _, _, _, _, _, r1.at (sub.refl _) rfl, ⟨some ⟨k2, 0, none⟩, 3, 3, some ⟨k3, 0, none⟩, 2, 2, none, 0, 0, 4, some ⟨k7, 0, none⟩, 3, 3⟩, rfl, ⟨?_, ?_, ?_, rfl, ?_, Nat.le_refl _, Nat.le_refl _, Nat.le_refl _, Nat.le_refl _⟩, g8⟩
  · refine rdS_lit9 (xs := lrG.terms) r2 fun i t hi => ?_
    match i, hi with
    | 0, hi => cases hi; rfl
    | 1, hi => cases hi; rfl
    | 2, hi => cases hi; rfl
    | i + 3, hi => cases hi
  · exact rdS_of_row (xs := lrG.nons) rfl (.inr ⟨_, rfl, r3⟩)
  · exact p0
  · refine rdS_lit9 (xs := lrG.prods) r7 fun i t hi => ?_
    match i, hi with
    | 0, hi => cases hi; exact ⟨_, _, _, rfl, by decide, p4⟩
    | 1, hi => cases hi; exact ⟨_, _, _, rfl, by decide, p5⟩
    | 2, hi => cases hi; exact ⟨_, _, _, rfl, by decide, p6⟩
    | i + 3, hi => cases hi
set_option maxHeartbeats 1000000 in
theorem l_awake10 : Run Try.prog n_presagelaw10_awake [] w fun v w' => v = .bool true ∧ Gr w w' := by
  refine run_presagelaw10_awake w _ (l_small10.mono ?_)
  rintro _ w1 ⟨x, rfl, hg, g1⟩
  refine ⟨_, _, _, _, _, _, _, _, _, _, _, _, _, rfl, newC_i (St.all w1) fun k9 w2 h => stR_i h rfl (by intro v hv; simp at hv; rcases hv with rfl | rfl | rfl | rfl | rfl <;> rfl) fun w3 h => ?_⟩
  have s3 : sub (hp w1) (hp w3) := h.gone1
  have B : GB (hp w3) k9 x := gb_of (rdCel 0 h.l)
  have hg := hg.mono s3
  have g3 : Gr w w3 := sub.trans g1 s3
  clear h
  refine ⟨_, _, _, _, _, _, _, _, _, _, _, _, _, B.row (sub.refl _), (y_trList hg lr_ok).mono ?_⟩
  rintro _ w4 ⟨ss, ask, int, f, o, c, rfl, hR, h⟩
  obtain ⟨rfl, hes⟩ := lr_res hR
  have g34 : Gr w3 w4 := rdH 1 h.l
  have rL : rdS (hp w4) (TrL lrG ss) o (TrL lrG ss).length := rdTr_of rfl (rdOv 0 h.l)
  rw [TrL_es hes, lrS_is.1] at rL ⊢
  clear h
  refine ⟨_, _, _, _, rfl, _, _, _, _, _, _, _, _, _, _, _, _, _, B.row g34, newC_i (St.all w4) fun k28 w5 h => ?_⟩
  have g45 : Gr w4 w5 := h.gone1
  have r28 : rdS (hp w5) ([4, 1, 2] : List Int) (some (aM k28)) 3 := rdI_of rfl (.inr ⟨_, rfl, rdCel 0 h.l⟩)
  clear h
  refine (y_trWalk ((hg.mono g34).mono g45) lr_ok r28 (by decide)).mono ?_
  rintro _ w6 ⟨ss2, ask2, int2, f2, rfl, hR2, g56⟩
  obtain ⟨rfl, hes2⟩ := lr_res hR2
  rw [wlk_es hes2, lrS_is.2.1]
  have g36 := g34.trans (g45.trans g56)
  refine ⟨_, _, rfl, _, _, _, _, _, _, _, _, _, _, _, _, _, B.row g36, (y_trDirect (hg.mono g36) lr_ok).mono ?_⟩
  rintro _ w7 ⟨ss3, ask3, int3, f3, o3, c3, ds, rfl, hR3, hds, h⟩
  obtain ⟨rfl, hes3⟩ := lr_res hR3
  have g67 : Gr w6 w7 := rdH 2 h.l
  rw [TrL_es hes3, lrS_is.1] at hds
  obtain ⟨d0, rfl⟩ : ∃ d0, ds = [d0] := by
    have := congrArg List.length hds
    rw [List.length_map] at this
    exact List.length_eq_one_iff.1 (by simpa using this)
  have hd0 : d0.2 = dirOf lrG lrS ⟨0, 4⟩ := by
    rw [← dirOf_es hes3]
    simpa using hds
  have hdl : d0.2.length = 2 := by rw [hd0]; exact lrS_is.2.2
  obtain ⟨dad, hda, hdc⟩ := own_cell h (j := 0) (v := slQ d0) rfl
  obtain ⟨t, tad, ht, hta, rt⟩ := rdTr_get rL (i := 0) (by decide)
  have ht : t = ⟨0, 4⟩ := by simpa using ht.symm
  subst ht
  rw [add0] at rt
  refine ⟨_, _, _, _, rfl, br_t rfl (br_t rfl (br_t rfl (br_t rfl (idx_0 hta (by decide) ⟨_, _, rt.at (g45.trans (g56.trans g67)) rfl, _, eqTrans _ _ _ ⟨0, 4⟩ ⟨0, 4⟩, _, rfl, br_t (by simp) (br_t rfl (br_t rfl (idx_0 hda (by simp) ⟨d0.1.1, d0.2.length, d0.1.2, ?_, ?_, ?_⟩)))⟩))))⟩
  · simpa [Addr.add, slQ] using hdc
  · rw [hdl]; rfl
  · exact g3.trans (g36.trans g67)
end Go.Proofs.Ytkmjjnjngcpjmaa
set_option linter.unusedVariables false
namespace Go.V
section
variable {g : GramT} {ss : List SQ}
end
end Go.V
namespace Go.Proofs.Ytkmjjnjngcpjmaa
open Go.V
variable {w : World} {L : List Asn} {g : GramT} {x : GA}
end Go.Proofs.Ytkmjjnjngcpjmaa
set_option linter.unusedVariables false
namespace Go.V
section
variable {g : GramT} {ss : List SQ}
theorem nxt_kern (h : AutI g ss) {j : Nat} {r : SQ} (hr : ss[j]? = some r) {n : Nat} (hn : n < g.T + g.N) : (nxt ss j (n : Int)).isSome = decide (kern g r.1.2 (n : Int) ≠ []) := by
  have hrise := aut_rise h hr
  rw [nxt_some hr, Option.isSome_map, Bool.eq_iff_iff, decide_eq_true_eq, List.find?_isSome]
  constructor
  · rintro ⟨e, he, h1⟩
    have h1 : e.sym = n := of_decide_eq_true h1
    have : e.sym ∈ r.2.2.map (·.sym) := List.mem_map.2 ⟨e, he, rfl⟩
    rw [hrise, h1] at this
    obtain ⟨m, hm, e2⟩ := List.mem_map.1 this
    have e2 : m = n := Int.ofNat.inj e2
    subst e2
    exact symsOf_ne m hm
  · intro hk
    have : (n : Int) ∈ r.2.2.map (·.sym) := by
      rw [hrise]
      exact List.mem_map.2 ⟨n, List.mem_filter.2 ⟨List.mem_range.2 hn, decide_eq_true hk⟩, rfl⟩
    obtain ⟨e, he, h1⟩ := List.mem_map.1 this
    exact ⟨e, he, decide_eq_true h1⟩
end
end Go.V
namespace Go.Proofs.Ytkmjjnjngcpjmaa
open Go.V
variable {w : World} {L : List Asn} {g : GramT} {x : GA}
end Go.Proofs.Ytkmjjnjngcpjmaa
set_option linter.unusedVariables false
namespace Go.V
section
variable {g : GramT} {ss : List SQ}
theorem wayN_cons (q s : Int) (l : List Int) : wayN ss q (s :: l) = match nxt ss q.toNat s with | none => -1 | some j => wayN ss j l := rfl
theorem wayN_rng (hn : ∀ i s j, nxt ss i s = some j → 0 ≤ j ∧ j < ss.length) : ∀ (l : List Int) (q : Int), 0 ≤ q → q < ss.length → wayN ss q l = -1 ∨ (0 ≤ wayN ss q l ∧ wayN ss q l < ss.length)
  | [], q, h1, h2 => .inr ⟨h1, h2⟩
  | s :: l, q, h1, h2 => by
    unfold wayN
    cases h : nxt ss q.toNat s with
    | none => exact .inl rfl
    | some j => exact wayN_rng hn l j (hn _ _ _ h).1 (hn _ _ _ h).2
theorem wayN_app (hn : ∀ i s j, nxt ss i s = some j → 0 ≤ j ∧ j < ss.length) (b : List Int) : ∀ (l : List Int) (q : Int), 0 ≤ q → q < ss.length → wayN ss q (l ++ b) = if wayN ss q l = -1 then -1 else wayN ss (wayN ss q l) b
  | [], q, h1, h2 => by
    show wayN ss q b = if q = -1 then -1 else wayN ss q b
    rw [if_neg (by omega)]
  | s :: l, q, h1, h2 => by
    show wayN ss q (s :: (l ++ b)) = _
    rw [wayN_cons q s (l ++ b), wayN_cons q s l]
    cases h : nxt ss q.toNat s with
    | none => simp
    | some j => exact wayN_app hn b l j (hn _ _ _ h).1 (hn _ _ _ h).2
theorem wlk_err {f q : Int} {a b : List Int} (h : (wlk g ss f q a).2 ≠ 0) : (wlk g ss f q a).1 = 0 ∧ (wlk g ss f q (a ++ b)).1 = 0 ∧ (wlk g ss f q (a ++ b)).2 ≠ 0 := by
  unfold wlk at h ⊢
  by_cases hf : f ≠ 0
  · simp only [if_pos hf]; exact ⟨trivial, trivial, hf⟩
  · simp only [if_neg hf] at h ⊢
    by_cases hq : q < 0 ∨ (ss.length : Int) ≤ q ∨ a.any (bS g) = true
    · have hq2 : q < 0 ∨ (ss.length : Int) ≤ q ∨ (a ++ b).any (bS g) = true := by
        rcases hq with h | h | h
        · exact .inl h
        · exact .inr (.inl h)
        · exact .inr (.inr (by rw [List.any_append, h]; rfl))
      simp only [if_pos hq, if_pos hq2]; exact ⟨trivial, trivial, by decide⟩
    · rw [if_neg hq] at h; exact absurd rfl h
theorem wlk_ok {f q : Int} {a b : List Int} (hn : ∀ i s j, nxt ss i s = some j → 0 ≤ j ∧ j < ss.length) (h : (wlk g ss f q a).2 = 0) :
    ((wlk g ss f q a).1 = -1 → ((wlk g ss f q (a ++ b)).2 = 0 ∧ (wlk g ss f q (a ++ b)).1 = -1) ∨ ((wlk g ss f q (a ++ b)).2 = 1 ∧ (wlk g ss f q (a ++ b)).1 = 0)) ∧
    ((wlk g ss f q a).1 ≠ -1 → wlk g ss f q (a ++ b) = wlk g ss f (wlk g ss f q a).1 b) := by
  unfold wlk at h ⊢
  by_cases hf : f ≠ 0
  · rw [if_pos hf] at h; exact absurd h hf
  · simp only [if_neg hf] at h ⊢
    by_cases hq : q < 0 ∨ (ss.length : Int) ≤ q ∨ a.any (bS g) = true
    · rw [if_pos hq] at h; exact absurd h (by decide)
    · simp only [if_neg hq]
      have hq1 : 0 ≤ q ∧ q < ss.length := by omega
      have ha : a.any (bS g) = false := by
        cases e : a.any (bS g) with
        | false => rfl
        | true => exact absurd (.inr (.inr e)) hq
      rw [List.any_append, ha, Bool.false_or, wayN_app hn b a q hq1.1 hq1.2]
      have hr := wayN_rng hn a q hq1.1 hq1.2
      by_cases hb : b.any (bS g) = true
      · have h1 : q < 0 ∨ (ss.length : Int) ≤ q ∨ b.any (bS g) = true := .inr (.inr hb)
        have h2 : wayN ss q a < 0 ∨ (ss.length : Int) ≤ wayN ss q a ∨ b.any (bS g) = true := .inr (.inr hb)
        simp only [if_pos h1, if_pos h2]
        exact ⟨fun _ => .inr (by simp), fun _ => by simp⟩
      · have h1 : ¬(q < 0 ∨ (ss.length : Int) ≤ q ∨ b.any (bS g) = true) := by
          rintro (h | h | h)
          · omega
          · omega
          · exact hb h
        simp only [if_neg h1]
        refine ⟨fun h => .inl ⟨trivial, by rw [if_pos h]⟩, fun h => ?_⟩
        have h2 : ¬(wayN ss q a < 0 ∨ (ss.length : Int) ≤ wayN ss q a ∨ b.any (bS g) = true) := by
          rintro (h | h | h)
          · omega
          · omega
          · exact hb h
        rw [if_neg h, if_neg h2]
theorem Res.nx {a i f : Int} (h : Res g ss a i f) : ∀ i s j, nxt ss i s = some j → 0 ≤ j ∧ j < ss.length := fun i s j hj => by
  rcases h with ⟨_, rfl, _⟩ | ⟨_, _, rfl, _⟩ | ⟨hc, hA, _⟩
  · simp [nxt] at hj
  · simp [nxt] at hj
  · exact nxt_pos hc hA hj
end
end Go.V
namespace Go.Proofs.Ytkmjjnjngcpjmaa
open Go.V
variable {w : World} {L : List Asn} {g : GramT} {x : GA} {fr : Int} {one two : List Int} {a1 a2 : Option Addr} {l1 c1 l2 c2 : Nat}
set_option maxHeartbeats 1000000 in
theorem l_TransTwice (hg : gR (hp w) g x) (hb : okG g) (h1 : rdS (hp w) one a1 l1) (h2 : rdS (hp w) two a2 l2) (hl : (l1 + l2) * 8 ≤ 140737488355328) : Run Try.prog n_presagelaw10_TransTwice [.agg ⟨x.cells⟩, .int .i64 fr, .agg #[.slice a1 l1 c1, .slice a2 l2 c2]] w fun v w' => v = .bool true ∧ Gr w w' := by
  have e1 := h1.1
  have e2 := h2.1
  refine run_presagelaw10_TransTwice _ _ _ _ _ _ _ _ _ _ _ _ _ _ _ _ _ _ _ _ w _ (gbox hg fun k1 w1 gw hg B => newC_i (St.all w1) fun k2 w2 h => l_awake10.mono ?_)
  have r2 : rowH (hp w2) (aM k2) [.slice a1 l1 c1, .slice a2 l2 c2] := rdCel 0 h.l
  have g12 : Gr w1 w2 := h.gone1
  clear h
  rintro _ w3 ⟨rfl, g23⟩
  have g13 := g12.trans g23
  have h1 : rdS (hp w3) one a1 l1 := (h1.mono gw).mono g13
  have h2 : rdS (hp w3) two a2 l2 := (h2.mono gw).mono g13
  refine ⟨_, rfl, _, _, _, r2.cell0 g23, _, _, _, r2.cell g23 (j := 1) rfl, ?_⟩
  refine (app_rd (us := []) (xs := one) tyOk (rfl : kdOfT Ty _ = .slice _) (rfl : kdOfT Ty _ = .slice _) rfl rfl rfl (own_nil 1 (St.all w3)) rfl h1 (fun x => rfl) (by show (0 + l1) * 8 ≤ _; omega) (by omega)).mono ?_
  rintro _ w4 ⟨o3, c3, rfl, h⟩
  have g34 : Gr w3 w4 := rdH 1 h.l
  refine ⟨_, _, _, rfl, ?_⟩
  refine (app_rd (xs := two) tyOk (rfl : kdOfT Ty _ = .slice _) (rfl : kdOfT Ty _ = .slice _) rfl rfl rfl h rfl (h2.mono g34) (fun x => rfl) (by show (0 + l1 + l2) * 8 ≤ _; omega) (by omega)).mono ?_
  rintro _ w5 ⟨o4, c4, rfl, h⟩
  have g35 : Gr w3 w5 := rdH 1 h.l
  have r5 : rdS (hp w5) (one ++ two) o4 (0 + l1 + l2) := rdI_of (by rw [List.length_append]; omega) (by
    have := rdOv 0 h.l
    rw [show iv (one ++ two) = one.map Rep1.val ++ two.map Rep1.val from List.map_append]
    simpa using this)
  clear h
  have g15 := g13.trans g35
  refine ⟨_, _, _, rfl, _, _, _, _, _, _, _, _, _, _, _, _, _, B.row g15, (y_trWalk (fr := fr) (hg.mono g15) hb (h1.mono g35) (by omega)).mono ?_⟩
  rintro _ w6 ⟨ss, ask, int, f, rfl, hR, g56⟩
  have g16 := g15.trans g56
  refine ⟨_, _, rfl, _, _, _, _, _, _, _, _, _, _, _, _, _, B.row g16, (y_trWalk (fr := fr) (hg.mono g16) hb (r5.mono g56) (by omega)).mono ?_⟩
  rintro _ w7 ⟨ss2, ask2, int2, f2, rfl, hR2, g67⟩
  obtain ⟨_, hes, _, _, rfl, _⟩ := hR.one hR2
  rw [← wlk_es hes]
  have g17 := g16.trans g67
  refine ⟨_, _, rfl, br_intro (fun h3 => ?_) fun h3 => ?_⟩
  · have h3 : (wlk g ss f fr one).2 ≠ 0 := by simpa using h3
    obtain ⟨q1, q2, q3⟩ := wlk_err (b := two) h3
    exact br_t rfl (br_t (by simpa using q3) (br_t (by simp [q1]) ⟨by simp [q2], gw.trans g17⟩))
  have h3 : (wlk g ss f fr one).2 = 0 := by simpa using h3
  obtain ⟨p1, p2⟩ := wlk_ok (b := two) hR.nx h3
  refine br_intro (fun h4 => ?_) fun h4 => ?_
  · have h4 : (wlk g ss f fr one).1 = -1 := by simpa using h4
    rcases p1 h4 with ⟨q1, q2⟩ | ⟨q1, q2⟩
    · exact br_t rfl (br_t (by simp [q1]) (br_t (by simp [q2]) ⟨rfl, gw.trans g17⟩))
    · exact br_t rfl (br_f (by simp [q1]) (br_t (by simp [q1]) ⟨by simp [q2], gw.trans g17⟩))
  have h4 : (wlk g ss f fr one).1 ≠ -1 := by simpa using h4
  have p2 := p2 h4
  refine ⟨_, _, _, _, _, _, _, _, _, _, _, _, _, B.row g17, (y_trWalk (hg.mono g17) hb (((h2.mono g35).mono g56).mono g67) (by omega)).mono ?_⟩
  rintro _ w8 ⟨ss3, ask3, int3, f3, rfl, hR3, g78⟩
  obtain ⟨_, hes3, _, _, rfl, _⟩ := hR.one hR3
  rw [← wlk_es hes3, p2]
  exact ⟨_, _, rfl, br_t rfl (br_t (by simp) ⟨by simp, gw.trans (g17.trans g78)⟩)⟩
end Go.Proofs.Ytkmjjnjngcpjmaa
set_option linter.unusedVariables false
namespace Go.V
section
variable {g : GramT} {ss : List SQ}
structure WysI (g : GramT) (ss : List SQ) (ins : List Bool) (todo : List Nat) (ws : List (Lq Int)) : Prop where
  len : ws.length = ins.length
  way : ∀ (j : Nat), ins[j]? = some true → ∃ v, ws[j]? = some v ∧ wayN ss 0 v.2 = (j : Int) ∧ v.2.any (bS g) = false ∧ v.2.length + 1 ≤ ins.count true
  td : ∀ j : Nat, j ∈ todo → ins[j]? = some true
theorem count_tr {ins : List Bool} {j : Nat} (h : ins[j]? = some false) : (ins.set j true).count true = ins.count true + 1 := by
  induction ins generalizing j with
  | nil => simp at h
  | cons b l ih =>
    cases j with
    | zero => simp at h; subst h; simp
    | succ j =>
      have := ih (j := j) (by simpa using h)
      rw [List.set_cons_succ, List.count_cons, List.count_cons]
      omega
theorem WysI.start (hp : 0 < ss.length) : WysI g ss ((List.replicate ss.length false).set 0 true) [0] (List.replicate ss.length ((none, 0), [])) := by
  have hc : ((List.replicate ss.length false).set 0 true).count true = 1 := by
    rw [count_tr (by rw [List.getElem?_replicate, if_pos hp])]
    simp [List.count_replicate]
  have hi : ∀ i, ((List.replicate ss.length false).set 0 true)[i]? = some true → i = 0 := fun i h => by
    by_cases e : 0 = i
    · exact e.symm
    · rw [List.getElem?_set_ne e, List.getElem?_replicate] at h
      split at h <;> simp at h
  refine ⟨by simp, fun j hj => ?_, fun j hj => ?_⟩
  · have := hi j hj
    subst this
    exact ⟨_, by rw [List.getElem?_replicate, if_pos hp], rfl, rfl, by rw [hc]; simp⟩
  · rw [List.mem_singleton] at hj
    subst hj
    rw [List.getElem?_set_self (by simpa using hp)]
theorem WysI.pop {ins : List Bool} {q : Nat} {todo : List Nat} {ws : List (Lq Int)} (h : WysI g ss ins (q :: todo) ws) : WysI g ss ins todo ws := ⟨h.len, h.way, fun j hj => h.td j (by simp [hj])⟩
theorem WysI.step {ins : List Bool} {q j : Nat} {todo : List Nat} {ws : List (Lq Int)} {v : Lq Int} {s : Int} {a : Option Addr} {c : Nat} (h : WysI g ss ins todo ws) (hn : ∀ i s j, nxt ss i s = some j → 0 ≤ j ∧ j < ss.length) (hp : 0 < ss.length)
    (hq : ins[q]? = some true) (hv : ws[q]? = some v) (hs : bS g s = false) (hx : nxt ss q s = some (j : Int)) (hj : ins[j]? = some false) : WysI g ss (ins.set j true) (todo ++ [j]) (ws.set j ((a, c), v.2 ++ [s])) := by
  have hjl := (List.getElem?_eq_some_iff.1 hj).1
  have hct := count_tr hj
  obtain ⟨v', hv', w1, w2, w3⟩ := h.way q hq
  rw [hv] at hv'; cases hv'
  refine ⟨by rw [List.length_set, List.length_set, h.len], fun i hi => ?_, fun i hi => ?_⟩
  · by_cases e : j = i
    · subst e
      refine ⟨_, by rw [List.getElem?_set_self (by rw [h.len]; exact hjl)], ?_, ?_, ?_⟩
      · show wayN ss 0 (v.2 ++ [s]) = _
        rw [wayN_app hn [s] v.2 0 (Int.le_refl _) (by omega), w1, if_neg (by omega)]
        unfold wayN
        rw [Int.toNat_natCast, hx]
        rfl
      · show (v.2 ++ [s]).any (bS g) = false
        rw [List.any_append, w2]
        simp [hs]
      · show (v.2 ++ [s]).length + 1 ≤ _
        rw [List.length_append, List.length_singleton, hct]; omega
    · rw [List.getElem?_set_ne e] at hi
      obtain ⟨v2, h1, h2, h3, h4⟩ := h.way i hi
      exact ⟨v2, by rw [List.getElem?_set_ne e]; exact h1, h2, h3, by omega⟩
  · rw [List.mem_append, List.mem_singleton] at hi
    by_cases e : j = i
    · subst e; rw [List.getElem?_set_self hjl]
    · rw [List.getElem?_set_ne e]
      exact h.td i (hi.resolve_right (fun h => e h.symm))
theorem count_le (ins : List Bool) : ins.count true ≤ ins.length := List.count_le_length
end
end Go.V
set_option linter.unusedVariables false
namespace Go.Proofs.Ytkmjjnjngcpjmaa
open Go.V
variable {w : World} {L : List Asn} {g : GramT} {x : GA}
def TrcP (g : GramT) (ss : List SQ) (k23 k26 : Nat) (base : List Asn) (o : Option Addr) (n c : Nat) (X : List Bool × List Int × List Nat × List (Lq Int)) (w : World) : Prop :=
  n = X.2.2.1.length ∧ RchI g ss X.1 X.2.1 X.2.2.1 ss.length 0 ∧ WysI g ss X.1 X.2.2.1 X.2.2.2 ∧ szR X.1 X.2.2.1 ≤ 600 ∧ St w (own 1 o n c (ivN X.2.2.1) :: cel k23 (X.2.2.2.map slQ) :: sta (X.2.2.2.map (owQ 1 iv)) :: cel k26 (bv X.1) :: base)
set_option maxHeartbeats 4000000 in
theorem l_TransReached (hg : gR (hp w) g x) (hb : okG g) : Run Try.prog n_presagelaw10_TransReached [.agg ⟨x.cells⟩] w fun v w' => v = .bool true ∧ Gr w w' := by
  refine run_presagelaw10_TransReached _ _ _ _ _ _ _ _ _ _ _ _ _ w _ (gbox hg fun k1 w1 gw hg B => l_awake10.mono ?_)
  rintro _ w2 ⟨rfl, g12⟩
  refine ⟨_, rfl, _, _, _, _, _, _, _, _, _, _, _, _, _, B.row g12, (y_BuildR (hg.mono g12) hb).mono ?_⟩
  rintro _ w3 ⟨o, c, ss, ask, int, f, rfl, hR, h⟩
  have g13 : Gr w1 w3 := g12.trans (rdH 3 h.l)
  have hs := stRd_of h.l
  clear h
  refine ⟨_, _, _, _, _, _, rfl, newC_i (St.all w3) fun k12 w4 h => stR_i h rfl (by simp [oneC]) fun w5 h => br_intro (fun h1 => ?_) fun h1 => ?_⟩
  · have h1 : f ≠ 0 := by simpa using h1
    have g35 : Gr w3 w5 := h.gone1
    clear h
    have p0 : rdS (hp w5) ([] : List Int) none 0 := rdI_of rfl (.inl rfl)
    refine ⟨_, _, _, _, _, _, _, _, _, _, _, _, _, B.row (g13.trans g35), (y_trWalk (fr := 0) (hg.mono (g13.trans g35)) hb p0 (by decide)).mono ?_⟩
    rintro _ w6 ⟨ss2, ask2, int2, f2, rfl, hR2, g56⟩
    obtain ⟨_, _, _, _, rfl, _⟩ := hR.one hR2
    have e : wlk g ss2 f 0 [] = (0, f) := by unfold wlk; rw [if_pos h1]
    rw [e]
    exact ⟨_, _, rfl, br_t rfl (br_t (by simp) ⟨rfl, gw.trans (g13.trans (g35.trans g56))⟩)⟩
  have h1 : f = 0 := by simpa using h1
  have hf0 := h1
  obtain ⟨hc, hA⟩ := hR.aut h1
  have hpos := hA.pos
  have h256 := hA.dn.2.1
  have hkl := hA.klen hc
  have hnx := hR.nx
  obtain ⟨hT, hN, hP, hP2, _, _⟩ := hc.sizes
  have r12 : rowH (hp w5) (aM k12) [.slice o ss.length c, .int .i64 ask, .int .i64 int] := rdCel 0 h.l
  have g35 : Gr w3 w5 := h.gone1
  have hs := hs.mono g35
  have g15 := g13.trans g35
  clear h
  refine ⟨_, _, _, r12.cell0 (sub.refl _), ⟨by omega, rfl, by omega⟩, ?_⟩
  rw [Int.toNat_natCast]
  have e0 : reps ss.length [(Value.slice none 0 0 : Value)] = (List.replicate ss.length (((none, 0), []) : Lq Int)).map slQ := by rw [reps_one]; simp [slQ]
  have e1 : reps ss.length [Value.bool false] = bv (List.replicate ss.length false) := by rw [reps_one]; simp [bv]
  rw [e0]
  refine newC_i (St.all w5) fun k23 w7 h => ⟨_, _, _, r12.cell0 h.gone1, ⟨by omega, rfl, by omega⟩, ?_⟩
  rw [Int.toNat_natCast, e1]
  refine newC_i h fun k26 w8 h => newC_i h fun k27 w9 h => ⟨_, _, _, r12.cell0 (rdH 3 h.l), br_f (beq_eq_false_iff_ne.2 (by omega)) (idx_0 rfl hpos ?_)⟩
  refine st1_i (h.pick 3 [1, 0, 2]) (by rw [bv_len]; simpa using hpos) fun w10 h => ?_
  rw [bv_setC] at h
  have h : St w10 (own 1 (some (aM k27)) 1 1 (ivN [0]) :: cel k23 ((List.replicate ss.length (((none, 0), []) : Lq Int)).map slQ) :: cel k26 (bv ((List.replicate ss.length false).set 0 true)) :: all w5) := own_some (cs := []) (h.pick 3 [1, 2, 0]) rfl rfl (Nat.le_refl _)
  have h := sta_reps (A := owQ 1 iv ((none, 0), [])) (fun w L h => own_nil 1 h) ss.length h
  rw [← List.map_replicate] at h
  refine ⟨fun o n c w' => ∃ X, TrcP g ss k23 k26 (all w5) o n c X w', fun o n c w' => mea (fun X w => TrcP g ss k23 k26 (all w5) o n c X w) (fun X => szR X.1 X.2.2.1) w', ⟨(_, _, [0], _), rfl, .start hpos, .start hpos, ?_, h.pick 4 [1, 2, 0, 3]⟩, ?_⟩
  · have := count_set (ins := List.replicate ss.length false) (j := 0) (by rw [List.getElem?_replicate, if_pos hpos])
    rw [List.count_replicate_self] at this
    unfold szR; simp only [List.length_singleton]; omega
  clear h e0 e1
  rintro _ o13 n13 c13 w11 hw
  obtain ⟨⟨ins, bys, todo, ws⟩, ⟨hn3, hI, hW, h600, h⟩, hM⟩ := mea_get (f := fun X : List Bool × List Int × List Nat × List (Lq Int) => szR X.1 X.2.2.1) hw
  simp only at hn3 hI hW h hM h600
  subst hn3
  obtain ⟨M, hMe⟩ : ∃ M, M = szR ins todo := ⟨_, rfl⟩
  rw [← hMe] at hM h600
  refine br_intro (fun h1 => ?_) fun h1 => ?_
  · have h1 : 0 < todo.length := by have := of_decide_eq_true h1; omega
    obtain ⟨q0, todo', rfl⟩ : ∃ q t, todo = q :: t := by cases todo with
      | nil => simp at h1
      | cons q t => exact ⟨q, t, rfl⟩
    have hq0 := hI.td q0 (by simp)
    have hq0i := hW.td q0 (by simp)
    obtain ⟨r, hr⟩ : ∃ r, ss[q0]? = some r := ⟨_, List.getElem?_eq_getElem hq0⟩
    obtain ⟨oad, rfl, hoc⟩ := own_cell h (j := 0) (v := .int .i64 (q0 : Int)) rfl
    have hoc : w11.cell? oad = some (.int .i64 (q0 : Int)) := by simpa [Addr.add] using hoc
    have hlc := own_le h
    refine idx_0 rfl h1 ⟨_, hoc, slc_from (lo := 1) (by simp) hlc ?_⟩
    have h := own_tl h
    have hlen : (q0 :: todo').length - 1 = todo'.length := by simp
    rw [hlen] at h ⊢
    refine ⟨fun o n c z w' => ∃ (k : Nat) (ins : List Bool) (bys : List Int) (todo : List Nat) (ws : List (Lq Int)), z = k ∧ k ≤ r.2.2.length ∧ n = todo.length ∧ RchI g ss ins bys todo q0 k ∧ WysI g ss ins todo ws ∧ ins[q0]? = some true ∧ szR ins todo < M ∧ St w' (own 1 o n c (ivN todo) :: cel k23 (ws.map slQ) :: sta (ws.map (owQ 1 iv)) :: cel k26 (bv ins) :: all w5), fun _ _ _ z _ => r.2.2.length - z.toNat,
      ⟨0, ins, bys, todo', ws, rfl, Nat.zero_le _, rfl, hI.pop rfl, hW.pop, hq0i, by rw [hMe]; unfold szR; simp, h⟩, ?_⟩
    clear h hI hW hoc hlc hlen h1 hMe hq0i
    rintro _ o15 _ c15 _ w12 ⟨k, ins, bys, todo, ws, rfl, hk, rfl, hI, hW, hq0i, hsz, h⟩
    have htl : todo.length ≤ 600 := by unfold szR at hsz; omega
    have s12 : sub (hp w5) (hp w12) := rdH 4 h.l
    obtain ⟨sad, rfl, rs, _, re⟩ := hs q0 r hr
    refine ⟨_, _, _, r12.cell0 s12, idx_n rfl hq0 ⟨_, _, _, rs.cell s12 (j := 1) rfl, br_intro (fun h2 => ?_) fun h2 => ?_⟩⟩
    rotate_left
    · have h2 : r.2.2.length ≤ k := by have := of_decide_eq_false h2; omega
      have hnew : TrcP g ss k23 k26 (all w5) o15 todo.length c15 (ins, bys, todo, ws) w12 := ⟨rfl, hI.fin hr h2, hW, by show szR ins todo ≤ 600; omega, h⟩
      have l1 := mea_le (f := fun X : List Bool × List Int × List Nat × List (Lq Int) => szR X.1 X.2.2.1) hnew
      exact ⟨⟨_, hnew⟩, Nat.lt_of_le_of_lt l1 (Nat.lt_of_lt_of_le hsz (Nat.le_of_eq hM))⟩
    have h2 : k < r.2.2.length := by have := of_decide_eq_true h2; omega
    have hkr0 := (hkl r (List.mem_of_getElem? hr)).2
    obtain ⟨e, ead, he, hea, red⟩ := rdEd_get re h2
    obtain ⟨hs1, hs2, j, r', hj, hj1, hr', hrk, hne⟩ := aut_edge hc hA hr he
    have hjl := (List.getElem?_eq_some_iff.1 hr').1
    obtain ⟨hKq, _⟩ := aut_at hA hr
    have hKf := (bst_inv (g := g) (by omega) q0).fit _ (List.mem_of_getElem? hKq)
    have hsy := sy_spec hr' hKf hrk hne hs1
    have hstep := hI.step hc hA hr he hj hjl hsy
    refine ⟨_, _, _, r12.cell0 s12, idx_n rfl hq0 ⟨_, _, _, rs.cell s12 (j := 1) rfl, idx_n hea h2 ⟨_, _, red.at s12 rfl, newC_i h fun k44 w13 h => stR_i h rfl (by simp [oneC]) fun w14 h => ?_⟩⟩⟩
    rw [hj] at h
    have h : St w14 (cel k44 [.int .i64 e.sym, .int .i64 (j : Int)] :: own 1 o15 todo.length c15 (ivN todo) :: cel k23 (ws.map slQ) :: sta (ws.map (owQ 1 iv)) :: cel k26 (bv ins) :: all w5) := h
    have r44 : rowH (hp w14) (aM k44) [.int .i64 e.sym, .int .i64 (j : Int)] := rdCel 0 h.l
    have s14 : sub (hp w5) (hp w14) := rdH 5 h.l
    refine ⟨fun b w' => b = false ∧ w' = w14, ⟨_, r44.cell (sub.refl _) (j := 1) rfl, br_f (decide_eq_false (by omega)) ⟨_, r44.cell (sub.refl _) (j := 1) rfl, _, _, _, r12.cell0 s14, decide_eq_false (by omega), rfl⟩⟩, ?_⟩
    rintro _ b w15 ⟨rfl, rfl⟩
    obtain ⟨ib, hib⟩ : ∃ ib, ins[j]? = some ib := ⟨_, List.getElem?_eq_getElem (by rw [hI.li]; exact hjl)⟩
    have hiv : (bv ins)[j]? = some (.bool ib) := by unfold bv; rw [List.getElem?_map, hib]; rfl
    refine br_f rfl ⟨_, r44.cell (sub.refl _) (j := 1) rfl, idx_i rfl hjl ⟨_, (rdCel 4 h.l).cell (sub.refl _) (j := j) hiv, br_intro (fun h3 => ?_) fun h3 => ?_⟩⟩
    rotate_left
    · have h3 : ib = true := by simpa using h3
      subst h3
      exact ⟨⟨by omega, by omega⟩, ⟨k + 1, ins, _, todo, ws, by simp, h2, rfl, hstep.1 hib, hW, hq0i, hsz, h.pick 5 [1, 2, 3, 4]⟩, msr h2⟩
    have h3 : ib = false := by simpa using h3
    subst h3
    obtain ⟨v, hv, hv1, hv2, hv3⟩ := hW.way q0 hq0i
    have hcl := count_le ins
    have hil := hI.li
    have hwl := hW.len
    have hvs : (ws.map slQ)[q0]? = some (.slice v.1.1 v.2.length v.1.2) := by rw [List.getElem?_map, hv]; rfl
    refine ⟨_, r44.cell (sub.refl _) (j := 1) rfl, idx_i rfl hjl ?_⟩
    rw [add_lit0]
    refine st1_i (h.pick 5 [4, 0, 1, 2, 3]) (by rw [bv_len, hI.li]; exact hjl) fun w16 h => ?_
    rw [bv_setC] at h
    have h : St w16 (cel k26 (bv (ins.set j true)) :: cel k44 [.int .i64 e.sym, .int .i64 (j : Int)] :: own 1 o15 todo.length c15 (ivN todo) :: cel k23 (ws.map slQ) :: sta (ws.map (owQ 1 iv)) :: all w5) := h
    have rv : rdS (hp w16) v.2 v.1.1 v.2.length := by
      obtain ⟨h1, s1, a1⟩ := staRead (h.pick 5 [4]).l (show (ws.map (owQ 1 iv))[q0]? = some (owQ 1 iv v) by rw [List.getElem?_map, hv]; rfl)
      exact (rdI_of rfl (own_rdVh a1)).mono s1
    refine idx_i rfl hq0 ⟨_, _, _, (rdCel 3 h.l).cell (sub.refl _) (j := q0) hvs, ?_⟩
    refine (app_rd (us := []) (xs := v.2) tyOk (rfl : kdOfT Ty _ = .slice _) (rfl : kdOfT Ty _ = .slice _) rfl rfl rfl (own_nil 1 h) rfl rv (fun x => rfl) (by show (0 + v.2.length) * 8 ≤ _; omega) (by omega)).mono ?_
    rintro _ w17 ⟨o22, c22, rfl, h⟩
    refine ⟨_, _, _, rfl, ?_⟩
    intro w18 hd
    have h := h.eq (drawn_hp hd)
    have r44 : rowH (hp w18) (aM k44) [.int .i64 e.sym, .int .i64 (j : Int)] := rdCel 2 h.l
    refine ⟨fun u => rowH (hp u) (aM k44) [.int .i64 e.sym, .int .i64 (j : Int)], r44, _, fun u s => s.cell (sub.refl _) (j := 1) rfl, _, fun u s => s.cell0 (sub.refl _), newC_i h fun k51 w21 h => ⟨rdCel 3 h.l, ?_⟩⟩
    refine (app_one (us := iv v.2) tyOk (rfl : kdOfT Ty _ = .slice _) (rfl : kdOfT Ty _ = .slice _) rfl rfl rfl h rfl (by simp [oneC]) (by show (0 + v.2.length + 1) * 8 ≤ _; omega) (by omega)).mono ?_
    rintro _ w22 ⟨o23, c23, rfl, h⟩
    refine ⟨_, _, _, rfl, rdCel 3 h.l, idx_i rfl hjl ?_⟩
    rw [add_lit0]
    refine st1_i (h.pick 7 [5, 0, 1, 2, 3, 4, 6]) (by rw [List.length_map, hwl, hil]; exact hjl) fun w23 h => ?_
    have h : St w23 (cel k23 ((ws.map slQ).set j (.slice o23 (0 + v.2.length + 1) c23)) :: own 1 o23 (0 + v.2.length + 1) c23 (iv v.2 ++ [.int .i64 e.sym]) :: cel k51 [.int .i64 e.sym] :: cel k26 (bv (ins.set j true)) :: cel k44 [.int .i64 e.sym, .int .i64 (j : Int)] :: own 1 o15 todo.length c15 (ivN todo) :: sta (ws.map (owQ 1 iv)) :: all w5) := h
    have eV : owQ 1 iv (((o23, c23), v.2 ++ [e.sym]) : Lq Int) = own 1 o23 (0 + v.2.length + 1) c23 (iv v.2 ++ [.int .i64 e.sym]) := by simp [owQ, iv]
    have eS : slQ (((o23, c23), v.2 ++ [e.sym]) : Lq Int) = .slice o23 (0 + v.2.length + 1) c23 := by simp [slQ]
    rw [← eS, ← eV, ← List.map_set] at h
    have h : St w23 (sta ((ws.map (owQ 1 iv)).set j (owQ 1 iv ((o23, c23), v.2 ++ [e.sym]))) :: cel k23 ((ws.set j ((o23, c23), v.2 ++ [e.sym])).map slQ) :: cel k26 (bv (ins.set j true)) :: cel k44 [.int .i64 e.sym, .int .i64 (j : Int)] :: own 1 o15 todo.length c15 (ivN todo) :: all w5) := St.staSet (n := j) (h.pick 7 [1, 6, 0, 3, 4, 5]) (by rw [List.length_map, hwl, hil]; exact hjl)
    rw [← List.map_set] at h
    refine ⟨_, (rdCel 3 h.l).cell (sub.refl _) (j := 1) rfl, newC_i h fun k54 w24 h => ?_⟩
    have z1 : (todo.length + 1) * 8 ≤ 140737488355328 ∧ todo.length < 9223372036854775807 := by omega
    refine (app_one (us := ivN todo) tyOk (rfl : kdOfT Ty _ = .slice _) (rfl : kdOfT Ty _ = .slice _) rfl rfl rfl (h.pick 6 [0, 5, 2, 1, 3]) rfl (by simp [oneC]) z1.1 z1.2).mono ?_
    rintro _ w25 ⟨o24, c24, rfl, h⟩
    have e4 : ivN (todo ++ [j]) = ivN todo ++ [.int .i64 (j : Int)] := by simp [iv]
    have hcs := count_set hib
    have hnj : nxt ss q0 e.sym = some (j : Int) := by have := nxt_edge hA hr he; rwa [hj] at this
    have hbs : bS g e.sym = false := by unfold bS; rw [Bool.or_eq_false_iff]; exact ⟨decide_eq_false (by omega), decide_eq_false (by omega)⟩
    have hq0j : (ins.set j true)[q0]? = some true := by
      by_cases e2 : j = q0
      · subst e2; rw [hib] at hq0i; cases hq0i
      · rw [List.getElem?_set_ne e2]; exact hq0i
    refine ⟨_, _, _, rfl, ⟨by omega, by omega⟩, ⟨k + 1, ins.set j true, _, todo ++ [j], ws.set j ((o23, c23), v.2 ++ [e.sym]), by simp, h2, by simp, hstep.2 hib, hW.step hnx hpos hq0i hv hbs hnj hib, hq0j, ?_, ?_⟩, msr h2⟩
    · unfold szR at hsz ⊢; rw [List.length_append, List.length_singleton]; omega
    · rw [e4]; exact h.pick 5 [0, 2, 3, 4]
  have h1 : todo = [] := List.eq_nil_of_length_eq_zero (by have := of_decide_eq_false h1; omega)
  subst h1
  have hall := hI.all hc hA rfl
  have rI : rowH (hp w11) (aM k26) (bv ins) := rdCel 3 h.l
  have rW : rowH (hp w11) (aM k23) (ws.map slQ) := rdCel 1 h.l
  have rV : ∀ (i : Nat) (q : Lq Int), ws[i]? = some q → rdS (hp w11) q.2 q.1.1 q.2.length := fun i q hq => by
    obtain ⟨h1, s1, a1⟩ := staRead (h.pick 4 [2]).l (show (ws.map (owQ 1 iv))[i]? = some (owQ 1 iv q) by rw [List.getElem?_map, hq]; rfl)
    exact (rdI_of rfl (own_rdVh a1)).mono s1
  have g511 : Gr w5 w11 := rdH 4 h.l
  have hcl := count_le ins
  have hil := hI.li
  clear h hM hMe
  refine ⟨fun z w' => ∃ q : Nat, z = q ∧ q ≤ ss.length ∧ Gr w11 w', fun z _ => ss.length - z.toNat, ⟨0, rfl, Nat.zero_le _, Gr.refl _⟩, ?_⟩
  rintro _ _ w26 ⟨q, rfl, hq, g26⟩
  refine br_intro (fun h2 => br_intro (fun h3 => ?_) fun _ => ⟨rfl, gw.trans (g15.trans (g511.trans g26))⟩) fun _ => ⟨rfl, gw.trans (g15.trans (g511.trans g26))⟩
  have h2 : q < ss.length := by have := of_decide_eq_true h2; omega
  intro w27 hd
  have g27 : Gr w11 w27 := g26.trans (Gr.drawn hd)
  have hin := hall q h2
  obtain ⟨v, hv, hv1, hv2, hv3⟩ := hW.way q hin
  have hvs : (ws.map slQ)[q]? = some (.slice v.1.1 v.2.length v.1.2) := by rw [List.getElem?_map, hv]; rfl
  have hiv : (bv ins)[q]? = some (.bool true) := by unfold bv; rw [List.getElem?_map, hin]; rfl
  have g127 := g15.trans (g511.trans g27)
  refine ⟨fun u => Gr w27 u, Gr.refl _, _, _, _, _, _, _, _, _, _, _, _, _, _, fun u s => B.row (sub.trans g127 s), idx_i rfl h2 ⟨_, _, _, fun u s => rW.cell (sub.trans g27 s) (j := q) hvs, (y_trWalk (fr := 0) (hg.mono g127) hb ((rV q v hv).mono g27) (by omega)).mono ?_⟩⟩
  rintro _ w30 ⟨ss2, ask2, int2, f2, rfl, hR2, g2730⟩
  obtain ⟨_, hes2, _, _, rfl, _⟩ := hR.one hR2
  have hwk : wlk g ss2 f 0 v.2 = ((q : Int), 0) := by
    rw [← wlk_es hes2]
    unfold wlk
    rw [if_neg (by simp [hf0]), if_neg (by rw [hv2]; rintro (h | h | h) <;> first | omega | cases h), hv1]
  rw [hwk]
  refine ⟨_, _, rfl, g2730, ?_⟩
  intro w31 hd2
  have g31 : Gr w11 w31 := g27.trans (g2730.trans (Gr.drawn hd2))
  refine ⟨fun u => Gr w31 u, Gr.refl _, idx_i rfl h2 ⟨_, fun u s => rI.cell (sub.trans g31 s) (j := q) hiv, br_f rfl (br_f (by simp) (br_f (by simp) (idx_i rfl h2 ⟨_, _, _, fun u s => rW.cell (sub.trans g31 s) (j := q) hvs, _, _, _, fun u s => r12.cell0 (sub.trans g511 (sub.trans g31 s)), br_f (decide_eq_false (by omega)) ⟨⟨by omega, by omega⟩, ⟨q + 1, by simp, h2, g31⟩, msr h2⟩⟩)))⟩⟩
end Go.Proofs.Ytkmjjnjngcpjmaa
set_option linter.unusedVariables false
namespace Go.V
section
variable {g : GramT} {ss : List SQ}
theorem edge_of (hc : ClosedP g) (hA : AutI g ss) {i : Nat} {q : SQ} (hq : ss[i]? = some q) {y : ItemT} {s : Int} (hy : ClM g q.1.2 y) (hs : aft g y = s) (h0 : 0 ≤ s) : ∃ (j : Nat) (r : SQ), nxt ss i s = some (j : Int) ∧ ss[j]? = some r ∧ (⟨y.prod, y.dot + 1⟩ : ItemT) ∈ r.1.2 := by
  obtain ⟨hT, hN, hP, hP2, _, _⟩ := hc.sizes
  have hK := (aut_at hA hq).1
  have hf := (bst_inv (g := g) (by omega) i).fit _ (List.mem_of_getElem? hK)
  have hm : (⟨y.prod, y.dot + 1⟩ : ItemT) ∈ kern g q.1.2 s := kern_mem.2 ⟨y, hy, hs, rfl⟩
  have hne : kern g q.1.2 s ≠ [] := List.ne_nil_of_mem hm
  have hsr := kern_sym hc hf h0 hne
  obtain ⟨n, rfl⟩ : ∃ n : Nat, s = n := ⟨s.toNat, by omega⟩
  have hsome := nxt_kern hA hq (n := n) (by omega)
  rw [decide_eq_true hne] at hsome
  obtain ⟨t, ht⟩ := Option.isSome_iff_exists.1 hsome
  obtain ⟨q', k, e, hq', he, he1, he2⟩ := nxt_inv ht
  rw [hq] at hq'; cases hq'
  obtain ⟨_, _, j, r, hj, _, hr, hrk, _⟩ := aut_edge hc hA hq he
  refine ⟨j, r, by rw [ht, ← he2, hj], hr, ?_⟩
  rw [hrk, he1]
  exact hm
theorem walk_right (hc : ClosedP g) (hA : AutI g ss) {n : Nat} {p : ProdT} (hp : g.prods[n]? = some p) : ∀ (d m : Nat), m + d = p.right.length → ∀ (i : Nat) (q : SQ), ss[i]? = some q → ClM g q.1.2 ⟨(n : Int), (m : Int)⟩ →
    ∃ (j : Nat) (r : SQ), wayN ss (i : Int) (p.right.drop m) = (j : Int) ∧ ss[j]? = some r ∧ ClM g r.1.2 ⟨(n : Int), (p.right.length : Int)⟩
  | 0, m, hm, i, q, hq, hy => ⟨i, q, by rw [List.drop_of_length_le (by omega)]; rfl, hq, by rw [show p.right.length = m by omega]; exact hy⟩
  | d + 1, m, hm, i, q, hq, hy => by
    have hlt : m < p.right.length := by omega
    have hpm : p ∈ g.prods := List.mem_of_getElem? hp
    have hs : aft g ⟨(n : Int), (m : Int)⟩ = p.right[m] := by
      rw [aft_some (p := p) (by show g.prods[(n : Int).toNat]? = _; rw [Int.toNat_natCast]; exact hp)]
      show p.right.getD (m : Int).toNat (-1) = _
      rw [Int.toNat_natCast]
      simp [hlt]
    have hsy := hc.sym hpm (List.getElem_mem hlt)
    obtain ⟨j, r, h1, h2, h3⟩ := edge_of hc hA hq hy hs (by omega)
    have h4 : ClM g r.1.2 ⟨(n : Int), ((m + 1 : Nat) : Int)⟩ := .base (by simpa using h3)
    obtain ⟨j', r', e1, e2, e3⟩ := walk_right hc hA hp d (m + 1) (by omega) j r h2 h4
    refine ⟨j', r', ?_, e2, e3⟩
    rw [List.drop_eq_getElem_cons hlt, wayN_cons, Int.toNat_natCast, h1]
    exact e1
theorem by_left (hc : ClosedP g) (hA : AutI g ss) {i : Nat} {q : SQ} (hq : ss[i]? = some q) {n : Nat} {p : ProdT} (hp : g.prods[n]? = some p) (hy : ClM g q.1.2 ⟨(n : Int), 0⟩) : (nxt ss i p.left).isSome = decide (n ≠ 0) := by
  have hc' := hc
  obtain ⟨_, hsy, hpr, p0, hp0, hl0, hr0, _⟩ := hc'
  obtain ⟨hT, hN, hP, hP2, _, hN2⟩ := hc.sizes
  have hdr : ∀ (m : Nat) p', g.prods[m]? = some p' → m ≠ 0 → prodOk g 1 p' := fun m p' hm h0 => by
    refine hpr.2.2.1 p' (List.mem_of_getElem? (i := m - 1) ?_)
    rw [List.getElem?_drop, show 1 + (m - 1) = m by omega]; exact hm
  by_cases h0 : n = 0
  · subst h0
    rw [hp0] at hp; cases hp
    rw [hl0, nxt_kern hA hq (by omega)]
    have hK := (aut_at hA hq).1
    have hf := (bst_inv (g := g) (by omega) i).fit _ (List.mem_of_getElem? hK)
    have : kern g q.1.2 (g.T : Int) = [] := by
      refine Classical.byContradiction fun hne => ?_
      obtain ⟨x, hx⟩ := List.exists_mem_of_ne_nil _ hne
      obtain ⟨y, h1, h2, _⟩ := kern_mem.1 hx
      obtain ⟨p', hp', _, h3⟩ := aft_lt (h1.fit hf) h2 (Int.natCast_nonneg _)
      by_cases h4 : y.prod.toNat = 0
      · rw [h4, hp0] at hp'; cases hp'
        rw [hr0] at h3
        have := List.mem_of_getElem? h3
        rw [List.mem_singleton] at this
        have := hpr.2.2.2.2.1
        omega
      · have := (hdr _ _ hp' h4).2 _ (List.mem_of_getElem? h3)
        unfold symOk at this
        omega
    rw [this]; simp
  · have hpo := hdr n p hp h0
    have hsome : ∃ j : Int, nxt ss i p.left = some j := by
      generalize hz : (⟨(n : Int), 0⟩ : ItemT) = z at hy
      cases hy with
      | base h =>
        subst hz
        cases i with
        | zero =>
          have hK := (aut_at hA hq).1
          have e : q.1.2 = [⟨0, 0⟩] := by
            have : (bst g 0).1[0]? = some [⟨0, 0⟩] := rfl
            rw [this] at hK
            exact (Option.some.inj hK).symm
          rw [e, List.mem_singleton] at h
          have := congrArg ItemT.prod h
          simp at this
          omega
        | succ i =>
          have := (sy_item hc hA (by omega) hq h).2.1
          simp at this
      | step hy' h1 hp' hl' =>
        rename_i y i' p'
        have e : i' = n := by
          have := congrArg ItemT.prod hz
          simp at this
          omega
        subst e
        rw [hp] at hp'; cases hp'
        obtain ⟨j, r, h2, _⟩ := edge_of hc hA hq hy' hl'.symm (by rw [hl']; exact h1)
        exact ⟨j, h2⟩
    obtain ⟨j, hj⟩ := hsome
    rw [hj]
    simp [h0]
end
end Go.V
set_option linter.unusedVariables false
namespace Go.V
section
variable {g : GramT} {ss : List SQ}
theorem bS_no {s : Int} (h0 : 0 ≤ s) (h1 : s < g.T + g.N) : bS g s = false := by
  unfold bS; rw [Bool.or_eq_false_iff]; exact ⟨decide_eq_false (by omega), decide_eq_false (by omega)⟩
theorem bS_right (hc : ClosedP g) {p : ProdT} (hp : p ∈ g.prods) : p.right.any (bS g) = false := by
  refine Bool.eq_false_iff.2 fun h => ?_
  obtain ⟨s, hs, h2⟩ := List.any_eq_true.1 h
  have := hc.sym hp hs
  rw [bS_no (by omega) (by omega)] at h2
  cases h2
theorem bS_left (hc : ClosedP g) {n : Nat} {p : ProdT} (hp : g.prods[n]? = some p) : bS g p.left = false := by
  have hl := hc.left (List.mem_of_getElem? hp)
  obtain ⟨_, _, _, _, _, hN2⟩ := hc.sizes
  refine bS_no (by omega) ?_
  obtain ⟨_, _, h2, p0, hp0, hl0, _⟩ := hc
  cases n with
  | zero => rw [hp0] at hp; cases hp; omega
  | succ n =>
    have hm : p ∈ g.prods.drop 1 := by
      refine List.mem_of_getElem? (i := n) ?_
      rw [List.getElem?_drop, Nat.add_comm]; exact hp
    exact (h2.2.2.1 p hm).1.2.1
theorem rdIt_getR {h : Hp} {xs : List ItemT} {a : Option Addr} {l : Nat} (r : rdS h xs a l) {i : Nat} (hi : i < l) : ∃ x ad, xs[i]? = some x ∧ a = some ad ∧ rowH h (ad.add (mulS i 2)) (encT x) := by
  obtain ⟨x, ad, vs, hx, ha, hr, e⟩ := r.get hi
  rw [show vs = encT x from e] at hr
  exact ⟨x, ad, hx, ha, hr⟩
theorem wlk_ok0 {i : Nat} {row : List Int} (hi : i < ss.length) (hb : row.any (bS g) = false) : wlk g ss 0 (i : Int) row = (wayN ss i row, 0) := by
  unfold wlk
  rw [if_neg (by simp), if_neg (by rw [hb]; rintro (h | h | h) <;> first | omega | cases h)]
theorem rights (hc : ClosedP g) (hA : AutI g ss) {i : Nat} {q : SQ} (hq : ss[i]? = some q) {y : ItemT} (hy : y ∈ cls g q.1.2) (hd : ¬0 < y.dot) (h0 : ¬y.prod < 0) (hl : ¬(g.prods.length : Int) ≤ y.prod) : ∃ (n : Nat) (p : ProdT) (j : Nat) (r : SQ), y.prod = n ∧ n < g.prods.length ∧ g.prods[n]? = some p ∧
    wlk g ss 0 (i : Int) p.right = ((j : Int), 0) ∧ j < ss.length ∧ ss[j]? = some r ∧ (⟨(n : Int), (p.right.length : Int)⟩ : ItemT) ∈ cls g r.1.2 ∧ ∃ b : Int, wlk g ss 0 (i : Int) [p.left] = (b, 0) ∧ (decide (b < 0) = decide ((n : Int) = 0)) := by
  have hil := (List.getElem?_eq_some_iff.1 hq).1
  obtain ⟨n, hn⟩ : ∃ n : Nat, y.prod = n := ⟨y.prod.toNat, by omega⟩
  have hnl : n < g.prods.length := by omega
  obtain ⟨p, hp⟩ : ∃ p, g.prods[n]? = some p := ⟨_, List.getElem?_eq_getElem hnl⟩
  obtain ⟨hT, hN, hP, hP2, _, _⟩ := hc.sizes
  have hK := (aut_at hA hq).1
  have hf := (bst_inv (g := g) (by omega) i).fit _ (List.mem_of_getElem? hK)
  have hc1 : ClM g q.1.2 y := cls_mem.1 hy
  have hfy := hc1.fit hf
  have hd0 : y.dot = 0 := by have := hfy.2.1; omega
  have hye : y = ⟨(n : Int), 0⟩ := by cases y; simp at *; exact ⟨hn, hd0⟩
  rw [hye] at hc1
  obtain ⟨j, r, e1, e2, e3⟩ := walk_right hc hA hp p.right.length 0 (by omega) i q hq (by simpa using hc1)
  rw [List.drop_zero] at e1
  have hb := by_left hc hA hq hp hc1
  refine ⟨n, p, j, r, hn, hnl, hp, by rw [wlk_ok0 hil (bS_right hc (List.mem_of_getElem? hp)), e1], (List.getElem?_eq_some_iff.1 e2).1, e2, cls_mem.2 e3, wayN ss i [p.left], wlk_ok0 hil (by simp [bS_left hc hp]), ?_⟩
  unfold wayN
  rw [Int.toNat_natCast]
  cases hx : nxt ss i p.left with
  | none =>
    rw [hx] at hb
    have : n = 0 := by simpa using hb
    subst this; simp
  | some t =>
    rw [hx] at hb
    have hn0 : n ≠ 0 := by simpa using hb
    have := nxt_pos hc hA hx
    show decide (t < 0) = _
    rw [decide_eq_false (by omega), decide_eq_false (by omega)]
end
end Go.V
namespace Go.Proofs.Ytkmjjnjngcpjmaa
open Go.V
variable {w : World} {L : List Asn} {g : GramT} {x : GA} {st : Int}
set_option maxHeartbeats 4000000 in
theorem l_TransRights (hg : gR (hp w) g x) (hb : okG g) (hst : anyI st) : Run Try.prog n_presagelaw10_TransRights [.agg ⟨x.cells⟩, .int .i64 st] w fun v w' => v = .bool true ∧ Gr w w' := by
  refine run_presagelaw10_TransRights _ _ _ _ _ _ _ _ _ _ _ _ _ _ w _ (gbox hg fun k1 w1 gw hg B => l_awake10.mono ?_)
  rintro _ w2 ⟨rfl, g2⟩
  refine ⟨_, rfl, _, _, _, _, _, _, _, _, _, _, _, _, _, B.row g2, (y_BuildR (hg.mono g2) hb).mono ?_⟩
  rintro _ w3 ⟨o, c, ss, ask, int, f, rfl, hR, h3⟩
  have g23 : Gr w2 w3 := rdH 3 h3.l
  have hs : stRd (hp w3) ss o := stRd_of h3.l
  clear h3
  refine ⟨_, _, _, _, _, _, rfl, newC_i (St.all w3) fun k12 w4 h => stR_i h rfl (by simp [oneC]) fun w5 h => ?_⟩
  have g35 : Gr w3 w5 := h.gone1
  have r12 : rowH (hp w5) (aM k12) [.slice o ss.length c, .int .i64 ask, .int .i64 int] := rdCel 0 h.l
  clear h
  have hs := hs.mono g35
  have g15 : Gr w1 w5 := g2.trans (g23.trans g35)
  have gw5 := gw.trans g15
  refine br_intro (fun h1 => ?_) fun h1 => ?_
  · have h1 : f ≠ 0 := by simpa using h1
    refine ⟨_, _, _, _, _, _, _, _, _, _, _, _, _, B.row g15, (y_trList (hg.mono g15) hb).mono ?_⟩
    rintro _ w6 ⟨ss2, ask2, int2, f2, o2, c2, rfl, hR2, h⟩
    obtain ⟨_, _, _, _, rfl, _⟩ := hR.one hR2
    exact ⟨_, _, _, _, rfl, br_t rfl ⟨by simp, gw5.trans h.gone1⟩⟩
  have h1 : f = 0 := by simpa using h1
  subst h1
  obtain ⟨hc, hA⟩ := hR.aut rfl
  have hpos := hA.pos
  obtain ⟨hT, hN, hP, hP2, _, _⟩ := hc.sizes
  have hkl := hA.klen hc
  have h256 := hA.dn.2.1
  refine ⟨_, _, _, r12.cell0 (sub.refl _), br_f (beq_eq_false_iff_ne.2 (by omega)) ?_⟩
  refine ⟨fun z w' => 0 ≤ z ∧ w' = w5, br_intro (fun h2 => ?_) fun h2 => ⟨by have := of_decide_eq_false h2; omega, rfl⟩, ?_⟩
  · have h2 := of_decide_eq_true h2
    obtain ⟨s1, s2⟩ := hst
    exact ⟨⟨by omega, by omega⟩, ⟨by omega, by omega⟩, by omega, rfl⟩
  rintro _ z w7 ⟨hz, e7⟩
  rw [e7]
  refine ⟨_, _, _, r12.cell0 (sub.refl _), by show ((ss.length : Int)) ≠ 0; omega, ?_⟩
  obtain ⟨n, hn, hnl⟩ : ∃ n : Nat, Int.tmod z (ss.length : Int) = n ∧ n < ss.length := by
    have e : Int.tmod z (ss.length : Int) = z % (ss.length : Int) := Int.tmod_eq_emod_of_nonneg hz
    have h1 := Int.emod_nonneg z (show (ss.length : Int) ≠ 0 by omega)
    have h2 := Int.emod_lt_of_pos z (show (0 : Int) < (ss.length : Int) by omega)
    exact ⟨(z % (ss.length : Int)).toNat, by rw [e]; omega, by omega⟩
  rw [hn]
  obtain ⟨q, hq⟩ : ∃ q, ss[n]? = some q := ⟨_, List.getElem?_eq_getElem hnl⟩
  have hKf : ∀ {i : Nat} {r : SQ}, ss[i]? = some r → fitsB g r.1.2 := fun {i r} hr => (bst_inv (g := g) (by omega) i).fit _ (List.mem_of_getElem? (aut_at hA hr).1)
  have hR0 : ∀ {i : Nat} {r : SQ}, ss[i]? = some r → clsR g r.1.2 = cls g r.1.2 := fun hr => by unfold clsR; rw [if_pos ⟨hc, hKf hr⟩]
  have hE0 : ∀ {i : Nat} {r : SQ}, ss[i]? = some r → clsE g r.1.2 = 0 := fun hr => by unfold clsE; rw [if_pos ⟨hc, hKf hr⟩]
  have hcl : ∀ {i : Nat} {r : SQ}, ss[i]? = some r → (cls g r.1.2).length ≤ 29197 := fun {i r} hr => by
    have h1 := cls_len g r.1.2
    have h2 := (hkl r (List.mem_of_getElem? hr)).1
    omega
  have zK : ∀ {i : Nat} {r : SQ}, ss[i]? = some r → (r.1.2.length + 98) * 16 ≤ 140737488355328 := fun {i r} hr => by have := (hkl r (List.mem_of_getElem? hr)).1; omega
  obtain ⟨ad, rfl, rs, rk, re⟩ := hs n q hq
  intro w8 hd
  have g8 : Gr w5 w8 := Gr.drawn hd
  have g18 := g15.trans g8
  refine ⟨fun u => Gr w8 u, Gr.refl _, _, _, _, _, _, _, _, _, _, _, _, _, _, fun u s => B.row (g18.trans s), _, _, _, fun u s => r12.cell0 (g8.trans s), idx_n rfl hnl ⟨_, _, _, fun u s => rs.cell0 (g8.trans s), (y_ClosureR (hg.mono g18) hb (rk.mono g8) (zK hq)).mono ?_⟩⟩
  rintro _ w12 ⟨o19, c19, rfl, h⟩
  have g812 : Gr w8 w12 := h.gone1
  have g512 := g8.trans g812
  have rI := own_rdI2 h
  clear h
  rw [hR0 hq] at rI
  rw [hR0 hq, hE0 hq]
  refine ⟨_, _, _, _, rfl, g812, br_f rfl ?_⟩
  have hCl := hcl hq
  have hmem : ∀ {k : Nat} {y : ItemT}, (cls g q.1.2)[k]? = some y → y ∈ cls g q.1.2 := fun h => List.mem_of_getElem? h
  obtain ⟨C, hC⟩ : ∃ C, C = cls g q.1.2 := ⟨_, rfl⟩
  rw [← hC] at rI hCl hmem ⊢
  refine ⟨fun z w' => ∃ k : Nat, z = k ∧ k ≤ C.length ∧ Gr w12 w', fun z _ => C.length - z.toNat, ⟨0, rfl, Nat.zero_le _, Gr.refl _⟩, ?_⟩
  rintro _ _ w13 ⟨k, rfl, hk, g13⟩
  have hk1 : inI ((k : Int) + 1) := ⟨by omega, by omega⟩
  refine br_intro (fun h2 => ?_) fun h2 => ?_
  rotate_left
  · exact ⟨rfl, gw5.trans (g512.trans g13)⟩
  have h2 : k < C.length := by have := of_decide_eq_true h2; omega
  obtain ⟨y, yad, hy, hya, ry⟩ := rdIt_getR rI h2
  subst hya
  intro w14 hd2
  have g14 : Gr w12 w14 := g13.trans (Gr.drawn hd2)
  have next : ∀ {w' : World}, Gr w12 w' → inI ((k : Int) + 1) ∧ (∃ k' : Nat, (k : Int) + 1 = k' ∧ k' ≤ C.length ∧ Gr w12 w') ∧ C.length - ((k : Int) + 1).toNat < C.length - (k : Int).toNat := fun g => ⟨hk1, ⟨k + 1, by simp, h2, g⟩, msr h2⟩
  have g514 := g512.trans g14
  refine ⟨fun u => Gr w14 u, Gr.refl _, idx_n rfl h2 ⟨_, fun u s => ry.cell (g14.trans s) (j := 1) rfl, br_intro (fun _ => next g14) fun h3 => idx_n rfl h2 ⟨_, fun u s => ry.cell0 (g14.trans s), br_intro (fun _ => next g14) fun h4 => idx_n rfl h2 ⟨_, fun u s => ry.cell0 (g14.trans s), _, _, _, fun u s => B.c4 (g15.trans (g514.trans s)), br_intro (fun _ => next g14) fun h5 => ?_⟩⟩⟩⟩
  have pl := hg.p.1
  obtain ⟨m, p, j, r, hm, hml, hpg, hw1, hj, hr, hin, b, hw2, hbn⟩ := rights hc hA hq (hC ▸ hmem hy) (of_decide_eq_false h3) (of_decide_eq_false h4) (by have := of_decide_eq_false h5; omega)
  obtain ⟨p', pad, pvs, hp1, hpa, hp2, ra, rl, rc, rfl, hrc, hp3⟩ := hg.p.get (i := m) (by omega)
  rw [hpg] at hp1; cases hp1
  have hpm := List.mem_of_getElem? hpg
  have b7 := hb.2.2.2.2.2.2 p hpm
  have rl1 := hp3.1
  intro w19 hd3
  have g19 : Gr w12 w19 := g14.trans (Gr.drawn hd3)
  have g119 := g15.trans (g512.trans g19)
  refine ⟨fun u => Gr w19 u, Gr.refl _, _, _, _, fun u s => B.c4 (g119.trans s), idx_n rfl h2 ⟨_, fun u s => ry.cell0 (g19.trans s), ?_⟩⟩
  rw [hm]
  refine idx_n hpa (by omega) ⟨_, _, _, _, _, fun u s => hp2.at (g119.trans s) rfl, newC_i (St.all w19) fun k47 w23 h => ⟨h.gone1, stR_i h rfl (by simp [oneC]) fun w24 h => ?_⟩⟩
  have r47 : rowH (hp w24) (aM k47) [.int .i64 p.left, .slice ra rl rc, .int .i64 p.level] := rdCel 0 h.l
  have g1924 : Gr w19 w24 := h.gone1
  clear h
  have g24 : Gr w12 w24 := g19.trans g1924
  have g124 := g119.trans g1924
  refine ⟨_, _, _, _, _, _, _, _, _, _, _, _, _, B.row g124, _, _, _, r47.cell (sub.refl _) (j := 1) rfl, (y_trWalk (fr := (n : Int)) (hg.mono g124) hb (hp3.mono g124) (by omega)).mono ?_⟩
  rintro _ w25 ⟨ss2, ask2, int2, f2, rfl, hR2, g2425⟩
  obtain ⟨_, hes2, _, _, rfl, _⟩ := hR.one hR2
  rw [← wlk_es hes2, hw1]
  have g125 := g124.trans g2425
  have g525 := g512.trans (g24.trans g2425)
  refine ⟨_, _, rfl, fun b w' => b = false ∧ w' = w25, br_f rfl (br_f (decide_eq_false (by omega)) ⟨_, _, _, r12.cell0 g525, decide_eq_false (by omega), rfl⟩), ?_⟩
  rintro _ b2 w26 ⟨rfl, rfl⟩
  refine br_f rfl ?_
  intro w27 hd4
  have g2427 : Gr w24 w27 := g2425.trans (Gr.drawn hd4)
  have g127 := g124.trans g2427
  have g527 := g512.trans (g24.trans g2427)
  obtain ⟨ad2, e2, rs2, rk2, _⟩ := hs j r hr
  cases e2
  refine ⟨fun u => Gr w27 u, Gr.refl _, _, _, _, _, _, _, _, _, _, _, _, _, _, fun u s => B.row (g127.trans s), _, _, _, fun u s => r12.cell0 (g527.trans s), idx_n rfl hj ⟨_, _, _, fun u s => rs2.cell0 (g527.trans s), (y_ClosureR (hg.mono g127) hb (rk2.mono g527) (zK hr)).mono ?_⟩⟩
  rintro _ w31 ⟨o35, c35, rfl, h⟩
  have g2731 : Gr w27 w31 := h.gone1
  have rJ := own_rdI2 h
  clear h
  have hDl := hcl hr
  rw [hR0 hr] at rJ
  rw [hR0 hr, hE0 hr]
  obtain ⟨D, hD⟩ : ∃ D, D = cls g r.1.2 := ⟨_, rfl⟩
  rw [← hD] at rJ hDl hin ⊢
  have g2431 := g2427.trans g2731
  refine ⟨_, _, _, _, rfl, g2731, fun b z w' => ∃ i : Nat, z = i ∧ i ≤ D.length ∧ (b = true ↔ (⟨(m : Int), (p.right.length : Int)⟩ : ItemT) ∈ D.take i) ∧ Gr w31 w', fun _ z _ => D.length - z.toNat, ⟨0, rfl, Nat.zero_le _, by simp, Gr.refl _⟩, ?_⟩
  rintro _ b3 _ w32 ⟨i, rfl, hi, hbi, g32⟩
  have hi1 : inI ((i : Int) + 1) := ⟨by omega, by omega⟩
  refine br_intro (fun h6 => ?_) fun h6 => ?_
  · have h6 : i < D.length := by have := of_decide_eq_true h6; omega
    obtain ⟨z, zad, hz', hza, rz⟩ := rdIt_getR rJ h6
    subst hza
    intro w33 hd5
    have g33 : Gr w31 w33 := g32.trans (Gr.drawn hd5)
    have g2433 := g2431.trans g33
    refine ⟨fun u => Gr w33 u, Gr.refl _, br_intro (fun h7 => ?_) fun h7 => ?_⟩
    · refine ⟨hi1, ⟨i + 1, by simp, h6, ?_, g33⟩, msr h6⟩
      rw [List.take_add_one, List.mem_append]
      exact ⟨fun _ => .inl (hbi.1 h7), fun _ => rfl⟩
    · refine idx_n rfl h6 ⟨_, _, fun u s => rz.at (g33.trans s) rfl, idx_n rfl h2 ⟨_, fun u s => ry.cell0 (g24.trans (g2433.trans s)), _, _, _, fun u s => r47.cell (g2433.trans s) (j := 1) rfl, .bool (decide (z = (⟨(m : Int), (rl : Int)⟩ : ItemT))), ?_, decide (z = (⟨(m : Int), (rl : Int)⟩ : ItemT)), rfl, hi1, ⟨i + 1, by simp, h6, ?_, g33⟩, msr h6⟩⟩
      · intro u _
        rw [hm]
        exact eqItem u _ _ z ⟨(m : Int), (rl : Int)⟩
      · rw [List.take_add_one, hz', List.mem_append, decide_eq_true_eq, ← rl1]
        have hno : (⟨(m : Int), (p.right.length : Int)⟩ : ItemT) ∉ D.take i := fun hm => by rw [hbi.2 hm] at h7; cases h7
        simp [hno, eq_comm]
  have h6 : i = D.length := by have := of_decide_eq_false h6; omega
  rw [h6, List.take_length] at hbi
  rw [hbi.2 hin]
  have g2432 := g2431.trans g32
  have g132 := g124.trans g2432
  refine ⟨_, _, _, _, _, _, _, _, _, _, _, _, _, B.row g132, _, r47.cell0 g2432, newC_i (St.all w32) fun k84 w38 h => ?_⟩
  have g3238 : Gr w32 w38 := h.gone1
  have r84 : rdS (hp w38) ([p.left] : List Int) (some (aM k84)) 1 := rdI_of rfl (.inr ⟨_, rfl, rdCel 0 h.l⟩)
  clear h
  refine (y_trWalk (fr := (n : Int)) (hg.mono (g132.trans g3238)) hb r84 (by decide)).mono ?_
  rintro _ w39 ⟨ss3, ask3, int3, f3, rfl, hR3, g3839⟩
  obtain ⟨_, hes3, _, _, rfl, _⟩ := hR.one hR3
  rw [← wlk_es hes3, hw2]
  have g39 : Gr w12 w39 := g24.trans (g2432.trans (g3238.trans g3839))
  refine ⟨_, _, rfl, br_f rfl (br_f rfl (br_f rfl (idx_n rfl h2 ⟨_, ry.cell0 g39, br_f ?_ (next g39)⟩)))⟩
  show (!(decide (b < 0) == (y.prod == 0))) = false
  rw [hbn, hm]
  by_cases h0 : (m : Int) = 0
  · rw [h0]; rfl
  · rw [beq_eq_false_iff_ne.2 h0, decide_eq_false h0]; rfl
end Go.Proofs.Ytkmjjnjngcpjmaa
set_option linter.unusedVariables false
namespace Go.V
open Go.RowKit Go.WideShapes Go.ChangeShapes
theorem cellH_of {w : World} {a : Addr} {v : Value} (h : w.cell? a = some v) : cellH (hp w) a = some v := by
  unfold World.cell? at h
  unfold cellH hp
  cases ho : w.heap[a.block]? with
  | none => rw [ho] at h; cases h
  | some o => rw [ho] at h; cases o <;> first | exact h | cases h
theorem mapM_get' {α β : Type} {f : α → Option β} : ∀ {l : List α} {r : List β}, l.mapM f = some r → r.length = l.length ∧ ∀ (i : Nat) (a : α) (b : β), l[i]? = some a → r[i]? = some b → f a = some b
  | [], r, h => by
    simp at h; subst h; exact ⟨rfl, fun i a b ha => by simp at ha⟩
  | x :: l, r, h => by
    simp only [List.mapM_cons, Option.bind_eq_bind, Option.bind_eq_some_iff, Option.pure_def, Option.some.injEq] at h
    obtain ⟨b, hb, r', hr', rfl⟩ := h
    obtain ⟨h1, h2⟩ := mapM_get' hr'
    refine ⟨by simp [h1], fun i a b' ha hb' => ?_⟩
    cases i with
    | zero => simp at ha hb'; subst ha; subst hb'; exact hb
    | succ i => exact h2 i a b' (by simpa using ha) (by simpa using hb')
theorem cells_row {w : World} {base n : Nat} {a : Addr} {vs : List Value} (h : w.cells? base a n = some vs) : rowH (hp w) a vs := by
  unfold World.cells? at h
  split at h
  · obtain ⟨h1, h2⟩ := mapM_get' h
    intro j v hj
    have hlt := (List.getElem?_eq_some_iff.1 hj).1
    rw [h1, List.length_range] at hlt
    exact cellH_of (h2 j j v (by simp [hlt]) hj)
  · cases h
theorem weightsAll_get {H : Type} {P : Program} {e : TypeId} {N : Nat} : ∀ {l : List (DataW H)}, (DataW.weightsAll P e l).all (· ≤ N) = true → ∀ d ∈ l, (d.weights P e).all (· ≤ N) = true
  | [], _, d, hd => by simp at hd
  | x :: l, h, d, hd => by
    rw [DataW.weightsAll, List.all_append, Bool.and_eq_true] at h
    rcases List.mem_cons.1 hd with rfl | hd
    · exact h.1
    · exact weightsAll_get h.2 d hd
theorem weightsEach_get {H : Type} {P : Program} {N : Nat} : ∀ {ts : List TypeId} {l : List (DataW H)}, (DataW.weightsEach P ts l).all (· ≤ N) = true → ∀ (i : Nat) t d, ts[i]? = some t → l[i]? = some d → (d.weights P t).all (· ≤ N) = true
  | [], l, _, i, t, d, ht, _ => by simp at ht
  | _ :: _, [], _, i, t, d, _, hd => by simp at hd
  | t0 :: ts, x :: l, h, i, t, d, ht, hd => by
    rw [DataW.weightsEach, List.all_append, Bool.and_eq_true] at h
    cases i with
    | zero => simp at ht hd; subst ht; subst hd; exact h.1
    | succ i => exact weightsEach_get h.2 i t d (by simpa using ht) (by simpa using hd)
def Opn (P : Program) (α : Type) [Rep α] (bd : α → Prop) (t : TypeId) : Prop :=
  ∀ {H : Type} (enc : TypeId × Value → H) (W : World) (n : Nat) (cs : List Value) (x : DataW H × List MemPlace), DataW.trod enc P W 0 (fun _ => true) true n t cs = some x → (x.1.weights P t).all (· ≤ reachBytes) = true → ∃ y : α, rd (hp W) y cs ∧ bd y
def anyS : ByteArray → Prop := fun s => s.size ≤ reachBytes
def anyL {α : Type} (bytes : Nat) (bd : α → Prop) : List α → Prop := fun xs => xs.length * bytes ≤ reachBytes ∧ ∀ x ∈ xs, bd x
section
variable {P : Program} {t e : TypeId}
theorem opn_int (ht : P.underlying t = some (.int .i64)) : Opn P Int anyI t := by
  intro H enc W n cs x h hw
  obtain ⟨z, rfl, _, hwf⟩ := DataW.trod_int ht h
  refine ⟨z, rfl, ?_⟩
  have : IntKind.i64.min ≤ z ∧ z ≤ IntKind.i64.max := by simpa [Lit.wf] using hwf
  exact this
theorem opn_str (ht : P.underlying t = some .string) : Opn P ByteArray anyS t := by
  intro H enc W n cs x h hw
  obtain ⟨z, rfl, rfl, _⟩ := DataW.trod_string ht h
  refine ⟨z, rfl, ?_⟩
  simpa [DataW.weights, anyS] using hw
theorem opn_slice {α : Type} [Rep α] {bd : α → Prop} {bb : Nat} (ht : P.underlying t = some (.slice e)) (hc : P.cellsOf e = Rep.n α) (hb : P.bytesOf e = bb) (he : Opn P α bd e) : Opn P (List α) (anyL bb bd) t := by
  intro H enc W n cs x h hw
  rcases DataW.trod_slice ht h with ⟨rfl, rfl⟩ | ⟨a, len, cap, elems, rest, m, rfl, rfl, rfl, _, hlc, hcm, hel, hg, _, _⟩
  · exact ⟨[], ⟨none, 0, 0, rfl, Nat.le_refl _, rdS.nil⟩, by simp [reachBytes], fun x hx => by simp at hx⟩
  · simp only [DataW.weights, ht, List.all_cons, List.all_append, Bool.and_eq_true, decide_eq_true_eq, List.length_map] at hw
    obtain ⟨hw1, hw2, _⟩ := hw
    have key : ∀ k, k ≤ len → ∃ ys : List α, ys.length = k ∧ (∀ i y, ys[i]? = some y → ∃ vs, rowH (hp W) (a.add (mulS i (Rep.n α))) vs ∧ rd (hp W) y vs) ∧ ∀ y ∈ ys, bd y := by
      intro k
      induction k with
      | zero => exact fun _ => ⟨[], rfl, fun i y hy => by simp at hy, fun y hy => by simp at hy⟩
      | succ k ih =>
        intro hk
        obtain ⟨ys, h1, h2, h3⟩ := ih (by omega)
        have hgk := hg k (by omega)
        obtain ⟨d, hd⟩ : ∃ d, elems[k]? = some d := ⟨elems[k]'(by omega), List.getElem?_eq_getElem _⟩
        rw [hd, Option.bind_eq_some_iff] at hgk
        obtain ⟨vs, hv1, hv2⟩ := hgk
        obtain ⟨y, hy1, hy2⟩ := he enc W m vs d hv2 (weightsAll_get hw2 _ (by
          have := List.mem_of_getElem? hd
          exact List.mem_map_of_mem this))
        refine ⟨ys ++ [y], by simp [h1], fun i z hz => ?_, fun z hz => ?_⟩
        · by_cases hi : i < k
          · rw [List.getElem?_append_left (by omega)] at hz
            exact h2 i z hz
          · have : i = k := by
              have := (List.getElem?_eq_some_iff.1 hz).1
              simp at this; omega
            subst this
            rw [List.getElem?_append_right (by omega), h1, Nat.sub_self] at hz
            cases hz
            refine ⟨vs, ?_, hy1⟩
            rw [mulS_eq, ← hc]
            exact cells_row hv1
        · rcases List.mem_append.1 hz with hz | hz
          · exact h3 z hz
          · simp at hz; subst hz; exact hy2
    obtain ⟨ys, h1, h2, h3⟩ := key len (Nat.le_refl _)
    refine ⟨ys, ⟨some a, len, cap, rfl, hlc, h1, fun i y hy => ?_⟩, ?_, h3⟩
    · obtain ⟨vs, h4, h5⟩ := h2 i y hy
      exact ⟨a, vs, rfl, h4, h5⟩
    · rw [h1, ← hb, ← hel]
      exact Nat.le_trans (Nat.mul_le_mul_right _ (Nat.le_add_right _ _)) hw1
theorem opn_struct {fs : Array Field} (ht : P.underlying t = some (.struct fs)) {H : Type} {enc : TypeId × Value → H} {W : World} {n : Nat} {cs : List Value} {x : DataW H × List MemPlace} (h : DataW.trod enc P W 0 (fun _ => true) true n t cs = some x) (hw : (x.1.weights P t).all (· ≤ reachBytes) = true) :
    cs.length = P.cellsOf t ∧ ∀ (i : Nat) (f : Field) (ty k o : Nat), fs[i]? = some f → P.cellsOf ty = k → f.type = ty → f.offset = o → ∃ (m : Nat) (d : DataW H × List MemPlace), DataW.trod enc P W 0 (fun _ => true) true m ty ((cs.drop o).take k) = some d ∧ (d.1.weights P ty).all (· ≤ reachBytes) = true := by
  obtain ⟨xs, m, rfl, rfl, hl, hxs, hf⟩ := DataW.trod_struct ht h
  refine ⟨hl, ?_⟩
  rintro i f _ _ _ hi rfl rfl rfl
  have hlt := (Array.getElem?_eq_some_iff.1 hi).1
  obtain ⟨d, hd⟩ : ∃ d, xs[i]? = some d := ⟨xs[i]'(by omega), List.getElem?_eq_getElem _⟩
  refine ⟨m, d, by rw [hf i f hi, hd], ?_⟩
  simp only [DataW.weights, ht] at hw
  exact weightsEach_get hw i f.type d.1 (by simp [hi]) (by simp [hd])
theorem opn_arg {α : Type} [Rep α] {bd : α → Prop} (ho : Opn P α bd t) {H : Type} {enc : TypeId × Value → H} {W : World} {v : Value} {d : DataW H} {ps : List MemPlace} (h : DataW.Trod enc P W 0 (fun _ => true) true t v d ps)
    (hw : (d.weights P t).all (· ≤ reachBytes) = true) : ∃ y : α, rd (hp W) y v.cells.toList ∧ bd y := by
  obtain ⟨n, h⟩ := h
  exact ho enc W n _ _ h hw
theorem arg_int {H : Type} {enc : TypeId × Value → H} {W : World} {b : Nat} {v : Value} {d : DataW H} {ps : List MemPlace} (ht : P.underlying t = some (.int .i64)) (hval : Value.okWide P W .any b t v) (h : DataW.Trod enc P W 0 (fun _ => true) true t v d ps) : ∃ x : Int, v = .int .i64 x ∧ anyI x := by
  obtain ⟨n, rfl, _, _, hwf⟩ := open_int ht hval h
  refine ⟨n, rfl, ?_⟩
  have : IntKind.i64.min ≤ n ∧ n ≤ IntKind.i64.max := by simpa [Lit.wf] using hwf
  exact this
theorem arg_struct {α : Type} [Rep α] {bd : α → Prop} {fs : Array Field} (ho : Opn P α bd t) (ht : P.underlying t = some (.struct fs)) {H : Type} {enc : TypeId × Value → H} {W : World} {b : Nat} {v : Value} {d : DataW H} {ps : List MemPlace}
    (hval : Value.okWide P W .any b t v) (h : DataW.Trod enc P W 0 (fun _ => true) true t v d ps) (hw : (d.weights P t).all (· ≤ reachBytes) = true) : ∃ (x : α) (cs : List Value), v = .agg ⟨cs⟩ ∧ rd (hp W) x cs ∧ bd x := by
  obtain ⟨x, hr, hb⟩ := opn_arg ho h hw
  simp only [Value.okWide, ht] at hval
  obtain ⟨cs, rfl, _⟩ := hval
  exact ⟨x, cs.toList, rfl, hr, hb⟩
theorem below_of {w w' : World} (h : Ev w w') (g : Gr w w') : Below w.heap.size w w' := by
  refine ⟨h.os, h.tape, h.output, h.size, fun k hk => ?_⟩
  cases ho : w.heap[k]? with
  | none => rw [Array.getElem?_eq_none_iff] at ho; omega
  | some o =>
    by_cases hd : notD o = true
    · have : hp w k = some o := by unfold hp; rw [ho, hidD_not hd]
      exact hidD_some (g k o this)
    · cases o <;> first | exact absurd rfl hd | exact h.dfr _ _ ho
theorem trodAll_below (hl : laidOutB P = true) {H : Type} {enc : TypeId × Value → H} {W W' : World} (hb : Below W.heap.size W W') {sp : Nat → Bool} : ∀ {ts : List TypeId} {vs : List Value} {ds : List (DataW H)} {ps : List MemPlace},
    (ts.all fun t => P.readableRec t && decide (t < P.types.size)) = true → DataW.TrodAll enc P W 0 (fun _ => true) true ts vs ds ps → (∀ x ∈ ps, x.block < W.heap.size) → (∀ x ∈ ps, sp x.block = true) →
    DataW.TrodAll enc P W' 0 sp true ts vs ds ps
  | [], [], [], ps, _, h, _, _ => h
  | [], _ :: _, _, _, _, h, _, _ => h.elim
  | [], [], _ :: _, _, _, h, _, _ => h.elim
  | _ :: _, [], _, _, _, h, _, _ => h.elim
  | _ :: _, _ :: _, [], _, _, h, _, _ => h.elim
  | t :: ts, v :: vs, d :: ds, ps, ht, h, hlt, hsp => by
    obtain ⟨p, q, h1, h2, rfl⟩ := h
    rw [List.all_cons, Bool.and_eq_true, Bool.and_eq_true, decide_eq_true_eq] at ht
    exact ⟨p, q, WideElems.Trod_stays hl ht.1.1 ht.1.2 h1 (fun x hx => hb.same (hlt x (by simp [hx]))) (fun x hx => hsp x (by simp [hx])), trodAll_below hl hb ht.2 h2 (fun x hx => hlt x (by simp [hx])) (fun x hx => hsp x (by simp [hx])), rfl⟩
theorem law_post {H : Type} {enc : TypeId × Value → H} {s : ChangeSpec} {f : Func} {W W' : World} {args : Array Value} {ds gs : List (DataW H)} {before : List MemPlace} {tb : TypeId} (hv : s.vars = []) (hrt : f.resultTypes = #[tb]) (htb : P.underlying tb = some .bool)
    (hsp : s.fn H (ds ++ gs) = { results := [.lit (.bool true)], args := ds }) (hl : laidOutB P = true) (hrd : (f.params.toList.all fun t => P.readableRec t && decide (t < P.types.size)) = true)
    (hW : DataW.Whole enc P f.params.toList s.vars false W args.toList ds gs before) (hE : Ev W W') (hg : Gr W W') : s.post enc P f false true false false W args (.bool true) W' := by
  have hb := below_of hE hg
  have hlt : ∀ p ∈ before, p.block < W.heap.size := fun p hp => hW.lt p hp
  have hold : ∀ p ∈ before, (fun b => decide (b < W.heap.size)) p.block = true := fun p hp => by simpa using hlt p hp
  have hW' := hW
  obtain ⟨p, q, h1, h2, rfl, h3, h4⟩ := hW
  have hq : q = [] := by
    rw [hv] at h2
    cases gs with
    | nil => exact h2
    | cons _ _ => exact h2.elim
  subst hq
  rw [List.append_nil] at *
  have hargs : ∀ sp : Nat → Bool, (∀ x ∈ p, sp x.block = true) → DataW.TrodAll enc P W' 0 sp true f.params.toList args.toList (s.fn H (ds ++ gs)).args p := fun sp hs => by
    rw [hsp]; exact trodAll_below hl hb hrd h1 hlt hs
  have hvars : ∀ sp : Nat → Bool, DataW.TrodVars enc P W' sp s.vars (s.fn H (ds ++ gs)).vars [] := fun sp => by
    rw [hsp, hv]; exact rfl
  have hres : ∀ (b : Nat) (sp : Nat → Bool) (hd : Bool), DataW.TrodAll enc P W' b sp hd f.resultTypes.toList ((Value.bool true).resultList f.resultTypes.size) (s.fn H (ds ++ gs)).results [] := fun b sp hd => by
    rw [hsp, hrt]; exact trodAll_cons_mk (shut_bool htb _) trodAll_mk0
  have hok : ∀ (j : Nat) (t : TypeId) (r : Value), f.resultTypes[j]? = some t → ((Value.bool true).resultList f.resultTypes.size)[j]? = some r → Value.okWide P W' .any 0 t r := ok_one hrt rfl (okWide_bool_mk htb _)
  refine ⟨ds, gs, p, [], p, [], hW', hres _ _ _, hargs _ hold, hvars _, World.keptBut_mono (fun x hx => ⟨hx, ?_⟩) (hb.frame (· ∈ p)), fun _ => ?_⟩
  · exact Or.inr (by simpa using hx)
  · refine ⟨hok, _, _, ([] ++ p) ++ [], ⟨[] ++ p, [], trodAll_append (hargs _ (fun _ _ => rfl)) (hres _ _ _), hvars _, rfl, ?_, ?_⟩, ?_⟩
    · intro b off hp
      have hin : MemPlace.cell b off ∈ p := by simpa using hp
      rw [hb.frozen (hlt _ hin)]
      exact h3 b off hin
    · intro ha; cases ha
    · intro x hx _
      simpa using hx
end
end Go.V
set_option linter.unusedVariables false
namespace Go.Proofs.Ytkmjjnjngcpjmaa
open Go.V Go.RowKit Go.WideShapes Go.ChangeShapes Go.ChangeAt
theorem ownK : ownKnob Try.prog.godebug = none := by kernel_rfl
theorem laidO : laidOutB Try.prog = true := by kernel_rfl
theorem cellsI : Try.prog.cellsOf 3 = 1 := by kernel_rfl
theorem bytesI : Try.prog.bytesOf 3 = 8 := by kernel_rfl
theorem cellsStr : Try.prog.cellsOf 9 = 1 := by kernel_rfl
theorem bytesStr : Try.prog.bytesOf 9 = 16 := by kernel_rfl
theorem cellsS24 : Try.prog.cellsOf 24 = 1 := by kernel_rfl
theorem cellsS22 : Try.prog.cellsOf 22 = 1 := by kernel_rfl
theorem cellsS23 : Try.prog.cellsOf 23 = 1 := by kernel_rfl
theorem cellsS25 : Try.prog.cellsOf 25 = 1 := by kernel_rfl
theorem cellsT : Try.prog.cellsOf 92 = 2 := by kernel_rfl
theorem bytesT : Try.prog.bytesOf 92 = 24 := by kernel_rfl
theorem cellsP : Try.prog.cellsOf 62 = 3 := by kernel_rfl
theorem bytesP : Try.prog.bytesOf 62 = 40 := by kernel_rfl
theorem cellsG : Try.prog.cellsOf 27 = 5 := by kernel_rfl
theorem oInt : Opn Try.prog Int anyI 3 := opn_int Try.underlying3
theorem oInts : Opn Try.prog (List Int) (anyL 8 anyI) 24 := opn_slice Try.underlying24 cellsI bytesI oInt
theorem oStr : Opn Try.prog ByteArray anyS 9 := opn_str Try.underlying9
theorem oStrs : Opn Try.prog (List ByteArray) (anyL 16 anyS) 23 := opn_slice Try.underlying23 cellsStr bytesStr oStr
theorem oTerm : Opn Try.prog TermT (fun t => anyS t.name ∧ anyI t.level) 92 := by
  intro H enc W n cs x h hw
  obtain ⟨hl, hf⟩ := opn_struct Try.underlying92 h hw
  rw [cellsT] at hl
  obtain ⟨_, _, t0, w0⟩ := hf 0 _ 9 1 0 rfl cellsStr rfl rfl
  obtain ⟨_, _, t1, w1⟩ := hf 1 _ 3 1 1 rfl cellsI rfl rfl
  obtain ⟨y0, r0, b0⟩ := oStr enc W _ _ _ t0 w0
  obtain ⟨y1, r1, b1⟩ := oInt enc W _ _ _ t1 w1
  match cs, hl with
  | [c0, c1], _ =>
    have e0 : [c0] = [.string y0] := r0
    have e1 : [c1] = [.int .i64 y1] := r1
    cases e0; cases e1
    exact ⟨⟨y0, y1⟩, rfl, b0, b1⟩
theorem oTerms : Opn Try.prog (List TermT) (anyL 24 fun t => anyS t.name ∧ anyI t.level) 22 := opn_slice Try.underlying22 cellsT bytesT oTerm
theorem oProd : Opn Try.prog ProdT (fun p => anyI p.left ∧ anyL 8 anyI p.right ∧ anyI p.level) 62 := by
  intro H enc W n cs x h hw
  obtain ⟨hl, hf⟩ := opn_struct Try.underlying62 h hw
  rw [cellsP] at hl
  obtain ⟨_, _, t0, w0⟩ := hf 0 _ 3 1 0 rfl cellsI rfl rfl
  obtain ⟨_, _, t1, w1⟩ := hf 1 _ 24 1 1 rfl cellsS24 rfl rfl
  obtain ⟨_, _, t2, w2⟩ := hf 2 _ 3 1 2 rfl cellsI rfl rfl
  obtain ⟨y0, r0, b0⟩ := oInt enc W _ _ _ t0 w0
  obtain ⟨y1, ⟨a, l, c, r1, hlc, r1'⟩, b1⟩ := oInts enc W _ _ _ t1 w1
  obtain ⟨y2, r2, b2⟩ := oInt enc W _ _ _ t2 w2
  match cs, hl with
  | [c0, c1, c2], _ =>
    have e0 : [c0] = [.int .i64 y0] := r0
    have e1 : [c1] = [.slice a l c] := r1
    have e2 : [c2] = [.int .i64 y2] := r2
    cases e0; cases e1; cases e2
    exact ⟨⟨y0, y1, y2⟩, ⟨a, l, c, rfl, hlc, r1'⟩, b0, b1, b2⟩
theorem oProds : Opn Try.prog (List ProdT) (anyL 40 fun p => anyI p.left ∧ anyL 8 anyI p.right ∧ anyI p.level) 25 := opn_slice Try.underlying25 cellsP bytesP oProd
def okG2 (g : GramT) : Prop := okG g ∧ g.terms.length * 24 ≤ 140737488355328 ∧ g.nons.length * 16 ≤ 140737488355328
theorem oGram : Opn Try.prog GramT okG2 27 := by
  intro H enc W n cs x h hw
  obtain ⟨hl, hf⟩ := opn_struct Try.underlying27 h hw
  rw [cellsG] at hl
  obtain ⟨_, _, t0, w0⟩ := hf 0 _ 22 1 0 rfl cellsS22 rfl rfl
  obtain ⟨_, _, t1, w1⟩ := hf 1 _ 23 1 1 rfl cellsS23 rfl rfl
  obtain ⟨_, _, t2, w2⟩ := hf 2 _ 24 1 2 rfl cellsS24 rfl rfl
  obtain ⟨_, _, t3, w3⟩ := hf 3 _ 3 1 3 rfl cellsI rfl rfl
  obtain ⟨_, _, t4, w4⟩ := hf 4 _ 25 1 4 rfl cellsS25 rfl rfl
  obtain ⟨y0, ⟨a0, l0, c0', r0, k0, q0⟩, b0⟩ := oTerms enc W _ _ _ t0 w0
  obtain ⟨y1, ⟨a1, l1, c1', r1, k1, q1⟩, b1⟩ := oStrs enc W _ _ _ t1 w1
  obtain ⟨y2, ⟨a2, l2, c2', r2, k2, q2⟩, b2⟩ := oInts enc W _ _ _ t2 w2
  obtain ⟨y3, r3, b3⟩ := oInt enc W _ _ _ t3 w3
  obtain ⟨y4, ⟨a4, l4, c4', r4, k4, q4⟩, b4⟩ := oProds enc W _ _ _ t4 w4
  match cs, hl with
  | [c0, c1, c2, c3, c4], _ =>
    have e0 : [c0] = [.slice a0 l0 c0'] := r0
    have e1 : [c1] = [.slice a1 l1 c1'] := r1
    have e2 : [c2] = [.slice a2 l2 c2'] := r2
    have e3 : [c3] = [.int .i64 y3] := r3
    have e4 : [c4] = [.slice a4 l4 c4'] := r4
    cases e0; cases e1; cases e2; cases e3; cases e4
    refine ⟨⟨y0, y1, y2, y3, y4⟩, ⟨⟨a0, l0, c0', a1, l1, c1', a2, l2, c2', y3, a4, l4, c4'⟩, rfl, q0, q1, q2, rfl, q4, k0, k1, k2, k4⟩, ?_⟩
    have z0 := b0.1
    have z1 := b1.1
    have z2 := b2.1
    have z4 := b4.1
    unfold reachBytes at z0 z1 z2 z4
    refine ⟨⟨by show y0.length ≤ _; omega, by show y1.length ≤ _; omega, by show y2.length ≤ _; omega, by show y4.length * 40 ≤ _; omega, fun t ht => ⟨?_, (b0.2 t ht).2⟩, fun s hs => ?_, fun p hp => ?_⟩, by show y0.length * 24 ≤ _; omega, by show y1.length * 16 ≤ _; omega⟩
    · have := (b0.2 t ht).1; unfold anyS reachBytes at this; omega
    · have := b1.2 s hs; unfold anyS reachBytes at this; omega
    · have := (b4.2 p hp).2.1.1; unfold reachBytes at this; omega
theorem cellsRw : Try.prog.cellsOf 29 = 2 := by kernel_rfl
structure RowsT where
  one : List Int
  two : List Int
instance : Rep RowsT := { n := 2, rd := fun h x vs => ∃ (a1 : Option Addr) (l1 c1 : Nat) (a2 : Option Addr) (l2 c2 : Nat), vs = [.slice a1 l1 c1, .slice a2 l2 c2] ∧ rdS h x.one a1 l1 ∧ rdS h x.two a2 l2, mono := fun s ⟨a1, l1, c1, a2, l2, c2, e, h1, h2⟩ => ⟨a1, l1, c1, a2, l2, c2, e, h1.mono s, h2.mono s⟩, len := fun ⟨_, _, _, _, _, _, e, _⟩ => by rw [e]; rfl }
theorem oRows : Opn Try.prog RowsT (fun _ => True) 29 := by
  intro H enc W n cs x h hw
  obtain ⟨hl, hf⟩ := opn_struct Try.underlying29 h hw
  rw [cellsRw] at hl
  obtain ⟨_, _, t0, w0⟩ := hf 0 _ 24 1 0 rfl cellsS24 rfl rfl
  obtain ⟨_, _, t1, w1⟩ := hf 1 _ 24 1 1 rfl cellsS24 rfl rfl
  obtain ⟨y0, ⟨a0, l0, c0', r0, k0, q0⟩, b0⟩ := oInts enc W _ _ _ t0 w0
  obtain ⟨y1, ⟨a1, l1, c1', r1, k1, q1⟩, b1⟩ := oInts enc W _ _ _ t1 w1
  match cs, hl with
  | [c0, c1], _ =>
    have e0 : [c0] = [.slice a0 l0 c0'] := r0
    have e1 : [c1] = [.slice a1 l1 c1'] := r1
    cases e0; cases e1
    exact ⟨⟨y0, y1⟩, ⟨a0, l0, c0', a1, l1, c1', rfl, q0, q1⟩, trivial⟩
theorem bulk_len {H : Type} : ∀ l : List (DataW H), l.length ≤ Rows.uptoBulkAll l
  | [] => Nat.zero_le _
  | d :: r => by
    have h := bulk_len r
    have h1 : 1 ≤ Rows.uptoBulk d := by
      cases d with
      | lit q => cases q <;> simp [Rows.uptoBulk]
      | _ => simp [Rows.uptoBulk]
    simp only [List.length_cons, Rows.uptoBulkAll]
    omega
theorem bulk_mem {H : Type} {d : DataW H} : ∀ {l : List (DataW H)}, d ∈ l → Rows.uptoBulk d ≤ Rows.uptoBulkAll l
  | x :: r, h => by
    simp only [Rows.uptoBulkAll]
    rcases List.mem_cons.1 h with rfl | h
    · omega
    · have := bulk_mem h; omega
theorem struct_bulk {P : Program} {t : TypeId} {fs : Array Field} (ht : P.underlying t = some (.struct fs)) {H : Type} {enc : TypeId × Value → H} {W : World} {n : Nat} {cs : List Value} {x : DataW H × List MemPlace} (h : DataW.trod enc P W 0 (fun _ => true) true n t cs = some x) :
    cs.length = P.cellsOf t ∧ ∀ (i : Nat) (f : Field) (ty k o : Nat), fs[i]? = some f → P.cellsOf ty = k → f.type = ty → f.offset = o → ∃ (m : Nat) (d : DataW H × List MemPlace), DataW.trod enc P W 0 (fun _ => true) true m ty ((cs.drop o).take k) = some d ∧ Rows.uptoBulk d.1 ≤ Rows.uptoBulk x.1 := by
  obtain ⟨xs, m, rfl, rfl, hl, hxs, hf⟩ := DataW.trod_struct ht h
  refine ⟨hl, ?_⟩
  rintro i f _ _ _ hi rfl rfl rfl
  have hlt := (Array.getElem?_eq_some_iff.1 hi).1
  obtain ⟨d, hd⟩ : ∃ d, xs[i]? = some d := ⟨xs[i]'(by omega), List.getElem?_eq_getElem _⟩
  refine ⟨m, d, by rw [hf i f hi, hd], ?_⟩
  have := bulk_mem (List.mem_map_of_mem (f := fun y : DataW H × List MemPlace => y.1) (List.mem_of_getElem? hd))
  simp only [Rows.uptoBulk]
  omega
theorem slice_bulk1 {P : Program} {t e : TypeId} (ht : P.underlying t = some (.slice e)) {H : Type} {enc : TypeId × Value → H} {W : World} {n : Nat} {a : Option Addr} {l c : Nat} {x : DataW H × List MemPlace} (h : DataW.trod enc P W 0 (fun _ => true) true n t [.slice a l c] = some x) :
    l ≤ Rows.uptoBulk x.1 ∧ ∀ i, i < l → ∃ (ad : Addr) (vs : List Value) (m : Nat) (d : DataW H × List MemPlace), a = some ad ∧ rowH (hp W) (ad.add (i * P.cellsOf e)) vs ∧ DataW.trod enc P W 0 (fun _ => true) true m e vs = some d ∧ Rows.uptoBulk d.1 ≤ Rows.uptoBulk x.1 := by
  rcases DataW.trod_slice ht h with ⟨h1, h2⟩ | ⟨a', len, cap, elems, rest, m, _, h1, rfl, _, _, _, hel, hg, _⟩
  · cases h1; exact ⟨Nat.zero_le _, fun i hi => absurd hi (Nat.not_lt_zero _)⟩
  · cases h1
    have h4 := bulk_len (elems.map (·.1))
    rw [List.length_map] at h4
    refine ⟨by simp only [Rows.uptoBulk]; omega, fun i hi => ?_⟩
    have hgi := hg i hi
    obtain ⟨d, hd⟩ : ∃ d, elems[i]? = some d := ⟨elems[i]'(by omega), List.getElem?_eq_getElem _⟩
    rw [hd, Option.bind_eq_some_iff] at hgi
    obtain ⟨vs, hv1, hv2⟩ := hgi
    refine ⟨a', vs, m, d, rfl, cells_row hv1, hv2, ?_⟩
    have := bulk_mem (List.mem_map_of_mem (f := fun y : DataW H × List MemPlace => y.1) (List.mem_of_getElem? hd))
    simp only [Rows.uptoBulk]
    omega
theorem rows_bulk {H : Type} {enc : TypeId × Value → H} {W : World} {n : Nat} {x : DataW H × List MemPlace} {a1 a2 : Option Addr} {l1 c1 l2 c2 : Nat} (h : DataW.trod enc Try.prog W 0 (fun _ => true) true n 29 [.slice a1 l1 c1, .slice a2 l2 c2] = some x) : l1 ≤ Rows.uptoBulk x.1 ∧ l2 ≤ Rows.uptoBulk x.1 := by
  obtain ⟨_, hf⟩ := struct_bulk Try.underlying29 h
  obtain ⟨m1, d1, t1, k1⟩ := hf 0 _ 24 1 0 rfl cellsS24 rfl rfl
  obtain ⟨m2, d2, t2, k2⟩ := hf 1 _ 24 1 1 rfl cellsS24 rfl rfl
  have h1 := (slice_bulk1 Try.underlying24 (l := l1) (a := a1) (c := c1) t1).1
  have h2 := (slice_bulk1 Try.underlying24 (l := l2) (a := a2) (c := c2) t2).1
  exact ⟨by omega, by omega⟩

noncomputable def laidWorld (os : Os) : World := World.holding Try.prog os ⟨#[], #[], []⟩
end Go.Proofs.Ytkmjjnjngcpjmaa
