/- Laws of sets (5): one step of a script. -/
import Derived.Test.YtcipljcagejjaaaDoorVLaw4
set_option linter.unusedVariables false
namespace Go.V
theorem rdSS {L : List Asn} {h : Hp} {ps : List Nat} {vss : List (List Bool)} {k p : Nat} {v : List Bool} (i : Nat) (hl : starL L h) (hp : ps[k]? = some p) (hv : vss[k]? = some v) (e : nthA L i = sta (setsA ps vss) := by rfl) (hi : Nat.blt i (lenA L) = true := by rfl) : setR h (bk p) v := by
  obtain ⟨h1, s, ha⟩ := starL_nth i (by simpa [lenA_eq] using hi) hl
  rw [e] at ha
  obtain ⟨h2, s2, hb⟩ := starL_in (A := setO (bk p) v) (List.mem_of_getElem? (i := k) (by unfold setsA; rw [List.getElem?_zipWith, hp, hv])) ha
  exact (setO_R hb).mono (s2.trans s)
theorem rdRR {L : List Asn} {h : Hp} {ps : List Nat} {vss : List (List Bool)} {k p : Nat} {v : List Bool} (i : Nat) (hl : starL L h) (hp : ps[k]? = some p) (hv : vss[k]? = some v) (e : nthA L i = sta (refsA ps vss) := by rfl) (hi : Nat.blt i (lenA L) = true := by rfl) : refR h (bk p) v := by
  obtain ⟨h1, s, ha⟩ := starL_nth i (by simpa [lenA_eq] using hi) hl
  rw [e] at ha
  obtain ⟨h2, s2, hb⟩ := starL_in (A := refO (bk p) v) (List.mem_of_getElem? (i := k) (by unfold refsA; rw [List.getElem?_zipWith, hp, hv])) ha
  exact (refO_R hb).mono (s2.trans s)
/- the others, where one is taken out -/
theorem rdSE {L : List Asn} {h : Hp} {ps : List Nat} {vss : List (List Bool)} {k m p : Nat} {v : List Bool} (i : Nat) (hl : starL L h) (hp : ps[k]? = some p) (hv : vss[k]? = some v) (hk : k ≠ m) (e : nthA L i = sta ((setsA ps vss).eraseIdx m) := by rfl) (hi : Nat.blt i (lenA L) = true := by rfl) : setR h (bk p) v := by
  obtain ⟨h1, s, ha⟩ := starL_nth i (by simpa [lenA_eq] using hi) hl
  rw [e] at ha
  obtain ⟨h2, s2, hb⟩ := starL_in (A := setO (bk p) v) (List.mem_eraseIdx_iff_getElem?.2 ⟨k, hk, by unfold setsA; rw [List.getElem?_zipWith, hp, hv]⟩) ha
  exact (setO_R hb).mono (s2.trans s)
theorem rdRE {L : List Asn} {h : Hp} {ps : List Nat} {vss : List (List Bool)} {k m p : Nat} {v : List Bool} (i : Nat) (hl : starL L h) (hp : ps[k]? = some p) (hv : vss[k]? = some v) (hk : k ≠ m) (e : nthA L i = sta ((refsA ps vss).eraseIdx m) := by rfl) (hi : Nat.blt i (lenA L) = true := by rfl) : refR h (bk p) v := by
  obtain ⟨h1, s, ha⟩ := starL_nth i (by simpa [lenA_eq] using hi) hl
  rw [e] at ha
  obtain ⟨h2, s2, hb⟩ := starL_in (A := refO (bk p) v) (List.mem_eraseIdx_iff_getElem?.2 ⟨k, hk, by unfold refsA; rw [List.getElem?_zipWith, hp, hv]⟩) ha
  exact (refO_R hb).mono (s2.trans s)
theorem rdF {L : List Asn} {h : Hp} {n : Nat} {ks : List Nat} {rs : List (Option Addr)} (i : Nat) (hl : starL L h) (e : nthA L i = frA n ks rs := by rfl) (hi : Nat.blt i (lenA L) = true := by rfl) : frA n ks rs h := by
  obtain ⟨h1, s, ha⟩ := starL_nth i (by simpa [lenA_eq] using hi) hl
  rw [e] at ha
  exact fun j r hr hk => (ha j r hr hk).mono s
theorem rdPt {L : List Asn} {h : Hp} {a : Option Addr} {l c : Nat} {os : List (Option Addr)} (i : Nat) (hl : starL L h) (e : nthA L i = own 1 a l c (pv os) := by rfl) (hi : Nat.blt i (lenA L) = true := by rfl) : os.length = l → rdS h os a l := fun hx => by
  obtain ⟨h1, s, ha⟩ := starL_nth i (by simpa [lenA_eq] using hi) hl
  rw [e] at ha
  exact (rdS_of_row hx (own_rdVh ha)).mono s
theorem rdCel {L : List Asn} {h : Hp} {b : Nat} {vs : List Value} (i : Nat) (hl : starL L h) (e : nthA L i = cel b vs := by rfl) (hi : Nat.blt i (lenA L) = true := by rfl) : rowH h ⟨b, 0, none⟩ vs := by
  obtain ⟨h1, s, ha⟩ := starL_nth i (by simpa [lenA_eq] using hi) hl
  rw [e] at ha
  exact (cel_row ha).mono s
theorem lent_take {h : Hp} {xs : List Int} {a : Option Addr} {l : Nat} (hx : xs.length = l) (hr : rdS h (lentL xs) a (l + 8)) : rdS h xs a l := by
  have := hr.take (k := l) (by omega)
  have e : (lentL xs).take l = xs := by unfold lentL; rw [List.take_append_of_le_length (by omega), List.take_of_length_le (by omega)]
  rwa [e] at this
/- what a step leaves -/
def stepQ (b : Nat) (K : Int) (n : Nat) (h0 : Hp) (w' : World) : Prop := ∃ (ps qs : List Nat) (vss : List (List Bool)), ps.length = vss.length ∧ qs.length = vss.length ∧ vss.length ≤ n + 1 ∧ (vss.length = n ∨ K.tmod 8 = 0 ∨ K.tmod 8 = 6 ∨ K.tmod 8 = -6 ∨ n = 0) ∧
  St w' [wrlA b ps qs vss.length, sta (setsA ps vss), sta (refsA qs vss), has h0]
end Go.V
namespace Go.Proofs.YtcipljcagejjaaaDoor
open Go.V
section
variable {w : World} {L : List Asn} {a a2 a3 : Option Addr} {l c l2 c2 l3 c3 n : Nat} {p q : Option Addr} {bs cs : List Bool} {xs ys zs : List Int} {os : List (Option Addr)} {vss : List (List Bool)} {ps qs : List Nat}
set_option maxHeartbeats 2000000 in
theorem l_step {b : Nat} {h0 : Hp} (K A B : Int) (hK : anyI A) (hB : anyI B) (hx : rdS h0 xs a l) (hb : l * 8 ≤ 140737488355264) (ht : tabA h0) (hxI : ∀ x ∈ xs, anyI x) (hps : ps.length = vss.length) (hqs : qs.length = vss.length) (hn : vss.length ≤ 64)
    (h : St w [wrlA b ps qs vss.length, sta (setsA ps vss), sta (refsA qs vss), has h0]) :
    Run Tryd.prog n_presagelaw01_world_step [.pointer (some ⟨b, 0, none⟩), .agg #[.int .i64 K, .int .i64 A, .int .i64 B, .slice a l c]] w fun v w' => v = .bool true ∧ stepQ b K vss.length h0 w' := by
  refine run_presagelaw01_world_step _ _ _ _ _ _ _ w _ ?_
  have hl := hx.1
  refine newC_i h fun k1 w1 h => ?_
  obtain ⟨⟨⟨ax, cx⟩, ⟨ar, cr⟩⟩, h⟩ := St.ex.1 h.swap
  have h : St w1 [cel k1 [.int .i64 K, .int .i64 A, .int .i64 B, .slice a l c], cel b [.slice ax vss.length cx, .slice ar vss.length cr], own 1 ax vss.length cx (pv (ps.map bk)), own 1 ar vss.length cr (pv (qs.map bk)), sta (setsA ps vss), sta (refsA qs vss), has h0] := (St.flat.1 h).pick 7 [3, 0, 1, 2, 4, 5, 6]
  have tb : ∀ {w : World}, sub h0 (hp w) → tabA (hp w) := fun s => rdV.mono s ht
  refine ⟨fun b w' => b = (K.tmod 8 == 0 || ((vss.length : Int) == 0)) ∧ w' = w1, ⟨K, h.cell 0, by unfold nz; decide, br_intro (fun h1 => ⟨by rw [h1]; rfl, rfl⟩) fun h1 => ⟨ax, _, cx, h.swap.cell 0, by rw [h1]; rfl, rfl⟩⟩, ?_⟩
  rintro _ _ _ ⟨rfl, rfl⟩
  refine br_intro (fun hnew => ?_) fun hold => ?_
  · -- a new one
    have hnew' : K.tmod 8 = 0 ∨ vss.length = 0 := by
      simp only [Bool.or_eq_true, beq_iff_eq] at hnew; omega
    refine ⟨a, l, c, (rdCel 0 h.l).cell (sub.refl _) (j := 3) rfl, (r_Lent (hx.mono (rdH 6 h.l)) hb).mono ?_⟩
    rintro _ w3 ⟨bl, cl, hcl, rfl, h1⟩
    have h := h1.on1 h
    refine ⟨_, _, _, _, _, _, rfl, fun w4 hd => ?_⟩
    have h := h.drawn hd
    have Ih : ∀ {w : World}, rowH (hp w) ⟨b, 0, none⟩ [.slice ax vss.length cx, .slice ar vss.length cr] → rowH (hp w) ⟨k1, 0, none⟩ [.int .i64 K, .int .i64 A, .int .i64 B, .slice a l c] → w.cell? ⟨b, 0, none⟩ = some (.slice ax vss.length cx) ∧ w.cell? ⟨k1, 1, none⟩ = some (.int .i64 A) := fun h1 h2 => ⟨h1.cell0 (sub.refl _), by have := h2.cell (sub.refl _) (j := 1) (v := .int .i64 A) rfl; rwa [add_lit0] at this⟩
    refine ⟨fun w => w.cell? ⟨b, 0, none⟩ = some (.slice ax vss.length cx) ∧ w.cell? ⟨k1, 1, none⟩ = some (.int .i64 A), Ih (rdCel 2 h.l) (rdCel 1 h.l), ax, _, cx, fun w h => h.1, A, fun w h => by rw [add_lit0]; exact h.2, ?_⟩
    refine (s_Of A (lent_take hl (rdW (lentL xs) 0 h.l rfl rfl (by rw [lentL_len, hl]))) (by omega)).mono ?_
    rintro _ w7 ⟨px, rfl, h1⟩
    have h := h1.on1 h
    refine ⟨_, rfl, Ih (rdCel 3 h.l) (rdCel 2 h.l), newC_i h fun k12 w8 h => ⟨Ih (rdCel 4 h.l) (rdCel 3 h.l), ?_⟩⟩
    refine (app_one tyOk (rfl : kdOfT Ty _ = .slice _) (rfl : kdOfT Ty _ = .slice _) rfl rfl rfl (h.pick 10 [0, 5, 1, 2, 3, 4, 6, 7, 8, 9]) rfl (by simp [oneC]) (by show (vss.length + 1) * 8 ≤ _; omega) (by omega)).mono ?_
    rintro _ w9 ⟨ax', cx', rfl, h⟩
    refine ⟨_, _, _, rfl, Ih (rdCel 5 h.l) (rdCel 4 h.l), st1_i (h.pick 10 [5, 0, 2, 3, 4, 6, 7, 8, 9]) (by simp) fun w10 h => ?_⟩
    have h : St w10 [cel b [.slice ax' (vss.length + 1) cx', .slice ar vss.length cr], own 1 ax' (vss.length + 1) cx' (pv (ps.map bk) ++ [.pointer (some ⟨px, 0, none⟩)]), setO (some ⟨px, 0, none⟩) (ofB A xs), own 1 (some ⟨bl, 0, none⟩) (l + 8) (l + 8) (iv (lentL xs)), cel k1 [.int .i64 K, .int .i64 A, .int .i64 B, .slice a l c], own 1 ar vss.length cr (pv (qs.map bk)), sta (setsA ps vss), sta (refsA qs vss), has h0] := h
    intro w11 hd
    have h := h.drawn hd
    have Ih : ∀ {w : World}, rowH (hp w) ⟨b, 0, none⟩ [.slice ax' (vss.length + 1) cx', .slice ar vss.length cr] → rowH (hp w) ⟨k1, 0, none⟩ [.int .i64 K, .int .i64 A, .int .i64 B, .slice a l c] → w.cell? ⟨b, 1, none⟩ = some (.slice ar vss.length cr) ∧ w.cell? ⟨k1, 1, none⟩ = some (.int .i64 A) ∧ w.cell? ⟨k1, 3, none⟩ = some (.slice a l c) := fun h1 h2 => ⟨by have := h1.cell (sub.refl _) (j := 1) rfl; rwa [add_lit0] at this, by have := h2.cell (sub.refl _) (j := 1) (v := .int .i64 A) rfl; rwa [add_lit0] at this, by have := h2.cell (sub.refl _) (j := 3) (v := .slice a l c) rfl; rwa [add_lit0] at this⟩
    refine ⟨fun w => w.cell? ⟨b, 1, none⟩ = some (.slice ar vss.length cr) ∧ w.cell? ⟨k1, 1, none⟩ = some (.int .i64 A) ∧ w.cell? ⟨k1, 3, none⟩ = some (.slice a l c), Ih (rdCel 0 h.l) (rdCel 4 h.l), ar, _, cr, fun w h => by rw [add_lit0]; exact h.1, A, fun w h => by rw [add_lit0]; exact h.2.1, a, l, c, fun w h => by rw [add_lit0]; exact h.2.2, ?_⟩
    refine (r_Of A (hx.mono (rdH 8 h.l)) (by omega)).mono ?_
    rintro _ w15 ⟨qx, rfl, h1⟩
    have h := h1.on1 h
    refine ⟨_, rfl, Ih (rdCel 1 h.l) (rdCel 5 h.l), newC_i h fun k19 w16 h => ⟨Ih (rdCel 2 h.l) (rdCel 6 h.l), ?_⟩⟩
    refine (app_one tyOk (rfl : kdOfT Ty _ = .slice _) (rfl : kdOfT Ty _ = .slice _) rfl rfl rfl (h.pick 11 [0, 7, 1, 2, 3, 4, 5, 6, 8, 9, 10]) rfl (by simp [oneC]) (by show (vss.length + 1) * 8 ≤ _; omega) (by omega)).mono ?_
    rintro _ w17 ⟨ar', cr', rfl, h⟩
    refine ⟨_, _, _, rfl, Ih (rdCel 3 h.l) (rdCel 7 h.l), ?_⟩
    show st1 w17 ((⟨b, 0, none⟩ : Addr).add 1) _ _
    rw [add_lit0]
    refine st1_i (h.pick 11 [3, 0, 2, 4, 5, 6, 7, 8, 9, 10]) (by simp) fun w18 h => ?_
    have lSv : (setsA ps vss ++ [setO (some ⟨px, 0, none⟩) (ofB A xs)]) = setsA (ps ++ [px]) (vss ++ [ofB A xs]) := by
      unfold setsA; rw [List.zipWith_append hps]; rfl
    have lRv : (refsA qs vss ++ [refO (some ⟨qx, 0, none⟩) (ofB A xs)]) = refsA (qs ++ [qx]) (vss ++ [ofB A xs]) := by
      unfold refsA; rw [List.zipWith_append hqs]; rfl
    have e1 : pv (ps.map bk) ++ [.pointer (some ⟨px, 0, none⟩)] = pv ((ps ++ [px]).map bk) := by simp [pv, bk]
    have e2 : pv (qs.map bk) ++ [.pointer (some ⟨qx, 0, none⟩)] = pv ((qs ++ [qx]).map bk) := by simp [pv, bk]
    have h : St w18 [cel b [.slice ax' (vss.length + 1) cx', .slice ar' (vss.length + 1) cr'], own 1 ar' (vss.length + 1) cr' (pv (qs.map bk) ++ [.pointer (some ⟨qx, 0, none⟩)]), refO (some ⟨qx, 0, none⟩) (ofB A xs), own 1 ax' (vss.length + 1) cx' (pv (ps.map bk) ++ [.pointer (some ⟨px, 0, none⟩)]), setO (some ⟨px, 0, none⟩) (ofB A xs), own 1 (some ⟨bl, 0, none⟩) (l + 8) (l + 8) (iv (lentL xs)), cel k1 [.int .i64 K, .int .i64 A, .int .i64 B, .slice a l c], sta (setsA ps vss), sta (refsA qs vss), has h0] := h
    rw [e1, e2] at h
    have h := St.snoc (A := setO (some ⟨px, 0, none⟩) (ofB A xs)) (M := setsA ps vss) (h.pick 10 [4, 7, 0, 1, 2, 3, 5, 6, 8, 9])
    rw [lSv] at h
    have h := St.snoc (A := refO (some ⟨qx, 0, none⟩) (ofB A xs)) (M := refsA qs vss) (h.pick 9 [3, 7, 0, 1, 2, 4, 5, 6, 8])
    rw [lRv] at h
    have hvl : (vss ++ [ofB A xs]).length = vss.length + 1 := by simp
    have gp : (ps ++ [px])[vss.length]? = some px := by rw [← hps]; simp
    have gq : (qs ++ [qx])[vss.length]? = some qx := by rw [← hqs]; simp
    have gv : (vss ++ [ofB A xs])[vss.length]? = some (ofB A xs) := by simp
    have hpl : ((ps ++ [px]).map bk).length = vss.length + 1 := by simp [hps]
    have hql : ((qs ++ [qx]).map bk).length = vss.length + 1 := by simp [hqs]
    have hp2 : (ps ++ [px]).length = (vss ++ [ofB A xs]).length := by simp [hps]
    have hq2 : (qs ++ [qx]).length = (vss ++ [ofB A xs]).length := by simp [hqs]
    generalize vss ++ [ofB A xs] = vss' at *
    generalize ps ++ [px] = ps' at *
    generalize qs ++ [qx] = qs' at *
    generalize ofB A xs = V at *
    have h : St w18 [sta (refsA qs' vss'), sta (setsA ps' vss'), cel b [.slice ax' (vss.length + 1) cx', .slice ar' (vss.length + 1) cr'], own 1 ar' (vss.length + 1) cr' (pv (qs'.map bk)), own 1 ax' (vss.length + 1) cx' (pv (ps'.map bk)), own 1 (some ⟨bl, 0, none⟩) (l + 8) (l + 8) (iv (lentL xs)), cel k1 [.int .i64 K, .int .i64 A, .int .i64 B, .slice a l c], has h0] := h
    intro w19 hd
    have h := h.drawn hd
    refine ⟨fun w => ∃ h1, sub h1 (hp w) ∧ hp w19 = h1, ⟨_, sub.refl _, rfl⟩, a, l, c, ?_, ?_⟩
    · rintro w ⟨_, s, rfl⟩
      exact (rdCel 6 h.l).cell s (j := 3) rfl
    refine (r_Whole (xs := xs) (rdW (lentL xs) 5 h.l rfl rfl (by rw [lentL_len, hl])) (hx.mono (rdH 7 h.l)) (by omega)).mono ?_
    rintro _ w21 ⟨rfl, hw⟩
    have C : ∃ h1, sub h1 (hp w21) ∧ hp w19 = h1 := ⟨_, hp_sub hw, rfl⟩
    have rb := rdCel (b := b) (vs := [.slice ax' (vss.length + 1) cx', .slice ar' (vss.length + 1) cr']) 2 h.l
    have rp := rdPt (os := ps'.map bk) (a := ax') (l := vss.length + 1) (c := cx') 4 h.l rfl rfl hpl
    have rq := rdPt (os := qs'.map bk) (a := ar') (l := vss.length + 1) (c := cr') 3 h.l rfl rfl hql
    obtain ⟨_, ad, g1, rfl, g2⟩ := rp.get1 (Nat.lt_succ_self _)
    rw [List.getElem?_map, gp] at g1
    cases g1
    obtain ⟨_, ad2, g3, rfl, g4⟩ := rq.get1 (Nat.lt_succ_self _)
    rw [List.getElem?_map, gq] at g3
    cases g3
    have e3 : (((vss.length + 1 : Nat) : Int) - 1) = (vss.length : Int) := by omega
    refine ⟨_, rfl, C, br_t rfl ⟨_, _, cx', fun w ⟨_, s, e⟩ => rb.cell0 (by subst e; exact s), _, _, cx', fun w ⟨_, s, e⟩ => rb.cell0 (by subst e; exact s), ⟨by omega, by omega⟩, ?_⟩⟩
    rw [e3]
    refine idx_i rfl (Nat.lt_succ_self _) ⟨bk px, fun w ⟨_, s, e⟩ => g2 w (by subst e; exact s), _, _, cr', fun w ⟨_, s, e⟩ => rb.cell (by subst e; exact s) (j := 1) rfl, _, _, cr', fun w ⟨_, s, e⟩ => rb.cell (by subst e; exact s) (j := 1) rfl, ⟨by omega, by omega⟩, ?_⟩
    rw [e3]
    have h := h.eq hw
    refine idx_i rfl (Nat.lt_succ_self _) ⟨bk qx, fun w ⟨_, s, e⟩ => g4 w (by subst e; exact s), (l_is (rdSS 1 h.l gp gv) (rdRR 0 h.l gq gv) (tb (rdH 7 h.l))).mono ?_⟩
    rintro _ w28 ⟨rfl, hg⟩
    have h := h.gr hg
    refine ⟨_, rfl, ⟨_, (hp_sub hw).trans hg, rfl⟩, rfl, ps', qs', vss', hp2, hq2, by omega, .inr (by omega), St.ex.2 ⟨((some ad, cx'), (some ad2, cr')), St.flat.2 ?_⟩⟩
    rw [hvl]
    exact h.pick 8 [2, 4, 3, 1, 0, 7]
  · -- one of those that there are
    have hold' : K.tmod 8 ≠ 0 ∧ vss.length ≠ 0 := by
      simp only [Bool.or_eq_false_iff, beq_eq_false_iff_ne] at hold; omega
    intro w29 hd
    have h := h.drawn hd
    have rb : ∀ {w : World}, hp w = hp w29 → rowH (hp w) ⟨b, 0, none⟩ [.slice ax vss.length cx, .slice ar vss.length cr] := fun e => by rw [e]; exact rdCel 1 h.l
    have rk : ∀ {w : World}, hp w = hp w29 → rowH (hp w) ⟨k1, 0, none⟩ [.int .i64 K, .int .i64 A, .int .i64 B, .slice a l c] := fun e => by rw [e]; exact rdCel 0 h.l
    refine ⟨fun w => hp w = hp w29, rfl, A, fun w e => (rk e).cell (sub.refl _) (j := 1) rfl, ax, _, cx, fun w e => (rb e).cell0 (sub.refl _), (l_pick A (by omega) hK).mono ?_⟩
    rintro _ w29 ⟨⟨i, rfl, hi⟩, rfl⟩
    refine ⟨_, rfl, rfl, fun w33 hd => ?_⟩
    have e33 := hp_drawn hd
    have h := h.drawn hd
    refine ⟨fun w => hp w = hp w29, e33, B, fun w e => (rk e).cell (sub.refl _) (j := 2) rfl, ax, _, cx, fun w e => (rb e).cell0 (sub.refl _), (l_pick B (by omega) hB).mono ?_⟩
    rintro _ w33 ⟨⟨j, rfl, hj⟩, rfl⟩
    have hi : i < vss.length := by omega
    have hj : j < vss.length := by omega
    have rp := rdPt (os := ps.map bk) (a := ax) (l := vss.length) (c := cx) 2 h.l rfl rfl (by simp [hps])
    have rq := rdPt (os := qs.map bk) (a := ar) (l := vss.length) (c := cr) 3 h.l rfl rfl (by simp [hqs])
    obtain ⟨p, gp⟩ : ∃ p, ps[i]? = some p := ⟨ps[i]'(by omega), List.getElem?_eq_getElem _⟩
    obtain ⟨q, gq⟩ : ∃ q, qs[i]? = some q := ⟨qs[i]'(by omega), List.getElem?_eq_getElem _⟩
    obtain ⟨v, gv⟩ : ∃ v, vss[i]? = some v := ⟨vss[i], List.getElem?_eq_getElem _⟩
    obtain ⟨_, ad, g1, rfl, g2⟩ := rp.get1 hi
    rw [List.getElem?_map, gp] at g1
    cases g1
    obtain ⟨_, ad2, g3, rfl, g4⟩ := rq.get1 hi
    rw [List.getElem?_map, gq] at g3
    cases g3
    refine ⟨_, rfl, e33, _, _, cx, (rb e33).cell0 (sub.refl _), idx_i rfl hi ⟨bk p, g2 _ (sub.refl _), _, _, cr, (rb e33).cell (sub.refl _) (j := 1) rfl, idx_i rfl hi ⟨bk q, g4 _ (sub.refl _), ?_⟩⟩⟩
    have gS : (setsA ps vss)[i]? = some (setO (bk p) v) := by unfold setsA; rw [List.getElem?_zipWith, gp, gv]
    have gR : (refsA qs vss)[i]? = some (refO (bk q) v) := by unfold refsA; rw [List.getElem?_zipWith, gq, gv]
    have setS : ∀ v', (setsA ps vss).set i (setO (bk p) v') = setsA ps (vss.set i v') := fun v' => zip_set (fun p v => setO (bk p) v) gp
    have setR' : ∀ v', (refsA qs vss).set i (refO (bk q) v') = refsA qs (vss.set i v') := fun v' => zip_set (fun p v => refO (bk p) v) gq
    have gv' : ∀ v', (vss.set i v')[i]? = some v' := fun v' => by simp [hi]
    have done : ∀ v' {w}, St w [wrlA b ps qs vss.length, sta (setsA ps (vss.set i v')), sta (refsA qs (vss.set i v')), has h0] → stepQ b K vss.length h0 w := fun v' {w} h =>
      ⟨ps, qs, vss.set i v', by simp [hps], by simp [hqs], by simp, .inl (by simp), by rw [List.length_set]; exact h⟩
    have done0 : ∀ {w}, St w [wrlA b ps qs vss.length, sta (setsA ps vss), sta (refsA qs vss), has h0] → stepQ b K vss.length h0 w := fun {w} h => ⟨ps, qs, vss, hps, hqs, by omega, .inl rfl, h⟩
    have wrl : ∀ {w L}, St w (cel b [.slice (some ad) vss.length cx, .slice (some ad2) vss.length cr] :: own 1 (some ad) vss.length cx (pv (ps.map bk)) :: own 1 (some ad2) vss.length cr (pv (qs.map bk)) :: L) → St w (wrlA b ps qs vss.length :: L) := fun {w L} h => St.ex.2 ⟨((_, cx), (_, cr)), St.flat.2 h⟩
    have h : St w33 [cel k1 [.int .i64 K, .int .i64 A, .int .i64 B, .slice a l c], cel b [.slice (some ad) vss.length cx, .slice (some ad2) vss.length cr], own 1 (some ad) vss.length cx (pv (ps.map bk)), own 1 (some ad2) vss.length cr (pv (qs.map bk)), sta (setsA ps vss), sta (refsA qs vss), has h0] := h
    refine ⟨fun w' => w' = w33, ⟨K, h.cell 0, by unfold nz; decide, orj (fun hk => ?_) fun hk => ?_⟩, ?_⟩
    · refine ⟨a, l, c, (rdCel 0 h.l).cell (sub.refl _) (j := 3) rfl, (r_Lent (hx.mono (rdH 6 h.l)) hb).mono ?_⟩
      rintro _ w38 ⟨bl, cl, hcl, rfl, h1⟩
      have h := h1.on1 h
      have h := St.out (h.pick 8 [5, 0, 1, 2, 3, 4, 6, 7]) gS
      refine ⟨_, _, _, _, _, _, rfl, (s_Add (xs := xs) h (fun h hh => lent_take hl (rdW (lentL xs) 1 hh rfl rfl (by rw [lentL_len, hl]))) (by omega)).mono ?_⟩
      rintro _ w39 ⟨rfl, h⟩
      have h := St.back h gS
      rw [setS] at h
      have h := h.pick 8 [6, 0, 1, 2, 3, 4, 5, 7]
      have h := St.out h gR
      refine ⟨_, rfl, a, l, c, (rdCel 4 h.l).cell (sub.refl _) (j := 3) rfl, (r_Add (xs := xs) h (fun h hh => hx.mono (rdH 7 hh)) (by omega)).mono ?_⟩
      rintro _ w40 ⟨rfl, h⟩
      have h := St.back h gR
      rw [setR'] at h
      refine ⟨_, rfl, br_t (by simp) ⟨a, l, c, (rdCel 3 h.l).cell (sub.refl _) (j := 3) rfl, (r_Whole (xs := xs) (rdW (lentL xs) 2 h.l rfl rfl (by rw [lentL_len, hl])) (hx.mono (rdH 7 h.l)) (by omega)).mono ?_⟩⟩
      rintro _ w41 ⟨rfl, hw⟩
      have h := h.eq hw
      refine ⟨_, rfl, br_t rfl ((l_is (rdSS 1 h.l gp (gv' _)) (rdRR 0 h.l gq (gv' _)) (tb (rdH 7 h.l))).mono ?_)⟩
      rintro _ w42 ⟨rfl, hg⟩
      have h := h.gr hg
      exact ⟨_, rfl, rfl, done _ (wrl (h.pick 8 [4, 5, 6, 1, 0, 7]))⟩
    · refine orj (fun hk => ?_) fun hk => ?_
      · refine ⟨a, l, c, (rdCel 0 h.l).cell (sub.refl _) (j := 3) rfl, (r_Lent (hx.mono (rdH 6 h.l)) hb).mono ?_⟩
        rintro _ w38 ⟨bl, cl, hcl, rfl, h1⟩
        have h := h1.on1 h
        have h := St.out (h.pick 8 [5, 0, 1, 2, 3, 4, 6, 7]) gS
        refine ⟨_, _, _, _, _, _, rfl, (s_Drop (xs := xs) h (fun h hh => lent_take hl (rdW (lentL xs) 1 hh rfl rfl (by rw [lentL_len, hl]))) (by omega)).mono ?_⟩
        rintro _ w39 ⟨rfl, h⟩
        have h := St.back h gS
        rw [setS] at h
        have h := h.pick 8 [6, 0, 1, 2, 3, 4, 5, 7]
        have h := St.out h gR
        refine ⟨_, rfl, a, l, c, (rdCel 4 h.l).cell (sub.refl _) (j := 3) rfl, (r_Drop (xs := xs) h (fun h hh => hx.mono (rdH 7 hh)) (by omega)).mono ?_⟩
        rintro _ w40 ⟨rfl, h⟩
        have h := St.back h gR
        rw [setR'] at h
        refine ⟨_, rfl, br_t (by simp) ⟨a, l, c, (rdCel 3 h.l).cell (sub.refl _) (j := 3) rfl, (r_Whole (xs := xs) (rdW (lentL xs) 2 h.l rfl rfl (by rw [lentL_len, hl])) (hx.mono (rdH 7 h.l)) (by omega)).mono ?_⟩⟩
        rintro _ w41 ⟨rfl, hw⟩
        have h := h.eq hw
        refine ⟨_, rfl, br_t rfl ((l_is (rdSS 1 h.l gp (gv' _)) (rdRR 0 h.l gq (gv' _)) (tb (rdH 7 h.l))).mono ?_)⟩
        rintro _ w42 ⟨rfl, hg⟩
        have h := h.gr hg
        exact ⟨_, rfl, rfl, done _ (wrl (h.pick 8 [4, 5, 6, 1, 0, 7]))⟩
      · refine orj (fun hk => ?_) fun hk => ?_
        · refine ⟨a, l, c, (rdCel 0 h.l).cell (sub.refl _) (j := 3) rfl, (l_some (rdCel 1 h.l) (rdPt (os := ps.map bk) 2 h.l rfl rfl (by simp [hps])) (rdPt (os := qs.map bk) 3 h.l rfl rfl (by simp [hqs])) (hx.mono (rdH 6 h.l)) (by omega) (by omega) hxI).mono ?_⟩
          rintro _ w50 ⟨ks, os, rs, o1, o2, c1, c2, hks, hos, hrs, rfl, q1, q2, q3, h1⟩
          have h := St.on (N := [_, _, _]) h1 h
          have h : St w50 [own 1 o1 l c1 (pv os), own 1 o2 l c2 (pv rs), frA vss.length ks rs, cel k1 [.int .i64 K, .int .i64 A, .int .i64 B, .slice a l c], cel b [.slice (some ad) vss.length cx, .slice (some ad2) vss.length cr], own 1 (some ad) vss.length cx (pv (ps.map bk)), own 1 (some ad2) vss.length cr (pv (qs.map bk)), sta (setsA ps vss), sta (refsA qs vss), has h0] := h
          have kq : ∀ (j : Nat) o v, os[j]? = some o → (ks.map fun k => vss.getD k [])[j]? = some v → ∃ k, ks[j]? = some k ∧ v = vss.getD k [] ∧ k ≤ vss.length ∧ o = ((ps.map bk)[k]?.getD none) := by
            intro j o v ho hv
            rw [List.getElem?_map] at hv
            cases hkj : ks[j]? with
            | none => rw [hkj] at hv; cases hv
            | some k =>
              rw [hkj] at hv; cases hv
              have := q2 j k hkj
              rw [ho] at this
              exact ⟨k, rfl, rfl, q1 k (List.mem_of_getElem? hkj), by cases this; rfl⟩
          have kr : ∀ (j : Nat) o v, rs[j]? = some o → (ks.map fun k => vss.getD k [])[j]? = some v → ∃ k, ks[j]? = some k ∧ v = vss.getD k [] ∧ k ≤ vss.length ∧ (k < vss.length → ∃ q', qs[k]? = some q' ∧ o = bk q') := by
            intro j o v ho hv
            rw [List.getElem?_map] at hv
            cases hkj : ks[j]? with
            | none => rw [hkj] at hv; cases hv
            | some k =>
              rw [hkj] at hv; cases hv
              refine ⟨k, rfl, rfl, q1 k (List.mem_of_getElem? hkj), fun hlt => ?_⟩
              have := q3 j k hkj hlt
              rw [ho, List.getElem?_map, List.getElem?_eq_getElem (by omega)] at this
              cases this
              exact ⟨_, List.getElem?_eq_getElem _, rfl⟩
          have gk : ∀ k, k < vss.length → ∃ p' u, ps[k]? = some p' ∧ vss[k]? = some u ∧ vss.getD k [] = u ∧ ((ps.map bk)[k]?.getD none) = bk p' := fun k hk =>
            ⟨ps[k]'(by omega), vss[k], List.getElem?_eq_getElem _, List.getElem?_eq_getElem _, by simp [hk], by rw [List.getElem?_map, List.getElem?_eq_getElem (by omega)]; rfl⟩
          have gn : vss.getD vss.length [] = [] ∧ ((ps.map bk)[vss.length]?.getD none) = none := ⟨by simp, by rw [List.getElem?_eq_none (by simp [hps])]; rfl⟩
          have h := St.out (h.pick 10 [7, 0, 1, 2, 3, 4, 5, 6, 8, 9]) gS
          refine ⟨_, _, _, _, _, _, rfl, (s_Union (os := os) (vss := ks.map fun k => vss.getD k []) h (fun h hh => rdPt (os := os) 1 hh rfl rfl hos) (by simp [hks, hos]) (fun h hh j o u ho hu => ?_) (fun h hh => rdV.mono (rdH 9 hh) ht) (by omega)).mono ?_⟩
          · obtain ⟨k, _, rfl, k1', rfl⟩ := kq j o u ho hu
            rcases Nat.lt_or_eq_of_le k1' with hlt | rfl
            · obtain ⟨p', u', e1, e2, e3, e4⟩ := gk k hlt
              rw [e3, e4]
              by_cases hki : k = i
              · subst hki
                rw [gp] at e1; rw [gv] at e2; cases e1; cases e2
                exact .inr ⟨rfl, rfl⟩
              · exact .inl (rdSE 0 hh e1 e2 hki)
            · rw [gn.1, gn.2]; exact .inl (setR_nil _)
          rintro _ w51 ⟨rfl, h⟩
          have h := St.back h gS
          rw [setS] at h
          have h := St.out (h.pick 10 [8, 0, 1, 2, 3, 4, 5, 6, 7, 9]) gR
          refine ⟨_, rfl, (r_Union (os := rs) (vss := ks.map fun k => vss.getD k []) h (fun h hh => rdPt (os := rs) 3 hh rfl rfl hrs) (by simp [hks, hrs]) (fun h hh j o u ho hu => ?_) (by omega)).mono ?_⟩
          · obtain ⟨k, hkj, rfl, k1', hlt'⟩ := kr j o u ho hu
            rcases Nat.lt_or_eq_of_le k1' with hlt | rfl
            · obtain ⟨p', u', e1, e2, e3, e4⟩ := gk k hlt
              obtain ⟨q', f1, rfl⟩ := hlt' hlt
              rw [e3]
              by_cases hki : k = i
              · subst hki
                rw [gq] at f1; rw [gv] at e2; cases f1; cases e2
                exact .inr ⟨rfl, rfl⟩
              · exact .inl (rdRE 0 hh f1 e2 hki)
            · rw [gn.1]; exact .inl ((show frA vss.length ks rs _ from rdF 4 hh) j o ho hkj)
          rintro _ w52 ⟨rfl, h⟩
          have h := St.back h gR
          rw [setR'] at h
          refine ⟨_, rfl, br_t (by simp) ((l_is (rdSS 1 h.l gp (gv' _)) (rdRR 0 h.l gq (gv' _)) (tb (rdH 9 h.l))).mono ?_)⟩
          rintro _ w53 ⟨rfl, hg⟩
          have h := h.gr hg
          exact ⟨_, rfl, rfl, done _ (wrl (h.pick 10 [6, 7, 8, 1, 0, 9]))⟩
        · refine orj (fun hk => ?_) fun hk => ?_
          · refine ⟨a, l, c, (rdCel 0 h.l).cell (sub.refl _) (j := 3) rfl, (l_some (rdCel 1 h.l) (rdPt (os := ps.map bk) 2 h.l rfl rfl (by simp [hps])) (rdPt (os := qs.map bk) 3 h.l rfl rfl (by simp [hqs])) (hx.mono (rdH 6 h.l)) (by omega) (by omega) hxI).mono ?_⟩
            rintro _ w50 ⟨ks, os, rs, o1, o2, c1, c2, hks, hos, hrs, rfl, q1, q2, q3, h1⟩
            have h := St.on (N := [_, _, _]) h1 h
            have h : St w50 [own 1 o1 l c1 (pv os), own 1 o2 l c2 (pv rs), frA vss.length ks rs, cel k1 [.int .i64 K, .int .i64 A, .int .i64 B, .slice a l c], cel b [.slice (some ad) vss.length cx, .slice (some ad2) vss.length cr], own 1 (some ad) vss.length cx (pv (ps.map bk)), own 1 (some ad2) vss.length cr (pv (qs.map bk)), sta (setsA ps vss), sta (refsA qs vss), has h0] := h
            have kq : ∀ (j : Nat) o v, os[j]? = some o → (ks.map fun k => vss.getD k [])[j]? = some v → ∃ k, ks[j]? = some k ∧ v = vss.getD k [] ∧ k ≤ vss.length ∧ o = ((ps.map bk)[k]?.getD none) := by
              intro j o v ho hv
              rw [List.getElem?_map] at hv
              cases hkj : ks[j]? with
              | none => rw [hkj] at hv; cases hv
              | some k =>
                rw [hkj] at hv; cases hv
                have := q2 j k hkj
                rw [ho] at this
                exact ⟨k, rfl, rfl, q1 k (List.mem_of_getElem? hkj), by cases this; rfl⟩
            have kr : ∀ (j : Nat) o v, rs[j]? = some o → (ks.map fun k => vss.getD k [])[j]? = some v → ∃ k, ks[j]? = some k ∧ v = vss.getD k [] ∧ k ≤ vss.length ∧ (k < vss.length → ∃ q', qs[k]? = some q' ∧ o = bk q') := by
              intro j o v ho hv
              rw [List.getElem?_map] at hv
              cases hkj : ks[j]? with
              | none => rw [hkj] at hv; cases hv
              | some k =>
                rw [hkj] at hv; cases hv
                refine ⟨k, rfl, rfl, q1 k (List.mem_of_getElem? hkj), fun hlt => ?_⟩
                have := q3 j k hkj hlt
                rw [ho, List.getElem?_map, List.getElem?_eq_getElem (by omega)] at this
                cases this
                exact ⟨_, List.getElem?_eq_getElem _, rfl⟩
            have gk : ∀ k, k < vss.length → ∃ p' u, ps[k]? = some p' ∧ vss[k]? = some u ∧ vss.getD k [] = u ∧ ((ps.map bk)[k]?.getD none) = bk p' := fun k hk =>
              ⟨ps[k]'(by omega), vss[k], List.getElem?_eq_getElem _, List.getElem?_eq_getElem _, by simp [hk], by rw [List.getElem?_map, List.getElem?_eq_getElem (by omega)]; rfl⟩
            have gn : vss.getD vss.length [] = [] ∧ ((ps.map bk)[vss.length]?.getD none) = none := ⟨by simp, by rw [List.getElem?_eq_none (by simp [hps])]; rfl⟩
            refine ⟨_, _, _, _, _, _, rfl, (s_Meets (os := os) (vss := ks.map fun k => vss.getD k []) (rdSS 7 h.l gp gv) (rdPt (os := os) 0 h.l rfl rfl hos) (by simp [hks, hos]) (fun j o u ho hu => ?_) (tb (rdH 9 h.l)) (by omega)).mono ?_⟩
            · obtain ⟨k, _, rfl, k1', rfl⟩ := kq j o u ho hu
              rcases Nat.lt_or_eq_of_le k1' with hlt | rfl
              · obtain ⟨p', u', e1, e2, e3, e4⟩ := gk k hlt
                rw [e3, e4]
                exact rdSS 7 h.l e1 e2
              · rw [gn.1, gn.2]; exact setR_nil _
            rintro _ w56 ⟨rfl, hg⟩
            have h := h.gr hg
            refine ⟨_, rfl, (r_Meets (os := rs) (vss := ks.map fun k => vss.getD k []) (rdRR 8 h.l gq gv) (rdPt (os := rs) 1 h.l rfl rfl hrs) (by simp [hks, hrs]) (fun j o u ho hu => ?_) (by omega)).mono ?_⟩
            · obtain ⟨k, hkj, rfl, k1', hlt'⟩ := kr j o u ho hu
              rcases Nat.lt_or_eq_of_le k1' with hlt | rfl
              · obtain ⟨p', u', e1, e2, e3, e4⟩ := gk k hlt
                obtain ⟨q', f1, rfl⟩ := hlt' hlt
                rw [e3]
                exact rdRR 8 h.l f1 e2
              · rw [gn.1]; exact (show frA vss.length ks rs _ from rdF 2 h.l) j o ho hkj
            rintro _ _ ⟨rfl, rfl⟩
            exact ⟨_, rfl, by simp, done0 (wrl (h.pick 10 [4, 5, 6, 7, 8, 9]))⟩
          · refine orj (fun hk => ?_) fun hk => ?_
            · intro w59 hd
              have e59 := (hp_drawn hd).trans e33
              have h := h.drawn hd
              obtain ⟨p', gp'⟩ : ∃ p, ps[j]? = some p := ⟨ps[j]'(by omega), List.getElem?_eq_getElem _⟩
              obtain ⟨q', gq'⟩ : ∃ q, qs[j]? = some q := ⟨qs[j]'(by omega), List.getElem?_eq_getElem _⟩
              obtain ⟨u, gu⟩ : ∃ v, vss[j]? = some v := ⟨vss[j], List.getElem?_eq_getElem _⟩
              obtain ⟨_, ad', f1, f1', f2⟩ := rp.get1 hj
              rw [List.getElem?_map, gp'] at f1
              cases f1; cases f1'
              obtain ⟨_, ad2', f3, f3', f4⟩ := rq.get1 hj
              rw [List.getElem?_map, gq'] at f3
              cases f3; cases f3'
              have e0 : hp w33 = hp w29 := e33
              refine ⟨fun w => sub (hp w33) (hp w), hp_sub (hp_drawn hd), _, _, cx, fun w s => (rb e33).cell0 s, idx_i rfl hj ⟨bk p', fun w s => f2 w s, _, _, cr, fun w s => (rb e33).cell s (j := 1) rfl, idx_i rfl hj ⟨bk q', fun w s => f4 w s, (s_Equal (rdSS 4 h.l gp gv) (rdSS 4 h.l gp' gu) (tb (rdH 6 h.l))).mono ?_⟩⟩⟩
              rintro _ w64 ⟨rfl, hg⟩
              have h := h.gr hg
              have s64 : sub (hp w33) (hp w64) := (hp_sub (hp_drawn hd)).trans hg
              refine ⟨_, rfl, s64, (r_Equal (rdRR 5 h.l gq gv) (rdRR 5 h.l gq' gu)).mono ?_⟩
              rintro _ w65 ⟨rfl, hw⟩
              exact ⟨_, rfl, s64.trans (hp_sub hw), by simp, done0 (wrl ((h.eq hw).pick 7 [1, 2, 3, 4, 5, 6]))⟩
            · refine orj (fun hk => ?_) fun hk => rfl
              have hk6 : K.tmod 8 = 6 ∨ K.tmod 8 = -6 := by simp only [Bool.or_eq_true, beq_iff_eq] at hk; exact hk
              intro w67 hd
              have h := h.drawn hd
              refine ⟨fun w => w.cell? ⟨b, 0, none⟩ = some (.slice (some ad) vss.length cx), (rdCel 1 h.l).cell0 (sub.refl _), _, _, cx, fun w h => h, (s_Copy (rdSS 4 h.l gp gv) (tb (rdH 6 h.l))).mono ?_⟩
              rintro _ w69 ⟨px, rfl, h1⟩
              have h := h1.on1 h
              refine ⟨_, rfl, (rdCel 2 h.l).cell0 (sub.refl _), newC_i h fun k78 w70 h => ⟨(rdCel 3 h.l).cell0 (sub.refl _), ?_⟩⟩
              refine (app_one tyOk (rfl : kdOfT Ty _ = .slice _) (rfl : kdOfT Ty _ = .slice _) rfl rfl rfl (h.pick 9 [0, 4, 1, 2, 3, 5, 6, 7, 8]) rfl (by simp [oneC]) (by show (vss.length + 1) * 8 ≤ _; omega) (by omega)).mono ?_
              rintro _ w71 ⟨ax', cx', rfl, h⟩
              refine ⟨_, _, _, rfl, (rdCel 4 h.l).cell0 (sub.refl _), st1_i (h.pick 9 [4, 0, 2, 3, 5, 6, 7, 8]) (by simp) fun w72 h => ?_⟩
              have h : St w72 [cel b [.slice ax' (vss.length + 1) cx', .slice (some ad2) vss.length cr], own 1 ax' (vss.length + 1) cx' (pv (ps.map bk) ++ [.pointer (some ⟨px, 0, none⟩)]), setO (some ⟨px, 0, none⟩) v, cel k1 [.int .i64 K, .int .i64 A, .int .i64 B, .slice a l c], own 1 (some ad2) vss.length cr (pv (qs.map bk)), sta (setsA ps vss), sta (refsA qs vss), has h0] := h
              intro w73 hd
              have h := h.drawn hd
              refine ⟨fun w => w.cell? ⟨b, 1, none⟩ = some (.slice (some ad2) vss.length cr), h.cell 1, _, _, cr, fun w h => by rw [add_lit0]; exact h, (r_Copy (rdRR 6 h.l gq gv)).mono ?_⟩
              rintro _ w75 ⟨qx, rfl, h1⟩
              have h := h1.on1 h
              refine ⟨_, rfl, (h.pick 9 [1]).cell 1, newC_i h fun k83 w76 h => ⟨(h.pick 10 [2]).cell 1, ?_⟩⟩
              refine (app_one tyOk (rfl : kdOfT Ty _ = .slice _) (rfl : kdOfT Ty _ = .slice _) rfl rfl rfl (h.pick 10 [0, 6, 1, 2, 3, 4, 5, 7, 8, 9]) rfl (by simp [oneC]) (by show (vss.length + 1) * 8 ≤ _; omega) (by omega)).mono ?_
              rintro _ w77 ⟨ar', cr', rfl, h⟩
              refine ⟨_, _, _, rfl, (h.pick 10 [3]).cell 1, ?_⟩
              show st1 w77 ((⟨b, 0, none⟩ : Addr).add 1) _ _
              rw [add_lit0]
              refine st1_i (h.pick 10 [3, 0, 2, 4, 5, 6, 7, 8, 9]) (by simp) fun w78 h => ?_
              have lSv : (setsA ps vss ++ [setO (some ⟨px, 0, none⟩) v]) = setsA (ps ++ [px]) (vss ++ [v]) := by
                unfold setsA; rw [List.zipWith_append hps]; rfl
              have lRv : (refsA qs vss ++ [refO (some ⟨qx, 0, none⟩) v]) = refsA (qs ++ [qx]) (vss ++ [v]) := by
                unfold refsA; rw [List.zipWith_append hqs]; rfl
              have e1 : pv (ps.map bk) ++ [.pointer (some ⟨px, 0, none⟩)] = pv ((ps ++ [px]).map bk) := by simp [pv, bk]
              have e2 : pv (qs.map bk) ++ [.pointer (some ⟨qx, 0, none⟩)] = pv ((qs ++ [qx]).map bk) := by simp [pv, bk]
              have h : St w78 [cel b [.slice ax' (vss.length + 1) cx', .slice ar' (vss.length + 1) cr'], own 1 ar' (vss.length + 1) cr' (pv (qs.map bk) ++ [.pointer (some ⟨qx, 0, none⟩)]), refO (some ⟨qx, 0, none⟩) v, own 1 ax' (vss.length + 1) cx' (pv (ps.map bk) ++ [.pointer (some ⟨px, 0, none⟩)]), setO (some ⟨px, 0, none⟩) v, cel k1 [.int .i64 K, .int .i64 A, .int .i64 B, .slice a l c], sta (setsA ps vss), sta (refsA qs vss), has h0] := h
              rw [e1, e2] at h
              have h := St.snoc (A := setO (some ⟨px, 0, none⟩) v) (M := setsA ps vss) (h.pick 9 [4, 6, 0, 1, 2, 3, 5, 7, 8])
              rw [lSv] at h
              have h := St.snoc (A := refO (some ⟨qx, 0, none⟩) v) (M := refsA qs vss) (h.pick 8 [3, 6, 0, 1, 2, 4, 5, 7])
              rw [lRv] at h
              have hvl : (vss ++ [v]).length = vss.length + 1 := by simp
              have gp2 : (ps ++ [px])[vss.length]? = some px := by rw [← hps]; simp
              have gq2 : (qs ++ [qx])[i]? = some q := by rw [List.getElem?_append_left (by omega)]; exact gq
              have gv2 : (vss ++ [v])[vss.length]? = some v := by simp
              have gv3 : (vss ++ [v])[i]? = some v := by rw [List.getElem?_append_left (by omega)]; exact gv
              have hpl : ((ps ++ [px]).map bk).length = vss.length + 1 := by simp [hps]
              have hp2 : (ps ++ [px]).length = (vss ++ [v]).length := by simp [hps]
              have hq2 : (qs ++ [qx]).length = (vss ++ [v]).length := by simp [hqs]
              generalize vss ++ [v] = vss' at *
              generalize ps ++ [px] = ps' at *
              generalize qs ++ [qx] = qs' at *
              have h : St w78 [sta (refsA qs' vss'), sta (setsA ps' vss'), cel b [.slice ax' (vss.length + 1) cx', .slice ar' (vss.length + 1) cr'], own 1 ar' (vss.length + 1) cr' (pv (qs'.map bk)), own 1 ax' (vss.length + 1) cx' (pv (ps'.map bk)), cel k1 [.int .i64 K, .int .i64 A, .int .i64 B, .slice a l c], has h0] := h
              intro w79 hd
              have h := h.drawn hd
              have rb2 := rdCel (b := b) (vs := [.slice ax' (vss.length + 1) cx', .slice ar' (vss.length + 1) cr']) 2 h.l
              have rp2 := rdPt (os := ps'.map bk) (a := ax') (l := vss.length + 1) (c := cx') 4 h.l rfl rfl hpl
              obtain ⟨_, ad', f1, rfl, f2⟩ := rp2.get1 (Nat.lt_succ_self _)
              rw [List.getElem?_map, gp2] at f1
              cases f1
              have e3 : (((vss.length + 1 : Nat) : Int) - 1) = (vss.length : Int) := by omega
              refine ⟨fun w => sub (hp w79) (hp w), sub.refl _, _, _, cx', fun w s => rb2.cell0 s, _, _, cx', fun w s => rb2.cell0 s, ⟨by omega, by omega⟩, ?_⟩
              rw [e3]
              refine idx_i rfl (Nat.lt_succ_self _) ⟨bk px, fun w s => f2 w s, (l_is (rdSS 1 h.l gp2 gv2) (rdRR 0 h.l gq2 gv3) (tb (rdH 6 h.l))).mono ?_⟩
              rintro _ w83 ⟨rfl, hg⟩
              have h := h.gr hg
              refine ⟨_, rfl, hg, rfl, ps', qs', vss', hp2, hq2, by omega, .inr (by omega), St.ex.2 ⟨((some ad', cx'), (ar', cr')), St.flat.2 ?_⟩⟩
              rw [hvl]
              exact h.pick 7 [2, 4, 3, 1, 0, 6]
    rintro _ _ rfl
    intro w85 hd
    have s85 := hp_drawn hd
    have h := h.drawn hd
    refine ⟨fun w => hp w = hp w85, rfl, B, fun w e => by (have := (rdCel (b := k1) (vs := [.int .i64 K, .int .i64 A, .int .i64 B, .slice a l c]) 0 h.l).cell (w := w) (hp_sub e) (j := 2) rfl; exact this), B, fun w e => by (have := (rdCel (b := k1) (vs := [.int .i64 K, .int .i64 A, .int .i64 B, .slice a l c]) 0 h.l).cell (w := w) (hp_sub e) (j := 2) rfl; exact this), (s_Has (rdSS 4 h.l gp gv) B).mono ?_⟩
    rintro _ _ ⟨rfl, rfl⟩
    refine ⟨_, rfl, rfl, (r_Has (rdRR 5 h.l gq gv) B).mono ?_⟩
    rintro _ _ ⟨rfl, rfl⟩
    exact ⟨_, rfl, rfl, by simp, done0 (wrl (h.pick 7 [1, 2, 3, 4, 5, 6]))⟩
end
end Go.Proofs.YtcipljcagejjaaaDoor
