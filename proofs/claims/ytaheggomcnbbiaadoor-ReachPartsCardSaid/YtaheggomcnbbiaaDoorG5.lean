/- Texts of this claim, one behind the other. -/
import Derived.Test.YtaheggomcnbbiaaDoorG4
import Derived.Test.YtaheggomcnbbiaaDoorG1
import Derived.Test.YtaheggomcnbbiaaDoorG2
import Derived.Test.YtaheggomcnbbiaaDoorCards
import Derived.Test.YtaheggomcnbbiaaDoorTie
import Derived.WalkKit
import Derived.ProofKit
import Derived.OpenShut
import Derived.Carry
import Derived.OpenVars
import Derived.Deep.DeepHandedRow
import Derived.Lib.LaidTab
set_option linter.unusedVariables false
namespace Go.V
def noG : GA := ⟨none, 0, 0, none, 0, 0, none, 0, 0, 0, none, 0, 0⟩
theorem own_noG {w : World} {M : List Asn} (h : St w M) : St w (ownG emptyG noG [] ++ M) := by
  have h1 : St w (own 1 none 0 0 [] :: M) := own_nil 1 h
  have h2 : St w (own 1 none 0 0 [] :: _) := own_nil 1 h1
  have h3 : St w (own 2 none 0 0 [] :: _) := own_nil 2 h2
  have h4 : St w (sta (rightsA [] []) :: _) := St.flat.2 (show St w ([] ++ _) from h3)
  exact own_nil 3 h4
end Go.V
namespace Go.Proofs.YtaheggomcnbbiaaDoor
open Go.V
section
variable {w : World} {g : GramT} {x : GA} {a : Option Addr} {l c : Nat}
theorem r_CloneT {ts : List TermT} (hr : rdS (hp w) ts a l) (hb : ts.length * 24 ≤ 140737488355328) (hb2 : ts.length ≤ 9223372036854775807) : Run Tryd.prog n_slices_Clone_api_Term_api_Term_ [.slice a l c] w fun v w' => ∃ o c', v = .slice o ts.length c' ∧ St w' (own 2 o ts.length c' (termsV ts) :: all w) := by
  refine run_slices_Clone_api_Term_api_Term_ _ _ _ w _ ?_
  have hl := hr.1
  cases a with
  | none =>
    have h0 : ts = [] := by
      cases ts with
      | nil => rfl
      | cons t ts => obtain ⟨ad, _, e, _⟩ := hr.2 0 t rfl; cases e
    subst h0
    exact ⟨none, 0, rfl, own_nil 2 (St.all w)⟩
  | some ad =>
    refine newC_i (St.all w) fun b w1 h1 => ?_
    have h2 : St w1 (own 2 (some ⟨b, 0, none⟩) 0 0 [] :: all w) := own_some (cs := []) h1 rfl rfl (Nat.le_refl _)
    have hr := hr.mono h1.gone1
    refine (app_own' tyOk (rfl : kdOfT Ty _ = .slice _) rfl rfl rfl h2 (n := l) (news := termsV ts) (src_slice tyOk (rfl : kdOfT Ty _ = .slice _) (by rw [termsV_len, hl]) (.inr ⟨ad, rfl, fun j u hj => (rdT_row hr).cell (sub.refl _) hj⟩) (by
      intro u hu
      obtain ⟨t, _, ht⟩ := List.mem_flatMap.1 hu
      simp [termV] at ht; rcases ht with rfl | rfl <;> rfl)) (by show (0 + l) * 24 ≤ _; omega) (by omega)).mono ?_
    rintro _ w2 ⟨a', c', rfl, h3⟩
    rw [Nat.zero_add, ← hl] at h3 ⊢
    rw [List.nil_append] at h3
    exact ⟨_, _, _, rfl, a', c', rfl, h3⟩
theorem r_CloneI {xs : List Int} (hr : rdS (hp w) xs a l) (hb : xs.length * 8 ≤ 140737488355328) (hb2 : xs.length ≤ 9223372036854775807) : Run Tryd.prog n_slices_Clone_int_int_ [.slice a l c] w fun v w' => ∃ o c', v = .slice o xs.length c' ∧ St w' (own 1 o xs.length c' (iv xs) :: all w) := by
  refine run_slices_Clone_int_int_ _ _ _ w _ ?_
  have hl := hr.1
  cases a with
  | none =>
    have h0 : xs = [] := by
      cases xs with
      | nil => rfl
      | cons t ts => obtain ⟨ad, _, e, _⟩ := hr.2 0 t rfl; cases e
    subst h0
    exact ⟨none, 0, rfl, own_nil 1 (St.all w)⟩
  | some ad =>
    refine newC_i (St.all w) fun b w1 h1 => ?_
    have h2 : St w1 (own 1 (some ⟨b, 0, none⟩) 0 0 [] :: all w) := own_some (cs := []) h1 rfl rfl (Nat.le_refl _)
    have hr := hr.mono h1.gone1
    refine (app_own' tyOk (rfl : kdOfT Ty _ = .slice _) rfl rfl rfl h2 (n := l) (news := iv xs) (src_slice tyOk (rfl : kdOfT Ty _ = .slice _) (by rw [iv_len, hl, Nat.mul_one]) (by
        rcases hr.iv with h0 | ⟨ad', e, hc⟩
        · exact .inl (by have := congrArg List.length h0; rw [iv_len, hl] at this; exact this)
        · cases e; exact .inr ⟨ad, rfl, fun j u hj => cellH_w (hc j u hj)⟩) (by
      intro u hu
      obtain ⟨t, _, rfl⟩ := List.mem_map.1 hu
      rfl)) (by show (0 + l) * 8 ≤ _; omega) (by omega)).mono ?_
    rintro _ w2 ⟨a', c', rfl, h3⟩
    rw [Nat.zero_add, ← hl] at h3 ⊢
    rw [List.nil_append] at h3
    exact ⟨_, _, _, rfl, a', c', rfl, h3⟩
set_option maxHeartbeats 8000000 in
theorem r_Reduce (hg : gR (hp w) g x) (hb : okG g) (ht : tabA (hp w)) : Run Tryd.prog n_reach_Reduce [.agg ⟨x.cells⟩] w fun v w' => ∃ (x' : GA) (G : GramT) (os : List (Option Addr × Nat)) (e : Int), v = .tuple #[.agg ⟨x'.cells⟩, .int .i64 e] ∧ ownX G x' ∧ os.length = G.prods.length ∧ RedRes g e G ∧ St w' (ownG G x' os ++ all w) := by
  refine run_reach_Reduce _ _ _ _ _ _ _ _ _ _ _ _ _ w _ ?_
  refine gbox hg fun k1 w1 gw hg B => ?_
  have gs : sub (hp w) (hp w1) := gw
  have h1 := St.all w1
  unfold V.all at h1
  have hst := hg.s
  have htl := hg.t.1
  have hll := hg.l.1
  have ht1 : tabA (hp w1) := rdV.mono gw ht
  generalize hH : hp w1 = H at *
  refine newC_i h1 fun k2 w2 h => ?_
  refine ⟨_, _, _, _, _, _, _, _, _, _, _, _, _, B.row (rdH 1 h.l), (g_Valid (x := x) (hg.mono (rdH 1 h.l)) hb).mono ?_⟩
  rintro _ w3 ⟨⟨r1, rfl, e1⟩, g3⟩
  have h := h.gr g3
  have bad : ∀ {w4 : World} {e : Int} {M : List Asn}, RedRes g e emptyG → St w4 (cel k2 [.slice none 0 0, .slice none 0 0, .slice none 0 0, .int .i64 0, .slice none 0 0] :: M) → (∀ h, starL M h → sub H h) → ∀ w5, hp w5 = hp w4 → ∃ (x' : GA) (G : GramT) (os : List (Option Addr × Nat)) (e' : Int), Value.tuple #[.agg #[.slice none 0 0, .slice none 0 0, .slice none 0 0, .int .i64 0, .slice none 0 0], .int .i64 e] = .tuple #[.agg ⟨x'.cells⟩, .int .i64 e'] ∧ ownX G x' ∧ os.length = G.prods.length ∧ RedRes g e' G ∧ St w5 (ownG G x' os ++ all w) := fun {w4 e M} hr h hM w5 h5 => by
    refine ⟨noG, emptyG, [], e, rfl, ⟨rfl, rfl, rfl, rfl, rfl⟩, rfl, hr, own_noG ?_⟩
    exact has_i (sub.trans gs (by rw [h5]; exact hM _ h.tail))
  refine ⟨_, rfl, br_intro (fun hb1 => ?_) fun hb1 => ?_⟩
  · have hn : ¬ ValidP g := fun hv => by rw [e1.2 hv] at hb1; cases hb1
    exact stR_i h rfl (by intro v hv; simp at hv; rcases hv with rfl | rfl | rfl | rfl | rfl <;> rfl) fun w4 h => ⟨_, _, _, _, _, _, _, _, _, _, _, _, _, h.row.at (sub.refl _) rfl, bad (.inl ⟨hn, rfl, rfl⟩) h fun _ hh => rdH 0 hh⟩
  have hv : ValidP g := e1.1 (by simpa using hb1)
  have he : EitherP g := .inl hv
  obtain ⟨iG, bT, bN, pN, pT, bP⟩ := inG he
  obtain ⟨sg1, sg2⟩ := start_in he
  refine ⟨_, _, _, _, _, _, _, _, _, _, _, _, _, B.row (rdH 1 h.l), (r_productive (x := x) (hg.mono (rdH 1 h.l)) hb he).mono ?_⟩
  rintro _ w6 ⟨pm, may, rfl, hpd, h6⟩
  have h := h6.on1 h
  refine ⟨_, _, rfl, newC_i h fun k27 w7 h => stR_i h rfl (by simp [oneC]) fun w8 h => ?_⟩
  have r27' : rowH (hp w8) ⟨k27, 0, none⟩ [.pointer (some ⟨pm, 0, none⟩), .int .i64 (g.T : Int)] := rdCel 0 h.l
  have hm8 : setR (hp w8) (some ⟨pm, 0, none⟩) may := h.swap.setR
  refine ⟨_, r27'.cell0 (sub.refl _), _, B.c3 (rdH 3 h.l), ?_⟩
  rw [hst]
  refine (s_Has hm8 g.start).mono ?_
  rintro _ w9 ⟨rfl, rfl⟩
  have hpg : hasB may g.start = true ↔ Pd g g.start := by rw [hasB_pos (by omega), hpd.2, toNat_back (by omega)]
  refine ⟨_, rfl, br_intro (fun hb2 => ?_) fun hb2 => ?_⟩
  · have hn : ¬ Pd g g.start := fun hp' => by rw [hpg.2 hp'] at hb2; cases hb2
    exact stR_i (h.pick 4 [2, 0, 1, 3]) rfl (by intro v hv; simp at hv; rcases hv with rfl | rfl | rfl | rfl | rfl <;> rfl) fun w10 h => ⟨_, _, _, _, _, _, _, _, _, _, _, _, _, h.row.at (sub.refl _) rfl, bad (.inr (.inl ⟨hv, hn, rfl, rfl⟩)) h fun _ hh => rdH 2 hh⟩
  have hPd : Pd g g.start := hpg.1 (by simpa using hb2)
  refine ⟨_, _, _, _, _, _, _, _, _, _, _, _, _, B.row (rdH 3 h.l), _, _, r27'.at (sub.refl _) rfl, (r_useful (x := x) (hg.mono (rdH 3 h.l)) hb he hm8 hpd).mono ?_⟩
  rintro _ w12 ⟨pi, bs, rfl, hus, h12⟩
  have h := h12.on1 h
  refine ⟨_, _, rfl, newC_i h fun k44 w13 h => stR_i h rfl (by simp [oneC]) fun w14 h => fun w15 hd => ?_⟩
  have h := h.drawn hd
  obtain ⟨H2, hl2, h⟩ := St.freezeL [_] (M := [_, _, _, _, _]) (h.pick 6 [4, 0, 1, 2, 3, 5])
  have sH : sub H H2 := rdH 4 hl2
  have r44 : rowH H2 ⟨k44, 0, none⟩ [.pointer (some ⟨pi, 0, none⟩), .int .i64 (g.T : Int)] := rdCel 0 hl2
  have r27 : rowH H2 ⟨k27, 0, none⟩ [.pointer (some ⟨pm, 0, none⟩), .int .i64 (g.T : Int)] := rdCel 2 hl2
  have hiH : setR H2 (some ⟨pi, 0, none⟩) bs := rdSet 1 hl2
  have hmH : setR H2 (some ⟨pm, 0, none⟩) may := rdSet 3 hl2
  have hgH : gR H2 g x := hg.mono sH
  have BH : GB H2 k1 x := ⟨fun s => B.c0 (sub.trans sH s), fun s => B.c1 (sub.trans sH s), fun s => B.c2 (sub.trans sH s), fun s => B.c3 (sub.trans sH s), fun s => B.c4 (sub.trans sH s), fun s => B.row (sub.trans sH s)⟩
  have htH : tabA H2 := rdV.mono sH ht1
  have h : St w15 [cel k2 [.slice none 0 0, .slice none 0 0, .slice none 0 0, .int .i64 0, .slice none 0 0], has H2] := h
  obtain ⟨b1, b2, b3, b4, b5, b6, b7⟩ := id hb
  have hT' : g.T = g.terms.length := rfl
  have hRR : ∀ (x' : GA) os w', ownX (redG g (may.drop g.T) (bs.drop g.T)) x' → os.length = (redG g (may.drop g.T) (bs.drop g.T)).prods.length → St w' (ownG (redG g (may.drop g.T) (bs.drop g.T)) x' os ++ [has H2]) → ∃ (x'' : GA) (G : GramT) (os' : List (Option Addr × Nat)) (e : Int), Value.tuple #[.agg ⟨x'.cells⟩, .int .i64 0] = .tuple #[.agg ⟨x''.cells⟩, .int .i64 e] ∧ ownX G x'' ∧ os'.length = G.prods.length ∧ RedRes g e G ∧ St w' (ownG G x'' os' ++ all w) := fun x' os w' h1 h2 h3 =>
    ⟨x', _, os, 0, rfl, h1, h2, .inr (.inr ⟨hv, hPd, rfl, _, _, hpd.nons, hus.nons, rfl⟩), St.on (N := [_, _, _, _, _]) h3 (has_i (sub.trans gs sH))⟩
  have tl : ∀ {k53 kG cT cL : Nat} {oT oL : Option Addr} {w22 : World}, St w22 [cel kG [.slice oT g.terms.length cT, .slice (some ⟨k53, 0, none⟩) 1 1, .slice oL g.levels.length cL, .int .i64 0, .slice none 0 0], own 2 oT g.terms.length cT (termsV g.terms), own 1 (some ⟨k53, 0, none⟩) 1 1 [.string .empty], own 1 oL g.levels.length cL (iv g.levels), cel k2 [.slice none 0 0, .slice none 0 0, .slice none 0 0, .int .i64 0, .slice none 0 0], has H2] → tail_Red k1 k2 k27 k44 kG w22 (fun v w' => ∃ (x' : GA) (G : GramT) (os : List (Option Addr × Nat)) (e : Int), v = .tuple #[.agg ⟨x'.cells⟩, .int .i64 e] ∧ ownX G x' ∧ os.length = G.prods.length ∧ RedRes g e G ∧ St w' (ownG G x' os ++ all w)) := fun h => r_tail hgH BH hb he hpd hus hmH hiH r27 r44 htH h hRR
  clear hRR
  refine ⟨fun w => sub H2 (hp w), rdH 1 h.l, _, _, _, fun w s => BH.c0 s, _, _, _, fun w s => BH.c2 s, ?_⟩
  refine ⟨?_, ?_, ?_⟩
  · refine (r_CloneT (hgH.t.mono (rdH 1 h.l)) (by omega) (by omega)).mono ?_
    rintro _ _ ⟨oT, cT, rfl, hN⟩
    have h := hN.on1 h
    refine ⟨_, _, _, rfl, rdH 2 h.l, ?_⟩
    refine ⟨?_, ?_, ?_⟩
    · refine (r_CloneI (hgH.l.mono (rdH 2 h.l)) (by omega) (by omega)).mono ?_
      rintro _ _ ⟨oL, cL, rfl, hN⟩
      have h := hN.on1 h
      refine ⟨_, _, _, rfl, rdH 3 h.l, ?_⟩
      refine ⟨?_, ?_⟩
      · refine newC_i h fun kS _ h => ⟨rdH 4 h.l, ?_⟩
        refine newC_i h fun kG _ h => ⟨rdH 5 h.l, ?_⟩
        have h := own_some (cs := []) (vs := [.string .empty]) (l := 1) (c := 1) (sz := 1) (h.pick 6 [1, 0, 3, 2, 4, 5]) rfl rfl (Nat.le_refl _)
        refine stR_i (h.pick 6 [1, 2, 0, 3, 4, 5]) rfl (by intro v hv; simp at hv; rcases hv with rfl | rfl | rfl | rfl | rfl <;> rfl) fun w22 h => ?_
        have t := tl h
        exact t
      · refine newC_i h fun kG _ h => ⟨rdH 4 h.l, ?_⟩
        refine newC_i h fun kS _ h => ⟨rdH 5 h.l, ?_⟩
        have h := own_some (cs := []) (vs := [.string .empty]) (l := 1) (c := 1) (sz := 1) (h.pick 6 [0, 1, 3, 2, 4, 5]) rfl rfl (Nat.le_refl _)
        refine stR_i (h.pick 6 [1, 2, 0, 3, 4, 5]) rfl (by intro v hv; simp at hv; rcases hv with rfl | rfl | rfl | rfl | rfl <;> rfl) fun w22 h => ?_
        have t := tl h
        exact t
    · refine newC_i h fun kS _ h => ⟨rdH 3 h.l, ?_⟩
      refine ⟨?_, ?_⟩
      · refine (r_CloneI (hgH.l.mono (rdH 3 h.l)) (by omega) (by omega)).mono ?_
        rintro _ _ ⟨oL, cL, rfl, hN⟩
        have h := hN.on1 h
        refine ⟨_, _, _, rfl, rdH 4 h.l, ?_⟩
        refine newC_i h fun kG _ h => ⟨rdH 5 h.l, ?_⟩
        have h := own_some (cs := []) (vs := [.string .empty]) (l := 1) (c := 1) (sz := 1) (h.pick 6 [2, 0, 3, 1, 4, 5]) rfl rfl (Nat.le_refl _)
        refine stR_i (h.pick 6 [1, 2, 0, 3, 4, 5]) rfl (by intro v hv; simp at hv; rcases hv with rfl | rfl | rfl | rfl | rfl <;> rfl) fun w22 h => ?_
        have t := tl h
        exact t
      · refine newC_i h fun kG _ h => ⟨rdH 4 h.l, ?_⟩
        refine (r_CloneI (hgH.l.mono (rdH 4 h.l)) (by omega) (by omega)).mono ?_
        rintro _ _ ⟨oL, cL, rfl, hN⟩
        have h := hN.on1 h
        refine ⟨_, _, _, rfl, rdH 5 h.l, ?_⟩
        have h := own_some (cs := []) (vs := [.string .empty]) (l := 1) (c := 1) (sz := 1) (h.pick 6 [2, 1, 3, 0, 4, 5]) rfl rfl (Nat.le_refl _)
        refine stR_i (h.pick 6 [1, 2, 0, 3, 4, 5]) rfl (by intro v hv; simp at hv; rcases hv with rfl | rfl | rfl | rfl | rfl <;> rfl) fun w22 h => ?_
        have t := tl h
        exact t
    · refine newC_i h fun kG _ h => ⟨rdH 3 h.l, ?_⟩
      refine ⟨?_, ?_⟩
      · refine (r_CloneI (hgH.l.mono (rdH 3 h.l)) (by omega) (by omega)).mono ?_
        rintro _ _ ⟨oL, cL, rfl, hN⟩
        have h := hN.on1 h
        refine ⟨_, _, _, rfl, rdH 4 h.l, ?_⟩
        refine newC_i h fun kS _ h => ⟨rdH 5 h.l, ?_⟩
        have h := own_some (cs := []) (vs := [.string .empty]) (l := 1) (c := 1) (sz := 1) (h.pick 6 [0, 2, 3, 1, 4, 5]) rfl rfl (Nat.le_refl _)
        refine stR_i (h.pick 6 [1, 2, 0, 3, 4, 5]) rfl (by intro v hv; simp at hv; rcases hv with rfl | rfl | rfl | rfl | rfl <;> rfl) fun w22 h => ?_
        have t := tl h
        exact t
      · refine newC_i h fun kS _ h => ⟨rdH 4 h.l, ?_⟩
        refine (r_CloneI (hgH.l.mono (rdH 4 h.l)) (by omega) (by omega)).mono ?_
        rintro _ _ ⟨oL, cL, rfl, hN⟩
        have h := hN.on1 h
        refine ⟨_, _, _, rfl, rdH 5 h.l, ?_⟩
        have h := own_some (cs := []) (vs := [.string .empty]) (l := 1) (c := 1) (sz := 1) (h.pick 6 [1, 2, 3, 0, 4, 5]) rfl rfl (Nat.le_refl _)
        refine stR_i (h.pick 6 [1, 2, 0, 3, 4, 5]) rfl (by intro v hv; simp at hv; rcases hv with rfl | rfl | rfl | rfl | rfl <;> rfl) fun w22 h => ?_
        have t := tl h
        exact t
  · refine newC_i h fun kS _ h => ⟨rdH 2 h.l, ?_⟩
    refine ⟨?_, ?_⟩
    · refine (r_CloneT (hgH.t.mono (rdH 2 h.l)) (by omega) (by omega)).mono ?_
      rintro _ _ ⟨oT, cT, rfl, hN⟩
      have h := hN.on1 h
      refine ⟨_, _, _, rfl, rdH 3 h.l, ?_⟩
      refine ⟨?_, ?_⟩
      · refine (r_CloneI (hgH.l.mono (rdH 3 h.l)) (by omega) (by omega)).mono ?_
        rintro _ _ ⟨oL, cL, rfl, hN⟩
        have h := hN.on1 h
        refine ⟨_, _, _, rfl, rdH 4 h.l, ?_⟩
        refine newC_i h fun kG _ h => ⟨rdH 5 h.l, ?_⟩
        have h := own_some (cs := []) (vs := [.string .empty]) (l := 1) (c := 1) (sz := 1) (h.pick 6 [3, 0, 2, 1, 4, 5]) rfl rfl (Nat.le_refl _)
        refine stR_i (h.pick 6 [1, 2, 0, 3, 4, 5]) rfl (by intro v hv; simp at hv; rcases hv with rfl | rfl | rfl | rfl | rfl <;> rfl) fun w22 h => ?_
        have t := tl h
        exact t
      · refine newC_i h fun kG _ h => ⟨rdH 4 h.l, ?_⟩
        refine (r_CloneI (hgH.l.mono (rdH 4 h.l)) (by omega) (by omega)).mono ?_
        rintro _ _ ⟨oL, cL, rfl, hN⟩
        have h := hN.on1 h
        refine ⟨_, _, _, rfl, rdH 5 h.l, ?_⟩
        have h := own_some (cs := []) (vs := [.string .empty]) (l := 1) (c := 1) (sz := 1) (h.pick 6 [3, 1, 2, 0, 4, 5]) rfl rfl (Nat.le_refl _)
        refine stR_i (h.pick 6 [1, 2, 0, 3, 4, 5]) rfl (by intro v hv; simp at hv; rcases hv with rfl | rfl | rfl | rfl | rfl <;> rfl) fun w22 h => ?_
        have t := tl h
        exact t
    · refine newC_i h fun kG _ h => ⟨rdH 3 h.l, ?_⟩
      refine (r_CloneT (hgH.t.mono (rdH 3 h.l)) (by omega) (by omega)).mono ?_
      rintro _ _ ⟨oT, cT, rfl, hN⟩
      have h := hN.on1 h
      refine ⟨_, _, _, rfl, rdH 4 h.l, ?_⟩
      refine (r_CloneI (hgH.l.mono (rdH 4 h.l)) (by omega) (by omega)).mono ?_
      rintro _ _ ⟨oL, cL, rfl, hN⟩
      have h := hN.on1 h
      refine ⟨_, _, _, rfl, rdH 5 h.l, ?_⟩
      have h := own_some (cs := []) (vs := [.string .empty]) (l := 1) (c := 1) (sz := 1) (h.pick 6 [3, 2, 1, 0, 4, 5]) rfl rfl (Nat.le_refl _)
      refine stR_i (h.pick 6 [1, 2, 0, 3, 4, 5]) rfl (by intro v hv; simp at hv; rcases hv with rfl | rfl | rfl | rfl | rfl <;> rfl) fun w22 h => ?_
      have t := tl h
      exact t
  · refine newC_i h fun kG _ h => ⟨rdH 2 h.l, ?_⟩
    refine ⟨?_, ?_⟩
    · refine (r_CloneT (hgH.t.mono (rdH 2 h.l)) (by omega) (by omega)).mono ?_
      rintro _ _ ⟨oT, cT, rfl, hN⟩
      have h := hN.on1 h
      refine ⟨_, _, _, rfl, rdH 3 h.l, ?_⟩
      refine ⟨?_, ?_⟩
      · refine (r_CloneI (hgH.l.mono (rdH 3 h.l)) (by omega) (by omega)).mono ?_
        rintro _ _ ⟨oL, cL, rfl, hN⟩
        have h := hN.on1 h
        refine ⟨_, _, _, rfl, rdH 4 h.l, ?_⟩
        refine newC_i h fun kS _ h => ⟨rdH 5 h.l, ?_⟩
        have h := own_some (cs := []) (vs := [.string .empty]) (l := 1) (c := 1) (sz := 1) (h.pick 6 [0, 3, 2, 1, 4, 5]) rfl rfl (Nat.le_refl _)
        refine stR_i (h.pick 6 [1, 2, 0, 3, 4, 5]) rfl (by intro v hv; simp at hv; rcases hv with rfl | rfl | rfl | rfl | rfl <;> rfl) fun w22 h => ?_
        have t := tl h
        exact t
      · refine newC_i h fun kS _ h => ⟨rdH 4 h.l, ?_⟩
        refine (r_CloneI (hgH.l.mono (rdH 4 h.l)) (by omega) (by omega)).mono ?_
        rintro _ _ ⟨oL, cL, rfl, hN⟩
        have h := hN.on1 h
        refine ⟨_, _, _, rfl, rdH 5 h.l, ?_⟩
        have h := own_some (cs := []) (vs := [.string .empty]) (l := 1) (c := 1) (sz := 1) (h.pick 6 [1, 3, 2, 0, 4, 5]) rfl rfl (Nat.le_refl _)
        refine stR_i (h.pick 6 [1, 2, 0, 3, 4, 5]) rfl (by intro v hv; simp at hv; rcases hv with rfl | rfl | rfl | rfl | rfl <;> rfl) fun w22 h => ?_
        have t := tl h
        exact t
    · refine newC_i h fun kS _ h => ⟨rdH 3 h.l, ?_⟩
      refine (r_CloneT (hgH.t.mono (rdH 3 h.l)) (by omega) (by omega)).mono ?_
      rintro _ _ ⟨oT, cT, rfl, hN⟩
      have h := hN.on1 h
      refine ⟨_, _, _, rfl, rdH 4 h.l, ?_⟩
      refine (r_CloneI (hgH.l.mono (rdH 4 h.l)) (by omega) (by omega)).mono ?_
      rintro _ _ ⟨oL, cL, rfl, hN⟩
      have h := hN.on1 h
      refine ⟨_, _, _, rfl, rdH 5 h.l, ?_⟩
      have h := own_some (cs := []) (vs := [.string .empty]) (l := 1) (c := 1) (sz := 1) (h.pick 6 [2, 3, 1, 0, 4, 5]) rfl rfl (Nat.le_refl _)
      refine stR_i (h.pick 6 [1, 2, 0, 3, 4, 5]) rfl (by intro v hv; simp at hv; rcases hv with rfl | rfl | rfl | rfl | rfl <;> rfl) fun w22 h => ?_
      have t := tl h
      exact t
end
end Go.Proofs.YtaheggomcnbbiaaDoor
set_option linter.unusedVariables false
namespace Go.Proofs.YtaheggomcnbbiaaDoor
open Go.V
abbrev n_presagelaw06_spoil : FuncId := 33
def ann_presagelaw06_spoil : Ann := { rngs := [], loops := [(2, [(2, (.one (.int .i64)))]), (6, [(3, (.one (.int .i64)))]), (10, [(4, (.one (.int .i64)))]), (14, [(5, (.one (.int .i64)))]), (17, [(6, (.one (.int .i64)))])], joins := [], blocks := [] }
set_option maxRecDepth 100000 in
def vc_presagelaw06_spoil (p0g_0a : Option Addr) (p0g_0l : Nat) (p0g_0c : Nat) (p0g_1a : Option Addr) (p0g_1l : Nat) (p0g_1c : Nat) (p0g_2a : Option Addr) (p0g_2l : Nat) (p0g_2c : Nat) (p0g_3 : Int) (p0g_4a : Option Addr) (p0g_4l : Nat) (p0g_4c : Nat) (w : World) (R : Value → World → Prop) : Prop :=
  new w
  (Obj.cells
  (Array.mk [Value.slice p0g_0a p0g_0l p0g_0c, Value.slice p0g_1a p0g_1l p0g_1c, Value.slice p0g_2a p0g_2l p0g_2c, Value.int IntKind.i64 p0g_3, Value.slice p0g_4a p0g_4l p0g_4c])
  27)
  fun (k1 : Nat) (w1 : World) =>
  ∃ (x1 : arrS (shs [(2, S1.one (Cs.int IntKind.i64))]) (World → Prop)),
  ∃ (x2 : arrS (shs [(2, S1.one (Cs.int IntKind.i64))]) (World → Nat)),
  x1 0 w1 ∧
  ∀ (I1 : Nat → Value) (n1 : Int) (w2 : World),
  x1 n1 w2 →
  ∃ (o1 : Option Addr),
  ∃ (k2 : Nat),
  ∃ (k3 : Nat),
  World.cell? w2 (Addr.mk k1 0 none) = some (Value.slice o1 k2 k3) ∧
  br (decide (n1 < (↑k2 : Int)))
  (∃ (o2 : Option Addr),
  ∃ (k4 : Nat),
  ∃ (k5 : Nat),
  World.cell? w2 (Addr.mk k1 0 none) = some (Value.slice o2 k4 k5) ∧
  idx o2 k4 n1 2 fun (a1 : Addr) =>
  stR w2 a1 [Value.string (ByteArray.mk (Array.mk [63])), Value.int IntKind.i64 99] fun (w3 : World) =>
  inI (n1 + 1) ∧ x1 (n1 + 1) w3 ∧ x2 (n1 + 1) w3 < x2 n1 w2)
  (∃ (x3 : arrS (shs [(3, S1.one (Cs.int IntKind.i64))]) (World → Prop)),
  ∃ (x4 : arrS (shs [(3, S1.one (Cs.int IntKind.i64))]) (World → Nat)),
  x3 0 w2 ∧
  ∀ (I2 : Nat → Value) (n2 : Int) (w4 : World),
  x3 n2 w4 →
  ∃ (o3 : Option Addr),
  ∃ (k6 : Nat),
  ∃ (k7 : Nat),
  World.cell? w4 (Addr.add (Addr.mk k1 0 none) 1) = some (Value.slice o3 k6 k7) ∧
  br (decide (n2 < (↑k6 : Int)))
  (∃ (o4 : Option Addr),
  ∃ (k8 : Nat),
  ∃ (k9 : Nat),
  World.cell? w4 (Addr.add (Addr.mk k1 0 none) 1) = some (Value.slice o4 k8 k9) ∧
  idx o4 k8 n2 1 fun (a2 : Addr) =>
  st1 w4 a2 (Value.string (ByteArray.mk (Array.mk [63]))) fun (w5 : World) =>
  inI (n2 + 1) ∧ x3 (n2 + 1) w5 ∧ x4 (n2 + 1) w5 < x4 n2 w4)
  (∃ (x5 : arrS (shs [(4, S1.one (Cs.int IntKind.i64))]) (World → Prop)),
  ∃ (x6 : arrS (shs [(4, S1.one (Cs.int IntKind.i64))]) (World → Nat)),
  x5 0 w4 ∧
  ∀ (I3 : Nat → Value) (n3 : Int) (w6 : World),
  x5 n3 w6 →
  ∃ (o5 : Option Addr),
  ∃ (k10 : Nat),
  ∃ (k11 : Nat),
  World.cell? w6 (Addr.add (Addr.mk k1 0 none) 2) = some (Value.slice o5 k10 k11) ∧
  br (decide (n3 < (↑k10 : Int)))
  (∃ (o6 : Option Addr),
  ∃ (k12 : Nat),
  ∃ (k13 : Nat),
  World.cell? w6 (Addr.add (Addr.mk k1 0 none) 2) = some (Value.slice o6 k12 k13) ∧
  idx o6 k12 n3 1 fun (a3 : Addr) =>
  st1 w6 a3 (Value.int IntKind.i64 77) fun (w7 : World) =>
  inI (n3 + 1) ∧ x5 (n3 + 1) w7 ∧ x6 (n3 + 1) w7 < x6 n3 w6)
  (∃ (x7 : arrS (shs [(5, S1.one (Cs.int IntKind.i64))]) (World → Prop)),
  ∃ (x8 : arrS (shs [(5, S1.one (Cs.int IntKind.i64))]) (World → Nat)),
  x7 0 w6 ∧
  ∀ (I4 : Nat → Value) (n4 : Int) (w8 : World),
  x7 n4 w8 →
  ∃ (o7 : Option Addr),
  ∃ (k14 : Nat),
  ∃ (k15 : Nat),
  World.cell? w8 (Addr.add (Addr.mk k1 0 none) 4) = some (Value.slice o7 k14 k15) ∧
  br (decide (n4 < (↑k14 : Int)))
  (∃ (x9 : arrS (shs [(6, S1.one (Cs.int IntKind.i64))]) (World → Prop)),
  ∃ (x10 : arrS (shs [(6, S1.one (Cs.int IntKind.i64))]) (World → Nat)),
  x9 0 w8 ∧
  ∀ (I5 : Nat → Value) (n5 : Int) (w9 : World),
  x9 n5 w9 →
  ∃ (o8 : Option Addr),
  ∃ (k16 : Nat),
  ∃ (k17 : Nat),
  World.cell? w9 (Addr.add (Addr.mk k1 0 none) 4) = some (Value.slice o8 k16 k17) ∧
  idx o8 k16 n4 3 fun (a4 : Addr) =>
  ∃ (o9 : Option Addr),
  ∃ (k18 : Nat),
  ∃ (k19 : Nat),
  World.cell? w9 (Addr.add a4 1) = some (Value.slice o9 k18 k19) ∧
  br (decide (n5 < (↑k18 : Int)))
  (∃ (o10 : Option Addr),
  ∃ (k20 : Nat),
  ∃ (k21 : Nat),
  World.cell? w9 (Addr.add (Addr.mk k1 0 none) 4) =
  some (Value.slice o10 k20 k21) ∧
  idx o10 k20 n4 3 fun (a5 : Addr) =>
  ∃ (o11 : Option Addr),
  ∃ (k22 : Nat),
  ∃ (k23 : Nat),
  World.cell? w9 (Addr.add a5 1) =
  some (Value.slice o11 k22 k23) ∧
  idx o11 k22 n5 1 fun (a6 : Addr) =>
  st1 w9 a6 (Value.int IntKind.i64 (-3))
  fun (w10 : World) =>
  inI (n5 + 1) ∧
  x9 (n5 + 1) w10 ∧
  x10 (n5 + 1) w10 < x10 n5 w9)
  (∃ (o12 : Option Addr),
  ∃ (k24 : Nat),
  ∃ (k25 : Nat),
  World.cell? w9 (Addr.add (Addr.mk k1 0 none) 4) =
  some (Value.slice o12 k24 k25) ∧
  idx o12 k24 n4 3 fun (a7 : Addr) =>
  stR w9 a7
  [Value.int IntKind.i64 0, Value.slice none 0 0,
  Value.int IntKind.i64 0]
  fun (w11 : World) =>
  inI (n4 + 1) ∧
  x7 (n4 + 1) w11 ∧ x8 (n4 + 1) w11 < x8 n4 w8))
  (R (Value.tuple (Array.mk [])) w8))))
set_option maxRecDepth 100000 in
theorem run_presagelaw06_spoil (p0g_0a : Option Addr) (p0g_0l : Nat) (p0g_0c : Nat) (p0g_1a : Option Addr) (p0g_1l : Nat) (p0g_1c : Nat) (p0g_2a : Option Addr) (p0g_2l : Nat) (p0g_2c : Nat) (p0g_3 : Int) (p0g_4a : Option Addr) (p0g_4l : Nat) (p0g_4c : Nat) (w : World) (R : Value → World → Prop) (h : vc_presagelaw06_spoil p0g_0a p0g_0l p0g_0c p0g_1a p0g_1l p0g_1c p0g_2a p0g_2l p0g_2c p0g_3 p0g_4a p0g_4l p0g_4c w R) : Run Tryd.prog 33 [(.agg #[(.slice p0g_0a p0g_0l p0g_0c), (.slice p0g_1a p0g_1l p0g_1c), (.slice p0g_2a p0g_2l p0g_2c), (.int .i64 p0g_3), (.slice p0g_4a p0g_4l p0g_4c)])] w R :=
  run_ev tyOk fnOk mixed Tryd.func33 ann_presagelaw06_spoil ((by kernel_rfl : fnV Tryd.prog Ty Fn Ev ann_presagelaw06_spoil Tryd.f33 [(.agg #[(.slice p0g_0a p0g_0l p0g_0c), (.slice p0g_1a p0g_1l p0g_1c), (.slice p0g_2a p0g_2l p0g_2c), (.int .i64 p0g_3), (.slice p0g_4a p0g_4l p0g_4c)])] w R = vc_presagelaw06_spoil p0g_0a p0g_0l p0g_0c p0g_1a p0g_1l p0g_1c p0g_2a p0g_2l p0g_2c p0g_3 p0g_4a p0g_4l p0g_4c w R) ▸ h)

abbrev n_presagelaw06_awake : FuncId := 34
def ann_presagelaw06_awake : Ann := { rngs := [], loops := [], joins := [], blocks := [] }
set_option maxRecDepth 100000 in
def vc_presagelaw06_awake  (w : World) (R : Value → World → Prop) : Prop :=
  new w (Obj.cells (Array.mk [Value.string (ByteArray.mk (Array.mk [])), Value.int IntKind.i64 0, Value.string (ByteArray.mk (Array.mk [97])), Value.int IntKind.i64 0]) 81)
  fun (k1 : Nat) (w1 : World) =>
  new w1 (Obj.cells (Array.mk [Value.string (ByteArray.mk (Array.mk [83])), Value.string (ByteArray.mk (Array.mk [88]))]) 9) fun (k2 : Nat) (w2 : World) =>
  new w2 (Obj.cells (Array.mk [Value.int IntKind.i64 1]) 3) fun (k3 : Nat) (w3 : World) =>
  new w3 (Obj.cells (Array.mk [Value.int IntKind.i64 3]) 3) fun (k4 : Nat) (w4 : World) =>
  new w4 (Obj.cells (Array.mk [Value.int IntKind.i64 3, Value.int IntKind.i64 1]) 3) fun (k5 : Nat) (w5 : World) =>
  new w5
  (Obj.cells
  (Array.mk
  [Value.int IntKind.i64 2, Value.slice (some (Addr.mk k3 0 none)) 1 1, Value.int IntKind.i64 0, Value.int IntKind.i64 2, Value.slice (some (Addr.mk k4 0 none)) 1 1,
  Value.int IntKind.i64 0, Value.int IntKind.i64 3, Value.slice (some (Addr.mk k5 0 none)) 2 2, Value.int IntKind.i64 0])
  51)
  fun (k6 : Nat) (w6 : World) =>
  new w6 (Obj.cells (Array.mk [Value.slice none 0 0, Value.slice none 0 0, Value.slice none 0 0, Value.int IntKind.i64 0, Value.slice none 0 0]) 27)
  fun (k7 : Nat) (w7 : World) =>
  stR w7 (Addr.mk k7 0 none)
  [Value.slice (some (Addr.mk k1 0 none)) 2 2, Value.slice (some (Addr.mk k2 0 none)) 2 2, Value.slice none 0 0, Value.int IntKind.i64 2,
  Value.slice (some (Addr.mk k6 0 none)) 3 3]
  fun (w8 : World) =>
  ∃ (o1 : Option Addr),
  ∃ (k8 : Nat),
  ∃ (k9 : Nat),
  ∃ (o2 : Option Addr),
  ∃ (k10 : Nat),
  ∃ (k11 : Nat),
  ∃ (o3 : Option Addr),
  ∃ (k12 : Nat),
  ∃ (k13 : Nat),
  ∃ (n1 : Int),
  ∃ (o4 : Option Addr),
  ∃ (k14 : Nat),
  ∃ (k15 : Nat),
  V.rowAt w8 (Addr.mk k7 0 none) 0 5 =
  some [Value.slice o1 k8 k9, Value.slice o2 k10 k11, Value.slice o3 k12 k13, Value.int IntKind.i64 n1, Value.slice o4 k14 k15] ∧
  RunE Proofs.Tryd.prog Ev 38
  [Value.agg
  (Array.mk
  [Value.slice o1 k8 k9, Value.slice o2 k10 k11, Value.slice o3 k12 k13, Value.int IntKind.i64 n1, Value.slice o4 k14 k15])]
  w8 fun (v1 : Value) (w9 : World) =>
  ∃ (o5 : Option Addr),
  ∃ (k16 : Nat),
  ∃ (k17 : Nat),
  ∃ (n2 : Int),
  v1 = Value.tuple (Array.mk [Value.slice o5 k16 k17, Value.int IntKind.i64 n2]) ∧
  ∃ (o6 : Option Addr),
  ∃ (k18 : Nat),
  ∃ (k19 : Nat),
  ∃ (o7 : Option Addr),
  ∃ (k20 : Nat),
  ∃ (k21 : Nat),
  ∃ (o8 : Option Addr),
  ∃ (k22 : Nat),
  ∃ (k23 : Nat),
  ∃ (n3 : Int),
  ∃ (o9 : Option Addr),
  ∃ (k24 : Nat),
  ∃ (k25 : Nat),
  V.rowAt w9 (Addr.mk k7 0 none) 0 5 =
  some
  [Value.slice o6 k18 k19, Value.slice o7 k20 k21, Value.slice o8 k22 k23,
  Value.int IntKind.i64 n3, Value.slice o9 k24 k25] ∧
  RunE Proofs.Tryd.prog Ev 31
  [Value.agg
  (Array.mk
  [Value.slice o6 k18 k19, Value.slice o7 k20 k21, Value.slice o8 k22 k23,
  Value.int IntKind.i64 n3, Value.slice o9 k24 k25])]
  w9 fun (v2 : Value) (w10 : World) =>
  ∃ (o10 : Option Addr),
  ∃ (k26 : Nat),
  ∃ (k27 : Nat),
  ∃ (o11 : Option Addr),
  ∃ (k28 : Nat),
  ∃ (k29 : Nat),
  ∃ (o12 : Option Addr),
  ∃ (k30 : Nat),
  ∃ (k31 : Nat),
  ∃ (n4 : Int),
  ∃ (o13 : Option Addr),
  ∃ (k32 : Nat),
  ∃ (k33 : Nat),
  ∃ (n5 : Int),
  v2 =
  Value.tuple
  (Array.mk
  [Value.agg
  (Array.mk
  [Value.slice o10 k26 k27, Value.slice o11 k28 k29,
  Value.slice o12 k30 k31, Value.int IntKind.i64 n4,
  Value.slice o13 k32 k33]),
  Value.int IntKind.i64 n5]) ∧
  new w10
  (Obj.cells
  (Array.mk
  [Value.slice none 0 0, Value.slice none 0 0,
  Value.slice none 0 0, Value.int IntKind.i64 0,
  Value.slice none 0 0])
  27)
  fun (k34 : Nat) (w11 : World) =>
  stR w11 (Addr.mk k34 0 none)
  [Value.slice o10 k26 k27, Value.slice o11 k28 k29,
  Value.slice o12 k30 k31, Value.int IntKind.i64 n4,
  Value.slice o13 k32 k33]
  fun (w12 : World) =>
  br (n2 == 0)
  (br (n5 == 0)
  (br ((↑k16 : Int) == 2)
  (idx o5 k16 0 1 fun (a1 : Addr) =>
  ∃ (b1 : Bool),
  World.cell? w12 a1 = some (Value.bool b1) ∧
  br b1
  (idx o5 k16 1 1 fun (a2 : Addr) =>
  ∃ (b2 : Bool),
  World.cell? w12 a2 =
  some (Value.bool b2) ∧
  br (!b2)
  (∃ (o14 : Option Addr),
  ∃ (k35 : Nat),
  ∃ (k36 : Nat),
  World.cell? w12
  (Addr.add
  (Addr.mk k34 0 none)
  1) =
  some
  (Value.slice o14 k35
  k36) ∧
  br ((↑k35 : Int) == 2)
  (∃ (o15 : Option Addr),
  ∃ (k37 : Nat),
  ∃ (k38 : Nat),
  World.cell? w12
  (Addr.add
  (Addr.mk k34 0
  none)
  1) =
  some
  (Value.slice o15
  k37 k38) ∧
  idx o15 k37 1 1
  fun (a3 : Addr) =>
  ∃ (s1 :
  ByteArray),
  World.cell? w12
  a3 =
  some
  (Value.string
  s1) ∧
  br
  (ByteArray.toList
  s1 ==
  ByteArray.toList
  (ByteArray.mk
  (Array.mk
  [83])))
  (∃ (o16 :
  Option
  Addr),
  ∃ (k39 :
  Nat),
  ∃ (k40 :
  Nat),
  World.cell?
  w12
  (Addr.add
  (Addr.mk
  k34
  0
  none)
  4) =
  some
  (Value.slice
  o16
  k39
  k40) ∧
  br
  ((↑k39 :
  Int) ==
  2)
  (∃
  (n6
  :
  Int),
  World.cell?
  w12
  (Addr.add
  (Addr.mk
  k34
  0
  none)
  3) =
  some
  (Value.int
  IntKind.i64
  n6) ∧
  R
  (Value.bool
  (n6 ==
  3))
  w12)
  (R
  (Value.bool
  false)
  w12))
  (R
  (Value.bool
  false)
  w12))
  (R (Value.bool false) w12))
  (R (Value.bool false) w12))
  (R (Value.bool false) w12))
  (R (Value.bool false) w12))
  (R (Value.bool false) w12))
  (R (Value.bool false) w12)
set_option maxRecDepth 100000 in
theorem run_presagelaw06_awake  (w : World) (R : Value → World → Prop) (h : vc_presagelaw06_awake  w R) : Run Tryd.prog 34 [] w R :=
  run_ev tyOk fnOk mixed Tryd.func34 ann_presagelaw06_awake ((by kernel_rfl : fnV Tryd.prog Ty Fn Ev ann_presagelaw06_awake Tryd.f34 [] w R = vc_presagelaw06_awake  w R) ▸ h)

abbrev n_presagelaw06_pick : FuncId := 39
def ann_presagelaw06_pick : Ann := { rngs := [], loops := [], joins := [], blocks := [] }
set_option maxRecDepth 100000 in
def vc_presagelaw06_pick (p0c : Int) (p1n : Int) (w : World) (R : Value → World → Prop) : Prop :=
  br (decide (p0c < 0)) (inI (p0c + 1) ∧ inI (0 - (p0c + 1)) ∧ nz p1n ∧ R (Value.int IntKind.i64 (Int.tmod (0 - (p0c + 1)) p1n)) w)
  (nz p1n ∧ R (Value.int IntKind.i64 (Int.tmod p0c p1n)) w)
set_option maxRecDepth 100000 in
theorem run_presagelaw06_pick (p0c : Int) (p1n : Int) (w : World) (R : Value → World → Prop) (h : vc_presagelaw06_pick p0c p1n w R) : Run Tryd.prog 39 [(.int .i64 p0c), (.int .i64 p1n)] w R :=
  run_ev tyOk fnOk mixed Tryd.func39 ann_presagelaw06_pick ((by kernel_rfl : fnV Tryd.prog Ty Fn Ev ann_presagelaw06_pick Tryd.f39 [(.int .i64 p0c), (.int .i64 p1n)] w R = vc_presagelaw06_pick p0c p1n w R) ▸ h)

abbrev n_presagelaw06_like : FuncId := 46
def ann_presagelaw06_like : Ann := { rngs := [], loops := [(4, [(9, (.one (.int .i64)))])], joins := [(2, [(48, (.one .bool))]), (9, [(77, (.one .bool))])], blocks := [] }
set_option maxRecDepth 100000 in
def vc_presagelaw06_like (p0g_0a : Option Addr) (p0g_0l : Nat) (p0g_0c : Nat) (p0g_1a : Option Addr) (p0g_1l : Nat) (p0g_1c : Nat) (p0g_2a : Option Addr) (p0g_2l : Nat) (p0g_2c : Nat) (p0g_3 : Int) (p0g_4a : Option Addr) (p0g_4l : Nat) (p0g_4c : Nat) (p1p_0 : Int) (p1p_1a : Option Addr) (p1p_1l : Nat) (p1p_1c : Nat) (p1p_2 : Int) (p2c_0a : Option Addr) (p2c_0l : Nat) (p2c_0c : Nat) (p2c_1a : Option Addr) (p2c_1l : Nat) (p2c_1c : Nat) (p2c_2a : Option Addr) (p2c_2l : Nat) (p2c_2c : Nat) (p2c_3 : Int) (p2c_4a : Option Addr) (p2c_4l : Nat) (p2c_4c : Nat) (p3q_0 : Int) (p3q_1a : Option Addr) (p3q_1l : Nat) (p3q_1c : Nat) (p3q_2 : Int) (w : World) (R : Value → World → Prop) : Prop :=
  new w
  (Obj.cells
  (Array.mk [Value.slice p0g_0a p0g_0l p0g_0c, Value.slice p0g_1a p0g_1l p0g_1c, Value.slice p0g_2a p0g_2l p0g_2c, Value.int IntKind.i64 p0g_3, Value.slice p0g_4a p0g_4l p0g_4c])
  27)
  fun (k1 : Nat) (w1 : World) =>
  new w1 (Obj.cells (Array.mk [Value.int IntKind.i64 p1p_0, Value.slice p1p_1a p1p_1l p1p_1c, Value.int IntKind.i64 p1p_2]) 51) fun (k2 : Nat) (w2 : World) =>
  new w2
  (Obj.cells
  (Array.mk
  [Value.slice p2c_0a p2c_0l p2c_0c, Value.slice p2c_1a p2c_1l p2c_1c, Value.slice p2c_2a p2c_2l p2c_2c, Value.int IntKind.i64 p2c_3, Value.slice p2c_4a p2c_4l p2c_4c])
  27)
  fun (k3 : Nat) (w3 : World) =>
  new w3 (Obj.cells (Array.mk [Value.int IntKind.i64 p3q_0, Value.slice p3q_1a p3q_1l p3q_1c, Value.int IntKind.i64 p3q_2]) 51) fun (k4 : Nat) (w4 : World) =>
  ∃ (x1 : arrS (shs [(48, S1.one Cs.bool)]) (World → Prop)),
  (∀ (w5 : World),
  drawn w4 w5 →
  ∃ (I1 : World → Prop),
  I1 w5 ∧
  ∃ (o1 : Option Addr),
  ∃ (k5 : Nat),
  ∃ (k6 : Nat),
  (∀ (w6 : World), I1 w6 → World.cell? w6 (Addr.add (Addr.mk k2 0 none) 1) = some (Value.slice o1 k5 k6)) ∧
  ∃ (o2 : Option Addr),
  ∃ (k7 : Nat),
  ∃ (k8 : Nat),
  (∀ (w7 : World), I1 w7 → World.cell? w7 (Addr.add (Addr.mk k4 0 none) 1) = some (Value.slice o2 k7 k8)) ∧
  br ((↑k5 : Int) != (↑k7 : Int)) (x1 true w5)
  (∃ (n1 : Int),
  (∀ (w8 : World), I1 w8 → World.cell? w8 (Addr.add (Addr.mk k2 0 none) 2) = some (Value.int IntKind.i64 n1)) ∧
  ∃ (n2 : Int),
  (∀ (w9 : World), I1 w9 → World.cell? w9 (Addr.add (Addr.mk k4 0 none) 2) = some (Value.int IntKind.i64 n2)) ∧
  br (n1 != n2) (x1 true w5)
  (∃ (o3 : Option Addr),
  ∃ (k9 : Nat),
  ∃ (k10 : Nat),
  (∀ (w10 : World), I1 w10 → World.cell? w10 (Addr.add (Addr.mk k1 0 none) 1) = some (Value.slice o3 k9 k10)) ∧
  ∃ (n3 : Int),
  (∀ (w11 : World), I1 w11 → World.cell? w11 (Addr.mk k2 0 none) = some (Value.int IntKind.i64 n3)) ∧
  ∃ (o4 : Option Addr),
  ∃ (k11 : Nat),
  ∃ (k12 : Nat),
  (∀ (w12 : World), I1 w12 → World.cell? w12 (Addr.mk k1 0 none) = some (Value.slice o4 k11 k12)) ∧
  inI (n3 - (↑k11 : Int)) ∧
  idx o3 k9 (n3 - (↑k11 : Int)) 1 fun (a1 : Addr) =>
  ∃ (s1 : ByteArray),
  (∀ (w13 : World), I1 w13 → World.cell? w13 a1 = some (Value.string s1)) ∧
  ∃ (o5 : Option Addr),
  ∃ (k13 : Nat),
  ∃ (k14 : Nat),
  (∀ (w14 : World),
  I1 w14 → World.cell? w14 (Addr.add (Addr.mk k3 0 none) 1) = some (Value.slice o5 k13 k14)) ∧
  ∃ (n4 : Int),
  (∀ (w15 : World),
  I1 w15 → World.cell? w15 (Addr.mk k4 0 none) = some (Value.int IntKind.i64 n4)) ∧
  ∃ (o6 : Option Addr),
  ∃ (k15 : Nat),
  ∃ (k16 : Nat),
  (∀ (w16 : World),
  I1 w16 → World.cell? w16 (Addr.mk k3 0 none) = some (Value.slice o6 k15 k16)) ∧
  inI (n4 - (↑k15 : Int)) ∧
  idx o5 k13 (n4 - (↑k15 : Int)) 1 fun (a2 : Addr) =>
  ∃ (s2 : ByteArray),
  (∀ (w17 : World), I1 w17 → World.cell? w17 a2 = some (Value.string s2)) ∧
  x1 (!ByteArray.toList s1 == ByteArray.toList s2) w5))) ∧
  ∀ (I2 : Nat → Value) (b1 : Bool) (w18 : World),
  x1 b1 w18 →
  br b1 (R (Value.bool false) w18)
  (∃ (x2 : arrS (shs [(9, S1.one (Cs.int IntKind.i64))]) (World → Prop)),
  ∃ (x3 : arrS (shs [(9, S1.one (Cs.int IntKind.i64))]) (World → Nat)),
  x2 0 w18 ∧
  ∀ (I3 : Nat → Value) (n5 : Int) (w19 : World),
  x2 n5 w19 →
  ∃ (o7 : Option Addr),
  ∃ (k17 : Nat),
  ∃ (k18 : Nat),
  World.cell? w19 (Addr.add (Addr.mk k2 0 none) 1) = some (Value.slice o7 k17 k18) ∧
  br (decide (n5 < (↑k17 : Int)))
  (∃ (o8 : Option Addr),
  ∃ (k19 : Nat),
  ∃ (k20 : Nat),
  World.cell? w19 (Addr.add (Addr.mk k2 0 none) 1) = some (Value.slice o8 k19 k20) ∧
  idx o8 k19 n5 1 fun (a3 : Addr) =>
  ∃ (n6 : Int),
  World.cell? w19 a3 = some (Value.int IntKind.i64 n6) ∧
  ∃ (o9 : Option Addr),
  ∃ (k21 : Nat),
  ∃ (k22 : Nat),
  World.cell? w19 (Addr.add (Addr.mk k4 0 none) 1) = some (Value.slice o9 k21 k22) ∧
  idx o9 k21 n5 1 fun (a4 : Addr) =>
  ∃ (n7 : Int),
  World.cell? w19 a4 = some (Value.int IntKind.i64 n7) ∧
  ∃ (x4 : arrS (shs [(77, S1.one Cs.bool)]) (World → Prop)),
  (∃ (o10 : Option Addr),
  ∃ (k23 : Nat),
  ∃ (k24 : Nat),
  World.cell? w19 (Addr.mk k1 0 none) = some (Value.slice o10 k23 k24) ∧
  br (decide (n6 < (↑k23 : Int))) (x4 true w19)
  (∃ (o11 : Option Addr),
  ∃ (k25 : Nat),
  ∃ (k26 : Nat),
  World.cell? w19 (Addr.mk k3 0 none) = some (Value.slice o11 k25 k26) ∧
  x4 (decide (n7 < (↑k25 : Int))) w19)) ∧
  ∀ (I4 : Nat → Value) (b2 : Bool) (w20 : World),
  x4 b2 w20 →
  br b2
  (br (n6 != n7) (R (Value.bool false) w20)
  (inI (n5 + 1) ∧ x2 (n5 + 1) w20 ∧ x3 (n5 + 1) w20 < x3 n5 w19))
  (∀ (w21 : World),
  drawn w20 w21 →
  ∃ (I5 : World → Prop),
  I5 w21 ∧
  ∃ (o12 : Option Addr),
  ∃ (k27 : Nat),
  ∃ (k28 : Nat),
  (∀ (w22 : World),
  I5 w22 →
  World.cell? w22 (Addr.add (Addr.mk k1 0 none) 1) = some (Value.slice o12 k27 k28)) ∧
  ∃ (o13 : Option Addr),
  ∃ (k29 : Nat),
  ∃ (k30 : Nat),
  (∀ (w23 : World),
  I5 w23 →
  World.cell? w23 (Addr.mk k1 0 none) = some (Value.slice o13 k29 k30)) ∧
  inI (n6 - (↑k29 : Int)) ∧
  idx o12 k27 (n6 - (↑k29 : Int)) 1 fun (a5 : Addr) =>
  ∃ (s3 : ByteArray),
  (∀ (w24 : World), I5 w24 → World.cell? w24 a5 = some (Value.string s3)) ∧
  ∃ (o14 : Option Addr),
  ∃ (k31 : Nat),
  ∃ (k32 : Nat),
  (∀ (w25 : World),
  I5 w25 →
  World.cell? w25 (Addr.add (Addr.mk k3 0 none) 1) =
  some (Value.slice o14 k31 k32)) ∧
  ∃ (o15 : Option Addr),
  ∃ (k33 : Nat),
  ∃ (k34 : Nat),
  (∀ (w26 : World),
  I5 w26 →
  World.cell? w26 (Addr.mk k3 0 none) =
  some (Value.slice o15 k33 k34)) ∧
  inI (n7 - (↑k33 : Int)) ∧
  idx o14 k31 (n7 - (↑k33 : Int)) 1 fun (a6 : Addr) =>
  ∃ (s4 : ByteArray),
  (∀ (w27 : World),
  I5 w27 →
  World.cell? w27 a6 =
  some (Value.string s4)) ∧
  br (!ByteArray.toList s3 == ByteArray.toList s4)
  (R (Value.bool false) w21)
  (inI (n5 + 1) ∧
  x2 (n5 + 1) w21 ∧
  x3 (n5 + 1) w21 < x3 n5 w19)))
  (R (Value.bool true) w19))
set_option maxRecDepth 100000 in
theorem run_presagelaw06_like (p0g_0a : Option Addr) (p0g_0l : Nat) (p0g_0c : Nat) (p0g_1a : Option Addr) (p0g_1l : Nat) (p0g_1c : Nat) (p0g_2a : Option Addr) (p0g_2l : Nat) (p0g_2c : Nat) (p0g_3 : Int) (p0g_4a : Option Addr) (p0g_4l : Nat) (p0g_4c : Nat) (p1p_0 : Int) (p1p_1a : Option Addr) (p1p_1l : Nat) (p1p_1c : Nat) (p1p_2 : Int) (p2c_0a : Option Addr) (p2c_0l : Nat) (p2c_0c : Nat) (p2c_1a : Option Addr) (p2c_1l : Nat) (p2c_1c : Nat) (p2c_2a : Option Addr) (p2c_2l : Nat) (p2c_2c : Nat) (p2c_3 : Int) (p2c_4a : Option Addr) (p2c_4l : Nat) (p2c_4c : Nat) (p3q_0 : Int) (p3q_1a : Option Addr) (p3q_1l : Nat) (p3q_1c : Nat) (p3q_2 : Int) (w : World) (R : Value → World → Prop) (h : vc_presagelaw06_like p0g_0a p0g_0l p0g_0c p0g_1a p0g_1l p0g_1c p0g_2a p0g_2l p0g_2c p0g_3 p0g_4a p0g_4l p0g_4c p1p_0 p1p_1a p1p_1l p1p_1c p1p_2 p2c_0a p2c_0l p2c_0c p2c_1a p2c_1l p2c_1c p2c_2a p2c_2l p2c_2c p2c_3 p2c_4a p2c_4l p2c_4c p3q_0 p3q_1a p3q_1l p3q_1c p3q_2 w R) : Run Tryd.prog 46 [(.agg #[(.slice p0g_0a p0g_0l p0g_0c), (.slice p0g_1a p0g_1l p0g_1c), (.slice p0g_2a p0g_2l p0g_2c), (.int .i64 p0g_3), (.slice p0g_4a p0g_4l p0g_4c)]), (.agg #[(.int .i64 p1p_0), (.slice p1p_1a p1p_1l p1p_1c), (.int .i64 p1p_2)]), (.agg #[(.slice p2c_0a p2c_0l p2c_0c), (.slice p2c_1a p2c_1l p2c_1c), (.slice p2c_2a p2c_2l p2c_2c), (.int .i64 p2c_3), (.slice p2c_4a p2c_4l p2c_4c)]), (.agg #[(.int .i64 p3q_0), (.slice p3q_1a p3q_1l p3q_1c), (.int .i64 p3q_2)])] w R :=
  run_ev tyOk fnOk mixed Tryd.func46 ann_presagelaw06_like ((by kernel_rfl : fnV Tryd.prog Ty Fn Ev ann_presagelaw06_like Tryd.f46 [(.agg #[(.slice p0g_0a p0g_0l p0g_0c), (.slice p0g_1a p0g_1l p0g_1c), (.slice p0g_2a p0g_2l p0g_2c), (.int .i64 p0g_3), (.slice p0g_4a p0g_4l p0g_4c)]), (.agg #[(.int .i64 p1p_0), (.slice p1p_1a p1p_1l p1p_1c), (.int .i64 p1p_2)]), (.agg #[(.slice p2c_0a p2c_0l p2c_0c), (.slice p2c_1a p2c_1l p2c_1c), (.slice p2c_2a p2c_2l p2c_2c), (.int .i64 p2c_3), (.slice p2c_4a p2c_4l p2c_4c)]), (.agg #[(.int .i64 p3q_0), (.slice p3q_1a p3q_1l p3q_1c), (.int .i64 p3q_2)])] w R = vc_presagelaw06_like p0g_0a p0g_0l p0g_0c p0g_1a p0g_1l p0g_1c p0g_2a p0g_2l p0g_2c p0g_3 p0g_4a p0g_4l p0g_4c p1p_0 p1p_1a p1p_1l p1p_1c p1p_2 p2c_0a p2c_0l p2c_0c p2c_1a p2c_1l p2c_1c p2c_2a p2c_2l p2c_2c p2c_3 p2c_4a p2c_4l p2c_4c p3q_0 p3q_1a p3q_1l p3q_1c p3q_2 w R) ▸ h)

abbrev n_presagelaw06_ReachReduces : FuncId := 8
def ann_presagelaw06_ReachReduces : Ann := { rngs := [], loops := [], joins := [(6, [])], blocks := [] }
set_option maxRecDepth 100000 in
def vc_presagelaw06_ReachReduces (p0g_0a : Option Addr) (p0g_0l : Nat) (p0g_0c : Nat) (p0g_1a : Option Addr) (p0g_1l : Nat) (p0g_1c : Nat) (p0g_2a : Option Addr) (p0g_2l : Nat) (p0g_2c : Nat) (p0g_3 : Int) (p0g_4a : Option Addr) (p0g_4l : Nat) (p0g_4c : Nat) (w : World) (R : Value → World → Prop) : Prop :=
  new w
  (Obj.cells
  (Array.mk [Value.slice p0g_0a p0g_0l p0g_0c, Value.slice p0g_1a p0g_1l p0g_1c, Value.slice p0g_2a p0g_2l p0g_2c, Value.int IntKind.i64 p0g_3, Value.slice p0g_4a p0g_4l p0g_4c])
  27)
  fun (k1 : Nat) (w1 : World) =>
  ∃ (o1 : Option Addr),
  ∃ (k2 : Nat),
  ∃ (k3 : Nat),
  ∃ (o2 : Option Addr),
  ∃ (k4 : Nat),
  ∃ (k5 : Nat),
  ∃ (o3 : Option Addr),
  ∃ (k6 : Nat),
  ∃ (k7 : Nat),
  ∃ (n1 : Int),
  ∃ (o4 : Option Addr),
  ∃ (k8 : Nat),
  ∃ (k9 : Nat),
  V.rowAt w1 (Addr.mk k1 0 none) 0 5 =
  some [Value.slice o1 k2 k3, Value.slice o2 k4 k5, Value.slice o3 k6 k7, Value.int IntKind.i64 n1, Value.slice o4 k8 k9] ∧
  RunE Proofs.Tryd.prog Ev 14
  [Value.agg (Array.mk [Value.slice o1 k2 k3, Value.slice o2 k4 k5, Value.slice o3 k6 k7, Value.int IntKind.i64 n1, Value.slice o4 k8 k9])] w1
  fun (v1 : Value) (w2 : World) =>
  ∃ (o5 : Option Addr),
  ∃ (k10 : Nat),
  ∃ (k11 : Nat),
  ∃ (o6 : Option Addr),
  ∃ (k12 : Nat),
  ∃ (k13 : Nat),
  ∃ (o7 : Option Addr),
  ∃ (k14 : Nat),
  ∃ (k15 : Nat),
  ∃ (n2 : Int),
  ∃ (o8 : Option Addr),
  ∃ (k16 : Nat),
  ∃ (k17 : Nat),
  v1 =
  Value.agg
  (Array.mk
  [Value.slice o5 k10 k11, Value.slice o6 k12 k13, Value.slice o7 k14 k15, Value.int IntKind.i64 n2,
  Value.slice o8 k16 k17]) ∧
  new w2
  (Obj.cells
  (Array.mk
  [Value.slice none 0 0, Value.slice none 0 0, Value.slice none 0 0, Value.int IntKind.i64 0, Value.slice none 0 0])
  27)
  fun (k18 : Nat) (w3 : World) =>
  stR w3 (Addr.mk k18 0 none)
  [Value.slice o5 k10 k11, Value.slice o6 k12 k13, Value.slice o7 k14 k15, Value.int IntKind.i64 n2,
  Value.slice o8 k16 k17]
  fun (w4 : World) =>
  ∃ (o9 : Option Addr),
  ∃ (k19 : Nat),
  ∃ (k20 : Nat),
  ∃ (o10 : Option Addr),
  ∃ (k21 : Nat),
  ∃ (k22 : Nat),
  ∃ (o11 : Option Addr),
  ∃ (k23 : Nat),
  ∃ (k24 : Nat),
  ∃ (n3 : Int),
  ∃ (o12 : Option Addr),
  ∃ (k25 : Nat),
  ∃ (k26 : Nat),
  V.rowAt w4 (Addr.mk k18 0 none) 0 5 =
  some
  [Value.slice o9 k19 k20, Value.slice o10 k21 k22, Value.slice o11 k23 k24,
  Value.int IntKind.i64 n3, Value.slice o12 k25 k26] ∧
  RunE Proofs.Tryd.prog Ev 31
  [Value.agg
  (Array.mk
  [Value.slice o9 k19 k20, Value.slice o10 k21 k22, Value.slice o11 k23 k24,
  Value.int IntKind.i64 n3, Value.slice o12 k25 k26])]
  w4 fun (v2 : Value) (w5 : World) =>
  ∃ (o13 : Option Addr),
  ∃ (k27 : Nat),
  ∃ (k28 : Nat),
  ∃ (o14 : Option Addr),
  ∃ (k29 : Nat),
  ∃ (k30 : Nat),
  ∃ (o15 : Option Addr),
  ∃ (k31 : Nat),
  ∃ (k32 : Nat),
  ∃ (n4 : Int),
  ∃ (o16 : Option Addr),
  ∃ (k33 : Nat),
  ∃ (k34 : Nat),
  ∃ (n5 : Int),
  v2 =
  Value.tuple
  (Array.mk
  [Value.agg
  (Array.mk
  [Value.slice o13 k27 k28,
  Value.slice o14 k29 k30,
  Value.slice o15 k31 k32,
  Value.int IntKind.i64 n4,
  Value.slice o16 k33 k34]),
  Value.int IntKind.i64 n5]) ∧
  new w5
  (Obj.cells
  (Array.mk
  [Value.slice none 0 0, Value.slice none 0 0,
  Value.slice none 0 0, Value.int IntKind.i64 0,
  Value.slice none 0 0])
  27)
  fun (k35 : Nat) (w6 : World) =>
  stR w6 (Addr.mk k35 0 none)
  [Value.slice o13 k27 k28, Value.slice o14 k29 k30,
  Value.slice o15 k31 k32, Value.int IntKind.i64 n4,
  Value.slice o16 k33 k34]
  fun (w7 : World) =>
  ∃ (o17 : Option Addr),
  ∃ (k36 : Nat),
  ∃ (k37 : Nat),
  ∃ (o18 : Option Addr),
  ∃ (k38 : Nat),
  ∃ (k39 : Nat),
  ∃ (o19 : Option Addr),
  ∃ (k40 : Nat),
  ∃ (k41 : Nat),
  ∃ (n6 : Int),
  ∃ (o20 : Option Addr),
  ∃ (k42 : Nat),
  ∃ (k43 : Nat),
  V.rowAt w7
  (Addr.mk k1 0 none)
  0 5 =
  some
  [Value.slice o17 k36
  k37,
  Value.slice o18
  k38 k39,
  Value.slice o19
  k40 k41,
  Value.int
  IntKind.i64 n6,
  Value.slice o20
  k42 k43] ∧
  RunE Proofs.Tryd.prog Ev
  32
  [Value.agg
  (Array.mk
  [Value.slice o17
  k36 k37,
  Value.slice
  o18 k38 k39,
  Value.slice
  o19 k40 k41,
  Value.int
  IntKind.i64
  n6,
  Value.slice
  o20 k42
  k43])]
  w7
  fun (v3 : Value)
  (w8 : World) =>
  ∃ (o21 : Option Addr),
  ∃ (k44 : Nat),
  ∃ (k45 : Nat),
  ∃ (o22 :
  Option Addr),
  ∃ (k46 : Nat),
  ∃ (k47 :
  Nat),
  ∃ (o23 :
  Option
  Addr),
  ∃ (k48 :
  Nat),
  ∃ (k49
  :
  Nat),
  ∃
  (n7
  :
  Int),
  ∃
  (o24
  :
  Option
  Addr),
  ∃
  (k50
  :
  Nat),
  ∃
  (k51
  :
  Nat),
  ∃
  (n8
  :
  Int),
  v3 =
  Value.tuple
  (Array.mk
  [Value.agg
  (Array.mk
  [Value.slice
  o21
  k44
  k45,
  Value.slice
  o22
  k46
  k47,
  Value.slice
  o23
  k48
  k49,
  Value.int
  IntKind.i64
  n7,
  Value.slice
  o24
  k50
  k51]),
  Value.int
  IntKind.i64
  n8]) ∧
  new
  w8
  (Obj.cells
  (Array.mk
  [Value.slice
  none
  0
  0,
  Value.slice
  none
  0
  0,
  Value.slice
  none
  0
  0,
  Value.int
  IntKind.i64
  0,
  Value.slice
  none
  0
  0])
  27)
  fun
  (k52 :
  Nat)
  (w9 :
  World) =>
  stR
  w9
  (Addr.mk
  k52
  0
  none)
  [Value.slice
  o21
  k44
  k45,
  Value.slice
  o22
  k46
  k47,
  Value.slice
  o23
  k48
  k49,
  Value.int
  IntKind.i64
  n7,
  Value.slice
  o24
  k50
  k51]
  fun
  (w10 :
  World) =>
  ∃
  (x1
  :
  arrS
  (shs
  [])
  (World →
  Prop)),
  br
  (n5 !=
  n8)
  (R
  (Value.bool
  false)
  w10)
  (∃
  (o25
  :
  Option
  Addr),
  ∃
  (k53
  :
  Nat),
  ∃
  (k54
  :
  Nat),
  ∃
  (o26
  :
  Option
  Addr),
  ∃
  (k55
  :
  Nat),
  ∃
  (k56
  :
  Nat),
  ∃
  (o27
  :
  Option
  Addr),
  ∃
  (k57
  :
  Nat),
  ∃
  (k58
  :
  Nat),
  ∃
  (n9
  :
  Int),
  ∃
  (o28
  :
  Option
  Addr),
  ∃
  (k59
  :
  Nat),
  ∃
  (k60
  :
  Nat),
  V.rowAt
  w10
  (Addr.mk
  k35
  0
  none)
  0
  5 =
  some
  [Value.slice
  o25
  k53
  k54,
  Value.slice
  o26
  k55
  k56,
  Value.slice
  o27
  k57
  k58,
  Value.int
  IntKind.i64
  n9,
  Value.slice
  o28
  k59
  k60] ∧
  ∃
  (o29
  :
  Option
  Addr),
  ∃
  (k61
  :
  Nat),
  ∃
  (k62
  :
  Nat),
  ∃
  (o30
  :
  Option
  Addr),
  ∃
  (k63
  :
  Nat),
  ∃
  (k64
  :
  Nat),
  ∃
  (o31
  :
  Option
  Addr),
  ∃
  (k65
  :
  Nat),
  ∃
  (k66
  :
  Nat),
  ∃
  (n10
  :
  Int),
  ∃
  (o32
  :
  Option
  Addr),
  ∃
  (k67
  :
  Nat),
  ∃
  (k68
  :
  Nat),
  V.rowAt
  w10
  (Addr.mk
  k52
  0
  none)
  0
  5 =
  some
  [Value.slice
  o29
  k61
  k62,
  Value.slice
  o30
  k63
  k64,
  Value.slice
  o31
  k65
  k66,
  Value.int
  IntKind.i64
  n10,
  Value.slice
  o32
  k67
  k68] ∧
  RunE
  Proofs.Tryd.prog
  Ev
  26
  [Value.agg
  (Array.mk
  [Value.slice
  o25
  k53
  k54,
  Value.slice
  o26
  k55
  k56,
  Value.slice
  o27
  k57
  k58,
  Value.int
  IntKind.i64
  n9,
  Value.slice
  o28
  k59
  k60]),
  Value.agg
  (Array.mk
  [Value.slice
  o29
  k61
  k62,
  Value.slice
  o30
  k63
  k64,
  Value.slice
  o31
  k65
  k66,
  Value.int
  IntKind.i64
  n10,
  Value.slice
  o32
  k67
  k68])]
  w10
  fun
  (v4 :
  Value)
  (w11 :
  World) =>
  ∃
  (b1
  :
  Bool),
  v4 =
  Value.bool
  b1 ∧
  br
  (!b1)
  (R
  (Value.bool
  false)
  w11)
  (br
  (n5 ==
  0)
  (∃
  (o33
  :
  Option
  Addr),
  ∃
  (k69
  :
  Nat),
  ∃
  (k70
  :
  Nat),
  ∃
  (o34
  :
  Option
  Addr),
  ∃
  (k71
  :
  Nat),
  ∃
  (k72
  :
  Nat),
  ∃
  (o35
  :
  Option
  Addr),
  ∃
  (k73
  :
  Nat),
  ∃
  (k74
  :
  Nat),
  ∃
  (n11
  :
  Int),
  ∃
  (o36
  :
  Option
  Addr),
  ∃
  (k75
  :
  Nat),
  ∃
  (k76
  :
  Nat),
  V.rowAt
  w11
  (Addr.mk
  k35
  0
  none)
  0
  5 =
  some
  [Value.slice
  o33
  k69
  k70,
  Value.slice
  o34
  k71
  k72,
  Value.slice
  o35
  k73
  k74,
  Value.int
  IntKind.i64
  n11,
  Value.slice
  o36
  k75
  k76] ∧
  RunE
  Proofs.Tryd.prog
  Ev
  29
  [Value.agg
  (Array.mk
  [Value.slice
  o33
  k69
  k70,
  Value.slice
  o34
  k71
  k72,
  Value.slice
  o35
  k73
  k74,
  Value.int
  IntKind.i64
  n11,
  Value.slice
  o36
  k75
  k76])]
  w11
  fun
  (v5 :
  Value)
  (w12 :
  World) =>
  ∃
  (b2
  :
  Bool),
  v5 =
  Value.bool
  b2 ∧
  br
  (!b2)
  (R
  (Value.bool
  false)
  w12)
  (x1
  w12))
  (x1
  w11))) ∧
  ∀
  (I1 :
  Nat →
  Value)
  (w13 :
  World),
  x1
  w13 →
  ∃
  (o37
  :
  Option
  Addr),
  ∃
  (k77
  :
  Nat),
  ∃
  (k78
  :
  Nat),
  ∃
  (o38
  :
  Option
  Addr),
  ∃
  (k79
  :
  Nat),
  ∃
  (k80
  :
  Nat),
  ∃
  (o39
  :
  Option
  Addr),
  ∃
  (k81
  :
  Nat),
  ∃
  (k82
  :
  Nat),
  ∃
  (n12
  :
  Int),
  ∃
  (o40
  :
  Option
  Addr),
  ∃
  (k83
  :
  Nat),
  ∃
  (k84
  :
  Nat),
  V.rowAt
  w13
  (Addr.mk
  k35
  0
  none)
  0
  5 =
  some
  [Value.slice
  o37
  k77
  k78,
  Value.slice
  o38
  k79
  k80,
  Value.slice
  o39
  k81
  k82,
  Value.int
  IntKind.i64
  n12,
  Value.slice
  o40
  k83
  k84] ∧
  RunE
  Proofs.Tryd.prog
  Ev
  33
  [Value.agg
  (Array.mk
  [Value.slice
  o37
  k77
  k78,
  Value.slice
  o38
  k79
  k80,
  Value.slice
  o39
  k81
  k82,
  Value.int
  IntKind.i64
  n12,
  Value.slice
  o40
  k83
  k84])]
  w13
  fun
  (v6 :
  Value)
  (w14 :
  World) =>
  v6 =
  Value.tuple
  (Array.mk
  []) ∧
  ∃
  (o41
  :
  Option
  Addr),
  ∃
  (k85
  :
  Nat),
  ∃
  (k86
  :
  Nat),
  ∃
  (o42
  :
  Option
  Addr),
  ∃
  (k87
  :
  Nat),
  ∃
  (k88
  :
  Nat),
  ∃
  (o43
  :
  Option
  Addr),
  ∃
  (k89
  :
  Nat),
  ∃
  (k90
  :
  Nat),
  ∃
  (n13
  :
  Int),
  ∃
  (o44
  :
  Option
  Addr),
  ∃
  (k91
  :
  Nat),
  ∃
  (k92
  :
  Nat),
  V.rowAt
  w14
  (Addr.mk
  k18
  0
  none)
  0
  5 =
  some
  [Value.slice
  o41
  k85
  k86,
  Value.slice
  o42
  k87
  k88,
  Value.slice
  o43
  k89
  k90,
  Value.int
  IntKind.i64
  n13,
  Value.slice
  o44
  k91
  k92] ∧
  ∃
  (o45
  :
  Option
  Addr),
  ∃
  (k93
  :
  Nat),
  ∃
  (k94
  :
  Nat),
  ∃
  (o46
  :
  Option
  Addr),
  ∃
  (k95
  :
  Nat),
  ∃
  (k96
  :
  Nat),
  ∃
  (o47
  :
  Option
  Addr),
  ∃
  (k97
  :
  Nat),
  ∃
  (k98
  :
  Nat),
  ∃
  (n14
  :
  Int),
  ∃
  (o48
  :
  Option
  Addr),
  ∃
  (k99
  :
  Nat),
  ∃
  (k100
  :
  Nat),
  V.rowAt
  w14
  (Addr.mk
  k1
  0
  none)
  0
  5 =
  some
  [Value.slice
  o45
  k93
  k94,
  Value.slice
  o46
  k95
  k96,
  Value.slice
  o47
  k97
  k98,
  Value.int
  IntKind.i64
  n14,
  Value.slice
  o48
  k99
  k100] ∧
  RunE
  Proofs.Tryd.prog
  Ev
  26
  [Value.agg
  (Array.mk
  [Value.slice
  o41
  k85
  k86,
  Value.slice
  o42
  k87
  k88,
  Value.slice
  o43
  k89
  k90,
  Value.int
  IntKind.i64
  n13,
  Value.slice
  o44
  k91
  k92]),
  Value.agg
  (Array.mk
  [Value.slice
  o45
  k93
  k94,
  Value.slice
  o46
  k95
  k96,
  Value.slice
  o47
  k97
  k98,
  Value.int
  IntKind.i64
  n14,
  Value.slice
  o48
  k99
  k100])]
  w14
  fun
  (v7 :
  Value)
  (w15 :
  World) =>
  ∃
  (b3
  :
  Bool),
  v7 =
  Value.bool
  b3 ∧
  br
  (!b3)
  (R
  (Value.bool
  false)
  w15)
  (∃
  (o49
  :
  Option
  Addr),
  ∃
  (k101
  :
  Nat),
  ∃
  (k102
  :
  Nat),
  ∃
  (o50
  :
  Option
  Addr),
  ∃
  (k103
  :
  Nat),
  ∃
  (k104
  :
  Nat),
  ∃
  (o51
  :
  Option
  Addr),
  ∃
  (k105
  :
  Nat),
  ∃
  (k106
  :
  Nat),
  ∃
  (n15
  :
  Int),
  ∃
  (o52
  :
  Option
  Addr),
  ∃
  (k107
  :
  Nat),
  ∃
  (k108
  :
  Nat),
  V.rowAt
  w15
  (Addr.mk
  k18
  0
  none)
  0
  5 =
  some
  [Value.slice
  o49
  k101
  k102,
  Value.slice
  o50
  k103
  k104,
  Value.slice
  o51
  k105
  k106,
  Value.int
  IntKind.i64
  n15,
  Value.slice
  o52
  k107
  k108] ∧
  RunE
  Proofs.Tryd.prog
  Ev
  31
  [Value.agg
  (Array.mk
  [Value.slice
  o49
  k101
  k102,
  Value.slice
  o50
  k103
  k104,
  Value.slice
  o51
  k105
  k106,
  Value.int
  IntKind.i64
  n15,
  Value.slice
  o52
  k107
  k108])]
  w15
  fun
  (v8 :
  Value)
  (w16 :
  World) =>
  ∃
  (o53
  :
  Option
  Addr),
  ∃
  (k109
  :
  Nat),
  ∃
  (k110
  :
  Nat),
  ∃
  (o54
  :
  Option
  Addr),
  ∃
  (k111
  :
  Nat),
  ∃
  (k112
  :
  Nat),
  ∃
  (o55
  :
  Option
  Addr),
  ∃
  (k113
  :
  Nat),
  ∃
  (k114
  :
  Nat),
  ∃
  (n16
  :
  Int),
  ∃
  (o56
  :
  Option
  Addr),
  ∃
  (k115
  :
  Nat),
  ∃
  (k116
  :
  Nat),
  ∃
  (n17
  :
  Int),
  v8 =
  Value.tuple
  (Array.mk
  [Value.agg
  (Array.mk
  [Value.slice
  o53
  k109
  k110,
  Value.slice
  o54
  k111
  k112,
  Value.slice
  o55
  k113
  k114,
  Value.int
  IntKind.i64
  n16,
  Value.slice
  o56
  k115
  k116]),
  Value.int
  IntKind.i64
  n17]) ∧
  new
  w16
  (Obj.cells
  (Array.mk
  [Value.slice
  none
  0
  0,
  Value.slice
  none
  0
  0,
  Value.slice
  none
  0
  0,
  Value.int
  IntKind.i64
  0,
  Value.slice
  none
  0
  0])
  27)
  fun
  (k117 :
  Nat)
  (w17 :
  World) =>
  stR
  w17
  (Addr.mk
  k117
  0
  none)
  [Value.slice
  o53
  k109
  k110,
  Value.slice
  o54
  k111
  k112,
  Value.slice
  o55
  k113
  k114,
  Value.int
  IntKind.i64
  n16,
  Value.slice
  o56
  k115
  k116]
  fun
  (w18 :
  World) =>
  ∃
  (o57
  :
  Option
  Addr),
  ∃
  (k118
  :
  Nat),
  ∃
  (k119
  :
  Nat),
  ∃
  (o58
  :
  Option
  Addr),
  ∃
  (k120
  :
  Nat),
  ∃
  (k121
  :
  Nat),
  ∃
  (o59
  :
  Option
  Addr),
  ∃
  (k122
  :
  Nat),
  ∃
  (k123
  :
  Nat),
  ∃
  (n18
  :
  Int),
  ∃
  (o60
  :
  Option
  Addr),
  ∃
  (k124
  :
  Nat),
  ∃
  (k125
  :
  Nat),
  V.rowAt
  w18
  (Addr.mk
  k18
  0
  none)
  0
  5 =
  some
  [Value.slice
  o57
  k118
  k119,
  Value.slice
  o58
  k120
  k121,
  Value.slice
  o59
  k122
  k123,
  Value.int
  IntKind.i64
  n18,
  Value.slice
  o60
  k124
  k125] ∧
  RunE
  Proofs.Tryd.prog
  Ev
  33
  [Value.agg
  (Array.mk
  [Value.slice
  o57
  k118
  k119,
  Value.slice
  o58
  k120
  k121,
  Value.slice
  o59
  k122
  k123,
  Value.int
  IntKind.i64
  n18,
  Value.slice
  o60
  k124
  k125])]
  w18
  fun
  (v9 :
  Value)
  (w19 :
  World) =>
  v9 =
  Value.tuple
  (Array.mk
  []) ∧
  br
  (n17 ==
  n8)
  (∃
  (o61
  :
  Option
  Addr),
  ∃
  (k126
  :
  Nat),
  ∃
  (k127
  :
  Nat),
  ∃
  (o62
  :
  Option
  Addr),
  ∃
  (k128
  :
  Nat),
  ∃
  (k129
  :
  Nat),
  ∃
  (o63
  :
  Option
  Addr),
  ∃
  (k130
  :
  Nat),
  ∃
  (k131
  :
  Nat),
  ∃
  (n19
  :
  Int),
  ∃
  (o64
  :
  Option
  Addr),
  ∃
  (k132
  :
  Nat),
  ∃
  (k133
  :
  Nat),
  V.rowAt
  w19
  (Addr.mk
  k117
  0
  none)
  0
  5 =
  some
  [Value.slice
  o61
  k126
  k127,
  Value.slice
  o62
  k128
  k129,
  Value.slice
  o63
  k130
  k131,
  Value.int
  IntKind.i64
  n19,
  Value.slice
  o64
  k132
  k133] ∧
  ∃
  (o65
  :
  Option
  Addr),
  ∃
  (k134
  :
  Nat),
  ∃
  (k135
  :
  Nat),
  ∃
  (o66
  :
  Option
  Addr),
  ∃
  (k136
  :
  Nat),
  ∃
  (k137
  :
  Nat),
  ∃
  (o67
  :
  Option
  Addr),
  ∃
  (k138
  :
  Nat),
  ∃
  (k139
  :
  Nat),
  ∃
  (n20
  :
  Int),
  ∃
  (o68
  :
  Option
  Addr),
  ∃
  (k140
  :
  Nat),
  ∃
  (k141
  :
  Nat),
  V.rowAt
  w19
  (Addr.mk
  k52
  0
  none)
  0
  5 =
  some
  [Value.slice
  o65
  k134
  k135,
  Value.slice
  o66
  k136
  k137,
  Value.slice
  o67
  k138
  k139,
  Value.int
  IntKind.i64
  n20,
  Value.slice
  o68
  k140
  k141] ∧
  RunE
  Proofs.Tryd.prog
  Ev
  26
  [Value.agg
  (Array.mk
  [Value.slice
  o61
  k126
  k127,
  Value.slice
  o62
  k128
  k129,
  Value.slice
  o63
  k130
  k131,
  Value.int
  IntKind.i64
  n19,
  Value.slice
  o64
  k132
  k133]),
  Value.agg
  (Array.mk
  [Value.slice
  o65
  k134
  k135,
  Value.slice
  o66
  k136
  k137,
  Value.slice
  o67
  k138
  k139,
  Value.int
  IntKind.i64
  n20,
  Value.slice
  o68
  k140
  k141])]
  w19
  fun
  (v10 :
  Value)
  (w20 :
  World) =>
  ∃
  (b4
  :
  Bool),
  v10 =
  Value.bool
  b4 ∧
  br
  b4
  (RunE
  Proofs.Tryd.prog
  Ev
  34
  []
  w20
  fun
  (v11 :
  Value)
  (w21 :
  World) =>
  ∃
  (b5
  :
  Bool),
  v11 =
  Value.bool
  b5 ∧
  R
  (Value.bool
  b5)
  w21)
  (R
  (Value.bool
  false)
  w20))
  (R
  (Value.bool
  false)
  w19))
set_option maxRecDepth 100000 in
theorem run_presagelaw06_ReachReduces (p0g_0a : Option Addr) (p0g_0l : Nat) (p0g_0c : Nat) (p0g_1a : Option Addr) (p0g_1l : Nat) (p0g_1c : Nat) (p0g_2a : Option Addr) (p0g_2l : Nat) (p0g_2c : Nat) (p0g_3 : Int) (p0g_4a : Option Addr) (p0g_4l : Nat) (p0g_4c : Nat) (w : World) (R : Value → World → Prop) (h : vc_presagelaw06_ReachReduces p0g_0a p0g_0l p0g_0c p0g_1a p0g_1l p0g_1c p0g_2a p0g_2l p0g_2c p0g_3 p0g_4a p0g_4l p0g_4c w R) : Run Tryd.prog 8 [(.agg #[(.slice p0g_0a p0g_0l p0g_0c), (.slice p0g_1a p0g_1l p0g_1c), (.slice p0g_2a p0g_2l p0g_2c), (.int .i64 p0g_3), (.slice p0g_4a p0g_4l p0g_4c)])] w R :=
  run_ev tyOk fnOk mixed Tryd.func8 ann_presagelaw06_ReachReduces ((by kernel_rfl : fnV Tryd.prog Ty Fn Ev ann_presagelaw06_ReachReduces Tryd.f8 [(.agg #[(.slice p0g_0a p0g_0l p0g_0c), (.slice p0g_1a p0g_1l p0g_1c), (.slice p0g_2a p0g_2l p0g_2c), (.int .i64 p0g_3), (.slice p0g_4a p0g_4l p0g_4c)])] w R = vc_presagelaw06_ReachReduces p0g_0a p0g_0l p0g_0c p0g_1a p0g_1l p0g_1c p0g_2a p0g_2l p0g_2c p0g_3 p0g_4a p0g_4l p0g_4c w R) ▸ h)

abbrev n_presagelaw06_ReachMore : FuncId := 10
def ann_presagelaw06_ReachMore : Ann := { rngs := [], loops := [(7, [(11, (.one (.int .i64)))]), (20, [(17, (.one (.int .i64)))])], joins := [(12, []), (18, [(119, (.one .bool))])], blocks := [] }
set_option maxRecDepth 100000 in
def vc_presagelaw06_ReachMore (p0g_0a : Option Addr) (p0g_0l : Nat) (p0g_0c : Nat) (p0g_1a : Option Addr) (p0g_1l : Nat) (p0g_1c : Nat) (p0g_2a : Option Addr) (p0g_2l : Nat) (p0g_2c : Nat) (p0g_3 : Int) (p0g_4a : Option Addr) (p0g_4l : Nat) (p0g_4c : Nat) (p1left : Int) (p2rowa : Option Addr) (p2rowl : Nat) (p2rowc : Nat) (w : World) (R : Value → World → Prop) : Prop :=
  new w
  (Obj.cells
  (Array.mk [Value.slice p0g_0a p0g_0l p0g_0c, Value.slice p0g_1a p0g_1l p0g_1c, Value.slice p0g_2a p0g_2l p0g_2c, Value.int IntKind.i64 p0g_3, Value.slice p0g_4a p0g_4l p0g_4c])
  27)
  fun (k1 : Nat) (w1 : World) =>
  ∃ (o1 : Option Addr),
  ∃ (k2 : Nat),
  ∃ (k3 : Nat),
  ∃ (o2 : Option Addr),
  ∃ (k4 : Nat),
  ∃ (k5 : Nat),
  ∃ (o3 : Option Addr),
  ∃ (k6 : Nat),
  ∃ (k7 : Nat),
  ∃ (n1 : Int),
  ∃ (o4 : Option Addr),
  ∃ (k8 : Nat),
  ∃ (k9 : Nat),
  V.rowAt w1 (Addr.mk k1 0 none) 0 5 =
  some [Value.slice o1 k2 k3, Value.slice o2 k4 k5, Value.slice o3 k6 k7, Value.int IntKind.i64 n1, Value.slice o4 k8 k9] ∧
  RunE Proofs.Tryd.prog Ev 28
  [Value.agg (Array.mk [Value.slice o1 k2 k3, Value.slice o2 k4 k5, Value.slice o3 k6 k7, Value.int IntKind.i64 n1, Value.slice o4 k8 k9])] w1
  fun (v1 : Value) (w2 : World) =>
  ∃ (b1 : Bool),
  v1 = Value.bool b1 ∧
  br (!b1)
  (∃ (o5 : Option Addr),
  ∃ (k10 : Nat),
  ∃ (k11 : Nat),
  ∃ (o6 : Option Addr),
  ∃ (k12 : Nat),
  ∃ (k13 : Nat),
  ∃ (o7 : Option Addr),
  ∃ (k14 : Nat),
  ∃ (k15 : Nat),
  ∃ (n2 : Int),
  ∃ (o8 : Option Addr),
  ∃ (k16 : Nat),
  ∃ (k17 : Nat),
  V.rowAt w2 (Addr.mk k1 0 none) 0 5 =
  some
  [Value.slice o5 k10 k11, Value.slice o6 k12 k13, Value.slice o7 k14 k15, Value.int IntKind.i64 n2,
  Value.slice o8 k16 k17] ∧
  RunE Proofs.Tryd.prog Ev 14
  [Value.agg
  (Array.mk
  [Value.slice o5 k10 k11, Value.slice o6 k12 k13, Value.slice o7 k14 k15, Value.int IntKind.i64 n2,
  Value.slice o8 k16 k17])]
  w2 fun (v2 : Value) (w3 : World) =>
  ∃ (o9 : Option Addr),
  ∃ (k18 : Nat),
  ∃ (k19 : Nat),
  ∃ (o10 : Option Addr),
  ∃ (k20 : Nat),
  ∃ (k21 : Nat),
  ∃ (o11 : Option Addr),
  ∃ (k22 : Nat),
  ∃ (k23 : Nat),
  ∃ (n3 : Int),
  ∃ (o12 : Option Addr),
  ∃ (k24 : Nat),
  ∃ (k25 : Nat),
  v2 =
  Value.agg
  (Array.mk
  [Value.slice o9 k18 k19, Value.slice o10 k20 k21, Value.slice o11 k22 k23,
  Value.int IntKind.i64 n3, Value.slice o12 k24 k25]) ∧
  RunE Proofs.Tryd.prog Ev 38
  [Value.agg
  (Array.mk
  [Value.slice o9 k18 k19, Value.slice o10 k20 k21, Value.slice o11 k22 k23,
  Value.int IntKind.i64 n3, Value.slice o12 k24 k25])]
  w3 fun (v3 : Value) (w4 : World) =>
  ∃ (o13 : Option Addr),
  ∃ (k26 : Nat),
  ∃ (k27 : Nat),
  ∃ (n4 : Int),
  v3 =
  Value.tuple
  (Array.mk [Value.slice o13 k26 k27, Value.int IntKind.i64 n4]) ∧
  ∃ (o14 : Option Addr),
  ∃ (k28 : Nat),
  ∃ (k29 : Nat),
  ∃ (o15 : Option Addr),
  ∃ (k30 : Nat),
  ∃ (k31 : Nat),
  ∃ (o16 : Option Addr),
  ∃ (k32 : Nat),
  ∃ (k33 : Nat),
  ∃ (n5 : Int),
  ∃ (o17 : Option Addr),
  ∃ (k34 : Nat),
  ∃ (k35 : Nat),
  V.rowAt w4 (Addr.mk k1 0 none) 0 5 =
  some
  [Value.slice o14 k28 k29,
  Value.slice o15 k30 k31,
  Value.slice o16 k32 k33,
  Value.int IntKind.i64 n5,
  Value.slice o17 k34 k35] ∧
  RunE Proofs.Tryd.prog Ev 29
  [Value.agg
  (Array.mk
  [Value.slice o14 k28 k29,
  Value.slice o15 k30 k31,
  Value.slice o16 k32 k33,
  Value.int IntKind.i64 n5,
  Value.slice o17 k34 k35])]
  w4 fun (v4 : Value) (w5 : World) =>
  ∃ (b2 : Bool),
  v4 = Value.bool b2 ∧
  br ((n4 == 0) == b2)
  (RunE Proofs.Tryd.prog Ev 34 [] w5
  fun (v5 : Value) (w6 : World) =>
  ∃ (b3 : Bool),
  v5 = Value.bool b3 ∧
  R (Value.bool b3) w6)
  (R (Value.bool false) w5))
  (∃ (o18 : Option Addr),
  ∃ (k36 : Nat),
  ∃ (k37 : Nat),
  ∃ (o19 : Option Addr),
  ∃ (k38 : Nat),
  ∃ (k39 : Nat),
  ∃ (o20 : Option Addr),
  ∃ (k40 : Nat),
  ∃ (k41 : Nat),
  ∃ (n6 : Int),
  ∃ (o21 : Option Addr),
  ∃ (k42 : Nat),
  ∃ (k43 : Nat),
  V.rowAt w2 (Addr.mk k1 0 none) 0 5 =
  some
  [Value.slice o18 k36 k37, Value.slice o19 k38 k39, Value.slice o20 k40 k41, Value.int IntKind.i64 n6,
  Value.slice o21 k42 k43] ∧
  RunE Proofs.Tryd.prog Ev 14
  [Value.agg
  (Array.mk
  [Value.slice o18 k36 k37, Value.slice o19 k38 k39, Value.slice o20 k40 k41, Value.int IntKind.i64 n6,
  Value.slice o21 k42 k43])]
  w2 fun (v6 : Value) (w7 : World) =>
  ∃ (o22 : Option Addr),
  ∃ (k44 : Nat),
  ∃ (k45 : Nat),
  ∃ (o23 : Option Addr),
  ∃ (k46 : Nat),
  ∃ (k47 : Nat),
  ∃ (o24 : Option Addr),
  ∃ (k48 : Nat),
  ∃ (k49 : Nat),
  ∃ (n7 : Int),
  ∃ (o25 : Option Addr),
  ∃ (k50 : Nat),
  ∃ (k51 : Nat),
  v6 =
  Value.agg
  (Array.mk
  [Value.slice o22 k44 k45, Value.slice o23 k46 k47, Value.slice o24 k48 k49,
  Value.int IntKind.i64 n7, Value.slice o25 k50 k51]) ∧
  new w7
  (Obj.cells
  (Array.mk
  [Value.slice none 0 0, Value.slice none 0 0, Value.slice none 0 0,
  Value.int IntKind.i64 0, Value.slice none 0 0])
  27)
  fun (k52 : Nat) (w8 : World) =>
  stR w8 (Addr.mk k52 0 none)
  [Value.slice o22 k44 k45, Value.slice o23 k46 k47, Value.slice o24 k48 k49,
  Value.int IntKind.i64 n7, Value.slice o25 k50 k51]
  fun (w9 : World) =>
  ∀ (w10 : World),
  drawn w9 w10 →
  ∃ (I1 : World → Prop),
  I1 w10 ∧
  ∃ (o26 : Option Addr),
  ∃ (k53 : Nat),
  ∃ (k54 : Nat),
  (∀ (w11 : World),
  I1 w11 →
  World.cell? w11 (Addr.mk k1 0 none) =
  some (Value.slice o26 k53 k54)) ∧
  ∃ (o27 : Option Addr),
  ∃ (k55 : Nat),
  ∃ (k56 : Nat),
  (∀ (w12 : World),
  I1 w12 →
  World.cell? w12 (Addr.add (Addr.mk k1 0 none) 1) =
  some (Value.slice o27 k55 k56)) ∧
  (RunE Proofs.Tryd.prog Ev 39
  [Value.int IntKind.i64 p1left,
  Value.int IntKind.i64 (↑k55 : Int)]
  w10 fun (v7 : Value) (w13 : World) =>
  ∃ (n8 : Int),
  v7 = Value.int IntKind.i64 n8 ∧
  I1 w13 ∧
  inI ((↑k53 : Int) + n8) ∧
  new w13
  (Obj.cells
  (Array.mk
  [Value.int IntKind.i64 0,
  Value.slice none 0 0,
  Value.int IntKind.i64 0])
  51)
  fun (k57 : Nat) (w14 : World) =>
  I1 w14 ∧
  stR w14 (Addr.mk k57 0 none)
  [Value.int IntKind.i64
  ((↑k53 : Int) + n8),
  Value.slice none 0 0,
  Value.int IntKind.i64 0]
  fun (w15 : World) =>
  ∃ (x1 : arrS (shs []) (World → Prop)),
  (∃ (x2 :
  arrS
  (shs
  [(11,
  S1.one
  (Cs.int
  IntKind.i64))])
  (World → Prop)),
  ∃ (x3 :
  arrS
  (shs
  [(11,
  S1.one
  (Cs.int
  IntKind.i64))])
  (World → Nat)),
  x2 0 w15 ∧
  ∀ (I2 : Nat → Value)
  (n9 : Int) (w16 : World),
  x2 n9 w16 →
  br
  (decide
  (n9 <
  (↑p2rowl : Int)))
  (br (decide (n9 < 6))
  (∀ (w17 : World),
  drawn w16 w17 →
  ∃ (I3 :
  World → Prop),
  I3 w17 ∧
  idx p2rowa
  p2rowl n9
  1
  fun
  (a1 :
  Addr) =>
  ∃ (n10 :
  Int),
  (∀
  (w18 :
  World),
  I3
  w18 →
  World.cell?
  w18
  a1 =
  some
  (Value.int
  IntKind.i64
  n10)) ∧
  ∃ (o28
  :
  Option
  Addr),
  ∃
  (k58
  :
  Nat),
  ∃
  (k59
  :
  Nat),
  (∀
  (w19 :
  World),
  I3
  w19 →
  World.cell?
  w19
  (Addr.mk
  k1
  0
  none) =
  some
  (Value.slice
  o28
  k58
  k59)) ∧
  ∃
  (o29
  :
  Option
  Addr),
  ∃
  (k60
  :
  Nat),
  ∃
  (k61
  :
  Nat),
  (∀
  (w20 :
  World),
  I3
  w20 →
  World.cell?
  w20
  (Addr.add
  (Addr.mk
  k1
  0
  none)
  1) =
  some
  (Value.slice
  o29
  k60
  k61)) ∧
  inI
  ((↑k58 :
  Int) +
  (↑k60 :
  Int)) ∧
  RunE
  Proofs.Tryd.prog
  Ev
  39
  [Value.int
  IntKind.i64
  n10,
  Value.int
  IntKind.i64
  ((↑k58 :
  Int) +
  (↑k60 :
  Int))]
  w17
  fun
  (v8 :
  Value)
  (w21 :
  World) =>
  ∃
  (n11
  :
  Int),
  v8 =
  Value.int
  IntKind.i64
  n11 ∧
  I3
  w21 ∧
  br
  (decide
  (0 <
  n11))
  (∃
  (o30
  :
  Option
  Addr),
  ∃
  (k62
  :
  Nat),
  ∃
  (k63
  :
  Nat),
  World.cell?
  w21
  (Addr.add
  (Addr.mk
  k57
  0
  none)
  1) =
  some
  (Value.slice
  o30
  k62
  k63) ∧
  new
  w21
  (Obj.cells
  (Array.mk
  [Value.int
  IntKind.i64
  n11])
  3)
  fun
  (k64 :
  Nat)
  (w22 :
  World) =>
  RunS
  Proofs.Tryd.prog
  (Builtin.append_
  (Array.mk
  [24,
  24])
  24
  (Array.mk
  [Value.slice
  o30
  k62
  k63,
  Value.slice
  (some
  (Addr.mk
  k64
  0
  none))
  1
  1]))
  w22
  fun
  (v9 :
  Value)
  (w23 :
  World) =>
  ∃
  (o31
  :
  Option
  Addr),
  ∃
  (k65
  :
  Nat),
  ∃
  (k66
  :
  Nat),
  v9 =
  Value.slice
  o31
  k65
  k66 ∧
  st1
  w23
  (Addr.add
  (Addr.mk
  k57
  0
  none)
  1)
  (Value.slice
  o31
  k65
  k66)
  fun
  (w24 :
  World) =>
  inI
  (n9 +
  1) ∧
  x2
  (n9 +
  1)
  w24 ∧
  x3
  (n9 +
  1)
  w24 <
  x3
  n9
  w16)
  (inI
  (n9 +
  1) ∧
  x2
  (n9 +
  1)
  w21 ∧
  x3
  (n9 +
  1)
  w21 <
  x3
  n9
  w16))
  (x1 w16))
  (x1 w16)) ∧
  ∀ (I4 : Nat → Value)
  (w25 : World),
  x1 w25 →
  ∃ (o32 : Option Addr),
  ∃ (k67 : Nat),
  ∃ (k68 : Nat),
  World.cell? w25
  (Addr.add
  (Addr.mk k52 0
  none)
  4) =
  some
  (Value.slice o32
  k67 k68) ∧
  ∃ (n12 : Int),
  ∃ (o33 :
  Option Addr),
  ∃ (k69 : Nat),
  ∃ (k70 : Nat),
  ∃ (n13 : Int),
  V.rowAt w25
  (Addr.mk
  k57
  0
  none)
  0 3 =
  some
  [Value.int
  IntKind.i64
  n12,
  Value.slice
  o33
  k69
  k70,
  Value.int
  IntKind.i64
  n13] ∧
  new w25
  (Obj.cells
  (Array.mk
  [Value.int
  IntKind.i64
  n12,
  Value.slice
  o33
  k69
  k70,
  Value.int
  IntKind.i64
  n13])
  51)
  fun
  (k71 :
  Nat)
  (w26 :
  World) =>
  RunS
  Proofs.Tryd.prog
  (Builtin.append_
  (Array.mk
  [25,
  25])
  25
  (Array.mk
  [Value.slice
  o32
  k67
  k68,
  Value.slice
  (some
  (Addr.mk
  k71
  0
  none))
  1
  1]))
  w26
  fun
  (v10 :
  Value)
  (w27 :
  World) =>
  ∃ (o34
  :
  Option
  Addr),
  ∃
  (k72
  :
  Nat),
  ∃
  (k73
  :
  Nat),
  v10 =
  Value.slice
  o34
  k72
  k73 ∧
  st1
  w27
  (Addr.add
  (Addr.mk
  k52
  0
  none)
  4)
  (Value.slice
  o34
  k72
  k73)
  fun
  (w28 :
  World) =>
  ∃
  (o35
  :
  Option
  Addr),
  ∃
  (k74
  :
  Nat),
  ∃
  (k75
  :
  Nat),
  ∃
  (o36
  :
  Option
  Addr),
  ∃
  (k76
  :
  Nat),
  ∃
  (k77
  :
  Nat),
  ∃
  (o37
  :
  Option
  Addr),
  ∃
  (k78
  :
  Nat),
  ∃
  (k79
  :
  Nat),
  ∃
  (n14
  :
  Int),
  ∃
  (o38
  :
  Option
  Addr),
  ∃
  (k80
  :
  Nat),
  ∃
  (k81
  :
  Nat),
  V.rowAt
  w28
  (Addr.mk
  k1
  0
  none)
  0
  5 =
  some
  [Value.slice
  o35
  k74
  k75,
  Value.slice
  o36
  k76
  k77,
  Value.slice
  o37
  k78
  k79,
  Value.int
  IntKind.i64
  n14,
  Value.slice
  o38
  k80
  k81] ∧
  RunE
  Proofs.Tryd.prog
  Ev
  14
  [Value.agg
  (Array.mk
  [Value.slice
  o35
  k74
  k75,
  Value.slice
  o36
  k76
  k77,
  Value.slice
  o37
  k78
  k79,
  Value.int
  IntKind.i64
  n14,
  Value.slice
  o38
  k80
  k81])]
  w28
  fun
  (v11 :
  Value)
  (w29 :
  World) =>
  ∃
  (o39
  :
  Option
  Addr),
  ∃
  (k82
  :
  Nat),
  ∃
  (k83
  :
  Nat),
  ∃
  (o40
  :
  Option
  Addr),
  ∃
  (k84
  :
  Nat),
  ∃
  (k85
  :
  Nat),
  ∃
  (o41
  :
  Option
  Addr),
  ∃
  (k86
  :
  Nat),
  ∃
  (k87
  :
  Nat),
  ∃
  (n15
  :
  Int),
  ∃
  (o42
  :
  Option
  Addr),
  ∃
  (k88
  :
  Nat),
  ∃
  (k89
  :
  Nat),
  v11 =
  Value.agg
  (Array.mk
  [Value.slice
  o39
  k82
  k83,
  Value.slice
  o40
  k84
  k85,
  Value.slice
  o41
  k86
  k87,
  Value.int
  IntKind.i64
  n15,
  Value.slice
  o42
  k88
  k89]) ∧
  RunE
  Proofs.Tryd.prog
  Ev
  38
  [Value.agg
  (Array.mk
  [Value.slice
  o39
  k82
  k83,
  Value.slice
  o40
  k84
  k85,
  Value.slice
  o41
  k86
  k87,
  Value.int
  IntKind.i64
  n15,
  Value.slice
  o42
  k88
  k89])]
  w29
  fun
  (v12 :
  Value)
  (w30 :
  World) =>
  ∃
  (o43
  :
  Option
  Addr),
  ∃
  (k90
  :
  Nat),
  ∃
  (k91
  :
  Nat),
  ∃
  (n16
  :
  Int),
  v12 =
  Value.tuple
  (Array.mk
  [Value.slice
  o43
  k90
  k91,
  Value.int
  IntKind.i64
  n16]) ∧
  ∃
  (o44
  :
  Option
  Addr),
  ∃
  (k92
  :
  Nat),
  ∃
  (k93
  :
  Nat),
  ∃
  (o45
  :
  Option
  Addr),
  ∃
  (k94
  :
  Nat),
  ∃
  (k95
  :
  Nat),
  ∃
  (o46
  :
  Option
  Addr),
  ∃
  (k96
  :
  Nat),
  ∃
  (k97
  :
  Nat),
  ∃
  (n17
  :
  Int),
  ∃
  (o47
  :
  Option
  Addr),
  ∃
  (k98
  :
  Nat),
  ∃
  (k99
  :
  Nat),
  V.rowAt
  w30
  (Addr.mk
  k52
  0
  none)
  0
  5 =
  some
  [Value.slice
  o44
  k92
  k93,
  Value.slice
  o45
  k94
  k95,
  Value.slice
  o46
  k96
  k97,
  Value.int
  IntKind.i64
  n17,
  Value.slice
  o47
  k98
  k99] ∧
  RunE
  Proofs.Tryd.prog
  Ev
  38
  [Value.agg
  (Array.mk
  [Value.slice
  o44
  k92
  k93,
  Value.slice
  o45
  k94
  k95,
  Value.slice
  o46
  k96
  k97,
  Value.int
  IntKind.i64
  n17,
  Value.slice
  o47
  k98
  k99])]
  w30
  fun
  (v13 :
  Value)
  (w31 :
  World) =>
  ∃
  (o48
  :
  Option
  Addr),
  ∃
  (k100
  :
  Nat),
  ∃
  (k101
  :
  Nat),
  ∃
  (n18
  :
  Int),
  v13 =
  Value.tuple
  (Array.mk
  [Value.slice
  o48
  k100
  k101,
  Value.int
  IntKind.i64
  n18]) ∧
  ∃
  (o49
  :
  Option
  Addr),
  ∃
  (k102
  :
  Nat),
  ∃
  (k103
  :
  Nat),
  World.cell?
  w31
  (Addr.add
  (Addr.mk
  k1
  0
  none)
  4) =
  some
  (Value.slice
  o49
  k102
  k103) ∧
  br
  ((↑k102 :
  Int) ==
  96)
  (br
  (n16 ==
  0)
  (br
  (n18 ==
  1)
  (RunE
  Proofs.Tryd.prog
  Ev
  34
  []
  w31
  fun
  (v14 :
  Value)
  (w32 :
  World) =>
  ∃
  (b4
  :
  Bool),
  v14 =
  Value.bool
  b4 ∧
  R
  (Value.bool
  b4)
  w32)
  (R
  (Value.bool
  false)
  w31))
  (R
  (Value.bool
  false)
  w31))
  (∃
  (x4
  :
  arrS
  (shs
  [(119,
  S1.one
  Cs.bool)])
  (World →
  Prop)),
  br
  (n16 !=
  0)
  (x4
  true
  w31)
  (br
  (n18 !=
  0)
  (x4
  true
  w31)
  (x4
  ((↑k90 :
  Int) !=
  (↑k100 :
  Int))
  w31)) ∧
  ∀
  (I5 :
  Nat →
  Value)
  (b5 :
  Bool)
  (w33 :
  World),
  x4
  b5
  w33 →
  br
  b5
  (R
  (Value.bool
  false)
  w33)
  (∃
  (x5
  :
  arrS
  (shs
  [(17,
  S1.one
  (Cs.int
  IntKind.i64))])
  (World →
  Prop)),
  ∃
  (x6
  :
  arrS
  (shs
  [(17,
  S1.one
  (Cs.int
  IntKind.i64))])
  (World →
  Nat)),
  x5
  0
  w33 ∧
  ∀
  (I6 :
  Nat →
  Value)
  (n19 :
  Int)
  (w34 :
  World),
  x5
  n19
  w34 →
  br
  (decide
  (n19 <
  (↑k90 :
  Int)))
  (idx
  o43
  k90
  n19
  1
  fun
  (a2 :
  Addr) =>
  ∃
  (b6
  :
  Bool),
  World.cell?
  w34
  a2 =
  some
  (Value.bool
  b6) ∧
  br
  b6
  (idx
  o48
  k100
  n19
  1
  fun
  (a3 :
  Addr) =>
  ∃
  (b7
  :
  Bool),
  World.cell?
  w34
  a3 =
  some
  (Value.bool
  b7) ∧
  br
  (!b7)
  (R
  (Value.bool
  false)
  w34)
  (inI
  (n19 +
  1) ∧
  x5
  (n19 +
  1)
  w34 ∧
  x6
  (n19 +
  1)
  w34 <
  x6
  n19
  w34))
  (inI
  (n19 +
  1) ∧
  x5
  (n19 +
  1)
  w34 ∧
  x6
  (n19 +
  1)
  w34 <
  x6
  n19
  w34))
  (RunE
  Proofs.Tryd.prog
  Ev
  34
  []
  w34
  fun
  (v15 :
  Value)
  (w35 :
  World) =>
  ∃
  (b8
  :
  Bool),
  v15 =
  Value.bool
  b8 ∧
  R
  (Value.bool
  b8)
  w35)))) ∧
  new w10
  (Obj.cells
  (Array.mk
  [Value.int IntKind.i64 0, Value.slice none 0 0,
  Value.int IntKind.i64 0])
  51)
  fun (k104 : Nat) (w36 : World) =>
  I1 w36 ∧
  RunE Proofs.Tryd.prog Ev 39
  [Value.int IntKind.i64 p1left,
  Value.int IntKind.i64 (↑k55 : Int)]
  w36 fun (v16 : Value) (w37 : World) =>
  ∃ (n20 : Int),
  v16 = Value.int IntKind.i64 n20 ∧
  I1 w37 ∧
  inI ((↑k53 : Int) + n20) ∧
  stR w37 (Addr.mk k104 0 none)
  [Value.int IntKind.i64
  ((↑k53 : Int) + n20),
  Value.slice none 0 0,
  Value.int IntKind.i64 0]
  fun (w38 : World) =>
  ∃ (x7 : arrS (shs []) (World → Prop)),
  (∃ (x8 :
  arrS
  (shs
  [(11,
  S1.one
  (Cs.int
  IntKind.i64))])
  (World → Prop)),
  ∃ (x9 :
  arrS
  (shs
  [(11,
  S1.one
  (Cs.int
  IntKind.i64))])
  (World → Nat)),
  x8 0 w38 ∧
  ∀ (I7 : Nat → Value)
  (n21 : Int) (w39 : World),
  x8 n21 w39 →
  br
  (decide
  (n21 <
  (↑p2rowl : Int)))
  (br (decide (n21 < 6))
  (∀ (w40 : World),
  drawn w39 w40 →
  ∃ (I8 :
  World → Prop),
  I8 w40 ∧
  idx p2rowa
  p2rowl n21
  1
  fun
  (a4 :
  Addr) =>
  ∃ (n22 :
  Int),
  (∀
  (w41 :
  World),
  I8
  w41 →
  World.cell?
  w41
  a4 =
  some
  (Value.int
  IntKind.i64
  n22)) ∧
  ∃ (o50
  :
  Option
  Addr),
  ∃
  (k105
  :
  Nat),
  ∃
  (k106
  :
  Nat),
  (∀
  (w42 :
  World),
  I8
  w42 →
  World.cell?
  w42
  (Addr.mk
  k1
  0
  none) =
  some
  (Value.slice
  o50
  k105
  k106)) ∧
  ∃
  (o51
  :
  Option
  Addr),
  ∃
  (k107
  :
  Nat),
  ∃
  (k108
  :
  Nat),
  (∀
  (w43 :
  World),
  I8
  w43 →
  World.cell?
  w43
  (Addr.add
  (Addr.mk
  k1
  0
  none)
  1) =
  some
  (Value.slice
  o51
  k107
  k108)) ∧
  inI
  ((↑k105 :
  Int) +
  (↑k107 :
  Int)) ∧
  RunE
  Proofs.Tryd.prog
  Ev
  39
  [Value.int
  IntKind.i64
  n22,
  Value.int
  IntKind.i64
  ((↑k105 :
  Int) +
  (↑k107 :
  Int))]
  w40
  fun
  (v17 :
  Value)
  (w44 :
  World) =>
  ∃
  (n23
  :
  Int),
  v17 =
  Value.int
  IntKind.i64
  n23 ∧
  I8
  w44 ∧
  br
  (decide
  (0 <
  n23))
  (∃
  (o52
  :
  Option
  Addr),
  ∃
  (k109
  :
  Nat),
  ∃
  (k110
  :
  Nat),
  World.cell?
  w44
  (Addr.add
  (Addr.mk
  k104
  0
  none)
  1) =
  some
  (Value.slice
  o52
  k109
  k110) ∧
  new
  w44
  (Obj.cells
  (Array.mk
  [Value.int
  IntKind.i64
  n23])
  3)
  fun
  (k111 :
  Nat)
  (w45 :
  World) =>
  RunS
  Proofs.Tryd.prog
  (Builtin.append_
  (Array.mk
  [24,
  24])
  24
  (Array.mk
  [Value.slice
  o52
  k109
  k110,
  Value.slice
  (some
  (Addr.mk
  k111
  0
  none))
  1
  1]))
  w45
  fun
  (v18 :
  Value)
  (w46 :
  World) =>
  ∃
  (o53
  :
  Option
  Addr),
  ∃
  (k112
  :
  Nat),
  ∃
  (k113
  :
  Nat),
  v18 =
  Value.slice
  o53
  k112
  k113 ∧
  st1
  w46
  (Addr.add
  (Addr.mk
  k104
  0
  none)
  1)
  (Value.slice
  o53
  k112
  k113)
  fun
  (w47 :
  World) =>
  inI
  (n21 +
  1) ∧
  x8
  (n21 +
  1)
  w47 ∧
  x9
  (n21 +
  1)
  w47 <
  x9
  n21
  w39)
  (inI
  (n21 +
  1) ∧
  x8
  (n21 +
  1)
  w44 ∧
  x9
  (n21 +
  1)
  w44 <
  x9
  n21
  w39))
  (x7 w39))
  (x7 w39)) ∧
  ∀ (I9 : Nat → Value)
  (w48 : World),
  x7 w48 →
  ∃ (o54 : Option Addr),
  ∃ (k114 : Nat),
  ∃ (k115 : Nat),
  World.cell? w48
  (Addr.add
  (Addr.mk k52 0
  none)
  4) =
  some
  (Value.slice o54
  k114 k115) ∧
  ∃ (n24 : Int),
  ∃ (o55 :
  Option Addr),
  ∃ (k116 : Nat),
  ∃ (k117 : Nat),
  ∃ (n25 : Int),
  V.rowAt w48
  (Addr.mk
  k104
  0
  none)
  0 3 =
  some
  [Value.int
  IntKind.i64
  n24,
  Value.slice
  o55
  k116
  k117,
  Value.int
  IntKind.i64
  n25] ∧
  new w48
  (Obj.cells
  (Array.mk
  [Value.int
  IntKind.i64
  n24,
  Value.slice
  o55
  k116
  k117,
  Value.int
  IntKind.i64
  n25])
  51)
  fun
  (k118 :
  Nat)
  (w49 :
  World) =>
  RunS
  Proofs.Tryd.prog
  (Builtin.append_
  (Array.mk
  [25,
  25])
  25
  (Array.mk
  [Value.slice
  o54
  k114
  k115,
  Value.slice
  (some
  (Addr.mk
  k118
  0
  none))
  1
  1]))
  w49
  fun
  (v19 :
  Value)
  (w50 :
  World) =>
  ∃ (o56
  :
  Option
  Addr),
  ∃
  (k119
  :
  Nat),
  ∃
  (k120
  :
  Nat),
  v19 =
  Value.slice
  o56
  k119
  k120 ∧
  st1
  w50
  (Addr.add
  (Addr.mk
  k52
  0
  none)
  4)
  (Value.slice
  o56
  k119
  k120)
  fun
  (w51 :
  World) =>
  ∃
  (o57
  :
  Option
  Addr),
  ∃
  (k121
  :
  Nat),
  ∃
  (k122
  :
  Nat),
  ∃
  (o58
  :
  Option
  Addr),
  ∃
  (k123
  :
  Nat),
  ∃
  (k124
  :
  Nat),
  ∃
  (o59
  :
  Option
  Addr),
  ∃
  (k125
  :
  Nat),
  ∃
  (k126
  :
  Nat),
  ∃
  (n26
  :
  Int),
  ∃
  (o60
  :
  Option
  Addr),
  ∃
  (k127
  :
  Nat),
  ∃
  (k128
  :
  Nat),
  V.rowAt
  w51
  (Addr.mk
  k1
  0
  none)
  0
  5 =
  some
  [Value.slice
  o57
  k121
  k122,
  Value.slice
  o58
  k123
  k124,
  Value.slice
  o59
  k125
  k126,
  Value.int
  IntKind.i64
  n26,
  Value.slice
  o60
  k127
  k128] ∧
  RunE
  Proofs.Tryd.prog
  Ev
  14
  [Value.agg
  (Array.mk
  [Value.slice
  o57
  k121
  k122,
  Value.slice
  o58
  k123
  k124,
  Value.slice
  o59
  k125
  k126,
  Value.int
  IntKind.i64
  n26,
  Value.slice
  o60
  k127
  k128])]
  w51
  fun
  (v20 :
  Value)
  (w52 :
  World) =>
  ∃
  (o61
  :
  Option
  Addr),
  ∃
  (k129
  :
  Nat),
  ∃
  (k130
  :
  Nat),
  ∃
  (o62
  :
  Option
  Addr),
  ∃
  (k131
  :
  Nat),
  ∃
  (k132
  :
  Nat),
  ∃
  (o63
  :
  Option
  Addr),
  ∃
  (k133
  :
  Nat),
  ∃
  (k134
  :
  Nat),
  ∃
  (n27
  :
  Int),
  ∃
  (o64
  :
  Option
  Addr),
  ∃
  (k135
  :
  Nat),
  ∃
  (k136
  :
  Nat),
  v20 =
  Value.agg
  (Array.mk
  [Value.slice
  o61
  k129
  k130,
  Value.slice
  o62
  k131
  k132,
  Value.slice
  o63
  k133
  k134,
  Value.int
  IntKind.i64
  n27,
  Value.slice
  o64
  k135
  k136]) ∧
  RunE
  Proofs.Tryd.prog
  Ev
  38
  [Value.agg
  (Array.mk
  [Value.slice
  o61
  k129
  k130,
  Value.slice
  o62
  k131
  k132,
  Value.slice
  o63
  k133
  k134,
  Value.int
  IntKind.i64
  n27,
  Value.slice
  o64
  k135
  k136])]
  w52
  fun
  (v21 :
  Value)
  (w53 :
  World) =>
  ∃
  (o65
  :
  Option
  Addr),
  ∃
  (k137
  :
  Nat),
  ∃
  (k138
  :
  Nat),
  ∃
  (n28
  :
  Int),
  v21 =
  Value.tuple
  (Array.mk
  [Value.slice
  o65
  k137
  k138,
  Value.int
  IntKind.i64
  n28]) ∧
  ∃
  (o66
  :
  Option
  Addr),
  ∃
  (k139
  :
  Nat),
  ∃
  (k140
  :
  Nat),
  ∃
  (o67
  :
  Option
  Addr),
  ∃
  (k141
  :
  Nat),
  ∃
  (k142
  :
  Nat),
  ∃
  (o68
  :
  Option
  Addr),
  ∃
  (k143
  :
  Nat),
  ∃
  (k144
  :
  Nat),
  ∃
  (n29
  :
  Int),
  ∃
  (o69
  :
  Option
  Addr),
  ∃
  (k145
  :
  Nat),
  ∃
  (k146
  :
  Nat),
  V.rowAt
  w53
  (Addr.mk
  k52
  0
  none)
  0
  5 =
  some
  [Value.slice
  o66
  k139
  k140,
  Value.slice
  o67
  k141
  k142,
  Value.slice
  o68
  k143
  k144,
  Value.int
  IntKind.i64
  n29,
  Value.slice
  o69
  k145
  k146] ∧
  RunE
  Proofs.Tryd.prog
  Ev
  38
  [Value.agg
  (Array.mk
  [Value.slice
  o66
  k139
  k140,
  Value.slice
  o67
  k141
  k142,
  Value.slice
  o68
  k143
  k144,
  Value.int
  IntKind.i64
  n29,
  Value.slice
  o69
  k145
  k146])]
  w53
  fun
  (v22 :
  Value)
  (w54 :
  World) =>
  ∃
  (o70
  :
  Option
  Addr),
  ∃
  (k147
  :
  Nat),
  ∃
  (k148
  :
  Nat),
  ∃
  (n30
  :
  Int),
  v22 =
  Value.tuple
  (Array.mk
  [Value.slice
  o70
  k147
  k148,
  Value.int
  IntKind.i64
  n30]) ∧
  ∃
  (o71
  :
  Option
  Addr),
  ∃
  (k149
  :
  Nat),
  ∃
  (k150
  :
  Nat),
  World.cell?
  w54
  (Addr.add
  (Addr.mk
  k1
  0
  none)
  4) =
  some
  (Value.slice
  o71
  k149
  k150) ∧
  br
  ((↑k149 :
  Int) ==
  96)
  (br
  (n28 ==
  0)
  (br
  (n30 ==
  1)
  (RunE
  Proofs.Tryd.prog
  Ev
  34
  []
  w54
  fun
  (v23 :
  Value)
  (w55 :
  World) =>
  ∃
  (b9
  :
  Bool),
  v23 =
  Value.bool
  b9 ∧
  R
  (Value.bool
  b9)
  w55)
  (R
  (Value.bool
  false)
  w54))
  (R
  (Value.bool
  false)
  w54))
  (∃
  (x10
  :
  arrS
  (shs
  [(119,
  S1.one
  Cs.bool)])
  (World →
  Prop)),
  br
  (n28 !=
  0)
  (x10
  true
  w54)
  (br
  (n30 !=
  0)
  (x10
  true
  w54)
  (x10
  ((↑k137 :
  Int) !=
  (↑k147 :
  Int))
  w54)) ∧
  ∀
  (I10 :
  Nat →
  Value)
  (b10 :
  Bool)
  (w56 :
  World),
  x10
  b10
  w56 →
  br
  b10
  (R
  (Value.bool
  false)
  w56)
  (∃
  (x11
  :
  arrS
  (shs
  [(17,
  S1.one
  (Cs.int
  IntKind.i64))])
  (World →
  Prop)),
  ∃
  (x12
  :
  arrS
  (shs
  [(17,
  S1.one
  (Cs.int
  IntKind.i64))])
  (World →
  Nat)),
  x11
  0
  w56 ∧
  ∀
  (I11 :
  Nat →
  Value)
  (n31 :
  Int)
  (w57 :
  World),
  x11
  n31
  w57 →
  br
  (decide
  (n31 <
  (↑k137 :
  Int)))
  (idx
  o65
  k137
  n31
  1
  fun
  (a5 :
  Addr) =>
  ∃
  (b11
  :
  Bool),
  World.cell?
  w57
  a5 =
  some
  (Value.bool
  b11) ∧
  br
  b11
  (idx
  o70
  k147
  n31
  1
  fun
  (a6 :
  Addr) =>
  ∃
  (b12
  :
  Bool),
  World.cell?
  w57
  a6 =
  some
  (Value.bool
  b12) ∧
  br
  (!b12)
  (R
  (Value.bool
  false)
  w57)
  (inI
  (n31 +
  1) ∧
  x11
  (n31 +
  1)
  w57 ∧
  x12
  (n31 +
  1)
  w57 <
  x12
  n31
  w57))
  (inI
  (n31 +
  1) ∧
  x11
  (n31 +
  1)
  w57 ∧
  x12
  (n31 +
  1)
  w57 <
  x12
  n31
  w57))
  (RunE
  Proofs.Tryd.prog
  Ev
  34
  []
  w57
  fun
  (v24 :
  Value)
  (w58 :
  World) =>
  ∃
  (b13
  :
  Bool),
  v24 =
  Value.bool
  b13 ∧
  R
  (Value.bool
  b13)
  w58))))
set_option maxRecDepth 100000 in
theorem run_presagelaw06_ReachMore (p0g_0a : Option Addr) (p0g_0l : Nat) (p0g_0c : Nat) (p0g_1a : Option Addr) (p0g_1l : Nat) (p0g_1c : Nat) (p0g_2a : Option Addr) (p0g_2l : Nat) (p0g_2c : Nat) (p0g_3 : Int) (p0g_4a : Option Addr) (p0g_4l : Nat) (p0g_4c : Nat) (p1left : Int) (p2rowa : Option Addr) (p2rowl : Nat) (p2rowc : Nat) (w : World) (R : Value → World → Prop) (h : vc_presagelaw06_ReachMore p0g_0a p0g_0l p0g_0c p0g_1a p0g_1l p0g_1c p0g_2a p0g_2l p0g_2c p0g_3 p0g_4a p0g_4l p0g_4c p1left p2rowa p2rowl p2rowc w R) : Run Tryd.prog 10 [(.agg #[(.slice p0g_0a p0g_0l p0g_0c), (.slice p0g_1a p0g_1l p0g_1c), (.slice p0g_2a p0g_2l p0g_2c), (.int .i64 p0g_3), (.slice p0g_4a p0g_4l p0g_4c)]), (.int .i64 p1left), (.slice p2rowa p2rowl p2rowc)] w R :=
  run_ev tyOk fnOk mixed Tryd.func10 ann_presagelaw06_ReachMore ((by kernel_rfl : fnV Tryd.prog Ty Fn Ev ann_presagelaw06_ReachMore Tryd.f10 [(.agg #[(.slice p0g_0a p0g_0l p0g_0c), (.slice p0g_1a p0g_1l p0g_1c), (.slice p0g_2a p0g_2l p0g_2c), (.int .i64 p0g_3), (.slice p0g_4a p0g_4l p0g_4c)]), (.int .i64 p1left), (.slice p2rowa p2rowl p2rowc)] w R = vc_presagelaw06_ReachMore p0g_0a p0g_0l p0g_0c p0g_1a p0g_1l p0g_1c p0g_2a p0g_2l p0g_2c p0g_3 p0g_4a p0g_4l p0g_4c p1left p2rowa p2rowl p2rowc w R) ▸ h)

abbrev n_presagelaw06_ReachParts : FuncId := 12
def ann_presagelaw06_ReachParts : Ann := { rngs := [], loops := [(10, [(9, (.one (.int .i64)))]), (17, [(10, (.one .slice)), (11, (.one (.int .i64)))]), (30, [(12, (.one (.int .i64)))]), (37, [(15, (.one (.int .i64)))]), (43, [(16, (.one (.int .i64))), (17, (.one (.int .i64)))]), (45, [(16, (.one (.int .i64)))])], joins := [(6, []), (25, []), (28, [(168, (.one .bool))])], blocks := [] }
set_option maxRecDepth 100000 in
def vc_presagelaw06_ReachParts (p0g_0a : Option Addr) (p0g_0l : Nat) (p0g_0c : Nat) (p0g_1a : Option Addr) (p0g_1l : Nat) (p0g_1c : Nat) (p0g_2a : Option Addr) (p0g_2l : Nat) (p0g_2c : Nat) (p0g_3 : Int) (p0g_4a : Option Addr) (p0g_4l : Nat) (p0g_4c : Nat) (w : World) (R : Value → World → Prop) : Prop :=
  new w
  (Obj.cells
  (Array.mk [Value.slice p0g_0a p0g_0l p0g_0c, Value.slice p0g_1a p0g_1l p0g_1c, Value.slice p0g_2a p0g_2l p0g_2c, Value.int IntKind.i64 p0g_3, Value.slice p0g_4a p0g_4l p0g_4c])
  27)
  fun (k1 : Nat) (w1 : World) =>
  ∃ (o1 : Option Addr),
  ∃ (k2 : Nat),
  ∃ (k3 : Nat),
  ∃ (o2 : Option Addr),
  ∃ (k4 : Nat),
  ∃ (k5 : Nat),
  ∃ (o3 : Option Addr),
  ∃ (k6 : Nat),
  ∃ (k7 : Nat),
  ∃ (n1 : Int),
  ∃ (o4 : Option Addr),
  ∃ (k8 : Nat),
  ∃ (k9 : Nat),
  V.rowAt w1 (Addr.mk k1 0 none) 0 5 =
  some [Value.slice o1 k2 k3, Value.slice o2 k4 k5, Value.slice o3 k6 k7, Value.int IntKind.i64 n1, Value.slice o4 k8 k9] ∧
  RunE Proofs.Tryd.prog Ev 14
  [Value.agg (Array.mk [Value.slice o1 k2 k3, Value.slice o2 k4 k5, Value.slice o3 k6 k7, Value.int IntKind.i64 n1, Value.slice o4 k8 k9])] w1
  fun (v1 : Value) (w2 : World) =>
  ∃ (o5 : Option Addr),
  ∃ (k10 : Nat),
  ∃ (k11 : Nat),
  ∃ (o6 : Option Addr),
  ∃ (k12 : Nat),
  ∃ (k13 : Nat),
  ∃ (o7 : Option Addr),
  ∃ (k14 : Nat),
  ∃ (k15 : Nat),
  ∃ (n2 : Int),
  ∃ (o8 : Option Addr),
  ∃ (k16 : Nat),
  ∃ (k17 : Nat),
  v1 =
  Value.agg
  (Array.mk
  [Value.slice o5 k10 k11, Value.slice o6 k12 k13, Value.slice o7 k14 k15, Value.int IntKind.i64 n2,
  Value.slice o8 k16 k17]) ∧
  RunE Proofs.Tryd.prog Ev 38
  [Value.agg
  (Array.mk
  [Value.slice o5 k10 k11, Value.slice o6 k12 k13, Value.slice o7 k14 k15, Value.int IntKind.i64 n2,
  Value.slice o8 k16 k17])]
  w2 fun (v2 : Value) (w3 : World) =>
  ∃ (o9 : Option Addr),
  ∃ (k18 : Nat),
  ∃ (k19 : Nat),
  ∃ (n3 : Int),
  v2 = Value.tuple (Array.mk [Value.slice o9 k18 k19, Value.int IntKind.i64 n3]) ∧
  ∃ (o10 : Option Addr),
  ∃ (k20 : Nat),
  ∃ (k21 : Nat),
  ∃ (o11 : Option Addr),
  ∃ (k22 : Nat),
  ∃ (k23 : Nat),
  ∃ (o12 : Option Addr),
  ∃ (k24 : Nat),
  ∃ (k25 : Nat),
  ∃ (n4 : Int),
  ∃ (o13 : Option Addr),
  ∃ (k26 : Nat),
  ∃ (k27 : Nat),
  V.rowAt w3 (Addr.mk k1 0 none) 0 5 =
  some
  [Value.slice o10 k20 k21, Value.slice o11 k22 k23, Value.slice o12 k24 k25,
  Value.int IntKind.i64 n4, Value.slice o13 k26 k27] ∧
  RunE Proofs.Tryd.prog Ev 14
  [Value.agg
  (Array.mk
  [Value.slice o10 k20 k21, Value.slice o11 k22 k23,
  Value.slice o12 k24 k25, Value.int IntKind.i64 n4,
  Value.slice o13 k26 k27])]
  w3 fun (v3 : Value) (w4 : World) =>
  ∃ (o14 : Option Addr),
  ∃ (k28 : Nat),
  ∃ (k29 : Nat),
  ∃ (o15 : Option Addr),
  ∃ (k30 : Nat),
  ∃ (k31 : Nat),
  ∃ (o16 : Option Addr),
  ∃ (k32 : Nat),
  ∃ (k33 : Nat),
  ∃ (n5 : Int),
  ∃ (o17 : Option Addr),
  ∃ (k34 : Nat),
  ∃ (k35 : Nat),
  v3 =
  Value.agg
  (Array.mk
  [Value.slice o14 k28 k29,
  Value.slice o15 k30 k31,
  Value.slice o16 k32 k33,
  Value.int IntKind.i64 n5,
  Value.slice o17 k34 k35]) ∧
  RunE Proofs.Tryd.prog Ev 40
  [Value.agg
  (Array.mk
  [Value.slice o14 k28 k29,
  Value.slice o15 k30 k31,
  Value.slice o16 k32 k33,
  Value.int IntKind.i64 n5,
  Value.slice o17 k34 k35])]
  w4 fun (v4 : Value) (w5 : World) =>
  ∃ (o18 : Option Addr),
  ∃ (k36 : Nat),
  ∃ (k37 : Nat),
  ∃ (n6 : Int),
  v4 =
  Value.tuple
  (Array.mk
  [Value.slice o18 k36 k37,
  Value.int IntKind.i64 n6]) ∧
  ∃ (o19 : Option Addr),
  ∃ (k38 : Nat),
  ∃ (k39 : Nat),
  ∃ (o20 : Option Addr),
  ∃ (k40 : Nat),
  ∃ (k41 : Nat),
  ∃ (o21 : Option Addr),
  ∃ (k42 : Nat),
  ∃ (k43 : Nat),
  ∃ (n7 : Int),
  ∃ (o22 :
  Option Addr),
  ∃ (k44 : Nat),
  ∃ (k45 : Nat),
  V.rowAt w5
  (Addr.mk
  k1 0
  none)
  0 5 =
  some
  [Value.slice
  o19
  k38
  k39,
  Value.slice
  o20
  k40
  k41,
  Value.slice
  o21
  k42
  k43,
  Value.int
  IntKind.i64
  n7,
  Value.slice
  o22
  k44
  k45] ∧
  RunE
  Proofs.Tryd.prog
  Ev 14
  [Value.agg
  (Array.mk
  [Value.slice
  o19
  k38
  k39,
  Value.slice
  o20
  k40
  k41,
  Value.slice
  o21
  k42
  k43,
  Value.int
  IntKind.i64
  n7,
  Value.slice
  o22
  k44
  k45])]
  w5
  fun
  (v5 :
  Value)
  (w6 :
  World) =>
  ∃ (o23 :
  Option
  Addr),
  ∃ (k46
  :
  Nat),
  ∃
  (k47
  :
  Nat),
  ∃
  (o24
  :
  Option
  Addr),
  ∃
  (k48
  :
  Nat),
  ∃
  (k49
  :
  Nat),
  ∃
  (o25
  :
  Option
  Addr),
  ∃
  (k50
  :
  Nat),
  ∃
  (k51
  :
  Nat),
  ∃
  (n8
  :
  Int),
  ∃
  (o26
  :
  Option
  Addr),
  ∃
  (k52
  :
  Nat),
  ∃
  (k53
  :
  Nat),
  v5 =
  Value.agg
  (Array.mk
  [Value.slice
  o23
  k46
  k47,
  Value.slice
  o24
  k48
  k49,
  Value.slice
  o25
  k50
  k51,
  Value.int
  IntKind.i64
  n8,
  Value.slice
  o26
  k52
  k53]) ∧
  RunE
  Proofs.Tryd.prog
  Ev
  31
  [Value.agg
  (Array.mk
  [Value.slice
  o23
  k46
  k47,
  Value.slice
  o24
  k48
  k49,
  Value.slice
  o25
  k50
  k51,
  Value.int
  IntKind.i64
  n8,
  Value.slice
  o26
  k52
  k53])]
  w6
  fun
  (v6 :
  Value)
  (w7 :
  World) =>
  ∃
  (o27
  :
  Option
  Addr),
  ∃
  (k54
  :
  Nat),
  ∃
  (k55
  :
  Nat),
  ∃
  (o28
  :
  Option
  Addr),
  ∃
  (k56
  :
  Nat),
  ∃
  (k57
  :
  Nat),
  ∃
  (o29
  :
  Option
  Addr),
  ∃
  (k58
  :
  Nat),
  ∃
  (k59
  :
  Nat),
  ∃
  (n9
  :
  Int),
  ∃
  (o30
  :
  Option
  Addr),
  ∃
  (k60
  :
  Nat),
  ∃
  (k61
  :
  Nat),
  ∃
  (n10
  :
  Int),
  v6 =
  Value.tuple
  (Array.mk
  [Value.agg
  (Array.mk
  [Value.slice
  o27
  k54
  k55,
  Value.slice
  o28
  k56
  k57,
  Value.slice
  o29
  k58
  k59,
  Value.int
  IntKind.i64
  n9,
  Value.slice
  o30
  k60
  k61]),
  Value.int
  IntKind.i64
  n10]) ∧
  new
  w7
  (Obj.cells
  (Array.mk
  [Value.slice
  none
  0
  0,
  Value.slice
  none
  0
  0,
  Value.slice
  none
  0
  0,
  Value.int
  IntKind.i64
  0,
  Value.slice
  none
  0
  0])
  27)
  fun
  (k62 :
  Nat)
  (w8 :
  World) =>
  stR
  w8
  (Addr.mk
  k62
  0
  none)
  [Value.slice
  o27
  k54
  k55,
  Value.slice
  o28
  k56
  k57,
  Value.slice
  o29
  k58
  k59,
  Value.int
  IntKind.i64
  n9,
  Value.slice
  o30
  k60
  k61]
  fun
  (w9 :
  World) =>
  ∃
  (x1
  :
  arrS
  (shs
  [])
  (World →
  Prop)),
  br
  (n3 !=
  n6)
  (R
  (Value.bool
  false)
  w9)
  (br
  (n3 ==
  0)
  (∃
  (o31
  :
  Option
  Addr),
  ∃
  (k63
  :
  Nat),
  ∃
  (k64
  :
  Nat),
  World.cell?
  w9
  (Addr.add
  (Addr.mk
  k1
  0
  none)
  1) =
  some
  (Value.slice
  o31
  k63
  k64) ∧
  br
  ((↑k18 :
  Int) !=
  (↑k63 :
  Int))
  (R
  (Value.bool
  false)
  w9)
  (∃
  (o32
  :
  Option
  Addr),
  ∃
  (k65
  :
  Nat),
  ∃
  (k66
  :
  Nat),
  World.cell?
  w9
  (Addr.add
  (Addr.mk
  k1
  0
  none)
  1) =
  some
  (Value.slice
  o32
  k65
  k66) ∧
  br
  ((↑k36 :
  Int) !=
  (↑k65 :
  Int))
  (R
  (Value.bool
  false)
  w9)
  (x1
  w9)))
  (x1
  w9)) ∧
  ∀
  (I1 :
  Nat →
  Value)
  (w10 :
  World),
  x1
  w10 →
  br
  (n3 !=
  0)
  (br
  (n10 ==
  n3)
  (RunE
  Proofs.Tryd.prog
  Ev
  34
  []
  w10
  fun
  (v7 :
  Value)
  (w11 :
  World) =>
  ∃
  (b1
  :
  Bool),
  v7 =
  Value.bool
  b1 ∧
  R
  (Value.bool
  b1)
  w11)
  (R
  (Value.bool
  false)
  w10))
  (∃
  (o33
  :
  Option
  Addr),
  ∃
  (k67
  :
  Nat),
  ∃
  (k68
  :
  Nat),
  ∃
  (o34
  :
  Option
  Addr),
  ∃
  (k69
  :
  Nat),
  ∃
  (k70
  :
  Nat),
  ∃
  (o35
  :
  Option
  Addr),
  ∃
  (k71
  :
  Nat),
  ∃
  (k72
  :
  Nat),
  ∃
  (n11
  :
  Int),
  ∃
  (o36
  :
  Option
  Addr),
  ∃
  (k73
  :
  Nat),
  ∃
  (k74
  :
  Nat),
  V.rowAt
  w10
  (Addr.mk
  k1
  0
  none)
  0
  5 =
  some
  [Value.slice
  o33
  k67
  k68,
  Value.slice
  o34
  k69
  k70,
  Value.slice
  o35
  k71
  k72,
  Value.int
  IntKind.i64
  n11,
  Value.slice
  o36
  k73
  k74] ∧
  RunE
  Proofs.Tryd.prog
  Ev
  28
  [Value.agg
  (Array.mk
  [Value.slice
  o33
  k67
  k68,
  Value.slice
  o34
  k69
  k70,
  Value.slice
  o35
  k71
  k72,
  Value.int
  IntKind.i64
  n11,
  Value.slice
  o36
  k73
  k74])]
  w10
  fun
  (v8 :
  Value)
  (w12 :
  World) =>
  ∃
  (b2
  :
  Bool),
  v8 =
  Value.bool
  b2 ∧
  br
  (!b2)
  (∃
  (x2
  :
  arrS
  (shs
  [(9,
  S1.one
  (Cs.int
  IntKind.i64))])
  (World →
  Prop)),
  ∃
  (x3
  :
  arrS
  (shs
  [(9,
  S1.one
  (Cs.int
  IntKind.i64))])
  (World →
  Nat)),
  x2
  0
  w12 ∧
  ∀
  (I2 :
  Nat →
  Value)
  (n12 :
  Int)
  (w13 :
  World),
  x2
  n12
  w13 →
  br
  (decide
  (n12 <
  (↑k36 :
  Int)))
  (idx
  o18
  k36
  n12
  1
  fun
  (a1 :
  Addr) =>
  ∃
  (b3
  :
  Bool),
  World.cell?
  w13
  a1 =
  some
  (Value.bool
  b3) ∧
  br
  b3
  (idx
  o9
  k18
  n12
  1
  fun
  (a2 :
  Addr) =>
  ∃
  (b4
  :
  Bool),
  World.cell?
  w13
  a2 =
  some
  (Value.bool
  b4) ∧
  br
  (!b4)
  (R
  (Value.bool
  false)
  w13)
  (inI
  (n12 +
  1) ∧
  x2
  (n12 +
  1)
  w13 ∧
  x3
  (n12 +
  1)
  w13 <
  x3
  n12
  w13))
  (inI
  (n12 +
  1) ∧
  x2
  (n12 +
  1)
  w13 ∧
  x3
  (n12 +
  1)
  w13 <
  x3
  n12
  w13))
  (∀
  (w14 :
  World),
  drawn
  w13
  w14 →
  ∃
  (I3
  :
  World →
  Prop),
  I3
  w14 ∧
  br
  (n10 ==
  1)
  (∃
  (o37
  :
  Option
  Addr),
  ∃
  (k75
  :
  Nat),
  ∃
  (k76
  :
  Nat),
  ∃
  (o38
  :
  Option
  Addr),
  ∃
  (k77
  :
  Nat),
  ∃
  (k78
  :
  Nat),
  ∃
  (o39
  :
  Option
  Addr),
  ∃
  (k79
  :
  Nat),
  ∃
  (k80
  :
  Nat),
  ∃
  (n13
  :
  Int),
  ∃
  (o40
  :
  Option
  Addr),
  ∃
  (k81
  :
  Nat),
  ∃
  (k82
  :
  Nat),
  (∀
  (w15 :
  World),
  I3
  w15 →
  V.rowAt
  w15
  (Addr.mk
  k1
  0
  none)
  0
  5 =
  some
  [Value.slice
  o37
  k75
  k76,
  Value.slice
  o38
  k77
  k78,
  Value.slice
  o39
  k79
  k80,
  Value.int
  IntKind.i64
  n13,
  Value.slice
  o40
  k81
  k82]) ∧
  RunE
  Proofs.Tryd.prog
  Ev
  29
  [Value.agg
  (Array.mk
  [Value.slice
  o37
  k75
  k76,
  Value.slice
  o38
  k77
  k78,
  Value.slice
  o39
  k79
  k80,
  Value.int
  IntKind.i64
  n13,
  Value.slice
  o40
  k81
  k82])]
  w14
  fun
  (v9 :
  Value)
  (w16 :
  World) =>
  ∃
  (b5
  :
  Bool),
  v9 =
  Value.bool
  b5 ∧
  ∃
  (I4
  :
  World →
  Prop),
  I4
  w16 ∧
  (∀
  (w17 :
  World),
  I4
  w17 →
  I3
  w17) ∧
  br
  b5
  (idx
  o18
  k36
  0
  1
  fun
  (a3 :
  Addr) =>
  ∃
  (b6
  :
  Bool),
  (∀
  (w18 :
  World),
  I4
  w18 →
  World.cell?
  w18
  a3 =
  some
  (Value.bool
  b6)) ∧
  ∃
  (n14
  :
  Int),
  (∀
  (w19 :
  World),
  I4
  w19 →
  World.cell?
  w19
  (Addr.add
  (Addr.mk
  k1
  0
  none)
  3) =
  some
  (Value.int
  IntKind.i64
  n14)) ∧
  ∃
  (o41
  :
  Option
  Addr),
  ∃
  (k83
  :
  Nat),
  ∃
  (k84
  :
  Nat),
  (∀
  (w20 :
  World),
  I4
  w20 →
  World.cell?
  w20
  (Addr.mk
  k1
  0
  none) =
  some
  (Value.slice
  o41
  k83
  k84)) ∧
  inI
  (n14 -
  (↑k83 :
  Int)) ∧
  idx
  o18
  k36
  (n14 -
  (↑k83 :
  Int))
  1
  fun
  (a4 :
  Addr) =>
  ∃
  (b7
  :
  Bool),
  (∀
  (w21 :
  World),
  I4
  w21 →
  World.cell?
  w21
  a4 =
  some
  (Value.bool
  b7)) ∧
  br
  (b6 ==
  b7)
  (RunE
  Proofs.Tryd.prog
  Ev
  34
  []
  w16
  fun
  (v10 :
  Value)
  (w22 :
  World) =>
  ∃
  (b8
  :
  Bool),
  v10 =
  Value.bool
  b8 ∧
  I4
  w22 ∧
  R
  (Value.bool
  b8)
  w22)
  (R
  (Value.bool
  false)
  w16))
  (R
  (Value.bool
  false)
  w16))
  (R
  (Value.bool
  false)
  w14)))
  (∃
  (x4
  :
  arrS
  (shs
  [(10,
  S1.one
  Cs.slice),
  (11,
  S1.one
  (Cs.int
  IntKind.i64))])
  (World →
  Prop)),
  ∃
  (x5
  :
  arrS
  (shs
  [(10,
  S1.one
  Cs.slice),
  (11,
  S1.one
  (Cs.int
  IntKind.i64))])
  (World →
  Nat)),
  x4
  none
  0
  0
  0
  w12 ∧
  ∀
  (I5 :
  Nat →
  Value)
  (o42 :
  Option
  Addr)
  (k85
  k86 :
  Nat)
  (n15 :
  Int)
  (w23 :
  World),
  x4
  o42
  k85
  k86
  n15
  w23 →
  br
  (decide
  (n15 <
  (↑k36 :
  Int)))
  (idx
  o18
  k36
  n15
  1
  fun
  (a5 :
  Addr) =>
  ∃
  (b9
  :
  Bool),
  World.cell?
  w23
  a5 =
  some
  (Value.bool
  b9) ∧
  br
  b9
  (idx
  o9
  k18
  n15
  1
  fun
  (a6 :
  Addr) =>
  ∃
  (b10
  :
  Bool),
  World.cell?
  w23
  a6 =
  some
  (Value.bool
  b10) ∧
  br
  (!b10)
  (R
  (Value.bool
  false)
  w23)
  (idx
  o18
  k36
  n15
  1
  fun
  (a7 :
  Addr) =>
  ∃
  (b11
  :
  Bool),
  World.cell?
  w23
  a7 =
  some
  (Value.bool
  b11) ∧
  br
  b11
  (∃
  (o43
  :
  Option
  Addr),
  ∃
  (k87
  :
  Nat),
  ∃
  (k88
  :
  Nat),
  World.cell?
  w23
  (Addr.add
  (Addr.mk
  k1
  0
  none)
  1) =
  some
  (Value.slice
  o43
  k87
  k88) ∧
  idx
  o43
  k87
  n15
  1
  fun
  (a8 :
  Addr) =>
  ∃
  (s1
  :
  ByteArray),
  World.cell?
  w23
  a8 =
  some
  (Value.string
  s1) ∧
  new
  w23
  (Obj.cells
  (Array.mk
  [Value.string
  s1])
  9)
  fun
  (k89 :
  Nat)
  (w24 :
  World) =>
  RunS
  Proofs.Tryd.prog
  (Builtin.append_
  (Array.mk
  [23,
  23])
  23
  (Array.mk
  [Value.slice
  o42
  k85
  k86,
  Value.slice
  (some
  (Addr.mk
  k89
  0
  none))
  1
  1]))
  w24
  fun
  (v11 :
  Value)
  (w25 :
  World) =>
  ∃
  (o44
  :
  Option
  Addr),
  ∃
  (k90
  :
  Nat),
  ∃
  (k91
  :
  Nat),
  v11 =
  Value.slice
  o44
  k90
  k91 ∧
  inI
  (n15 +
  1) ∧
  x4
  o44
  k90
  k91
  (n15 +
  1)
  w25 ∧
  x5
  o44
  k90
  k91
  (n15 +
  1)
  w25 <
  x5
  o42
  k85
  k86
  n15
  w23)
  (inI
  (n15 +
  1) ∧
  x4
  o42
  k85
  k86
  (n15 +
  1)
  w23 ∧
  x5
  o42
  k85
  k86
  (n15 +
  1)
  w23 <
  x5
  o42
  k85
  k86
  n15
  w23)))
  (idx
  o18
  k36
  n15
  1
  fun
  (a9 :
  Addr) =>
  ∃
  (b12
  :
  Bool),
  World.cell?
  w23
  a9 =
  some
  (Value.bool
  b12) ∧
  br
  b12
  (∃
  (o45
  :
  Option
  Addr),
  ∃
  (k92
  :
  Nat),
  ∃
  (k93
  :
  Nat),
  World.cell?
  w23
  (Addr.add
  (Addr.mk
  k1
  0
  none)
  1) =
  some
  (Value.slice
  o45
  k92
  k93) ∧
  idx
  o45
  k92
  n15
  1
  fun
  (a10 :
  Addr) =>
  ∃
  (s2
  :
  ByteArray),
  World.cell?
  w23
  a10 =
  some
  (Value.string
  s2) ∧
  new
  w23
  (Obj.cells
  (Array.mk
  [Value.string
  s2])
  9)
  fun
  (k94 :
  Nat)
  (w26 :
  World) =>
  RunS
  Proofs.Tryd.prog
  (Builtin.append_
  (Array.mk
  [23,
  23])
  23
  (Array.mk
  [Value.slice
  o42
  k85
  k86,
  Value.slice
  (some
  (Addr.mk
  k94
  0
  none))
  1
  1]))
  w26
  fun
  (v12 :
  Value)
  (w27 :
  World) =>
  ∃
  (o46
  :
  Option
  Addr),
  ∃
  (k95
  :
  Nat),
  ∃
  (k96
  :
  Nat),
  v12 =
  Value.slice
  o46
  k95
  k96 ∧
  inI
  (n15 +
  1) ∧
  x4
  o46
  k95
  k96
  (n15 +
  1)
  w27 ∧
  x5
  o46
  k95
  k96
  (n15 +
  1)
  w27 <
  x5
  o42
  k85
  k86
  n15
  w23)
  (inI
  (n15 +
  1) ∧
  x4
  o42
  k85
  k86
  (n15 +
  1)
  w23 ∧
  x5
  o42
  k85
  k86
  (n15 +
  1)
  w23 <
  x5
  o42
  k85
  k86
  n15
  w23)))
  (∃
  (x6
  :
  arrS
  (shs
  [])
  (World →
  Prop)),
  br
  (!(n10 ==
  0) ==
  decide
  (0 <
  (↑k85 :
  Int)))
  (R
  (Value.bool
  false)
  w23)
  (br
  (n10 !=
  0)
  (br
  (n10 !=
  12)
  (R
  (Value.bool
  false)
  w23)
  (x6
  w23))
  (x6
  w23)) ∧
  ∀
  (I6 :
  Nat →
  Value)
  (w28 :
  World),
  x6
  w28 →
  br
  (n10 !=
  0)
  (RunE
  Proofs.Tryd.prog
  Ev
  34
  []
  w28
  fun
  (v13 :
  Value)
  (w29 :
  World) =>
  ∃
  (b13
  :
  Bool),
  v13 =
  Value.bool
  b13 ∧
  R
  (Value.bool
  b13)
  w29)
  (∃
  (x7
  :
  arrS
  (shs
  [(168,
  S1.one
  Cs.bool)])
  (World →
  Prop)),
  (∃
  (o47
  :
  Option
  Addr),
  ∃
  (k97
  :
  Nat),
  ∃
  (k98
  :
  Nat),
  World.cell?
  w28
  (Addr.add
  (Addr.mk
  k62
  0
  none)
  1) =
  some
  (Value.slice
  o47
  k97
  k98) ∧
  inI
  ((↑k85 :
  Int) +
  1) ∧
  br
  ((↑k97 :
  Int) !=
  (↑k85 :
  Int) +
  1)
  (x7
  true
  w28)
  (∃
  (o48
  :
  Option
  Addr),
  ∃
  (k99
  :
  Nat),
  ∃
  (k100
  :
  Nat),
  ∃
  (o49
  :
  Option
  Addr),
  ∃
  (k101
  :
  Nat),
  ∃
  (k102
  :
  Nat),
  ∃
  (o50
  :
  Option
  Addr),
  ∃
  (k103
  :
  Nat),
  ∃
  (k104
  :
  Nat),
  ∃
  (n16
  :
  Int),
  ∃
  (o51
  :
  Option
  Addr),
  ∃
  (k105
  :
  Nat),
  ∃
  (k106
  :
  Nat),
  V.rowAt
  w28
  (Addr.mk
  k62
  0
  none)
  0
  5 =
  some
  [Value.slice
  o48
  k99
  k100,
  Value.slice
  o49
  k101
  k102,
  Value.slice
  o50
  k103
  k104,
  Value.int
  IntKind.i64
  n16,
  Value.slice
  o51
  k105
  k106] ∧
  RunE
  Proofs.Tryd.prog
  Ev
  29
  [Value.agg
  (Array.mk
  [Value.slice
  o48
  k99
  k100,
  Value.slice
  o49
  k101
  k102,
  Value.slice
  o50
  k103
  k104,
  Value.int
  IntKind.i64
  n16,
  Value.slice
  o51
  k105
  k106])]
  w28
  fun
  (v14 :
  Value)
  (w30 :
  World) =>
  ∃
  (b14
  :
  Bool),
  v14 =
  Value.bool
  b14 ∧
  x7
  (!b14)
  w30)) ∧
  ∀
  (I7 :
  Nat →
  Value)
  (b15 :
  Bool)
  (w31 :
  World),
  x7
  b15
  w31 →
  br
  b15
  (R
  (Value.bool
  false)
  w31)
  (∃
  (x8
  :
  arrS
  (shs
  [(12,
  S1.one
  (Cs.int
  IntKind.i64))])
  (World →
  Prop)),
  ∃
  (x9
  :
  arrS
  (shs
  [(12,
  S1.one
  (Cs.int
  IntKind.i64))])
  (World →
  Nat)),
  x8
  0
  w31 ∧
  ∀
  (I8 :
  Nat →
  Value)
  (n17 :
  Int)
  (w32 :
  World),
  x8
  n17
  w32 →
  br
  (decide
  (n17 <
  (↑k85 :
  Int)))
  (∀
  (w33 :
  World),
  drawn
  w32
  w33 →
  ∃
  (I9
  :
  World →
  Prop),
  I9
  w33 ∧
  ∃
  (o52
  :
  Option
  Addr),
  ∃
  (k107
  :
  Nat),
  ∃
  (k108
  :
  Nat),
  (∀
  (w34 :
  World),
  I9
  w34 →
  World.cell?
  w34
  (Addr.add
  (Addr.mk
  k62
  0
  none)
  1) =
  some
  (Value.slice
  o52
  k107
  k108)) ∧
  inI
  (n17 +
  1) ∧
  idx
  o52
  k107
  (n17 +
  1)
  1
  fun
  (a11 :
  Addr) =>
  ∃
  (s3
  :
  ByteArray),
  (∀
  (w35 :
  World),
  I9
  w35 →
  World.cell?
  w35
  a11 =
  some
  (Value.string
  s3)) ∧
  idx
  o42
  k85
  n17
  1
  fun
  (a12 :
  Addr) =>
  ∃
  (s4
  :
  ByteArray),
  (∀
  (w36 :
  World),
  I9
  w36 →
  World.cell?
  w36
  a12 =
  some
  (Value.string
  s4)) ∧
  br
  (!ByteArray.toList
  s3 ==
  ByteArray.toList
  s4)
  (R
  (Value.bool
  false)
  w33)
  (inI
  (n17 +
  1) ∧
  x8
  (n17 +
  1)
  w33 ∧
  x9
  (n17 +
  1)
  w33 <
  x9
  n17
  w32))
  (∃
  (o53
  :
  Option
  Addr),
  ∃
  (k109
  :
  Nat),
  ∃
  (k110
  :
  Nat),
  ∃
  (o54
  :
  Option
  Addr),
  ∃
  (k111
  :
  Nat),
  ∃
  (k112
  :
  Nat),
  ∃
  (o55
  :
  Option
  Addr),
  ∃
  (k113
  :
  Nat),
  ∃
  (k114
  :
  Nat),
  ∃
  (n18
  :
  Int),
  ∃
  (o56
  :
  Option
  Addr),
  ∃
  (k115
  :
  Nat),
  ∃
  (k116
  :
  Nat),
  V.rowAt
  w32
  (Addr.mk
  k62
  0
  none)
  0
  5 =
  some
  [Value.slice
  o53
  k109
  k110,
  Value.slice
  o54
  k111
  k112,
  Value.slice
  o55
  k113
  k114,
  Value.int
  IntKind.i64
  n18,
  Value.slice
  o56
  k115
  k116] ∧
  RunE
  Proofs.Tryd.prog
  Ev
  44
  [Value.agg
  (Array.mk
  [Value.slice
  o53
  k109
  k110,
  Value.slice
  o54
  k111
  k112,
  Value.slice
  o55
  k113
  k114,
  Value.int
  IntKind.i64
  n18,
  Value.slice
  o56
  k115
  k116])]
  w32
  fun
  (v15 :
  Value)
  (w37 :
  World) =>
  ∃
  (o57
  :
  Option
  Addr),
  ∃
  (k117
  :
  Nat),
  ∃
  (k118
  :
  Nat),
  v15 =
  Value.slice
  o57
  k117
  k118 ∧
  ∃
  (o58
  :
  Option
  Addr),
  ∃
  (k119
  :
  Nat),
  ∃
  (k120
  :
  Nat),
  ∃
  (o59
  :
  Option
  Addr),
  ∃
  (k121
  :
  Nat),
  ∃
  (k122
  :
  Nat),
  ∃
  (o60
  :
  Option
  Addr),
  ∃
  (k123
  :
  Nat),
  ∃
  (k124
  :
  Nat),
  ∃
  (n19
  :
  Int),
  ∃
  (o61
  :
  Option
  Addr),
  ∃
  (k125
  :
  Nat),
  ∃
  (k126
  :
  Nat),
  V.rowAt
  w37
  (Addr.mk
  k62
  0
  none)
  0
  5 =
  some
  [Value.slice
  o58
  k119
  k120,
  Value.slice
  o59
  k121
  k122,
  Value.slice
  o60
  k123
  k124,
  Value.int
  IntKind.i64
  n19,
  Value.slice
  o61
  k125
  k126] ∧
  RunE
  Proofs.Tryd.prog
  Ev
  45
  [Value.agg
  (Array.mk
  [Value.slice
  o58
  k119
  k120,
  Value.slice
  o59
  k121
  k122,
  Value.slice
  o60
  k123
  k124,
  Value.int
  IntKind.i64
  n19,
  Value.slice
  o61
  k125
  k126])]
  w37
  fun
  (v16 :
  Value)
  (w38 :
  World) =>
  ∃
  (o62
  :
  Option
  Addr),
  ∃
  (k127
  :
  Nat),
  ∃
  (k128
  :
  Nat),
  v16 =
  Value.slice
  o62
  k127
  k128 ∧
  ∃
  (x10
  :
  arrS
  (shs
  [(15,
  S1.one
  (Cs.int
  IntKind.i64))])
  (World →
  Prop)),
  ∃
  (x11
  :
  arrS
  (shs
  [(15,
  S1.one
  (Cs.int
  IntKind.i64))])
  (World →
  Nat)),
  x10
  1
  w38 ∧
  ∀
  (I10 :
  Nat →
  Value)
  (n20 :
  Int)
  (w39 :
  World),
  x10
  n20
  w39 →
  ∃
  (o63
  :
  Option
  Addr),
  ∃
  (k129
  :
  Nat),
  ∃
  (k130
  :
  Nat),
  World.cell?
  w39
  (Addr.add
  (Addr.mk
  k62
  0
  none)
  1) =
  some
  (Value.slice
  o63
  k129
  k130) ∧
  br
  (decide
  (n20 <
  (↑k129 :
  Int)))
  (idx
  o57
  k117
  n20
  1
  fun
  (a13 :
  Addr) =>
  ∃
  (b16
  :
  Bool),
  World.cell?
  w39
  a13 =
  some
  (Value.bool
  b16) ∧
  br
  (!b16)
  (R
  (Value.bool
  false)
  w39)
  (idx
  o62
  k127
  n20
  1
  fun
  (a14 :
  Addr) =>
  ∃
  (b17
  :
  Bool),
  World.cell?
  w39
  a14 =
  some
  (Value.bool
  b17) ∧
  br
  (!b17)
  (R
  (Value.bool
  false)
  w39)
  (inI
  (n20 +
  1) ∧
  x10
  (n20 +
  1)
  w39 ∧
  x11
  (n20 +
  1)
  w39 <
  x11
  n20
  w39)))
  (∃
  (x12
  :
  arrS
  (shs
  [(16,
  S1.one
  (Cs.int
  IntKind.i64)),
  (17,
  S1.one
  (Cs.int
  IntKind.i64))])
  (World →
  Prop)),
  ∃
  (x13
  :
  arrS
  (shs
  [(16,
  S1.one
  (Cs.int
  IntKind.i64)),
  (17,
  S1.one
  (Cs.int
  IntKind.i64))])
  (World →
  Nat)),
  x12
  0
  1
  w39 ∧
  ∀
  (I11 :
  Nat →
  Value)
  (n21
  n22 :
  Int)
  (w40 :
  World),
  x12
  n21
  n22
  w40 →
  ∃
  (o64
  :
  Option
  Addr),
  ∃
  (k131
  :
  Nat),
  ∃
  (k132
  :
  Nat),
  World.cell?
  w40
  (Addr.add
  (Addr.mk
  k62
  0
  none)
  4) =
  some
  (Value.slice
  o64
  k131
  k132) ∧
  br
  (decide
  (n22 <
  (↑k131 :
  Int)))
  (∃
  (x14
  :
  arrS
  (shs
  [(16,
  S1.one
  (Cs.int
  IntKind.i64))])
  (World →
  Prop)),
  ∃
  (x15
  :
  arrS
  (shs
  [(16,
  S1.one
  (Cs.int
  IntKind.i64))])
  (World →
  Nat)),
  x14
  n21
  w40 ∧
  ∀
  (I12 :
  Nat →
  Value)
  (n23 :
  Int)
  (w41 :
  World),
  x14
  n23
  w41 →
  ∀
  (w42 :
  World),
  drawn
  w41
  w42 →
  ∃
  (I13
  :
  World →
  Prop),
  I13
  w42 ∧
  ∃
  (o65
  :
  Option
  Addr),
  ∃
  (k133
  :
  Nat),
  ∃
  (k134
  :
  Nat),
  (∀
  (w43 :
  World),
  I13
  w43 →
  World.cell?
  w43
  (Addr.add
  (Addr.mk
  k1
  0
  none)
  4) =
  some
  (Value.slice
  o65
  k133
  k134)) ∧
  br
  (decide
  (n23 <
  (↑k133 :
  Int)))
  (∃
  (o66
  :
  Option
  Addr),
  ∃
  (k135
  :
  Nat),
  ∃
  (k136
  :
  Nat),
  ∃
  (o67
  :
  Option
  Addr),
  ∃
  (k137
  :
  Nat),
  ∃
  (k138
  :
  Nat),
  ∃
  (o68
  :
  Option
  Addr),
  ∃
  (k139
  :
  Nat),
  ∃
  (k140
  :
  Nat),
  ∃
  (n24
  :
  Int),
  ∃
  (o69
  :
  Option
  Addr),
  ∃
  (k141
  :
  Nat),
  ∃
  (k142
  :
  Nat),
  (∀
  (w44 :
  World),
  I13
  w44 →
  V.rowAt
  w44
  (Addr.mk
  k1
  0
  none)
  0
  5 =
  some
  [Value.slice
  o66
  k135
  k136,
  Value.slice
  o67
  k137
  k138,
  Value.slice
  o68
  k139
  k140,
  Value.int
  IntKind.i64
  n24,
  Value.slice
  o69
  k141
  k142]) ∧
  ∃
  (o70
  :
  Option
  Addr),
  ∃
  (k143
  :
  Nat),
  ∃
  (k144
  :
  Nat),
  (∀
  (w45 :
  World),
  I13
  w45 →
  World.cell?
  w45
  (Addr.add
  (Addr.mk
  k1
  0
  none)
  4) =
  some
  (Value.slice
  o70
  k143
  k144)) ∧
  idx
  o70
  k143
  n23
  3
  fun
  (a15 :
  Addr) =>
  ∃
  (n25
  :
  Int),
  ∃
  (o71
  :
  Option
  Addr),
  ∃
  (k145
  :
  Nat),
  ∃
  (k146
  :
  Nat),
  ∃
  (n26
  :
  Int),
  (∀
  (w46 :
  World),
  I13
  w46 →
  V.rowAt
  w46
  a15
  0
  3 =
  some
  [Value.int
  IntKind.i64
  n25,
  Value.slice
  o71
  k145
  k146,
  Value.int
  IntKind.i64
  n26]) ∧
  ∃
  (o72
  :
  Option
  Addr),
  ∃
  (k147
  :
  Nat),
  ∃
  (k148
  :
  Nat),
  ∃
  (o73
  :
  Option
  Addr),
  ∃
  (k149
  :
  Nat),
  ∃
  (k150
  :
  Nat),
  ∃
  (o74
  :
  Option
  Addr),
  ∃
  (k151
  :
  Nat),
  ∃
  (k152
  :
  Nat),
  ∃
  (n27
  :
  Int),
  ∃
  (o75
  :
  Option
  Addr),
  ∃
  (k153
  :
  Nat),
  ∃
  (k154
  :
  Nat),
  (∀
  (w47 :
  World),
  I13
  w47 →
  V.rowAt
  w47
  (Addr.mk
  k62
  0
  none)
  0
  5 =
  some
  [Value.slice
  o72
  k147
  k148,
  Value.slice
  o73
  k149
  k150,
  Value.slice
  o74
  k151
  k152,
  Value.int
  IntKind.i64
  n27,
  Value.slice
  o75
  k153
  k154]) ∧
  ∃
  (o76
  :
  Option
  Addr),
  ∃
  (k155
  :
  Nat),
  ∃
  (k156
  :
  Nat),
  (∀
  (w48 :
  World),
  I13
  w48 →
  World.cell?
  w48
  (Addr.add
  (Addr.mk
  k62
  0
  none)
  4) =
  some
  (Value.slice
  o76
  k155
  k156)) ∧
  idx
  o76
  k155
  n22
  3
  fun
  (a16 :
  Addr) =>
  ∃
  (n28
  :
  Int),
  ∃
  (o77
  :
  Option
  Addr),
  ∃
  (k157
  :
  Nat),
  ∃
  (k158
  :
  Nat),
  ∃
  (n29
  :
  Int),
  (∀
  (w49 :
  World),
  I13
  w49 →
  V.rowAt
  w49
  a16
  0
  3 =
  some
  [Value.int
  IntKind.i64
  n28,
  Value.slice
  o77
  k157
  k158,
  Value.int
  IntKind.i64
  n29]) ∧
  RunE
  Proofs.Tryd.prog
  Ev
  46
  [Value.agg
  (Array.mk
  [Value.slice
  o66
  k135
  k136,
  Value.slice
  o67
  k137
  k138,
  Value.slice
  o68
  k139
  k140,
  Value.int
  IntKind.i64
  n24,
  Value.slice
  o69
  k141
  k142]),
  Value.agg
  (Array.mk
  [Value.int
  IntKind.i64
  n25,
  Value.slice
  o71
  k145
  k146,
  Value.int
  IntKind.i64
  n26]),
  Value.agg
  (Array.mk
  [Value.slice
  o72
  k147
  k148,
  Value.slice
  o73
  k149
  k150,
  Value.slice
  o74
  k151
  k152,
  Value.int
  IntKind.i64
  n27,
  Value.slice
  o75
  k153
  k154]),
  Value.agg
  (Array.mk
  [Value.int
  IntKind.i64
  n28,
  Value.slice
  o77
  k157
  k158,
  Value.int
  IntKind.i64
  n29])]
  w42
  fun
  (v17 :
  Value)
  (w50 :
  World) =>
  ∃
  (b18
  :
  Bool),
  v17 =
  Value.bool
  b18 ∧
  I13
  w50 ∧
  br
  (!b18)
  (inI
  (n23 +
  1) ∧
  x14
  (n23 +
  1)
  w50 ∧
  x15
  (n23 +
  1)
  w50 <
  x15
  n23
  w41)
  (∃
  (o78
  :
  Option
  Addr),
  ∃
  (k159
  :
  Nat),
  ∃
  (k160
  :
  Nat),
  World.cell?
  w50
  (Addr.add
  (Addr.mk
  k1
  0
  none)
  4) =
  some
  (Value.slice
  o78
  k159
  k160) ∧
  br
  (n23 ==
  (↑k159 :
  Int))
  (R
  (Value.bool
  false)
  w50)
  (inI
  (n23 +
  1) ∧
  inI
  (n22 +
  1) ∧
  x12
  (n23 +
  1)
  (n22 +
  1)
  w50 ∧
  x13
  (n23 +
  1)
  (n22 +
  1)
  w50 <
  x13
  n21
  n22
  w40)))
  (∃
  (o79
  :
  Option
  Addr),
  ∃
  (k161
  :
  Nat),
  ∃
  (k162
  :
  Nat),
  World.cell?
  w42
  (Addr.add
  (Addr.mk
  k1
  0
  none)
  4) =
  some
  (Value.slice
  o79
  k161
  k162) ∧
  br
  (n23 ==
  (↑k161 :
  Int))
  (R
  (Value.bool
  false)
  w42)
  (inI
  (n23 +
  1) ∧
  inI
  (n22 +
  1) ∧
  x12
  (n23 +
  1)
  (n22 +
  1)
  w42 ∧
  x13
  (n23 +
  1)
  (n22 +
  1)
  w42 <
  x13
  n21
  n22
  w40)))
  (RunE
  Proofs.Tryd.prog
  Ev
  34
  []
  w40
  fun
  (v18 :
  Value)
  (w51 :
  World) =>
  ∃
  (b19
  :
  Bool),
  v18 =
  Value.bool
  b19 ∧
  R
  (Value.bool
  b19)
  w51))))))))
set_option maxRecDepth 100000 in
theorem run_presagelaw06_ReachParts (p0g_0a : Option Addr) (p0g_0l : Nat) (p0g_0c : Nat) (p0g_1a : Option Addr) (p0g_1l : Nat) (p0g_1c : Nat) (p0g_2a : Option Addr) (p0g_2l : Nat) (p0g_2c : Nat) (p0g_3 : Int) (p0g_4a : Option Addr) (p0g_4l : Nat) (p0g_4c : Nat) (w : World) (R : Value → World → Prop) (h : vc_presagelaw06_ReachParts p0g_0a p0g_0l p0g_0c p0g_1a p0g_1l p0g_1c p0g_2a p0g_2l p0g_2c p0g_3 p0g_4a p0g_4l p0g_4c w R) : Run Tryd.prog 12 [(.agg #[(.slice p0g_0a p0g_0l p0g_0c), (.slice p0g_1a p0g_1l p0g_1c), (.slice p0g_2a p0g_2l p0g_2c), (.int .i64 p0g_3), (.slice p0g_4a p0g_4l p0g_4c)])] w R :=
  run_ev tyOk fnOk mixed Tryd.func12 ann_presagelaw06_ReachParts ((by kernel_rfl : fnV Tryd.prog Ty Fn Ev ann_presagelaw06_ReachParts Tryd.f12 [(.agg #[(.slice p0g_0a p0g_0l p0g_0c), (.slice p0g_1a p0g_1l p0g_1c), (.slice p0g_2a p0g_2l p0g_2c), (.int .i64 p0g_3), (.slice p0g_4a p0g_4l p0g_4c)])] w R = vc_presagelaw06_ReachParts p0g_0a p0g_0l p0g_0c p0g_1a p0g_1l p0g_1c p0g_2a p0g_2l p0g_2c p0g_3 p0g_4a p0g_4l p0g_4c w R) ▸ h)

end Go.Proofs.YtaheggomcnbbiaaDoor
set_option linter.unusedVariables false
namespace Go.V
def PdRes (g : GramT) (e : Int) (nn : List Bool) : Prop := (¬ EitherP g ∧ e = 1 ∧ nn = []) ∨ (EitherP g ∧ e = 0 ∧ PnP g nn)
def UsRes (g : GramT) (e : Int) (nn : List Bool) : Prop := (¬ EitherP g ∧ e = 1 ∧ nn = []) ∨ (EitherP g ∧ e = 0 ∧ UnP g nn)
theorem PdRes.inj {g : GramT} {e e' : Int} {nn nn' : List Bool} (h : PdRes g e nn) (k : PdRes g e' nn') : e = e' ∧ nn = nn' := by
  rcases h with ⟨h1, rfl, rfl⟩ | ⟨h1, rfl, h2⟩ <;> rcases k with ⟨k1, rfl, rfl⟩ | ⟨k1, rfl, k2⟩
  · exact ⟨rfl, rfl⟩
  · exact absurd k1 h1
  · exact absurd h1 k1
  · exact ⟨rfl, h2.inj k2⟩
theorem UsRes.inj {g : GramT} {e e' : Int} {nn nn' : List Bool} (h : UsRes g e nn) (k : UsRes g e' nn') : e = e' ∧ nn = nn' := by
  rcases h with ⟨h1, rfl, rfl⟩ | ⟨h1, rfl, h2⟩ <;> rcases k with ⟨k1, rfl, rfl⟩ | ⟨k1, rfl, k2⟩
  · exact ⟨rfl, rfl⟩
  · exact absurd k1 h1
  · exact absurd h1 k1
  · exact ⟨rfl, h2.inj k2⟩
theorem PdRes.le {g : GramT} {e : Int} {nn : List Bool} (h : PdRes g e nn) : nn.length ≤ 65 := by
  rcases h with ⟨_, _, rfl⟩ | ⟨he, _, h1, h2⟩
  · simp
  · obtain ⟨iG, bT, bN, pN, pT, bP⟩ := inG he
    omega
theorem UsRes.le {g : GramT} {e : Int} {nn : List Bool} (h : UsRes g e nn) : nn.length ≤ 65 := by
  rcases h with ⟨_, _, rfl⟩ | ⟨he, _, h1, h2⟩
  · simp
  · obtain ⟨iG, bT, bN, pN, pT, bP⟩ := inG he
    omega
theorem own_cel {w : World} {L : List Asn} {k n : Nat} {nn : List Bool} (h : St w (cel k (bv nn) :: L)) (hl : nn.length = n) : St w (own 1 (some ⟨k, 0, none⟩) n n (bv nn) :: L) :=
  own_some (cs := []) (vs := bv nn) (by rw [List.append_nil]; exact h) (by rw [bv_len, hl, Nat.mul_one]) (by rw [List.append_nil, bv_len, hl, Nat.mul_one]) (Nat.le_refl _)
end Go.V
namespace Go.Proofs.YtaheggomcnbbiaaDoor
open Go.V
section
variable {w : World} {L : List Asn} {g : GramT} {x : GA} {a a2 : Option Addr} {l l2 c c2 : Nat} {bs : List Bool}
set_option maxHeartbeats 1000000 in
theorem r_Productive2 (hg : gR (hp w) g x) (hb : okG g) (ht : tabA (hp w)) : Run Tryd.prog n_reach_Productive [.agg ⟨x.cells⟩] w fun v w' => ∃ (o : Option Addr) (n c : Nat) (e : Int) (nn : List Bool), v = .tuple #[.slice o n c, .int .i64 e] ∧ nn.length = n ∧ PdRes g e nn ∧ St w' (own 1 o n c (bv nn) :: all w) := by
  refine run_reach_Productive _ _ _ _ _ _ _ _ _ _ _ _ _ w _ ?_
  refine gbox hg fun k1 w1 gw hg B => ?_
  refine ⟨_, _, _, _, _, _, _, _, _, _, _, _, _, B.row (sub.refl _), (g_Valid (x := x) hg hb).mono ?_⟩
  rintro _ w2 ⟨⟨r1, rfl, e1⟩, g2⟩
  refine ⟨_, rfl, br_intro (fun h1 => ?_) fun h1 => ?_⟩
  · refine ⟨_, _, _, _, _, _, _, _, _, _, _, _, _, B.row g2, (g_Closed (x := x) (hg.mono g2) hb).mono ?_⟩
    rintro _ w2' ⟨⟨r2, rfl, e2⟩, g2'⟩
    have s2 : Gr w1 w2' := g2.trans g2'
    refine ⟨_, rfl, br_intro (fun h2 => ?_) fun h2 => ?_⟩
    · have hn : ¬ EitherP g := by
        rintro (h | h)
        · rw [e1.2 h] at h1; cases h1
        · rw [e2.2 h] at h2; cases h2
      exact ⟨_, _, _, _, [], rfl, rfl, .inl ⟨hn, rfl, rfl⟩, own_nil 1 (has_i (gw.trans s2))⟩
    have he : EitherP g := .inr (e2.1 (by simpa using h2))
    obtain ⟨iG, bT, bN, pN, pT, bP⟩ := inG he
    refine ⟨_, _, _, _, _, _, _, _, _, _, _, _, _, B.row s2, (r_productive (x := x) (hg.mono s2) hb he).mono ?_⟩
    rintro _ w4 ⟨pb, bs, rfl, hbs, h4⟩
    have g4 : Gr w2' w4 := h4.gone1
    refine ⟨_, _, rfl, (r_nons h4.setR hbs.1 bN bT (rdV.mono ((gw.trans s2).trans g4) ht)).mono ?_⟩
    rintro _ w5 ⟨k, rfl, h5⟩
    have h5 : St w5 (cel k (bv (bs.drop g.T)) :: all w) := h5.on1 (has_i ((gw.trans s2).trans g4))
    exact ⟨_, _, _, rfl, _, _, _, _, _, rfl, hbs.nons.1, .inr ⟨he, rfl, hbs.nons⟩, own_cel h5 hbs.nons.1⟩
  · have he : EitherP g := .inl (e1.1 (by simpa using h1))
    obtain ⟨iG, bT, bN, pN, pT, bP⟩ := inG he
    have s2 : Gr w1 w2 := g2
    refine ⟨_, _, _, _, _, _, _, _, _, _, _, _, _, B.row s2, (r_productive (x := x) (hg.mono s2) hb he).mono ?_⟩
    rintro _ w4 ⟨pb, bs, rfl, hbs, h4⟩
    have g4 : Gr w2 w4 := h4.gone1
    refine ⟨_, _, rfl, (r_nons h4.setR hbs.1 bN bT (rdV.mono ((gw.trans s2).trans g4) ht)).mono ?_⟩
    rintro _ w5 ⟨k, rfl, h5⟩
    have h5 : St w5 (cel k (bv (bs.drop g.T)) :: all w) := h5.on1 (has_i ((gw.trans s2).trans g4))
    exact ⟨_, _, _, rfl, _, _, _, _, _, rfl, hbs.nons.1, .inr ⟨he, rfl, hbs.nons⟩, own_cel h5 hbs.nons.1⟩
set_option maxHeartbeats 1000000 in
theorem r_Useful2 (hg : gR (hp w) g x) (hb : okG g) (ht : tabA (hp w)) : Run Tryd.prog n_reach_Useful [.agg ⟨x.cells⟩] w fun v w' => ∃ (o : Option Addr) (n c : Nat) (e : Int) (nn : List Bool), v = .tuple #[.slice o n c, .int .i64 e] ∧ nn.length = n ∧ UsRes g e nn ∧ St w' (own 1 o n c (bv nn) :: all w) := by
  refine run_reach_Useful _ _ _ _ _ _ _ _ _ _ _ _ _ w _ ?_
  refine gbox hg fun k1 w1 gw hg B => ?_
  refine ⟨_, _, _, _, _, _, _, _, _, _, _, _, _, B.row (sub.refl _), (g_Valid (x := x) hg hb).mono ?_⟩
  rintro _ w2 ⟨⟨r1, rfl, e1⟩, g2⟩
  refine ⟨_, rfl, br_intro (fun h1 => ?_) fun h1 => ?_⟩
  · refine ⟨_, _, _, _, _, _, _, _, _, _, _, _, _, B.row g2, (g_Closed (x := x) (hg.mono g2) hb).mono ?_⟩
    rintro _ w2' ⟨⟨r2, rfl, e2⟩, g2'⟩
    have s2 : Gr w1 w2' := g2.trans g2'
    refine ⟨_, rfl, br_intro (fun h2 => ?_) fun h2 => ?_⟩
    · have hn : ¬ EitherP g := by
        rintro (h | h)
        · rw [e1.2 h] at h1; cases h1
        · rw [e2.2 h] at h2; cases h2
      exact ⟨_, _, _, _, [], rfl, rfl, .inl ⟨hn, rfl, rfl⟩, own_nil 1 (has_i (gw.trans s2))⟩
    have he : EitherP g := .inr (e2.1 (by simpa using h2))
    obtain ⟨iG, bT, bN, pN, pT, bP⟩ := inG he
    intro w3 hd
    have g3 : Gr w2' w3 := Gr.drawn hd
    have s3 : Gr w1 w3 := s2.trans g3
    have gw3 : Gr w w3 := gw.trans s3
    refine ⟨fun w => Gr w3 w, Gr.refl _, _, _, _, _, _, _, _, _, _, _, _, _, _, fun w s => B.row (s3.trans s), _, _, _, _, _, _, _, _, _, _, _, _, _, fun w s => B.row (s3.trans s), (r_productive (x := x) (hg.mono s3) hb he).mono ?_⟩
    rintro _ w4 ⟨pb, bs, rfl, hbs, h4⟩
    have g4 : Gr w3 w4 := h4.gone1
    refine ⟨_, _, rfl, g4, (r_useful (x := x) (hg.mono (s3.trans g4)) hb he h4.setR hbs).mono ?_⟩
    rintro _ w5 ⟨pb2, cs, rfl, hcs, h5⟩
    have g5 : Gr w3 w5 := g4.trans h5.gone1
    refine ⟨_, _, rfl, g5, (r_nons h5.setR hcs.1 bN bT (rdV.mono (gw3.trans g5) ht)).mono ?_⟩
    rintro _ w6 ⟨k, rfl, h6⟩
    have g6 : Gr w3 w6 := g5.trans h6.gone1
    have h6 : St w6 (cel k (bv (cs.drop g.T)) :: all w) := h6.on1 (has_i (gw3.trans g5))
    exact ⟨_, _, _, rfl, g6, _, _, _, _, _, rfl, hcs.nons.1, .inr ⟨he, rfl, hcs.nons⟩, own_cel h6 hcs.nons.1⟩
  · have he : EitherP g := .inl (e1.1 (by simpa using h1))
    obtain ⟨iG, bT, bN, pN, pT, bP⟩ := inG he
    have s2 : Gr w1 w2 := g2
    intro w3 hd
    have g3 : Gr w2 w3 := Gr.drawn hd
    have s3 : Gr w1 w3 := s2.trans g3
    have gw3 : Gr w w3 := gw.trans s3
    refine ⟨fun w => Gr w3 w, Gr.refl _, _, _, _, _, _, _, _, _, _, _, _, _, _, fun w s => B.row (s3.trans s), _, _, _, _, _, _, _, _, _, _, _, _, _, fun w s => B.row (s3.trans s), (r_productive (x := x) (hg.mono s3) hb he).mono ?_⟩
    rintro _ w4 ⟨pb, bs, rfl, hbs, h4⟩
    have g4 : Gr w3 w4 := h4.gone1
    refine ⟨_, _, rfl, g4, (r_useful (x := x) (hg.mono (s3.trans g4)) hb he h4.setR hbs).mono ?_⟩
    rintro _ w5 ⟨pb2, cs, rfl, hcs, h5⟩
    have g5 : Gr w3 w5 := g4.trans h5.gone1
    refine ⟨_, _, rfl, g5, (r_nons h5.setR hcs.1 bN bT (rdV.mono (gw3.trans g5) ht)).mono ?_⟩
    rintro _ w6 ⟨k, rfl, h6⟩
    have g6 : Gr w3 w6 := g5.trans h6.gone1
    have h6 : St w6 (cel k (bv (cs.drop g.T)) :: all w) := h6.on1 (has_i (gw3.trans g5))
    exact ⟨_, _, _, rfl, g6, _, _, _, _, _, rfl, hcs.nons.1, .inr ⟨he, rfl, hcs.nons⟩, own_cel h6 hcs.nons.1⟩
end
end Go.Proofs.YtaheggomcnbbiaaDoor
set_option linter.unusedVariables false
namespace Go.V
def exG : GramT := ⟨[⟨⟨⟨[]⟩⟩, 0⟩, ⟨by1 97, 0⟩], [by1 83, by1 88], [], 2, [⟨2, [1], 0⟩, ⟨2, [3], 0⟩, ⟨3, [3, 1], 0⟩]⟩
theorem ex_valid : ValidP exG := by
  refine ⟨⟨rfl, by decide, by decide, by decide, by decide, ?_, ?_, ?_, ?_, ?_⟩, ⟨by decide, by decide, ?_, by decide, by decide, by decide⟩, ?_⟩
  · decide
  · intro i v h; simp [exG] at h
  · decide
  · decide
  · decide
  · intro p hp
    simp only [List.drop_zero, exG, List.mem_cons, List.not_mem_nil, or_false] at hp
    unfold prodOk symOk
    rcases hp with rfl | rfl | rfl <;> refine ⟨by decide, ?_⟩ <;> intro s hs <;> simp at hs
    · subst hs; decide
    · subst hs; decide
    · rcases hs with rfl | rfl <;> decide
  · intro i x y hx hy
    have e : leftsG exG 0 = [2, 3] := by decide
    rw [e] at hx hy
    match i, hx, hy with
    | 0, hx, hy => cases hx; cases hy; decide
    | 1, _, hy => cases hy
    | i + 2, hx, _ => cases hx
theorem ex_in : InG exG := (inG (.inl ex_valid)).1
theorem ex_no : ∀ s, Pd exG s → s ≠ 3 := fun s h => by
  induction h with
  | tm t h => have : t < 2 := h; omega
  | mk p hp _ ih =>
    simp only [exG, List.mem_cons, List.not_mem_nil, or_false] at hp
    rcases hp with rfl | rfl | rfl
    · decide
    · decide
    · exact absurd rfl (ih 3 (by simp))
theorem ex_p2 : Pd exG 2 := .mk ⟨2, [1], 0⟩ (by simp [exG]) fun s hs => by
  simp at hs; subst hs; exact .tm 1 (by decide)
theorem ex_u : ∀ s, Us exG s → s ≠ 3 := fun s h => by
  cases h with
  | start _ => decide
  | zero _ _ => decide
  | pr p s hp _ hr hs => exact ex_no s (hr s hs)
theorem ex_pn : PnP exG [true, false] := ⟨rfl, fun i => by
  match i with
  | 0 => exact ⟨fun _ => ex_p2, fun _ => rfl⟩
  | 1 => exact ⟨fun h => absurd h (by decide), fun h => absurd rfl (ex_no _ h)⟩
  | i + 2 =>
    refine ⟨fun h => (by rw [fnB_out (by simp)] at h; exact absurd h (by decide)), fun h => ?_⟩
    have := (h.in ex_in).2
    have e : (exG.T : Int) + exG.N = 4 := rfl
    rw [e] at this
    have e2 : exG.T = 2 := rfl
    rw [e2] at this; omega⟩
theorem ex_un : UnP exG [true, false] := ⟨rfl, fun i => by
  match i with
  | 0 => exact ⟨fun _ => .start ex_p2, fun _ => rfl⟩
  | 1 => exact ⟨fun h => absurd h (by decide), fun h => absurd rfl (ex_u _ h)⟩
  | i + 2 =>
    refine ⟨fun h => (by rw [fnB_out (by simp)] at h; exact absurd h (by decide)), fun h => ?_⟩
    have := (h.in (.inl ex_valid)).2
    have e : (exG.T : Int) + exG.N = 4 := rfl
    rw [e] at this
    have e2 : exG.T = 2 := rfl
    rw [e2] at this; omega⟩
theorem ex_ok : okG exG := by
  refine ⟨by decide, by decide, by decide, by decide, ?_, by decide, by decide⟩
  intro t ht
  simp only [exG, List.mem_cons, List.not_mem_nil, or_false] at ht
  unfold anyI
  rcases ht with rfl | rfl <;> decide
def exR : GramT := ⟨[⟨⟨⟨[]⟩⟩, 0⟩, ⟨by1 97, 0⟩], [.empty, by1 83], [], 3, [⟨2, [3], 0⟩, ⟨3, [1], 0⟩]⟩
theorem ex_red : redG exG [true, false] [true, false] = exR := by rfl
end Go.V
namespace Go.Proofs.YtaheggomcnbbiaaDoor
open Go.V
section
variable {w : World} {L : List Asn} {g : GramT} {x : GA}
set_option maxHeartbeats 2000000 in
theorem l_awake6 (ht : tabA (hp w)) : Run Tryd.prog n_presagelaw06_awake [] w fun v w' => v = .bool true ∧ Gr w w' := by
  refine run_presagelaw06_awake w _ ?_
  refine newC_i (St.all w) fun k1 w1 h => newC_i h fun k2 w2 h => newC_i h fun k3 w3 h => newC_i h fun k4 w4 h => newC_i h fun k5 w5 h => newC_i h fun k6 w6 h => newC_i h fun k7 w7 h => stR_i h rfl (by intro v hv; simp at hv; rcases hv with rfl | rfl | rfl | rfl | rfl <;> rfl) fun w8 h => ?_
  have r7 : rowH (hp w8) ⟨k7, 0, none⟩ _ := rdCel 0 h.l
  have r6 : rowH (hp w8) ⟨k6, 0, none⟩ _ := rdCel 1 h.l
  have r5 : rowH (hp w8) ⟨k5, 0, none⟩ _ := rdCel 2 h.l
  have r4 : rowH (hp w8) ⟨k4, 0, none⟩ _ := rdCel 3 h.l
  have r3 : rowH (hp w8) ⟨k3, 0, none⟩ _ := rdCel 4 h.l
  have r2 : rowH (hp w8) ⟨k2, 0, none⟩ _ := rdCel 5 h.l
  have r1 : rowH (hp w8) ⟨k1, 0, none⟩ _ := rdCel 6 h.l
  have g8 : sub (hp w) (hp w8) := rdH 7 h.l
  have p3 : rdS (hp w8) ([1] : List Int) (some ⟨k3, 0, none⟩) 1 := rdI_of rfl (.inr ⟨_, rfl, r3⟩)
  have p4 : rdS (hp w8) ([3] : List Int) (some ⟨k4, 0, none⟩) 1 := rdI_of rfl (.inr ⟨_, rfl, r4⟩)
  have p5 : rdS (hp w8) ([3, 1] : List Int) (some ⟨k5, 0, none⟩) 2 := rdI_of rfl (.inr ⟨_, rfl, r5⟩)
  have p0 : rdS (hp w8) ([] : List Int) none 0 := rdI_of rfl (.inl rfl)
  obtain ⟨x, hx⟩ : ∃ x : GA, x = ⟨some ⟨k1, 0, none⟩, 2, 2, some ⟨k2, 0, none⟩, 2, 2, none, 0, 0, 2, some ⟨k6, 0, none⟩, 3, 3⟩ := ⟨_, rfl⟩
  have hg : gR (hp w8) exG x := by
    rw [hx]
    refine ⟨?_, ?_, ?_, rfl, ?_, Nat.le_refl _, Nat.le_refl _, Nat.le_refl _, Nat.le_refl _⟩
    · refine rdS_lit (xs := exG.terms) r1 fun i t hi => ?_
      match i, hi with
      | 0, hi => cases hi; rfl
      | 1, hi => cases hi; rfl
      | i + 2, hi => cases hi
    · exact rdS_of_row (xs := exG.nons) rfl (.inr ⟨_, rfl, r2⟩)
    · exact p0
    · refine rdS_lit (xs := exG.prods) r6 fun i t hi => ?_
      match i, hi with
      | 0, hi => cases hi; exact ⟨_, _, _, rfl, Nat.le_refl _, p3⟩
      | 1, hi => cases hi; exact ⟨_, _, _, rfl, Nat.le_refl _, p4⟩
      | 2, hi => cases hi; exact ⟨_, _, _, rfl, Nat.le_refl _, p5⟩
      | i + 3, hi => cases hi
  have B : GB (hp w8) k7 x := by rw [hx]; exact gb_of r7
  have ht8 : tabA (hp w8) := rdV.mono g8 ht
  clear h
  refine ⟨_, _, _, _, _, _, _, _, _, _, _, _, _, B.row (sub.refl _), (r_Productive2 (x := x) hg ex_ok ht8).mono ?_⟩
  rintro _ w9 ⟨o9, n9, c9, e9, nn, rfl, hnl, hn, h9⟩
  rcases hn with ⟨hn, _⟩ | ⟨_, rfl, hn⟩
  · exact absurd (.inl ex_valid) hn
  have := hn.inj ex_pn
  subst this
  have hnl : 2 = n9 := hnl
  subst hnl
  have g9 : Gr w8 w9 := h9.gone1
  have r9 : rdS (hp w9) [true, false] o9 2 := rdB_of rfl (rdOwn 0 h9.l)
  refine ⟨_, _, _, _, rfl, _, _, _, _, _, _, _, _, _, _, _, _, _, B.row g9, (r_Reduce (x := x) (hg.mono g9) ex_ok (rdV.mono g9 ht8)).mono ?_⟩
  rintro _ w10 ⟨y, G, os, e, rfl, hy, hos, hR, h10⟩
  rcases hR with ⟨hn, _⟩ | ⟨_, hn, _⟩ | ⟨_, _, rfl, pds, uns, h1, h2, rfl⟩
  · exact absurd ex_valid hn
  · exact absurd ex_p2 hn
  rw [h1.inj ex_pn, h2.inj ex_un, ex_red] at hy h10 hos
  have gR10 := ownG_gR hy hos h10
  have g10 : Gr w9 w10 := rdH 5 h10.l
  obtain ⟨q1, q2, q3, q4, q5⟩ := hy
  refine ⟨_, _, _, _, _, _, _, _, _, _, _, _, _, _, rfl, newC_i (St.all w10) fun k34 w11 h11 => stR_i h11 rfl (by intro v hv; simp at hv; rcases hv with rfl | rfl | rfl | rfl | rfl <;> rfl) fun w12 h12 => ?_⟩
  have C : GB (hp w12) k34 y := gb_of h12.row
  have g12 : Gr w10 w12 := h12.gone1
  have gall : Gr w w12 := (g8.trans g9).trans (g10.trans g12)
  obtain ⟨a0, ad0, u0, v0, w0⟩ := r9.get1 (i := 0) (by decide)
  obtain ⟨a1, ad1, u1, v1, w1'⟩ := r9.get1 (i := 1) (by decide)
  cases u0; cases u1
  have s9 : sub (hp w9) (hp w12) := g10.trans g12
  have yn : y.nl = 2 := q2
  have yp : y.pl = 2 := q5
  obtain ⟨s, ads, us, vs, ws⟩ := gR10.n.get1 (i := 1) (by omega)
  cases us
  refine br_intro (fun _ => br_intro (fun _ => br_intro (fun _ => idx_0 v0 (by decide) ⟨_, w0 _ s9, br_intro (fun _ => ?_) fun h => absurd h (by decide)⟩) fun h => absurd h (by decide)) fun h => absurd h (by decide)) fun h => absurd h (by decide)
  show idx _ _ ((1 : Nat) : Int) 1 _
  refine idx_i v1 (by decide) ⟨_, w1' _ s9, br_intro (fun _ => ⟨_, _, _, C.c1 (sub.refl _), br_intro (fun _ => ⟨_, _, _, C.c1 (sub.refl _), ?_⟩) fun h => ?_⟩) fun h => absurd h (by decide)⟩
  · show idx _ _ ((1 : Nat) : Int) 1 _
    refine idx_i vs (by omega) ⟨_, ws _ g12, br_intro (fun _ => ⟨_, _, _, C.c4 (sub.refl _), br_intro (fun _ => ⟨_, C.c3 (sub.refl _), ?_, gall⟩) fun h => ?_⟩) fun h => ?_⟩
    · rw [q4]; rfl
    · rw [yp] at h; exact absurd h (by decide)
    · rw [bs_eq] at h; exact absurd (show by1 83 = ⟨⟨[83]⟩⟩ from rfl) (of_decide_eq_false h)
  · rw [yn] at h; exact absurd h (by decide)
end
end Go.Proofs.YtaheggomcnbbiaaDoor
set_option linter.unusedVariables false
namespace Go.V
theorem Pd.more {g : GramT} {q : ProdT} {s : Int} (h : Pd g s) : Pd (g.more q) s := by
  induction h with
  | tm t h => exact .tm t h
  | mk p hp _ ih => exact .mk p (List.mem_append.2 (.inl hp)) ih
theorem lefts_more {g : GramT} {q : ProdT} (hq : q.left ∈ leftsG g 0) : leftsG (g.more q) 0 = leftsG g 0 := by
  have e : leftsG (g.more q) 0 = addL (leftsG g 0) q.left := by
    unfold leftsG leftsL GramT.more
    simp only [List.drop_zero, List.map_append, List.map_cons, List.map_nil, List.foldl_append, List.foldl_cons, List.foldl_nil]
  rw [e]
  unfold addL
  rw [if_pos hq]
theorem valid_more {g : GramT} {q : ProdT} (h : ValidP g) (hq : prodOk g 0 q) (hp : g.prods.length < 96) : ValidP (g.more q) := by
  have hv := valid_iff.1 h
  obtain ⟨h1, h2, h3⟩ := h
  have hl := h2.2.2.2.1
  obtain ⟨⟨a1, a2, _⟩, _⟩ := id hq
  have hm : q.left ∈ leftsG g 0 := by
    have hN : (leftsG g 0).length = g.N := by omega
    have hi : q.left.toNat - g.T < (leftsG g 0).length := by rw [hN]; omega
    have hg : (leftsG g 0)[q.left.toNat - g.T]? = some ((leftsG g 0)[q.left.toNat - g.T]) := List.getElem?_eq_getElem hi
    have hy := hv.2 _ _ hg
    have : (leftsG g 0)[q.left.toNat - g.T] = q.left := by rw [hy]; omega
    rw [← this]; exact List.getElem_mem hi
  have e := lefts_more hm
  refine ⟨h1, ⟨?_, ?_, ?_, ?_, h2.2.2.2.2⟩, ?_⟩
  · show 0 < (g.prods ++ [q]).length; simp
  · show (g.prods ++ [q]).length ≤ 96 + 0; simp; omega
  · intro p hp'
    have hp' : p ∈ g.prods ++ [q] := hp'
    rcases List.mem_append.1 hp' with hp' | hp'
    · exact h2.2.2.1 p hp'
    · simp at hp'; subst hp'; exact hq
  · rw [e]; exact hl
  · rw [e]; exact h3
end Go.V
namespace Go.Proofs.YtaheggomcnbbiaaDoor
open Go.V
section
variable {w : World} {L : List Asn} {g : GramT} {x : GA}
theorem l_pick6 (c : Int) (n : Nat) (hc : anyI c) (hn : 0 < n) : Run Tryd.prog n_presagelaw06_pick [.int .i64 c, .int .i64 (n : Int)] w fun v w' => (∃ r : Nat, v = .int .i64 (r : Int) ∧ r < n) ∧ w' = w := by
  refine run_presagelaw06_pick _ _ w _ ?_
  obtain ⟨c1, c2⟩ := hc
  have nz' : nz (n : Int) := by unfold nz; simp; omega
  have fin : ∀ d : Int, 0 ≤ d → (∃ r : Nat, Value.int .i64 (d.tmod (n : Int)) = .int .i64 (r : Int) ∧ r < n) ∧ w = w := fun d hd => by
    have := tmodB (c := d) (n := (n : Int)) hd (by omega)
    exact ⟨⟨(d.tmod n).toNat, by congr 1; omega, by omega⟩, rfl⟩
  refine br_intro (fun h => ?_) fun h => ⟨nz', fin c (by have := of_decide_eq_false h; omega)⟩
  have h := of_decide_eq_true h
  exact ⟨⟨by omega, by omega⟩, ⟨by omega, by omega⟩, nz', fin _ (by omega)⟩
set_option maxHeartbeats 4000000 in
theorem l_ReachMore {left : Int} {row : List Int} {ra : Option Addr} {rl rc : Nat} (hg : gR (hp w) g x) (hb : okG g) (hbT : g.terms.length * 24 ≤ 140737488355328) (hbN : g.nons.length * 16 ≤ 140737488355328) (ht : tabA (hp w)) (hL : anyI left) (hr : rdS (hp w) row ra rl) (hrI : ∀ y ∈ row, anyI y) (hrl : rl ≤ 4611686018427387904) : Run Tryd.prog n_presagelaw06_ReachMore [.agg ⟨x.cells⟩, .int .i64 left, .slice ra rl rc] w fun v w' => v = .bool true ∧ Gr w w' := by
  refine run_presagelaw06_ReachMore _ _ _ _ _ _ _ _ _ _ _ _ _ _ _ _ _ w _ ?_
  refine gbox hg fun k1 w1 gw hg B => ?_
  have tl : g.T = x.tl := hg.t.1
  have nl : g.N = x.nl := hg.n.1
  have pl := hg.p.1
  have ht1 : tabA (hp w1) := rdV.mono gw ht
  have hr := hr.mono gw
  refine ⟨_, _, _, _, _, _, _, _, _, _, _, _, _, B.row (sub.refl _), (d_Valid (x := x) hg hb).mono ?_⟩
  rintro _ w2 ⟨⟨r1, rfl, e1⟩, g2⟩
  have ht2 : tabA (hp w2) := rdV.mono g2 ht1
  refine ⟨_, rfl, br_intro (fun h1 => ?_) fun h1 => ?_⟩
  · have hn : ¬ ValidP g := fun h => by rw [e1.2 h] at h1; cases h1
    refine ⟨_, _, _, _, _, _, _, _, _, _, _, _, _, B.row g2, (d_Copy (x := x) (hg.mono g2) hb hbT hbN).mono ?_⟩
    rintro _ w3 ⟨y, os, rfl, hy, hos, h3⟩
    have hk : gR (hp w3) g y := ownG_gR hy hos h3
    have g3 : Gr w2 w3 := rdH 5 h3.l
    refine ⟨_, _, _, _, _, _, _, _, _, _, _, _, _, rfl, (r_Productive2 (x := y) hk hb (rdV.mono g3 ht2)).mono ?_⟩
    rintro _ w4 ⟨oa, na, ca, ea, nn, rfl, hnl, rN, h4⟩
    have g4 : Gr w3 w4 := h4.gone1
    have s4 : Gr w1 w4 := g2.trans (g3.trans g4)
    refine ⟨_, _, _, _, rfl, _, _, _, _, _, _, _, _, _, _, _, _, _, B.row s4, (d_Closed (x := x) (hg.mono s4) hb).mono ?_⟩
    rintro _ w5 ⟨⟨r2, rfl, e2⟩, g5⟩
    refine ⟨_, rfl, br_intro (fun _ => (l_awake6 (rdV.mono (s4.trans g5) ht1)).mono ?_) fun h => ?_⟩
    · rintro _ w6 ⟨rfl, g6⟩
      exact ⟨_, rfl, rfl, gw.trans ((s4.trans g5).trans g6)⟩
    · exfalso
      have : (ea == 0) = r2 := by
        rcases rN with ⟨he, rfl, _⟩ | ⟨he, rfl, _⟩
        · have : r2 = false := by
            cases hr2 : r2
            · rfl
            · exact absurd (.inr (e2.1 hr2)) he
          rw [this]; rfl
        · rw [e2.2 (he.resolve_left hn)]; rfl
      rw [this] at h; simp at h
  have hv : ValidP g := e1.1 (by simpa using h1)
  have he : EitherP g := .inl hv
  obtain ⟨iG, bT, bN, pN, pT, bP⟩ := inG he
  obtain ⟨z1, z2, z3, z4⟩ := valid_sizes hv
  refine ⟨_, _, _, _, _, _, _, _, _, _, _, _, _, B.row g2, (d_Copy (x := x) (hg.mono g2) hb hbT hbN).mono ?_⟩
  rintro _ w7 ⟨y, os, rfl, hy, hos, h⟩
  obtain ⟨ta, tl', tc, na, nl', nc, la, ll', lc, st', pa, pl', pc⟩ := y
  obtain ⟨q1, q2, q3, q4, q5⟩ := hy
  dsimp only at q1 q2 q3 q4 q5
  subst q1; subst q2; subst q3; subst q4; subst q5
  unfold V.all at h
  refine ⟨_, _, _, _, _, _, _, _, _, _, _, _, _, rfl, newC_i h fun k52 w8 h => stR_i h rfl (by intro v hv; simp at hv; rcases hv with rfl | rfl | rfl | rfl | rfl <;> rfl) fun w9 h => fun w10 hd => ?_⟩
  have h := h.drawn hd
  have gw2 : sub (hp w) (hp w2) := gw.trans g2
  have s12 : sub (hp w1) (hp w2) := g2
  have hg := hg.mono s12
  have hr := hr.mono s12
  have B : GB (hp w2) k1 x := ⟨fun s => B.c0 (sub.trans s12 s), fun s => B.c1 (sub.trans s12 s), fun s => B.c2 (sub.trans s12 s), fun s => B.c3 (sub.trans s12 s), fun s => B.c4 (sub.trans s12 s), fun s => B.row (sub.trans s12 s)⟩
  clear s12 g2 ht1
  obtain ⟨H, hH⟩ := name_it (hp w2)
  rw [← hH] at hg hr ht2 gw2 h B
  have h : St w10 [cel k52 [.slice ta g.terms.length tc, .slice na g.nons.length nc, .slice la g.levels.length lc, .int .i64 g.start, .slice pa g.prods.length pc], own 3 pa g.prods.length pc (prodsV os g.prods), sta (rightsA os g.prods), own 2 ta g.terms.length tc (termsV g.terms), own 1 na g.nons.length nc (g.nons.map fun s => Value.string s), own 1 la g.levels.length lc (iv g.levels), has H] := h
  have hT' : g.T = g.terms.length := rfl
  have hN' : g.N = g.nons.length := rfl
  refine ⟨fun w => sub H (hp w), rdH 6 h.l, _, _, _, fun w s => B.c0 s, _, _, _, fun w s => B.c1 s, ?_, ?_⟩
  · rw [← nl]
    refine (l_pick6 left g.N hL pN).mono ?_
    rintro _ w13 ⟨⟨rp, rfl, hrp⟩, rfl⟩
    refine ⟨_, rfl, rdH 6 h.l, ⟨by omega, by omega⟩, newC_i h fun k57 w14 h => ⟨rdH 7 h.l, stR_i h rfl (by simp [oneC]) fun w15 h => ?_⟩⟩
    obtain ⟨Lf, hLf⟩ : ∃ Lf : Int, Lf = (x.tl : Int) + (rp : Int) := ⟨_, rfl⟩
    rw [← hLf] at h
    have hL1 : (g.T : Int) ≤ Lf := by omega
    have hL2 : Lf < (g.T : Int) + g.N := by omega
    refine ⟨fun w' => ∃ (qa : Option Addr) (qc : Nat) (rs : List Int), rs.length ≤ 6 ∧ (∀ s ∈ rs, 1 ≤ s ∧ s < (g.T : Int) + g.N) ∧ St w' [cel k57 [.int .i64 Lf, .slice qa rs.length qc, .int .i64 0], own 1 qa rs.length qc (iv rs), cel k52 [.slice ta g.terms.length tc, .slice na g.nons.length nc, .slice la g.levels.length lc, .int .i64 g.start, .slice pa g.prods.length pc], own 3 pa g.prods.length pc (prodsV os g.prods), sta (rightsA os g.prods), own 2 ta g.terms.length tc (termsV g.terms), own 1 na g.nons.length nc (g.nons.map fun s => Value.string s), own 1 la g.levels.length lc (iv g.levels), has H], ?_, ?_⟩
    · refine ⟨fun n w' => ∃ (j : Nat) (qa : Option Addr) (qc : Nat) (rs : List Int), n = j ∧ j ≤ rl ∧ j ≤ 6 ∧ rs.length ≤ j ∧ (∀ s ∈ rs, 1 ≤ s ∧ s < (g.T : Int) + g.N) ∧ St w' [cel k57 [.int .i64 Lf, .slice qa rs.length qc, .int .i64 0], own 1 qa rs.length qc (iv rs), cel k52 [.slice ta g.terms.length tc, .slice na g.nons.length nc, .slice la g.levels.length lc, .int .i64 g.start, .slice pa g.prods.length pc], own 3 pa g.prods.length pc (prodsV os g.prods), sta (rightsA os g.prods), own 2 ta g.terms.length tc (termsV g.terms), own 1 na g.nons.length nc (g.nons.map fun s => Value.string s), own 1 la g.levels.length lc (iv g.levels), has H], fun n _ => rl - n.toNat, ⟨0, none, 0, [], rfl, by omega, by omega, by simp, by simp, (own_nil 1 h).swap⟩, ?_⟩
      clear h
      rintro _ n9 w16 ⟨j, qa, qc, rs, rfl, hj, hj6, hrs, hrr, h⟩
      refine br_intro (fun hj1 => br_intro (fun hj2 => ?_) fun _ => ⟨qa, qc, rs, by omega, hrr, h⟩) fun _ => ⟨qa, qc, rs, by omega, hrr, h⟩
      have hj1 : j < rl := by have := of_decide_eq_true hj1; omega
      have hj2 : j < 6 := by have := of_decide_eq_true hj2; omega
      intro w17 hd
      have h := h.drawn hd
      obtain ⟨u, ad, hu, hua, hu2⟩ := hr.get1 hj1
      have eTN : (x.tl : Int) + (x.nl : Int) = ((g.T + g.N : Nat) : Int) := by omega
      refine ⟨fun w => sub H (hp w), rdH 8 h.l, idx_i hua hj1 ⟨_, fun w s => hu2 _ s, _, _, _, fun w s => B.c0 s, _, _, _, fun w s => B.c1 s, ⟨by omega, by omega⟩, ?_⟩⟩
      rw [eTN]
      refine (l_pick6 u (g.T + g.N) (hrI u (List.mem_of_getElem? hu)) (by omega)).mono ?_
      rintro _ w21 ⟨⟨s, rfl, hs⟩, rfl⟩
      refine ⟨_, rfl, rdH 8 h.l, br_intro (fun h0 => ?_) fun h0 => ⟨⟨by omega, by omega⟩, ⟨j + 1, qa, qc, rs, by simp, by omega, by omega, by omega, hrr, h⟩, msr hj1⟩⟩
      have h0 := of_decide_eq_true h0
      refine ⟨_, _, _, h.cell 1, newC_i h fun k64 w22 h => ?_⟩
      refine (app_one tyOk (rfl : kdOfT Ty _ = .slice _) (rfl : kdOfT Ty _ = .slice _) rfl rfl rfl (h.pick 10 [0, 2, 1, 3, 4, 5, 6, 7, 8, 9]) rfl (by simp [oneC]) (by show (rs.length + 1) * 8 ≤ _; omega) (by omega)).mono ?_
      rintro _ w23 ⟨o', c', rfl, h⟩
      refine ⟨_, _, _, rfl, ?_⟩
      rw [add_lit0]
      refine st1_i (h.pick 10 [2, 0, 3, 4, 5, 6, 7, 8, 9]) (by simp) fun w24 h => ⟨⟨by omega, by omega⟩, ⟨j + 1, o', c', rs ++ [(s : Int)], by simp, by omega, by omega, by simp; omega, fun y hy => ?_, ?_⟩, msr hj1⟩
      · rcases List.mem_append.1 hy with hy | hy
        · exact hrr y hy
        · simp at hy; subst hy; omega
      · have e : iv rs ++ [Value.int .i64 (s : Int)] = iv (rs ++ [(s : Int)]) := by simp [iv]
        have el : (rs ++ [(s : Int)]).length = rs.length + 1 := by simp
        rw [el, ← e]; exact h
    clear h
    rintro _ w25 ⟨qa, qc, rs, hrs, hrr, h⟩
    obtain ⟨q, hq⟩ : ∃ q : ProdT, q = ⟨Lf, rs, 0⟩ := ⟨_, rfl⟩
    have h : St w25 [cel k57 (prodV ((qa, qc), q)), own 1 qa rs.length qc (iv rs), cel k52 [.slice ta g.terms.length tc, .slice na g.nons.length nc, .slice la g.levels.length lc, .int .i64 g.start, .slice pa g.prods.length pc], own 3 pa g.prods.length pc (prodsV os g.prods), sta (rightsA os g.prods), own 2 ta g.terms.length tc (termsV g.terms), own 1 na g.nons.length nc (g.nons.map fun s => Value.string s), own 1 la g.levels.length lc (iv g.levels), has H] := by rw [hq]; exact h
    have r52 : rowH (hp w25) ⟨k52, 0, none⟩ [.slice ta g.terms.length tc, .slice na g.nons.length nc, .slice la g.levels.length lc, .int .i64 g.start, .slice pa g.prods.length pc] := rdCel 2 h.l
    refine ⟨_, _, _, r52.cell (sub.refl _) (j := 4) rfl, _, _, _, _, _, h.row.at (sub.refl _) rfl, newC_i h fun k71 w26 h => ?_⟩
    have h : St w26 [cel k71 (prodV ((qa, qc), q)), cel k57 (prodV ((qa, qc), q)), own 1 qa rs.length qc (iv rs), cel k52 [.slice ta g.terms.length tc, .slice na g.nons.length nc, .slice la g.levels.length lc, .int .i64 g.start, .slice pa g.prods.length pc], own 3 pa g.prods.length pc (prodsV os g.prods), sta (rightsA os g.prods), own 2 ta g.terms.length tc (termsV g.terms), own 1 na g.nons.length nc (g.nons.map fun s => Value.string s), own 1 la g.levels.length lc (iv g.levels), has H] := h
    refine (app_one tyOk (rfl : kdOfT Ty _ = .slice _) (rfl : kdOfT Ty _ = .slice _) rfl rfl rfl (h.pick 10 [0, 4, 3, 2, 5, 6, 7, 8, 9]) rfl (by simp [oneC, prodV]) (by show (g.prods.length + 1) * 40 ≤ _; omega) (by show g.prods.length < _; omega)).mono ?_
    rintro _ w27 ⟨pa', pc', rfl, h⟩
    refine ⟨_, _, _, rfl, ?_⟩
    rw [add_lit0]
    refine st1_i (h.pick 9 [2, 0, 3, 4, 5, 6, 7, 8]) (by simp) fun w28 h => ?_
    rw [← prodsV_snoc hos] at h
    have h : St w28 [cel k52 (GA.cells ⟨ta, g.terms.length, tc, na, g.nons.length, nc, la, g.levels.length, lc, g.start, pa', g.prods.length + 1, pc'⟩), own 3 pa' (g.prods.length + 1) pc' (prodsV (os ++ [(qa, qc)]) (g.prods ++ [q])), own 1 qa rs.length qc (iv rs), sta (rightsA os g.prods), own 2 ta g.terms.length tc (termsV g.terms), own 1 na g.nons.length nc (g.nons.map fun s => Value.string s), own 1 la g.levels.length lc (iv g.levels), has H] := h
    obtain ⟨x2, hx2⟩ : ∃ x2 : GA, x2 = ⟨ta, g.terms.length, tc, na, g.nons.length, nc, la, g.levels.length, lc, g.start, pa', g.prods.length + 1, pc'⟩ := ⟨_, rfl⟩
    rw [← hx2] at h
    have sH : sub H (hp w28) := rdH 7 h.l
    have C : GB (hp w28) k52 x2 := gb_of h.row
    have hqr : q.right = rs := by rw [hq]
    have hg2 : gR (hp w28) (g.more q) x2 := by
      obtain ⟨h2, s2, a2⟩ := rdA (A := own 2 ta g.terms.length tc (termsV g.terms)) 4 h.l
      obtain ⟨h3, s3, a3⟩ := rdA (A := own 1 na g.nons.length nc (g.nons.map fun s => Value.string s)) 5 h.l
      obtain ⟨h4, s4, a4⟩ := rdA (A := own 1 la g.levels.length lc (iv g.levels)) 6 h.l
      obtain ⟨h5, s5, a5⟩ := rdA (A := own 1 qa rs.length qc (iv rs)) 2 h.l
      have a1 := rdA (A := own 3 pa' (g.prods.length + 1) pc' (prodsV (os ++ [(qa, qc)]) (g.prods ++ [q]))) 1 h.l
      rw [hx2]
      refine ⟨(rdT_own rfl a2).mono s2, (rdS_of_row rfl (own_rdVh a3)).mono s3, (rdI_of rfl (own_rdVh a4)).mono s4, rfl, rdP_of (by show (g.prods ++ [q]).length = g.prods.length + 1; simp) (by show (os ++ [(qa, qc)]).length = (g.prods ++ [q]).length; simp [hos]) a1 fun i o p hoi hpi => ?_, ownH_le' a2, ownH_le' a3, ownH_le' a4, ?_⟩
      · have hpi : (g.prods ++ [q])[i]? = some p := hpi
        by_cases hi : i < g.prods.length
        · rw [List.getElem?_append_left (by omega)] at hoi hpi
          exact rdRight (k := i) (o := o) (p := p) 3 h.l hoi hpi
        · have hl := (List.getElem?_eq_some_iff.1 hpi).1
          simp at hl
          have e : i = g.prods.length := by omega
          subst e
          rw [List.getElem?_append_right (by omega)] at hoi hpi
          rw [Nat.sub_self] at hpi
          rw [hos, Nat.sub_self] at hoi
          cases hoi; cases hpi
          rw [hqr]
          exact ⟨(rdI_of rfl (own_rdVh a5)).mono s5, ownH_le' a5⟩
      · obtain ⟨h1, _, a1⟩ := a1
        exact ownH_le' a1
    have hb2 : okG (g.more q) := by
      obtain ⟨b1, b2, b3, b4, b5, b6, b7⟩ := id hb
      refine ⟨b1, b2, b3, by show (g.prods ++ [q]).length * 40 ≤ _; simp; omega, b5, b6, fun p hp => ?_⟩
      rcases List.mem_append.1 hp with hp | hp
      · exact b7 p hp
      · simp at hp; subst hp; rw [hqr]; omega
    have hqok : prodOk g 0 q := by
      rw [hq]
      refine ⟨⟨by show (g.T : Int) + (0 : Nat) ≤ Lf; omega, hL2, by show (0 : Int) ≤ 0; omega, by show (0 : Int) ≤ _; omega⟩, fun s hs => ?_⟩
      have := hrr s hs
      exact ⟨this.1, this.2, fun h => by have h2 : s < (g.T : Int) + (0 : Nat) := h.2; omega⟩
    have gw28 : sub (hp w) (hp w28) := sub.trans gw2 sH
    have ht28 : tabA (hp w28) := rdV.mono sH ht2
    have hg28 := hg.mono sH
    clear h r52
    refine ⟨_, _, _, _, _, _, _, _, _, _, _, _, _, B.row sH, (d_Copy (x := x) hg28 hb hbT hbN).mono ?_⟩
    rintro _ w29 ⟨y, os3, rfl, hy, hos3, h29⟩
    have hk29 : gR (hp w29) g y := ownG_gR hy hos3 h29
    have g29 : Gr w28 w29 := rdH 5 h29.l
    refine ⟨_, _, _, _, _, _, _, _, _, _, _, _, _, rfl, (r_Productive2 (x := y) hk29 hb (rdV.mono g29 ht28)).mono ?_⟩
    rintro _ w30 ⟨oA, nA, cA, eA, nnA, rfl, hAl, rA, h30⟩
    have g30 : Gr w29 w30 := h30.gone1
    have rdA' : rdS (hp w30) nnA oA nA := rdB_of hAl (rdOwn 0 h30.l)
    have s30 : Gr w28 w30 := g29.trans g30
    refine ⟨_, _, _, _, rfl, _, _, _, _, _, _, _, _, _, _, _, _, _, C.row s30, (r_Productive2 (x := x2) (hg2.mono s30) hb2 (rdV.mono s30 ht28)).mono ?_⟩
    rintro _ w31 ⟨oB, nB, cB, eB, nnB, rfl, hBl, rB, h31⟩
    have g31 : Gr w30 w31 := h31.gone1
    have rdB' : rdS (hp w31) nnB oB nB := rdB_of hBl (rdOwn 0 h31.l)
    have s31 : Gr w28 w31 := s30.trans g31
    have aw : ∀ {w' : World}, Gr w31 w' → Run Tryd.prog n_presagelaw06_awake [] w' fun v w'' => ∃ b : Bool, v = .bool b ∧ (Value.bool b = .bool true ∧ Gr w w'') := fun {w'} gg => by
      refine (l_awake6 (rdV.mono (sub.trans s31 gg) ht28)).mono ?_
      rintro _ w'' ⟨rfl, g6⟩
      exact ⟨_, rfl, rfl, sub.trans gw28 (sub.trans s31 (sub.trans gg g6))⟩
    rcases rA with ⟨hn, _⟩ | ⟨_, rfl, pA⟩
    · exact absurd he hn
    refine ⟨_, _, _, _, rfl, _, _, _, B.c4 (sub.trans sH s31), br_intro (fun h96 => ?_) fun h96 => ?_⟩
    · have h96 : x.pl = 96 := by have h96 : (x.pl : Int) = 96 := by simpa using h96
                                 omega
      rcases rB with ⟨_, rfl, _⟩ | ⟨he2, _, _⟩
      · exact br_intro (fun _ => br_intro (fun _ => aw (Gr.refl _)) fun h => absurd h (by decide)) fun h => absurd h (by decide)
      · exfalso
        rcases he2 with h | h
        · have h2 := h.2.1.2.1
          have h2 : (g.prods ++ [q]).length ≤ 96 + 0 := h2
          simp at h2; omega
        · exact z4 h.1
    have h96 : g.prods.length < 96 := by
      have h1 : g.prods.length ≤ 96 + 0 := hv.2.1.2.1
      have h2 : ¬ (x.pl : Int) = 96 := by simpa using h96
      omega
    have hv2 := valid_more hv hqok h96
    rcases rB with ⟨hn, _⟩ | ⟨_, rfl, pB⟩
    · exact absurd (.inl hv2) hn
    have eAB : nA = nB := by rw [← hAl, ← hBl, pA.1, pB.1]; rfl
    refine ⟨fun b w' => b = false ∧ w' = w31, br_intro (fun h => absurd h (by decide)) fun _ => br_intro (fun h => absurd h (by decide)) fun _ => ⟨by rw [eAB]; simp, rfl⟩, ?_⟩
    rintro _ _ w33 ⟨rfl, rfl⟩
    refine br_intro (fun h => absurd h (by decide)) fun _ => ?_
    have hnA : nA ≤ 65 := by rw [← hAl, pA.1]; exact bN
    refine ⟨fun n w' => ∃ j : Nat, n = j ∧ j ≤ nA ∧ Gr w33 w', fun n _ => nA - n.toNat, ⟨0, rfl, by omega, Gr.refl _⟩, ?_⟩
    rintro _ n w34 ⟨j, rfl, hj, g34⟩
    refine br_intro (fun hj1 => ?_) fun _ => aw g34
    have hj1 : j < nA := by have := of_decide_eq_true hj1; omega
    obtain ⟨b6, ad6, n61, n62, n63⟩ := rdA'.get1 hj1
    obtain ⟨b7, ad7, n71, n72, n73⟩ := rdB'.get1 (i := j) (by omega)
    have nx : inI ((j : Int) + 1) ∧ (∃ j' : Nat, (j : Int) + 1 = j' ∧ j' ≤ nA ∧ Gr w33 w34) ∧ nA - ((j : Int) + 1).toNat < nA - (j : Int).toNat := ⟨⟨by omega, by omega⟩, ⟨j + 1, by simp, by omega, g34⟩, msr hj1⟩
    refine idx_i n62 hj1 ⟨b6, n63 _ (sub.trans g31 g34), br_intro (fun h6 => idx_i n72 (by omega) ⟨b7, n73 _ g34, br_intro (fun h7 => ?_) fun _ => nx⟩) fun _ => nx⟩
    have k1' := (pA.2 j).1 (by rw [fnB_get n61]; exact h6)
    have k2' := (pB.2 j).2 k1'.more
    rw [fnB_get n71] at k2'
    rw [k2'] at h7; cases h7
  · refine newC_i h fun k57 w14 h => ⟨rdH 7 h.l, ?_⟩
    rw [← nl]
    refine (l_pick6 left g.N hL pN).mono ?_
    rintro _ w13 ⟨⟨rp, rfl, hrp⟩, rfl⟩
    refine ⟨_, rfl, rdH 7 h.l, ⟨by omega, by omega⟩, stR_i h rfl (by simp [oneC]) fun w15 h => ?_⟩
    obtain ⟨Lf, hLf⟩ : ∃ Lf : Int, Lf = (x.tl : Int) + (rp : Int) := ⟨_, rfl⟩
    rw [← hLf] at h
    have hL1 : (g.T : Int) ≤ Lf := by omega
    have hL2 : Lf < (g.T : Int) + g.N := by omega
    refine ⟨fun w' => ∃ (qa : Option Addr) (qc : Nat) (rs : List Int), rs.length ≤ 6 ∧ (∀ s ∈ rs, 1 ≤ s ∧ s < (g.T : Int) + g.N) ∧ St w' [cel k57 [.int .i64 Lf, .slice qa rs.length qc, .int .i64 0], own 1 qa rs.length qc (iv rs), cel k52 [.slice ta g.terms.length tc, .slice na g.nons.length nc, .slice la g.levels.length lc, .int .i64 g.start, .slice pa g.prods.length pc], own 3 pa g.prods.length pc (prodsV os g.prods), sta (rightsA os g.prods), own 2 ta g.terms.length tc (termsV g.terms), own 1 na g.nons.length nc (g.nons.map fun s => Value.string s), own 1 la g.levels.length lc (iv g.levels), has H], ?_, ?_⟩
    · refine ⟨fun n w' => ∃ (j : Nat) (qa : Option Addr) (qc : Nat) (rs : List Int), n = j ∧ j ≤ rl ∧ j ≤ 6 ∧ rs.length ≤ j ∧ (∀ s ∈ rs, 1 ≤ s ∧ s < (g.T : Int) + g.N) ∧ St w' [cel k57 [.int .i64 Lf, .slice qa rs.length qc, .int .i64 0], own 1 qa rs.length qc (iv rs), cel k52 [.slice ta g.terms.length tc, .slice na g.nons.length nc, .slice la g.levels.length lc, .int .i64 g.start, .slice pa g.prods.length pc], own 3 pa g.prods.length pc (prodsV os g.prods), sta (rightsA os g.prods), own 2 ta g.terms.length tc (termsV g.terms), own 1 na g.nons.length nc (g.nons.map fun s => Value.string s), own 1 la g.levels.length lc (iv g.levels), has H], fun n _ => rl - n.toNat, ⟨0, none, 0, [], rfl, by omega, by omega, by simp, by simp, (own_nil 1 h).swap⟩, ?_⟩
      clear h
      rintro _ n9 w16 ⟨j, qa, qc, rs, rfl, hj, hj6, hrs, hrr, h⟩
      refine br_intro (fun hj1 => br_intro (fun hj2 => ?_) fun _ => ⟨qa, qc, rs, by omega, hrr, h⟩) fun _ => ⟨qa, qc, rs, by omega, hrr, h⟩
      have hj1 : j < rl := by have := of_decide_eq_true hj1; omega
      have hj2 : j < 6 := by have := of_decide_eq_true hj2; omega
      intro w17 hd
      have h := h.drawn hd
      obtain ⟨u, ad, hu, hua, hu2⟩ := hr.get1 hj1
      have eTN : (x.tl : Int) + (x.nl : Int) = ((g.T + g.N : Nat) : Int) := by omega
      refine ⟨fun w => sub H (hp w), rdH 8 h.l, idx_i hua hj1 ⟨_, fun w s => hu2 _ s, _, _, _, fun w s => B.c0 s, _, _, _, fun w s => B.c1 s, ⟨by omega, by omega⟩, ?_⟩⟩
      rw [eTN]
      refine (l_pick6 u (g.T + g.N) (hrI u (List.mem_of_getElem? hu)) (by omega)).mono ?_
      rintro _ w21 ⟨⟨s, rfl, hs⟩, rfl⟩
      refine ⟨_, rfl, rdH 8 h.l, br_intro (fun h0 => ?_) fun h0 => ⟨⟨by omega, by omega⟩, ⟨j + 1, qa, qc, rs, by simp, by omega, by omega, by omega, hrr, h⟩, msr hj1⟩⟩
      have h0 := of_decide_eq_true h0
      refine ⟨_, _, _, h.cell 1, newC_i h fun k64 w22 h => ?_⟩
      refine (app_one tyOk (rfl : kdOfT Ty _ = .slice _) (rfl : kdOfT Ty _ = .slice _) rfl rfl rfl (h.pick 10 [0, 2, 1, 3, 4, 5, 6, 7, 8, 9]) rfl (by simp [oneC]) (by show (rs.length + 1) * 8 ≤ _; omega) (by omega)).mono ?_
      rintro _ w23 ⟨o', c', rfl, h⟩
      refine ⟨_, _, _, rfl, ?_⟩
      rw [add_lit0]
      refine st1_i (h.pick 10 [2, 0, 3, 4, 5, 6, 7, 8, 9]) (by simp) fun w24 h => ⟨⟨by omega, by omega⟩, ⟨j + 1, o', c', rs ++ [(s : Int)], by simp, by omega, by omega, by simp; omega, fun y hy => ?_, ?_⟩, msr hj1⟩
      · rcases List.mem_append.1 hy with hy | hy
        · exact hrr y hy
        · simp at hy; subst hy; omega
      · have e : iv rs ++ [Value.int .i64 (s : Int)] = iv (rs ++ [(s : Int)]) := by simp [iv]
        have el : (rs ++ [(s : Int)]).length = rs.length + 1 := by simp
        rw [el, ← e]; exact h
    clear h
    rintro _ w25 ⟨qa, qc, rs, hrs, hrr, h⟩
    obtain ⟨q, hq⟩ : ∃ q : ProdT, q = ⟨Lf, rs, 0⟩ := ⟨_, rfl⟩
    have h : St w25 [cel k57 (prodV ((qa, qc), q)), own 1 qa rs.length qc (iv rs), cel k52 [.slice ta g.terms.length tc, .slice na g.nons.length nc, .slice la g.levels.length lc, .int .i64 g.start, .slice pa g.prods.length pc], own 3 pa g.prods.length pc (prodsV os g.prods), sta (rightsA os g.prods), own 2 ta g.terms.length tc (termsV g.terms), own 1 na g.nons.length nc (g.nons.map fun s => Value.string s), own 1 la g.levels.length lc (iv g.levels), has H] := by rw [hq]; exact h
    have r52 : rowH (hp w25) ⟨k52, 0, none⟩ [.slice ta g.terms.length tc, .slice na g.nons.length nc, .slice la g.levels.length lc, .int .i64 g.start, .slice pa g.prods.length pc] := rdCel 2 h.l
    refine ⟨_, _, _, r52.cell (sub.refl _) (j := 4) rfl, _, _, _, _, _, h.row.at (sub.refl _) rfl, newC_i h fun k71 w26 h => ?_⟩
    have h : St w26 [cel k71 (prodV ((qa, qc), q)), cel k57 (prodV ((qa, qc), q)), own 1 qa rs.length qc (iv rs), cel k52 [.slice ta g.terms.length tc, .slice na g.nons.length nc, .slice la g.levels.length lc, .int .i64 g.start, .slice pa g.prods.length pc], own 3 pa g.prods.length pc (prodsV os g.prods), sta (rightsA os g.prods), own 2 ta g.terms.length tc (termsV g.terms), own 1 na g.nons.length nc (g.nons.map fun s => Value.string s), own 1 la g.levels.length lc (iv g.levels), has H] := h
    refine (app_one tyOk (rfl : kdOfT Ty _ = .slice _) (rfl : kdOfT Ty _ = .slice _) rfl rfl rfl (h.pick 10 [0, 4, 3, 2, 5, 6, 7, 8, 9]) rfl (by simp [oneC, prodV]) (by show (g.prods.length + 1) * 40 ≤ _; omega) (by show g.prods.length < _; omega)).mono ?_
    rintro _ w27 ⟨pa', pc', rfl, h⟩
    refine ⟨_, _, _, rfl, ?_⟩
    rw [add_lit0]
    refine st1_i (h.pick 9 [2, 0, 3, 4, 5, 6, 7, 8]) (by simp) fun w28 h => ?_
    rw [← prodsV_snoc hos] at h
    have h : St w28 [cel k52 (GA.cells ⟨ta, g.terms.length, tc, na, g.nons.length, nc, la, g.levels.length, lc, g.start, pa', g.prods.length + 1, pc'⟩), own 3 pa' (g.prods.length + 1) pc' (prodsV (os ++ [(qa, qc)]) (g.prods ++ [q])), own 1 qa rs.length qc (iv rs), sta (rightsA os g.prods), own 2 ta g.terms.length tc (termsV g.terms), own 1 na g.nons.length nc (g.nons.map fun s => Value.string s), own 1 la g.levels.length lc (iv g.levels), has H] := h
    obtain ⟨x2, hx2⟩ : ∃ x2 : GA, x2 = ⟨ta, g.terms.length, tc, na, g.nons.length, nc, la, g.levels.length, lc, g.start, pa', g.prods.length + 1, pc'⟩ := ⟨_, rfl⟩
    rw [← hx2] at h
    have sH : sub H (hp w28) := rdH 7 h.l
    have C : GB (hp w28) k52 x2 := gb_of h.row
    have hqr : q.right = rs := by rw [hq]
    have hg2 : gR (hp w28) (g.more q) x2 := by
      obtain ⟨h2, s2, a2⟩ := rdA (A := own 2 ta g.terms.length tc (termsV g.terms)) 4 h.l
      obtain ⟨h3, s3, a3⟩ := rdA (A := own 1 na g.nons.length nc (g.nons.map fun s => Value.string s)) 5 h.l
      obtain ⟨h4, s4, a4⟩ := rdA (A := own 1 la g.levels.length lc (iv g.levels)) 6 h.l
      obtain ⟨h5, s5, a5⟩ := rdA (A := own 1 qa rs.length qc (iv rs)) 2 h.l
      have a1 := rdA (A := own 3 pa' (g.prods.length + 1) pc' (prodsV (os ++ [(qa, qc)]) (g.prods ++ [q]))) 1 h.l
      rw [hx2]
      refine ⟨(rdT_own rfl a2).mono s2, (rdS_of_row rfl (own_rdVh a3)).mono s3, (rdI_of rfl (own_rdVh a4)).mono s4, rfl, rdP_of (by show (g.prods ++ [q]).length = g.prods.length + 1; simp) (by show (os ++ [(qa, qc)]).length = (g.prods ++ [q]).length; simp [hos]) a1 fun i o p hoi hpi => ?_, ownH_le' a2, ownH_le' a3, ownH_le' a4, ?_⟩
      · have hpi : (g.prods ++ [q])[i]? = some p := hpi
        by_cases hi : i < g.prods.length
        · rw [List.getElem?_append_left (by omega)] at hoi hpi
          exact rdRight (k := i) (o := o) (p := p) 3 h.l hoi hpi
        · have hl := (List.getElem?_eq_some_iff.1 hpi).1
          simp at hl
          have e : i = g.prods.length := by omega
          subst e
          rw [List.getElem?_append_right (by omega)] at hoi hpi
          rw [Nat.sub_self] at hpi
          rw [hos, Nat.sub_self] at hoi
          cases hoi; cases hpi
          rw [hqr]
          exact ⟨(rdI_of rfl (own_rdVh a5)).mono s5, ownH_le' a5⟩
      · obtain ⟨h1, _, a1⟩ := a1
        exact ownH_le' a1
    have hb2 : okG (g.more q) := by
      obtain ⟨b1, b2, b3, b4, b5, b6, b7⟩ := id hb
      refine ⟨b1, b2, b3, by show (g.prods ++ [q]).length * 40 ≤ _; simp; omega, b5, b6, fun p hp => ?_⟩
      rcases List.mem_append.1 hp with hp | hp
      · exact b7 p hp
      · simp at hp; subst hp; rw [hqr]; omega
    have hqok : prodOk g 0 q := by
      rw [hq]
      refine ⟨⟨by show (g.T : Int) + (0 : Nat) ≤ Lf; omega, hL2, by show (0 : Int) ≤ 0; omega, by show (0 : Int) ≤ _; omega⟩, fun s hs => ?_⟩
      have := hrr s hs
      exact ⟨this.1, this.2, fun h => by have h2 : s < (g.T : Int) + (0 : Nat) := h.2; omega⟩
    have gw28 : sub (hp w) (hp w28) := sub.trans gw2 sH
    have ht28 : tabA (hp w28) := rdV.mono sH ht2
    have hg28 := hg.mono sH
    clear h r52
    refine ⟨_, _, _, _, _, _, _, _, _, _, _, _, _, B.row sH, (d_Copy (x := x) hg28 hb hbT hbN).mono ?_⟩
    rintro _ w29 ⟨y, os3, rfl, hy, hos3, h29⟩
    have hk29 : gR (hp w29) g y := ownG_gR hy hos3 h29
    have g29 : Gr w28 w29 := rdH 5 h29.l
    refine ⟨_, _, _, _, _, _, _, _, _, _, _, _, _, rfl, (r_Productive2 (x := y) hk29 hb (rdV.mono g29 ht28)).mono ?_⟩
    rintro _ w30 ⟨oA, nA, cA, eA, nnA, rfl, hAl, rA, h30⟩
    have g30 : Gr w29 w30 := h30.gone1
    have rdA' : rdS (hp w30) nnA oA nA := rdB_of hAl (rdOwn 0 h30.l)
    have s30 : Gr w28 w30 := g29.trans g30
    refine ⟨_, _, _, _, rfl, _, _, _, _, _, _, _, _, _, _, _, _, _, C.row s30, (r_Productive2 (x := x2) (hg2.mono s30) hb2 (rdV.mono s30 ht28)).mono ?_⟩
    rintro _ w31 ⟨oB, nB, cB, eB, nnB, rfl, hBl, rB, h31⟩
    have g31 : Gr w30 w31 := h31.gone1
    have rdB' : rdS (hp w31) nnB oB nB := rdB_of hBl (rdOwn 0 h31.l)
    have s31 : Gr w28 w31 := s30.trans g31
    have aw : ∀ {w' : World}, Gr w31 w' → Run Tryd.prog n_presagelaw06_awake [] w' fun v w'' => ∃ b : Bool, v = .bool b ∧ (Value.bool b = .bool true ∧ Gr w w'') := fun {w'} gg => by
      refine (l_awake6 (rdV.mono (sub.trans s31 gg) ht28)).mono ?_
      rintro _ w'' ⟨rfl, g6⟩
      exact ⟨_, rfl, rfl, sub.trans gw28 (sub.trans s31 (sub.trans gg g6))⟩
    rcases rA with ⟨hn, _⟩ | ⟨_, rfl, pA⟩
    · exact absurd he hn
    refine ⟨_, _, _, _, rfl, _, _, _, B.c4 (sub.trans sH s31), br_intro (fun h96 => ?_) fun h96 => ?_⟩
    · have h96 : x.pl = 96 := by have h96 : (x.pl : Int) = 96 := by simpa using h96
                                 omega
      rcases rB with ⟨_, rfl, _⟩ | ⟨he2, _, _⟩
      · exact br_intro (fun _ => br_intro (fun _ => aw (Gr.refl _)) fun h => absurd h (by decide)) fun h => absurd h (by decide)
      · exfalso
        rcases he2 with h | h
        · have h2 := h.2.1.2.1
          have h2 : (g.prods ++ [q]).length ≤ 96 + 0 := h2
          simp at h2; omega
        · exact z4 h.1
    have h96 : g.prods.length < 96 := by
      have h1 : g.prods.length ≤ 96 + 0 := hv.2.1.2.1
      have h2 : ¬ (x.pl : Int) = 96 := by simpa using h96
      omega
    have hv2 := valid_more hv hqok h96
    rcases rB with ⟨hn, _⟩ | ⟨_, rfl, pB⟩
    · exact absurd (.inl hv2) hn
    have eAB : nA = nB := by rw [← hAl, ← hBl, pA.1, pB.1]; rfl
    refine ⟨fun b w' => b = false ∧ w' = w31, br_intro (fun h => absurd h (by decide)) fun _ => br_intro (fun h => absurd h (by decide)) fun _ => ⟨by rw [eAB]; simp, rfl⟩, ?_⟩
    rintro _ _ w33 ⟨rfl, rfl⟩
    refine br_intro (fun h => absurd h (by decide)) fun _ => ?_
    have hnA : nA ≤ 65 := by rw [← hAl, pA.1]; exact bN
    refine ⟨fun n w' => ∃ j : Nat, n = j ∧ j ≤ nA ∧ Gr w33 w', fun n _ => nA - n.toNat, ⟨0, rfl, by omega, Gr.refl _⟩, ?_⟩
    rintro _ n w34 ⟨j, rfl, hj, g34⟩
    refine br_intro (fun hj1 => ?_) fun _ => aw g34
    have hj1 : j < nA := by have := of_decide_eq_true hj1; omega
    obtain ⟨b6, ad6, n61, n62, n63⟩ := rdA'.get1 hj1
    obtain ⟨b7, ad7, n71, n72, n73⟩ := rdB'.get1 (i := j) (by omega)
    have nx : inI ((j : Int) + 1) ∧ (∃ j' : Nat, (j : Int) + 1 = j' ∧ j' ≤ nA ∧ Gr w33 w34) ∧ nA - ((j : Int) + 1).toNat < nA - (j : Int).toNat := ⟨⟨by omega, by omega⟩, ⟨j + 1, by simp, by omega, g34⟩, msr hj1⟩
    refine idx_i n62 hj1 ⟨b6, n63 _ (sub.trans g31 g34), br_intro (fun h6 => idx_i n72 (by omega) ⟨b7, n73 _ g34, br_intro (fun h7 => ?_) fun _ => nx⟩) fun _ => nx⟩
    have k1' := (pA.2 j).1 (by rw [fnB_get n61]; exact h6)
    have k2' := (pB.2 j).2 k1'.more
    rw [fnB_get n71] at k2'
    rw [k2'] at h7; cases h7
end
end Go.Proofs.YtaheggomcnbbiaaDoor
set_option linter.unusedVariables false
namespace Go.V
theorem fnB_symT {T : Nat} {nn : List Bool} (i : Nat) : fnB (List.replicate T true ++ nn) i = (decide (i < T) || fnB nn (i - T)) := by
  unfold fnB
  rw [List.getD_eq_getElem?_getD, List.getD_eq_getElem?_getD]
  by_cases h : i < T
  · rw [List.getElem?_append_left (by simpa using h), List.getElem?_replicate, if_pos h]; simp [h]
  · rw [List.getElem?_append_right (by simp; omega), List.length_replicate]; simp [h]
theorem UnP.sym {g : GramT} (he : EitherP g) {uns : List Bool} (h : UnP g uns) : UsP g (List.replicate g.T true ++ uns) ∧ (List.replicate g.T true ++ uns).drop g.T = uns := by
  refine ⟨⟨by simp [h.1], fun i => ?_⟩, by rw [List.drop_left' (by simp)]⟩
  rw [fnB_symT, Bool.or_eq_true, decide_eq_true_eq, h.2]
  constructor
  · rintro (h | h)
    · exact .inl h
    · by_cases hi : i < g.T
      · exact .inl hi
      · rw [show g.T + (i - g.T) = i from by omega] at h; exact .inr h
  · rintro (h | h)
    · exact .inl h
    · by_cases hi : i < g.T
      · exact .inl hi
      · right; rw [show g.T + (i - g.T) = i from by omega]; exact h
theorem keep_fit {g : GramT} {pds uns : List Bool} {p : ProdT} : keepU g pds uns p = true ↔ fnB uns (p.left.toNat - g.T) = true ∧ FitP g pds p.right := by
  unfold keepU FitP
  rw [Bool.and_eq_true, List.all_eq_true]
  simp only [Bool.or_eq_true, decide_eq_true_eq]
end Go.V
namespace Go.Proofs.YtaheggomcnbbiaaDoor
open Go.V
section
variable {w : World} {g : GramT} {x : GA}
set_option maxHeartbeats 8000000 in
theorem d_Reduce (hg : gR (hp w) g x) (hb : okG g) : Run Tryd.prog n_presageref06_Reduce [.agg ⟨x.cells⟩] w fun v w' => ∃ (x' : GA) (G : GramT) (os : List (Option Addr × Nat)) (e : Int), v = .tuple #[.agg ⟨x'.cells⟩, .int .i64 e] ∧ ownX G x' ∧ os.length = G.prods.length ∧ RedRes g e G ∧ St w' (ownG G x' os ++ all w) := by
  refine run_presageref06_Reduce _ _ _ _ _ _ _ _ _ _ _ _ _ w _ ?_
  refine gbox hg fun k1 w1 gw hg B => ?_
  have gs : sub (hp w) (hp w1) := gw
  have h1 := St.all w1
  unfold V.all at h1
  have hsx := hg.s
  have tl : g.T = x.tl := hg.t.1
  have nl : g.N = x.nl := hg.n.1
  have pl := hg.p.1
  generalize hH : hp w1 = H at *
  refine newC_i h1 fun k2 w2 h => ?_
  refine ⟨_, _, _, _, _, _, _, _, _, _, _, _, _, B.row (rdH 1 h.l), (d_Valid (x := x) (hg.mono (rdH 1 h.l)) hb).mono ?_⟩
  rintro _ w3 ⟨⟨r1, rfl, e1⟩, g3⟩
  have h := h.gr g3
  have bad : ∀ {w4 : World} {e : Int} {M : List Asn}, RedRes g e emptyG → St w4 (cel k2 [.slice none 0 0, .slice none 0 0, .slice none 0 0, .int .i64 0, .slice none 0 0] :: M) → (∀ h, starL M h → sub H h) → ∃ (x' : GA) (G : GramT) (os : List (Option Addr × Nat)) (e' : Int), Value.tuple #[.agg #[.slice none 0 0, .slice none 0 0, .slice none 0 0, .int .i64 0, .slice none 0 0], .int .i64 e] = .tuple #[.agg ⟨x'.cells⟩, .int .i64 e'] ∧ ownX G x' ∧ os.length = G.prods.length ∧ RedRes g e' G ∧ St w4 (ownG G x' os ++ all w) := fun {w4 e M} hr h hM => by
    refine ⟨noG, emptyG, [], e, rfl, ⟨rfl, rfl, rfl, rfl, rfl⟩, rfl, hr, own_noG ?_⟩
    exact has_i (sub.trans gs (hM _ h.tail))
  refine ⟨_, rfl, br_intro (fun hb1 => ?_) fun hb1 => ?_⟩
  · have hn : ¬ ValidP g := fun hv => by rw [e1.2 hv] at hb1; cases hb1
    exact stR_i h rfl (by intro v hv; simp at hv; rcases hv with rfl | rfl | rfl | rfl | rfl <;> rfl) fun w4 h => ⟨_, _, _, _, _, _, _, _, _, _, _, _, _, h.row.at (sub.refl _) rfl, bad (.inl ⟨hn, rfl, rfl⟩) h fun _ hh => rdH 0 hh⟩
  have hv : ValidP g := e1.1 (by simpa using hb1)
  have he : EitherP g := .inl hv
  obtain ⟨iG, bT, bN, pN, pT, bP⟩ := inG he
  obtain ⟨sg1, sg2⟩ := start_in he
  obtain ⟨z1, z2, z3, z4⟩ := valid_sizes hv
  obtain ⟨b1, b2, b3, b4, b5, b6, b7⟩ := id hb
  have hT' : g.T = g.terms.length := rfl
  have hN' : g.N = g.nons.length := rfl
  refine ⟨_, _, _, _, _, _, _, _, _, _, _, _, _, B.row (rdH 1 h.l), (d_Marks (x := x) (hg.mono (rdH 1 h.l)) hb he).mono ?_⟩
  rintro _ w5 ⟨km, pds, rfl, hpd, h5⟩
  have h := h5.on1 h
  refine ⟨_, _, _, rfl, _, _, _, _, _, _, _, _, _, _, _, _, _, B.row (rdH 2 h.l), (d_Used (x := x) (hg.mono (rdH 2 h.l)) hb he).mono ?_⟩
  rintro _ w6 ⟨ku, uns, rfl, hun, h6⟩
  have h := h6.on1 h
  obtain ⟨HA, hlA, h⟩ := St.freezeL [_] (M := [_, _, _]) (h.pick 4 [2, 0, 1, 3])
  have sA : sub H HA := rdH 2 hlA
  have rku : rowH HA ⟨ku, 0, none⟩ (bv uns) := rdCel 0 hlA
  have rkm : rowH HA ⟨km, 0, none⟩ (bv pds) := rdCel 1 hlA
  have hg := hg.mono sA
  have B : GB HA k1 x := ⟨fun s => B.c0 (sub.trans sA s), fun s => B.c1 (sub.trans sA s), fun s => B.c2 (sub.trans sA s), fun s => B.c3 (sub.trans sA s), fun s => B.c4 (sub.trans sA s), fun s => B.row (sub.trans sA s)⟩
  have hpl := hpd.1
  have hul := hun.1
  have cU : ∀ {w : World} {u : Nat}, sub HA (hp w) → u < g.N → w.cell? ((⟨ku, 0, none⟩ : Addr).add u) = some (.bool (fnB uns u)) := fun s hu => cel_bit (rku.mono s) (by omega)
  have cM : ∀ {w : World} {u : Nat}, sub HA (hp w) → u < g.N → w.cell? ((⟨km, 0, none⟩ : Addr).add u) = some (.bool (fnB pds u)) := fun s hu => cel_bit (rkm.mono s) (by omega)
  have esn : x.s - (x.tl : Int) = ((g.start.toNat - g.T : Nat) : Int) := by rw [hsx, ← tl]; omega
  refine ⟨_, _, _, rfl, _, B.c3 (rdH 1 h.l), _, _, _, B.c0 (rdH 1 h.l), ⟨by omega, by omega⟩, ?_⟩
  rw [esn]
  refine idx_i rfl (by omega) ⟨_, cM (rdH 1 h.l) (by omega), ?_⟩
  have hpg : fnB pds (g.start.toNat - g.T) = true ↔ Pd g g.start := by rw [hpd.2, subT sg1]
  refine br_intro (fun hb2 => ?_) fun hb2 => ?_
  · have hn : ¬ Pd g g.start := fun hp' => by rw [hpg.2 hp'] at hb2; cases hb2
    exact stR_i h rfl (by intro v hv; simp at hv; rcases hv with rfl | rfl | rfl | rfl | rfl <;> rfl) fun w10 h => ⟨_, _, _, _, _, _, _, _, _, _, _, _, _, h.row.at (sub.refl _) rfl, bad (.inr (.inl ⟨hv, hn, rfl, rfl⟩)) h fun _ hh => sub.trans sA (rdH 0 hh)⟩
  have hPd : Pd g g.start := hpg.1 (by simpa using hb2)
  refine ⟨_, _, _, _, _, _, _, _, _, _, _, _, _, B.row (rdH 1 h.l), (d_Copy (x := x) (hg.mono (rdH 1 h.l)) hb (by omega) (by omega)).mono ?_⟩
  rintro _ w8 ⟨y, os0, rfl, hy, hos0, h8⟩
  obtain ⟨ta, tl', tc, na0, nl', nc0, la, ll', lc, st', pa0, pl', pc0⟩ := y
  obtain ⟨q1, q2, q3, q4, q5⟩ := hy
  dsimp only at q1 q2 q3 q4 q5
  subst q1; subst q2; subst q3; subst q4; subst q5
  have h8 : St w8 ([own 3 pa0 g.prods.length pc0 (prodsV os0 g.prods), sta (rightsA os0 g.prods), own 2 ta g.terms.length tc (termsV g.terms), own 1 na0 g.nons.length nc0 (g.nons.map fun s => Value.string s), own 1 la g.levels.length lc (iv g.levels)] ++ [has (hp w6)]) := h8
  have h : St w8 [own 3 pa0 g.prods.length pc0 (prodsV os0 g.prods), sta (rightsA os0 g.prods), own 2 ta g.terms.length tc (termsV g.terms), own 1 na0 g.nons.length nc0 (g.nons.map fun s => Value.string s), own 1 la g.levels.length lc (iv g.levels), cel k2 [.slice none 0 0, .slice none 0 0, .slice none 0 0, .int .i64 0, .slice none 0 0], has HA] := St.on h8 h.l
  have h := h.pick 7 [2, 4, 5, 6]
  refine ⟨_, _, _, _, _, _, _, _, _, _, _, _, _, rfl, newC_i h fun k65 w9 h => stR_i h rfl (by intro v hv; simp at hv; rcases hv with rfl | rfl | rfl | rfl | rfl <;> rfl) fun w10 h => ?_⟩
  refine ⟨_, _, _, h.cell 0, _, _, _, h.cell 2, newC_i h fun k70 w11 h => newC_i h fun k71 w12 h => stR_i h rfl (by intro v hv; simp at hv; rcases hv with rfl | rfl | rfl | rfl | rfl <;> rfl) fun w13 h => ?_⟩
  have h : St w13 [cel k71 [.slice ta g.terms.length tc, .slice (some ⟨k70, 0, none⟩) 1 1, .slice la g.levels.length lc, .int .i64 0, .slice none 0 0], cel k70 [.string .empty], cel k65 _, own 2 ta g.terms.length tc (termsV g.terms), own 1 la g.levels.length lc (iv g.levels), cel k2 [.slice none 0 0, .slice none 0 0, .slice none 0 0, .int .i64 0, .slice none 0 0], has HA] := h
  have h : St w13 (own 1 (some ⟨k70, 0, none⟩) 1 1 [.string .empty] :: _) := own_some (cs := []) (vs := [.string .empty]) (h.pick 7 [1, 0, 3, 4, 5, 6]) rfl rfl (Nat.le_refl _)
  obtain ⟨n, hn⟩ : ∃ n, n = g.T + g.N := ⟨_, rfl⟩
  obtain ⟨hus, hdr⟩ := hun.sym he
  obtain ⟨bs, hbs⟩ : ∃ bs, bs = List.replicate g.T true ++ uns := ⟨_, rfl⟩
  rw [← hbs] at hus hdr
  have hbl := hus.1
  rw [← hn] at hbl
  have eTN : (x.tl : Int) + (x.nl : Int) = (n : Int) := by rw [hn]; omega
  refine ⟨_, _, _, B.c0 (rdH 5 h.l), _, _, _, B.c1 (rdH 5 h.l), ⟨by omega, by omega⟩, ?_⟩
  rw [eTN]
  refine ⟨⟨by omega, rfl, by omega⟩, ?_⟩
  rw [Int.toNat_natCast, reps_one, iv_rep, ← toF_nil g.T n uns]
  refine newC_i h fun k76 w14 h => ?_
  have em0 : (toF g.T n uns []) = toF g.T n uns (membs 0 (fnB bs)) := by simp [membs]
  rw [em0] at h
  have h : St w14 [cel k76 (iv (toF g.T n uns (membs 0 (fnB bs)))), own 1 (some ⟨k70, 0, none⟩) 1 1 [.string .empty], cel k71 [.slice ta g.terms.length tc, .slice (some ⟨k70, 0, none⟩) 1 1, .slice la g.levels.length lc, .int .i64 0, .slice none 0 0], own 2 ta g.terms.length tc (termsV g.terms), own 1 la g.levels.length lc (iv g.levels), cel k2 [.slice none 0 0, .slice none 0 0, .slice none 0 0, .int .i64 0, .slice none 0 0], has HA] := h
  refine ⟨fun m w' => ∃ j : Nat, m = j ∧ j ≤ g.T ∧ St w' [cel k76 (iv (toF g.T n uns (membs j (fnB bs)))), own 1 (some ⟨k70, 0, none⟩) 1 1 [.string .empty], cel k71 [.slice ta g.terms.length tc, .slice (some ⟨k70, 0, none⟩) 1 1, .slice la g.levels.length lc, .int .i64 0, .slice none 0 0], own 2 ta g.terms.length tc (termsV g.terms), own 1 la g.levels.length lc (iv g.levels), cel k2 [.slice none 0 0, .slice none 0 0, .slice none 0 0, .int .i64 0, .slice none 0 0], has HA], fun m _ => g.T - m.toNat, ⟨0, rfl, by omega, h⟩, ?_⟩
  clear h
  rintro _ m w15 ⟨j, rfl, hj, h⟩
  refine ⟨_, _, _, B.c0 (rdH 6 h.l), br_intro (fun hlt => ?_) fun hlt => ?_⟩
  · have hlt : j < g.T := by have := of_decide_eq_true hlt; omega
    refine idx_i rfl (by omega) ?_
    rw [add_lit0]
    refine st1_i h (by rw [iv_len, toF_len]; omega) fun w16 h => ⟨⟨by omega, by omega⟩, ⟨j + 1, by simp, by omega, ?_⟩, msr hlt⟩
    rw [iv_set] at h
    have e : (toF g.T n uns (membs j (fnB bs))).set j (j : Int) = toF g.T n uns (membs (j + 1) (fnB bs)) := by
      rw [membs_snoc, if_pos ((hus.2 j).2 (.inl hlt)), ← toF_set (by omega), num_term hlt]
    rw [e] at h
    exact h
  have hlt : j = g.T := by have := of_decide_eq_false hlt; omega
  subst hlt
  have nm0 : nmL g (membs g.T (fnB bs)) = [.empty] := by
    unfold nmL
    rw [List.filter_eq_nil_iff.2 (fun k hk => by
      unfold membs at hk
      rw [List.mem_filter, List.mem_range] at hk
      simp; omega)]
    rfl
  refine ⟨fun m w' => ∃ (j : Nat) (na : Option Addr) (nc : Nat), m = j ∧ j ≤ g.N ∧ St w' [cel k76 (iv (toF g.T n uns (membs (g.T + j) (fnB bs)))), own 1 na (nmL g (membs (g.T + j) (fnB bs))).length nc ((nmL g (membs (g.T + j) (fnB bs))).map fun s => Value.string s), cel k71 [.slice ta g.terms.length tc, .slice na (nmL g (membs (g.T + j) (fnB bs))).length nc, .slice la g.levels.length lc, .int .i64 0, .slice none 0 0], own 2 ta g.terms.length tc (termsV g.terms), own 1 la g.levels.length lc (iv g.levels), cel k2 [.slice none 0 0, .slice none 0 0, .slice none 0 0, .int .i64 0, .slice none 0 0], has HA], fun m _ => g.N - m.toNat, ⟨0, some ⟨k70, 0, none⟩, 1, rfl, by omega, ?_⟩, ?_⟩
  · rw [Nat.add_zero, nm0]; exact h
  clear h
  rintro _ m w17 ⟨j, na, nc, rfl, hj, h⟩
  refine ⟨_, _, _, B.c1 (rdH 6 h.l), br_intro (fun hlt => ?_) fun hlt => ?_⟩
  · have hlt : j < g.N := by have := of_decide_eq_true hlt; omega
    have hbj : fnB bs (g.T + j) = fnB uns j := by rw [hbs, fnB_symT, show g.T + j - g.T = j from by omega, decide_eq_false (by omega), Bool.false_or]
    refine idx_i rfl hlt ⟨_, cU (rdH 6 h.l) hlt, br_intro (fun hu => ?_) fun hu => ?_⟩
    rotate_left
    · refine ⟨⟨by omega, by omega⟩, ⟨j + 1, na, nc, by simp, by omega, ?_⟩, msr hlt⟩
      have e : membs (g.T + (j + 1)) (fnB bs) = membs (g.T + j) (fnB bs) := by
        rw [show g.T + (j + 1) = (g.T + j) + 1 from rfl, membs_snoc, hbj, hu]; simp
      rw [e]; exact h
    have es : membs (g.T + (j + 1)) (fnB bs) = membs (g.T + j) (fnB bs) ++ [g.T + j] := by
      rw [show g.T + (j + 1) = (g.T + j) + 1 from rfl, membs_snoc, hbj, hu]; rfl
    have hln : (nmL g (membs (g.T + j) (fnB bs))).length = 1 + cnt j (fnB uns) := by
      have := nmL_len (g := g) (bs := bs) (s := g.T + j) (by omega)
      rw [show g.T + j - g.T = j from by omega, hdr] at this
      exact this
    have hcn : cnt j (fnB uns) ≤ j := cnt_le _ _
    obtain ⟨nm, ad, hn1, hna, hn2⟩ := hg.n.get1 (i := j) (by omega)
    have r71 : rowH (hp w17) ⟨k71, 0, none⟩ [.slice ta g.terms.length tc, .slice na (nmL g (membs (g.T + j) (fnB bs))).length nc, .slice la g.levels.length lc, .int .i64 0, .slice none 0 0] := rdCel 2 h.l
    have eTj : (x.tl : Int) + (j : Int) = ((g.T + j : Nat) : Int) := by omega
    refine ⟨_, _, _, B.c0 (rdH 6 h.l), ⟨by omega, by omega⟩, _, _, _, B.c0 (rdH 6 h.l), _, _, _, r71.cell (sub.refl _) (j := 1) rfl, ⟨by omega, by omega⟩, ?_⟩
    rw [eTj]
    refine idx_i rfl (by omega) ?_
    rw [add_lit0]
    refine st1_i h (by rw [iv_len, toF_len]; omega) fun w18 h => ?_
    rw [iv_set] at h
    have e1 : (toF g.T n uns (membs (g.T + j) (fnB bs))).set (g.T + j) ((x.tl : Int) + ((nmL g (membs (g.T + j) (fnB bs))).length : Int)) = toF g.T n uns (membs (g.T + (j + 1)) (fnB bs)) := by
      rw [es, ← toF_set (by omega), num_non (by omega) (by rw [show g.T + j - g.T = j from by omega]; exact hu), show g.T + j - g.T = j from by omega, hln]
      congr 1
      omega
    rw [e1] at h
    intro w19 hd
    have h := h.drawn hd
    refine ⟨fun w => rowH (hp w) ⟨k71, 0, none⟩ [.slice ta g.terms.length tc, .slice na (nmL g (membs (g.T + j) (fnB bs))).length nc, .slice la g.levels.length lc, .int .i64 0, .slice none 0 0] ∧ sub HA (hp w), ⟨rdCel 2 h.l, rdH 6 h.l⟩, _, _, _, fun w s => s.1.cell (sub.refl _) (j := 1) rfl, _, _, _, fun w s => B.c1 s.2, idx_i hna (by omega) ⟨nm, fun w s => hn2 _ s.2, newC_i h fun k91 w23 h => ⟨⟨rdCel 3 h.l, rdH 7 h.l⟩, ?_⟩⟩⟩
    refine (app_one tyOk (rfl : kdOfT Ty _ = .slice _) (rfl : kdOfT Ty _ = .slice _) rfl rfl rfl (h.pick 8 [0, 2, 1, 3, 4, 5, 6, 7]) rfl (by simp [oneC]) (by show (_ + 1) * 16 ≤ _; rw [hln]; omega) (by rw [hln]; omega)).mono ?_
    rintro _ w24 ⟨o', c', rfl, h⟩
    refine ⟨_, _, _, rfl, ⟨rdCel 3 h.l, rdH 7 h.l⟩, ?_⟩
    rw [add_lit0]
    refine st1_i (h.pick 8 [3, 0, 2, 4, 5, 6, 7]) (by simp) fun w25 h => ⟨⟨by omega, by omega⟩, ⟨j + 1, o', c', by simp, by omega, ?_⟩, msr hlt⟩
    have e2 : nmL g (membs (g.T + (j + 1)) (fnB bs)) = nmL g (membs (g.T + j) (fnB bs)) ++ [nm] := by
      rw [es, nmL_hi (by omega), show g.T + j - g.T = j from by omega]
      unfold nameU
      rw [List.getD_eq_getElem?_getD, hn1]; rfl
    have e3 : (nmL g (membs (g.T + (j + 1)) (fnB bs))).length = (nmL g (membs (g.T + j) (fnB bs))).length + 1 := by rw [e2, List.length_append]; rfl
    have e4 : ((nmL g (membs (g.T + j) (fnB bs))).map fun s => Value.string s) ++ [.string nm] = (nmL g (membs (g.T + (j + 1)) (fnB bs))).map fun s => Value.string s := by rw [e2, List.map_append]; rfl
    have h : St w25 [cel k71 [.slice ta g.terms.length tc, .slice o' ((nmL g (membs (g.T + j) (fnB bs))).length + 1) c', .slice la g.levels.length lc, .int .i64 0, .slice none 0 0], own 1 o' ((nmL g (membs (g.T + j) (fnB bs))).length + 1) c' (((nmL g (membs (g.T + j) (fnB bs))).map fun s => Value.string s) ++ [.string nm]), cel k76 (iv (toF g.T n uns (membs (g.T + (j + 1)) (fnB bs)))), own 2 ta g.terms.length tc (termsV g.terms), own 1 la g.levels.length lc (iv g.levels), cel k2 [.slice none 0 0, .slice none 0 0, .slice none 0 0, .int .i64 0, .slice none 0 0], has HA] := h
    rw [e4, ← e3] at h
    exact h.pick 7 [2, 1, 0, 3, 4, 5, 6]
  have hlt : j = g.N := by have := of_decide_eq_false hlt; omega
  subst hlt
  have emb : membs (g.T + g.N) (fnB bs) = mb bs := by unfold mb; rw [hbl, hn]
  have enm : nmL g (mb bs) = nonsU g uns := by rw [nmL_all hus.1, hdr]
  rw [emb, enm] at h
  have to : ∀ {s : Int}, 0 ≤ s → s < (g.T : Int) + g.N → (toF g.T n uns (mb bs))[s.toNat]? = some (numU g.T uns s) := fun {s} h1 h2 => by
    have := toF_all he hus (s := s.toNat) (by omega)
    rw [toNat_back h1, hdr] at this
    rw [hn]; exact this
  obtain ⟨st, hst⟩ : ∃ st, st = numU g.T uns g.start := ⟨_, rfl⟩
  obtain ⟨H2, hl2, h⟩ := St.freezeL [_, _, _, _, _] (M := [_, _]) (h.pick 7 [2, 1, 3, 4, 5, 0, 6])
  have sH : sub HA H2 := rdH 1 hl2
  have r76 : rowH H2 ⟨k76, 0, none⟩ (iv (toF g.T n uns (mb bs))) := rdCel 0 hl2
  have h : St w17 [cel k71 [.slice ta g.terms.length tc, .slice na (nonsU g uns).length nc, .slice la g.levels.length lc, .int .i64 0, .slice none 0 0], own 1 na (nonsU g uns).length nc ((nonsU g uns).map fun s => Value.string s), own 2 ta g.terms.length tc (termsV g.terms), own 1 la g.levels.length lc (iv g.levels), cel k2 [.slice none 0 0, .slice none 0 0, .slice none 0 0, .int .i64 0, .slice none 0 0], has H2] := h
  have c76 : ∀ {w : World} {s : Int}, sub H2 (hp w) → 0 ≤ s → s < (g.T : Int) + g.N → w.cell? ((⟨k76, 0, none⟩ : Addr).add s.toNat) = some (.int .i64 (numU g.T uns s)) := fun s h1 h2 => cel_num (r76.mono s) (to h1 h2)
  refine ⟨_, B.c3 (sub.trans sH (rdH 5 h.l)), ?_⟩
  rw [hsx, ← toNat_back (show (0 : Int) ≤ g.start by omega)]
  refine idx_i rfl (by omega) ⟨_, c76 (rdH 5 h.l) (by omega) (by omega), ?_⟩
  rw [← hst, add_lit0]
  refine st1_i h (by simp) fun w26 h => ?_
  have h : St w26 [cel k71 [.slice ta g.terms.length tc, .slice na (nonsU g uns).length nc, .slice la g.levels.length lc, .int .i64 st, .slice none 0 0], own 1 na (nonsU g uns).length nc ((nonsU g uns).map fun s => Value.string s), own 2 ta g.terms.length tc (termsV g.terms), own 1 la g.levels.length lc (iv g.levels), cel k2 [.slice none 0 0, .slice none 0 0, .slice none 0 0, .int .i64 0, .slice none 0 0], has H2] := h
  refine ⟨_, _, _, B.c0 (sub.trans sH (rdH 5 h.l)), _, h.cell 3, newC_i h fun k73 w42 h => newC_i h fun k74 w43 h => ?_⟩
  rw [add_lit0]
  rw [← tl] at h
  refine st1_i (h.pick 8 [2, 0, 1, 3, 4, 5, 6, 7]) (by simp) fun w44 h => ?_
  obtain ⟨K, hK⟩ := name_it (fun (pa : Option Addr) (m pc : Nat) => [Value.slice ta g.terms.length tc, .slice na (nonsU g uns).length nc, .slice la g.levels.length lc, .int .i64 st, .slice pa m pc])
  have h : St w44 [cel k71 (K (some ⟨k74, 0, none⟩) 1 1), cel k74 [.int .i64 (g.T : Int), .slice (some ⟨k73, 0, none⟩) 1 1, .int .i64 0], cel k73 (iv [st]), own 1 na (nonsU g uns).length nc ((nonsU g uns).map fun s => Value.string s), own 2 ta g.terms.length tc (termsV g.terms), own 1 la g.levels.length lc (iv g.levels), cel k2 [.slice none 0 0, .slice none 0 0, .slice none 0 0, .int .i64 0, .slice none 0 0], has H2] := by rw [hK]; exact h
  have h73 : St w44 (own 1 (some ⟨k73, 0, none⟩) 1 1 (iv [st]) :: _) := own_some (cs := []) (vs := iv [st]) (h.pick 8 [2, 0, 1, 3, 4, 5, 6, 7]) rfl rfl (Nat.le_refl _)
  have h74 : St w44 (own 3 (some ⟨k74, 0, none⟩) 1 1 (prodsV [(some ⟨k73, 0, none⟩, 1)] [firstU g uns]) :: _) := own_some (cs := []) (vs := prodsV [(some ⟨k73, 0, none⟩, 1)] [firstU g uns]) (b := k74) (by
    have := h73.pick 8 [2, 0, 1, 3, 4, 5, 6, 7]
    rw [List.append_nil]
    have e : prodsV [(some ⟨k73, 0, none⟩, 1)] [firstU g uns] = [.int .i64 (g.T : Int), .slice (some ⟨k73, 0, none⟩) 1 1, .int .i64 0] := rfl
    rw [e]; exact this) rfl rfl (Nat.le_refl _)
  obtain ⟨PS, hPS⟩ := name_it (fun (j : Nat) => firstU g uns :: keptU g pds uns (g.prods.take j))
  have h : St w44 [own 1 (some ⟨k73, 0, none⟩) 1 1 (iv [st]), sta (rightsA [] []), cel k71 (K (some ⟨k74, 0, none⟩) 1 1), own 3 (some ⟨k74, 0, none⟩) 1 1 (prodsV [(some ⟨k73, 0, none⟩, 1)] [firstU g uns]), own 1 na (nonsU g uns).length nc ((nonsU g uns).map fun s => Value.string s), own 2 ta g.terms.length tc (termsV g.terms), own 1 la g.levels.length lc (iv g.levels), cel k2 [.slice none 0 0, .slice none 0 0, .slice none 0 0, .int .i64 0, .slice none 0 0], has H2] := by
    have h6 : St w44 (sta (rightsA [] []) :: _) := St.flat.2 (show St w44 ([] ++ _) from h74)
    exact h6.pick 9 [2, 0, 3, 1, 4, 5, 6, 7, 8]
  have h := St.snoc (A := own 1 (some ⟨k73, 0, none⟩) 1 1 (iv [st])) (M := rightsA [] []) h
  have eR0 : (rightsA [] [] ++ [own 1 (some ⟨k73, 0, none⟩) 1 1 (iv [st])]) = rightsA [((some ⟨k73, 0, none⟩ : Option Addr), 1)] [firstU g uns] := by
    unfold rightsA firstU; rw [← hst]; rfl
  rw [eR0] at h
  have hlk : ∀ j, (PS j).length ≤ 1 + j := fun j => by
    rw [hPS]
    have := List.length_filter_le (keepU g pds uns) (g.prods.take j)
    simp only [List.length_cons, keptU, List.length_map]
    rw [List.length_take] at this
    omega
  refine ⟨fun n w' => ∃ (j : Nat) (pa : Option Addr) (pc : Nat) (os : List (Option Addr × Nat)), n = j ∧ j ≤ g.prods.length ∧ os.length = (PS j).length ∧ St w' [cel k71 (K pa (PS j).length pc), own 3 pa (PS j).length pc (prodsV os (PS j)), sta (rightsA os (PS j)), own 1 na (nonsU g uns).length nc ((nonsU g uns).map fun s => Value.string s), own 2 ta g.terms.length tc (termsV g.terms), own 1 la g.levels.length lc (iv g.levels), cel k2 [.slice none 0 0, .slice none 0 0, .slice none 0 0, .int .i64 0, .slice none 0 0], has H2], fun n _ => g.prods.length - n.toNat, ⟨0, some ⟨k74, 0, none⟩, 1, [(some ⟨k73, 0, none⟩, 1)], rfl, by omega, by rw [hPS]; rfl, ?_⟩, ?_⟩
  · have e0 : PS 0 = [firstU g uns] := by rw [hPS]; simp [keptU]
    rw [e0]
    exact h.pick 8 [1, 2, 0, 3, 4, 5, 6, 7]
  clear h h73 h74
  rintro _ n2 w45 ⟨j, pa, pc, os, rfl, hj, hos, h⟩
  have sH1 : ∀ {w : World}, sub H2 (hp w) → sub HA (hp w) := fun s => sub.trans sH s
  refine ⟨_, _, _, B.c4 (sH1 (rdH 7 h.l)), br_intro (fun h2 => ?_) fun h2 => ?_⟩
  rotate_left
  · have h2 : j = g.prods.length := by have := of_decide_eq_false h2; omega
    subst h2
    have eP : PS g.prods.length = (redG g pds uns).prods := by rw [hPS]; simp [redG, List.take_length]
    rw [eP] at h hos
    have r54 : rowH (hp w45) ⟨k71, 0, none⟩ (K pa (redG g pds uns).prods.length pc) := rdCel 0 h.l
    rw [hK] at r54
    refine ⟨_, _, _, _, _, _, _, _, _, _, _, _, _, r54.at (sub.refl _) rfl, stR_i (h.pick 8 [6, 1, 2, 3, 4, 5, 7]) rfl (by intro v hv; simp at hv; rcases hv with rfl | rfl | rfl | rfl | rfl <;> rfl) fun w68 h => ?_⟩
    refine ⟨_, _, _, _, _, _, _, _, _, _, _, _, _, h.row.at (sub.refl _) rfl, ?_⟩
    refine ⟨⟨ta, g.terms.length, tc, na, (nonsU g uns).length, nc, la, g.levels.length, lc, st, pa, (redG g pds uns).prods.length, pc⟩, redG g pds uns, os, 0, rfl, ⟨rfl, rfl, rfl, hst, rfl⟩, hos, .inr (.inr ⟨hv, hPd, rfl, pds, uns, hpd, hun, rfl⟩), ?_⟩
    exact St.on (N := [_, _, _, _, _]) (h.pick 7 [1, 2, 4, 3, 5, 6]) (has_i (sub.trans gs (sub.trans sA sH)))
  have h2 : j < g.prods.length := by have := of_decide_eq_true h2; omega
  obtain ⟨p, ad, vs, hp1, hpa, hp2, ra, rl, rc, rfl, hrc, hp3⟩ := hg.p.get (i := j) (by omega)
  have hpm := List.mem_of_getElem? hp1
  obtain ⟨hpl', hpr⟩ := iG p hpm
  have b7' := b7 p hpm
  have rl1 := hp3.1
  have et : g.prods.take (j + 1) = g.prods.take j ++ [p] := by rw [List.take_add_one, hp1]; rfl
  have hPj : PS (j + 1) = PS j ++ (if keepU g pds uns p then [prodU g uns p] else []) := by
    rw [hPS]; dsimp only; rw [et, keptU_snoc]; rfl
  have hkq := keep_fit (g := g) (pds := pds) (uns := uns) (p := p)
  have hlj := hlk j
  have nxF : ∀ {w' : World}, ¬ keepU g pds uns p = true → St w' [cel k71 (K pa (PS j).length pc), own 3 pa (PS j).length pc (prodsV os (PS j)), sta (rightsA os (PS j)), own 1 na (nonsU g uns).length nc ((nonsU g uns).map fun s => Value.string s), own 2 ta g.terms.length tc (termsV g.terms), own 1 la g.levels.length lc (iv g.levels), cel k2 [.slice none 0 0, .slice none 0 0, .slice none 0 0, .int .i64 0, .slice none 0 0], has H2] → inI ((j : Int) + 1) ∧ (∃ (j' : Nat) (pa : Option Addr) (pc : Nat) (os : List (Option Addr × Nat)), (j : Int) + 1 = j' ∧ j' ≤ g.prods.length ∧ os.length = (PS j').length ∧ St w' [cel k71 (K pa (PS j').length pc), own 3 pa (PS j').length pc (prodsV os (PS j')), sta (rightsA os (PS j')), own 1 na (nonsU g uns).length nc ((nonsU g uns).map fun s => Value.string s), own 2 ta g.terms.length tc (termsV g.terms), own 1 la g.levels.length lc (iv g.levels), cel k2 [.slice none 0 0, .slice none 0 0, .slice none 0 0, .int .i64 0, .slice none 0 0], has H2]) ∧ g.prods.length - ((j : Int) + 1).toNat < g.prods.length - (j : Int).toNat := fun {w'} hk h => by
    have e : PS (j + 1) = PS j := by rw [hPj, if_neg hk]; simp
    refine ⟨⟨by omega, by omega⟩, ⟨j + 1, pa, pc, os, by simp, by omega, by rw [e]; exact hos, ?_⟩, msr h2⟩
    rw [e]; exact h
  refine ⟨_, _, _, B.c4 (sH1 (rdH 7 h.l)), idx_n hpa (by omega) ⟨_, _, _, _, _, hp2.at (sH1 (rdH 7 h.l)) rfl, newC_i h fun k79 w46 h => stR_i h rfl (by simp [oneC]) fun w47 h => ?_⟩⟩
  have r79 : rowH (hp w47) ⟨k79, 0, none⟩ [.int .i64 p.left, .slice ra rl rc, .int .i64 p.level] := rdCel 0 h.l
  have eu : p.left - (x.tl : Int) = ((p.left.toNat - g.T : Nat) : Int) := by rw [← tl]; omega
  refine ⟨_, r79.cell0 (sub.refl _), _, _, _, B.c0 (sH1 (rdH 8 h.l)), ⟨by omega, by omega⟩, ?_⟩
  rw [eu]
  refine idx_i rfl (by omega) ⟨_, cU (sH1 (rdH 8 h.l)) (by omega), br_intro (fun h5 => nxF (fun hk => by rw [(hkq.1 hk).1] at h5; cases h5) (h.pick 9 [1, 2, 3, 4, 5, 6, 7, 8])) fun h5 => ?_⟩
  have h5 : fnB uns (p.left.toNat - g.T) = true := by simpa using h5
  have rn : rdS (hp w47) pds (some ⟨km, 0, none⟩) g.N := rdB_of hpl (.inr ⟨_, rfl, rkm.mono (sH1 (rdH 8 h.l))⟩)
  refine ⟨_, _, _, _, _, _, _, _, _, _, _, _, _, B.row (sH1 (rdH 8 h.l)), _, _, _, r79.cell (sub.refl _) (j := 1) rfl, (d_Fits (x := x) (hg.mono (sH1 (rdH 8 h.l))) rn hpl (hp3.mono (sH1 (rdH 8 h.l))) (fun s hs => hpr s hs) (by omega) bT bN).mono ?_⟩
  rintro _ w49 ⟨⟨r, rfl, hr⟩, g49⟩
  have h := h.gr g49
  refine ⟨_, rfl, br_intro (fun h6 => nxF (fun hk => by rw [hr.2 (hkq.1 hk).2] at h6; cases h6) (h.pick 9 [1, 2, 3, 4, 5, 6, 7, 8])) fun h6 => ?_⟩
  have hkT : keepU g pds uns p = true := hkq.2 ⟨h5, hr.1 (by simpa using h6)⟩
  intro w50 hd
  have h := h.drawn hd
  have eL : p.left = ((p.left.toNat : Nat) : Int) := by omega
  refine ⟨fun w => rowH (hp w) ⟨k79, 0, none⟩ [.int .i64 p.left, .slice ra rl rc, .int .i64 p.level] ∧ sub H2 (hp w), ⟨rdCel 0 h.l, rdH 8 h.l⟩, _, fun w s => s.1.cell0 (sub.refl _), ?_⟩
  rw [eL]
  refine idx_i rfl (by omega) ⟨_, fun w s => c76 s.2 (by omega) (by omega), p.level, fun w s => s.1.cell (sub.refl _) (j := 2) rfl, newC_i h fun k84 w55 h => ⟨⟨by rw [← eL]; exact rdCel 1 h.l, rdH 9 h.l⟩, stR_i h rfl (by simp [oneC]) fun w56 h => ?_⟩⟩
  obtain ⟨M, hM⟩ : ∃ M, M = [cel k71 (K pa (PS j).length pc), own 3 pa (PS j).length pc (prodsV os (PS j)), sta (rightsA os (PS j)), own 1 na (nonsU g uns).length nc ((nonsU g uns).map fun s => Value.string s), own 2 ta g.terms.length tc (termsV g.terms), own 1 la g.levels.length lc (iv g.levels), cel k2 [.slice none 0 0, .slice none 0 0, .slice none 0 0, .int .i64 0, .slice none 0 0], has H2] := ⟨_, rfl⟩
  have sM : ∀ {w : World} {A1 A2 A3 : Asn}, St w (A1 :: A2 :: A3 :: M) → sub H2 (hp w) := fun {w A1 A2 A3} h => by rw [hM] at h; exact rdH 10 h.l
  refine ⟨fun n w' => ∃ (i : Nat) (qa : Option Addr) (qc : Nat), n = i ∧ i ≤ rl ∧ St w' (cel k84 [.int .i64 (numU g.T uns p.left), .slice qa i qc, .int .i64 p.level] :: own 1 qa i qc (iv ((p.right.take i).map (numU g.T uns))) :: cel k79 [.int .i64 p.left, .slice ra rl rc, .int .i64 p.level] :: M), fun n _ => rl - n.toNat, ⟨0, none, 0, rfl, by omega, ?_⟩, ?_⟩
  · have h := own_nil 1 h
    rw [hM]
    exact h.swap
  clear h
  rintro _ n28 w57 ⟨i, qa, qc, rfl, hi', h⟩
  have r79' : rowH (hp w57) ⟨k79, 0, none⟩ [.int .i64 p.left, .slice ra rl rc, .int .i64 p.level] := rdCel 2 h.l
  refine ⟨_, _, _, r79'.cell (sub.refl _) (j := 1) rfl, br_intro (fun h7 => ?_) fun h7 => ?_⟩
  · have h7 : i < rl := by have := of_decide_eq_true h7; omega
    obtain ⟨s, ad2, hs1, hsa, hs2⟩ := hp3.get1 h7
    have hsr := hpr s (List.mem_of_getElem? hs1)
    have es : s = ((s.toNat : Nat) : Int) := by omega
    have et2 : p.right.take (i + 1) = p.right.take i ++ [s] := by rw [List.take_add_one, hs1]; rfl
    intro w58 hd
    have h := h.drawn hd
    refine ⟨fun w => rowH (hp w) ⟨k84, 0, none⟩ [.int .i64 (numU g.T uns p.left), .slice qa i qc, .int .i64 p.level] ∧ rowH (hp w) ⟨k79, 0, none⟩ [.int .i64 p.left, .slice ra rl rc, .int .i64 p.level] ∧ sub H2 (hp w), ⟨rdCel 0 h.l, rdCel 2 h.l, sM h⟩, _, _, _, fun w s => s.1.cell (sub.refl _) (j := 1) rfl, _, _, _, fun w s => s.2.1.cell (sub.refl _) (j := 1) rfl, idx_i hsa h7 ⟨s, fun w q => hs2 _ (sH1 q.2.2), ?_⟩⟩
    rw [es]
    refine idx_i rfl (by omega) ⟨_, fun w q => c76 q.2.2 (by omega) (by omega), newC_i h fun k91 w62 h => ⟨⟨rdCel 1 h.l, rdCel 3 h.l, sM h.tail⟩, ?_⟩⟩
    refine (app_one tyOk (rfl : kdOfT Ty _ = .slice _) (rfl : kdOfT Ty _ = .slice _) rfl rfl rfl (h.pick 4 [0, 2, 1, 3]) rfl (by simp [oneC]) (by show (i + 1) * 8 ≤ _; omega) (by omega)).mono ?_
    rintro _ w63 ⟨o', c', rfl, h⟩
    have h : St w63 (own 1 o' (i + 1) c' (iv ((p.right.take i).map (numU g.T uns)) ++ [.int .i64 (numU g.T uns s)]) :: cel k91 [.int .i64 (numU g.T uns s)] :: cel k84 [.int .i64 (numU g.T uns p.left), .slice qa i qc, .int .i64 p.level] :: cel k79 [.int .i64 p.left, .slice ra rl rc, .int .i64 p.level] :: M) := h
    refine ⟨_, _, _, rfl, ⟨rdCel 2 h.l, rdCel 3 h.l, sM h.tail⟩, ?_⟩
    rw [add_lit0]
    refine st1_i (h.pick 4 [2, 0, 3]) (by simp) fun w64 h => ⟨⟨by omega, by omega⟩, ⟨i + 1, o', c', by simp, by omega, ?_⟩, msr h7⟩
    have e : iv ((p.right.take i).map (numU g.T uns)) ++ [.int .i64 (numU g.T uns s)] = iv ((p.right.take (i + 1)).map (numU g.T uns)) := by rw [et2]; simp [iv]
    rw [e] at h
    exact h
  have h7 : i = rl := by have := of_decide_eq_false h7; omega
  have hcur := h
  subst h7
  rw [List.take_of_length_le (by omega)] at hcur
  have h := hcur
  have hqr : (prodU g uns p).right.length = i := by show (p.right.map _).length = i; rw [List.length_map]; omega
  have h : St w57 (cel k84 (prodV ((qa, qc), prodU g uns p)) :: own 1 qa i qc (iv (prodU g uns p).right) :: cel k79 [.int .i64 p.left, .slice ra i rc, .int .i64 p.level] :: M) := by
    unfold prodV; dsimp only; rw [hqr]; exact h
  rw [hM] at h
  have r54 : rowH (hp w57) ⟨k71, 0, none⟩ (K pa (PS j).length pc) := rdCel 3 h.l
  rw [hK] at r54
  refine ⟨_, _, _, r54.cell (sub.refl _) (j := 4) rfl, _, _, _, _, _, h.row.at (sub.refl _) rfl, newC_i h fun k98 w65 h => ?_⟩
  have h : St w65 [cel k98 (prodV ((qa, qc), prodU g uns p)), cel k84 (prodV ((qa, qc), prodU g uns p)), own 1 qa i qc (iv (prodU g uns p).right), cel k79 [.int .i64 p.left, .slice ra i rc, .int .i64 p.level], cel k71 (K pa (PS j).length pc), own 3 pa (PS j).length pc (prodsV os (PS j)), sta (rightsA os (PS j)), own 1 na (nonsU g uns).length nc ((nonsU g uns).map fun s => Value.string s), own 2 ta g.terms.length tc (termsV g.terms), own 1 la g.levels.length lc (iv g.levels), cel k2 [.slice none 0 0, .slice none 0 0, .slice none 0 0, .int .i64 0, .slice none 0 0], has H2] := h
  refine (app_one tyOk (rfl : kdOfT Ty _ = .slice _) (rfl : kdOfT Ty _ = .slice _) rfl rfl rfl (h.pick 12 [0, 5, 2, 4, 6, 7, 8, 9, 10, 11]) rfl (by simp [oneC, prodV]) (by show ((PS j).length + 1) * 40 ≤ _; omega) (by show (PS j).length < _; omega)).mono ?_
  rintro _ w66 ⟨pa', pc', rfl, h⟩
  refine ⟨_, _, _, rfl, ?_⟩
  refine st1_i (h.pick 10 [3, 0, 2, 4, 5, 6, 7, 8, 9]) (by rw [hK]; simp) fun w67 h => ?_
  have eK : (K pa (PS j).length pc).set 4 (.slice pa' ((PS j).length + 1) pc') = K pa' ((PS j).length + 1) pc' := by rw [hK]; rfl
  have ePj : PS (j + 1) = PS j ++ [prodU g uns p] := by rw [hPj, hkT]; rfl
  have eln : (PS (j + 1)).length = (PS j).length + 1 := by rw [ePj, List.length_append]; rfl
  have h : St w67 [cel k71 (K pa' ((PS j).length + 1) pc'), own 3 pa' ((PS j).length + 1) pc' (prodsV os (PS j) ++ prodV ((qa, qc), prodU g uns p)), own 1 qa i qc (iv (prodU g uns p).right), sta (rightsA os (PS j)), own 1 na (nonsU g uns).length nc ((nonsU g uns).map fun s => Value.string s), own 2 ta g.terms.length tc (termsV g.terms), own 1 la g.levels.length lc (iv g.levels), cel k2 [.slice none 0 0, .slice none 0 0, .slice none 0 0, .int .i64 0, .slice none 0 0], has H2] := by rw [← eK]; exact h
  have h := St.snoc (A := own 1 qa i qc (iv (prodU g uns p).right)) (M := rightsA os (PS j)) (h.pick 9 [2, 3, 0, 1, 4, 5, 6, 7, 8])
  have e1 := rightsA_snoc hos (qa, qc) (prodU g uns p)
  have e2 := prodsV_snoc hos (qa, qc) (prodU g uns p)
  dsimp only at e1
  rw [hqr] at e1
  rw [← e1, ← e2, ← ePj] at h
  refine ⟨⟨by omega, by omega⟩, ⟨j + 1, pa', pc', os ++ [(qa, qc)], by simp, by omega, by rw [eln, List.length_append, hos]; rfl, ?_⟩, msr h2⟩
  rw [eln]
  exact h.pick 8 [1, 2, 0, 3, 4, 5, 6, 7]
end
end Go.Proofs.YtaheggomcnbbiaaDoor
set_option linter.unusedVariables false
namespace Go.V
theorem mayStore_off {w : World} {b o : Nat} : ∀ (vs : List Value) (i : Nat), mayStore w ⟨b, 0, none⟩ (o + i) vs → mayStore w ⟨b, o, none⟩ i vs
  | [], i, _ => trivial
  | v :: vs, i, ⟨h1, h2, h3, h4⟩ => by
    rw [add_lit0] at h2 h3
    refine ⟨h1, ?_, ?_, mayStore_off vs (i + 1) h4⟩
    · rw [add_lit]; exact h2
    · rw [add_lit]; exact h3
theorem storeRow_off {b o : Nat} : ∀ (vs : List Value) (i : Nat) (w : World), storeRow w ⟨b, o, none⟩ i vs = storeRow w ⟨b, 0, none⟩ (o + i) vs
  | [], i, w => rfl
  | v :: vs, i, w => by
    simp only [storeRow]
    rw [add_lit, add_lit0, storeRow_off vs (i + 1)]
    rfl
theorem own_stR {w : World} {L : List Asn} {sz l c i : Nat} {a : Option Addr} {ad : Addr} {us vs : List Value} {k : World → Prop} (h : St w (own sz a l c us :: L)) (ha : a = some ad) (hi : i + vs.length ≤ us.length) (h1 : ∀ v ∈ vs, oneC v = true) (h0 : 0 < vs.length)
    (hk : ∀ w', St w' (own sz a l c (us.take i ++ vs ++ us.drop (i + vs.length)) :: L) → k w') : stR w (ad.add i) vs k := by
  rcases own_cases h with ⟨rfl, _, _, _⟩ | ⟨b, pre, cs, post, rfl, hc, e1, e2, e3⟩
  · cases ha
  · cases ha
    rw [add_lit]
    have hl : (pre.length + i) + vs.length ≤ (pre ++ (us ++ (cs ++ post))).length := by simp only [List.length_append]; omega
    refine ⟨mayStore_off vs 0 (mayStore_i hc vs _ hl h1), fun w' hw => ?_⟩
    subst hw
    rw [storeRow_off]
    have h2 := storeRow_st vs _ (pre.length + i) hl hc
    refine hk _ ?_
    have e : (pre ++ (us ++ (cs ++ post))).take (pre.length + i) ++ vs ++ (pre ++ (us ++ (cs ++ post))).drop (pre.length + i + vs.length) = pre ++ ((us.take i ++ vs ++ us.drop (i + vs.length)) ++ (cs ++ post)) := by
      rw [List.take_append, List.take_of_length_le (by omega), Nat.add_sub_cancel_left, List.take_append_of_le_length (by omega)]
      rw [show pre.length + i + vs.length = pre.length + (i + vs.length) from by omega, List.drop_append, List.drop_of_length_le (by omega), Nat.add_sub_cancel_left, List.drop_append_of_le_length (by omega)]
      simp
    rw [e] at h2
    have el : (us.take i ++ vs ++ us.drop (i + vs.length)).length = us.length := by simp only [List.length_append, List.length_take, List.length_drop]; omega
    refine own_some' h2 (by rw [el]; exact e1) ?_ e3
    rw [List.length_append, el, ← List.length_append]; exact e2
def rsP (os : List (Option Addr × Nat)) (ps : List ProdT) : List RowO := List.zipWith (fun o p => (o.1, p.right.length, o.2, iv p.right)) os ps
theorem rsP_A (os : List (Option Addr × Nat)) (ps : List ProdT) : rightsA os ps = rsA (rsP os ps) := by
  unfold rightsA rsA rsP; rw [List.map_zipWith]
end Go.V
namespace Go.Proofs.YtaheggomcnbbiaaDoor
open Go.V
section
variable {w : World} {G : GramT} {x : GA} {os : List (Option Addr × Nat)} {H : Hp}
set_option maxHeartbeats 4000000 in
theorem l_spoil (hx : ownX G x) (hos : os.length = G.prods.length) (hb : okG G) (h : St w (ownG G x os ++ [has H])) : Run Tryd.prog n_presagelaw06_spoil [.agg ⟨x.cells⟩] w fun v w' => v = .tuple #[] ∧ St w' [has H] := by
  refine run_presagelaw06_spoil _ _ _ _ _ _ _ _ _ _ _ _ _ w _ ?_
  obtain ⟨b1, b2, b3, b4, b5, b6, b7⟩ := hb
  obtain ⟨ta, tl', tc, na, nl', nc, la, ll', lc, st', pa, pl', pc⟩ := x
  obtain ⟨q1, q2, q3, q4, q5⟩ := hx
  dsimp only at q1 q2 q3 q4 q5
  subst q1; subst q2; subst q3; subst q4; subst q5
  have h : St w [own 3 pa G.prods.length pc (prodsV os G.prods), sta (rightsA os G.prods), own 2 ta G.terms.length tc (termsV G.terms), own 1 na G.nons.length nc (G.nons.map fun s => Value.string s), own 1 la G.levels.length lc (iv G.levels), has H] := h
  refine newC_i h fun k1 w1 h => ?_
  obtain ⟨HB, hlB, h⟩ := St.freezeL [_, _, _, _, _] (M := [_, _]) (h.pick 7 [1, 2, 3, 4, 5, 0, 6])
  have B : GB HB k1 ⟨ta, G.terms.length, tc, na, G.nons.length, nc, la, G.levels.length, lc, G.start, pa, G.prods.length, pc⟩ := gb_of (rdCel 0 hlB)
  have sH : sub H HB := rdH 1 hlB
  have h : St w1 [own 2 ta G.terms.length tc (termsV G.terms), own 1 na G.nons.length nc (G.nons.map fun s => Value.string s), own 1 la G.levels.length lc (iv G.levels), own 3 pa G.prods.length pc (prodsV os G.prods), sta (rsA (rsP os G.prods)), has HB] := by rw [← rsP_A]; exact h.pick 6 [2, 3, 4, 0, 1, 5]
  refine ⟨fun n w' => ∃ (j : Nat) (us : List Value), n = j ∧ j ≤ G.terms.length ∧ us.length = G.terms.length * 2 ∧ St w' [own 2 ta G.terms.length tc us, own 1 na G.nons.length nc (G.nons.map fun s => Value.string s), own 1 la G.levels.length lc (iv G.levels), own 3 pa G.prods.length pc (prodsV os G.prods), sta (rsA (rsP os G.prods)), has HB], fun n _ => G.terms.length - n.toNat, ⟨0, termsV G.terms, rfl, by omega, termsV_len _, h⟩, ?_⟩
  clear h
  rintro _ n w2 ⟨j, us, rfl, hj, hul, h⟩
  refine ⟨_, _, _, B.c0 (rdH 5 h.l), br_intro (fun hlt => ?_) fun _ => ?_⟩
  · have hlt : j < G.terms.length := by have := of_decide_eq_true hlt; dsimp only at this; omega
    obtain ⟨ad, had⟩ := own_addr h (by omega)
    refine ⟨_, _, _, B.c0 (rdH 5 h.l), idx_n had hlt ?_⟩
    rw [mulS_eq]
    refine own_stR h had (by simp; omega) (by intro v hv; simp at hv; rcases hv with rfl | rfl <;> rfl) (by simp) fun w3 h => ⟨⟨by omega, by omega⟩, ⟨j + 1, _, by simp, by omega, ?_, h⟩, by dsimp only; omega⟩
    simp only [List.length_append, List.length_take, List.length_drop, List.length_cons, List.length_nil]; omega
  have h : St w2 [own 1 na G.nons.length nc (G.nons.map fun s => Value.string s), own 1 la G.levels.length lc (iv G.levels), own 3 pa G.prods.length pc (prodsV os G.prods), sta (rsA (rsP os G.prods)), has HB] := h.pick 6 [1, 2, 3, 4, 5]
  refine ⟨fun n w' => ∃ (j : Nat) (us : List Value), n = j ∧ j ≤ G.nons.length ∧ us.length = G.nons.length ∧ St w' [own 1 na G.nons.length nc us, own 1 la G.levels.length lc (iv G.levels), own 3 pa G.prods.length pc (prodsV os G.prods), sta (rsA (rsP os G.prods)), has HB], fun n _ => G.nons.length - n.toNat, ⟨0, _, rfl, by omega, by simp, h⟩, ?_⟩
  clear h
  rintro _ n w4 ⟨j2, us2, rfl, hj2, hul2, h⟩
  refine ⟨_, _, _, B.c1 (rdH 4 h.l), br_intro (fun hlt => ?_) fun _ => ?_⟩
  · have hlt : j2 < G.nons.length := by have := of_decide_eq_true hlt; dsimp only at this; omega
    obtain ⟨ad, had⟩ := own_addr h (by omega)
    exact ⟨_, _, _, B.c1 (rdH 4 h.l), idx_i had hlt (own_st1 h had (by omega) fun w5 h => ⟨⟨by omega, by omega⟩, ⟨j2 + 1, _, by simp, by omega, by rw [List.length_set]; exact hul2, h⟩, by dsimp only; omega⟩)⟩
  have h : St w4 [own 1 la G.levels.length lc (iv G.levels), own 3 pa G.prods.length pc (prodsV os G.prods), sta (rsA (rsP os G.prods)), has HB] := h.pick 5 [1, 2, 3, 4]
  refine ⟨fun n w' => ∃ (j : Nat) (us : List Value), n = j ∧ j ≤ G.levels.length ∧ us.length = G.levels.length ∧ St w' [own 1 la G.levels.length lc us, own 3 pa G.prods.length pc (prodsV os G.prods), sta (rsA (rsP os G.prods)), has HB], fun n _ => G.levels.length - n.toNat, ⟨0, _, rfl, by omega, by rw [iv_len], h⟩, ?_⟩
  clear h
  rintro _ n w6 ⟨j3, us3, rfl, hj3, hul3, h⟩
  refine ⟨_, _, _, B.c2 (rdH 3 h.l), br_intro (fun hlt => ?_) fun _ => ?_⟩
  · have hlt : j3 < G.levels.length := by have := of_decide_eq_true hlt; dsimp only at this; omega
    obtain ⟨ad, had⟩ := own_addr h (by omega)
    exact ⟨_, _, _, B.c2 (rdH 3 h.l), idx_i had hlt (own_st1 h had (by omega) fun w5 h => ⟨⟨by omega, by omega⟩, ⟨j3 + 1, _, by simp, by omega, by rw [List.length_set]; exact hul3, h⟩, by dsimp only; omega⟩)⟩
  have h : St w6 [own 3 pa G.prods.length pc (prodsV os G.prods), sta (rsA (rsP os G.prods)), has HB] := h.pick 4 [1, 2, 3]
  have hR0 : ∀ (k : Nat) r, (rsP os G.prods)[k]? = some r → r.2.1 ≤ 17592186043904 ∧ (prodsV os G.prods)[k * 3 + 1]? = some (.slice r.1 r.2.1 r.2.2.1) := fun k r hk => by
    unfold rsP at hk
    rw [List.getElem?_zipWith] at hk
    cases h1 : os[k]? with
    | none => rw [h1] at hk; cases hk
    | some o =>
      cases h2 : G.prods[k]? with
      | none => rw [h1, h2] at hk; cases hk
      | some p =>
        rw [h1, h2] at hk; cases hk
        refine ⟨b7 p (List.mem_of_getElem? h2), ?_⟩
        show (prodsV os G.prods)[k * 3 + 1]? = some (.slice o.1 p.right.length o.2)
        have hz : (os.zip G.prods)[k]? = some (o, p) := by rw [List.getElem?_zip_eq_some]; exact ⟨h1, h2⟩
        unfold prodsV
        generalize os.zip G.prods = zs at hz
        clear h1 h2 hlB h B
        induction zs generalizing k with
        | nil => simp at hz
        | cons z zs ih =>
          rw [List.flatMap_cons]
          match k, hz with
          | 0, hz => cases hz; rfl
          | k + 1, hz =>
            rw [List.getElem?_append_right (by simp [prodV]; omega)]
            have := ih k hz
            rw [show (k + 1) * 3 + 1 - (prodV z).length = k * 3 + 1 from by simp [prodV]; omega]
            exact this
  have hrl0 : (rsP os G.prods).length = G.prods.length := by unfold rsP; rw [List.length_zipWith]; omega
  refine ⟨fun n w' => ∃ (j : Nat) (us : List Value) (rs : List RowO), n = j ∧ j ≤ G.prods.length ∧ us.length = G.prods.length * 3 ∧ rs.length = G.prods.length ∧ (∀ (k : Nat) r, j ≤ k → rs[k]? = some r → r.2.1 ≤ 17592186043904 ∧ us[k * 3 + 1]? = some (.slice r.1 r.2.1 r.2.2.1)) ∧ St w' [own 3 pa G.prods.length pc us, sta (rsA rs), has HB], fun n _ => G.prods.length - n.toNat, ⟨0, _, _, rfl, by omega, prodsV_len hos, hrl0, fun k r _ => hR0 k r, h⟩, ?_⟩
  clear h
  rintro _ n w8 ⟨i, us, rs, rfl, hi, hul4, hrl, hR, h⟩
  refine ⟨_, _, _, B.c4 (rdH 2 h.l), br_intro (fun hlt => ?_) fun _ => ⟨rfl, has_i (sub.trans sH (rdH 2 h.l))⟩⟩
  have hlt : i < G.prods.length := by have := of_decide_eq_true hlt; dsimp only at this; omega
  obtain ⟨r0, hr0⟩ : ∃ r, rs[i]? = some r := ⟨rs[i]'(by omega), List.getElem?_eq_getElem _⟩
  obtain ⟨hrb, hru⟩ := hR i r0 (Nat.le_refl _) hr0
  refine ⟨fun n w' => ∃ (t : Nat) (rs' : List RowO) (r : RowO), n = t ∧ t ≤ r0.2.1 ∧ rs'.length = G.prods.length ∧ (∀ (k : Nat) r, i < k → rs'[k]? = some r → r.2.1 ≤ 17592186043904 ∧ us[k * 3 + 1]? = some (.slice r.1 r.2.1 r.2.2.1)) ∧ rs'[i]? = some r ∧ r.1 = r0.1 ∧ r.2.1 = r0.2.1 ∧ r.2.2.1 = r0.2.2.1 ∧ St w' [own 3 pa G.prods.length pc us, sta (rsA rs'), has HB], fun n _ => r0.2.1 - n.toNat, ⟨0, rs, r0, rfl, by omega, hrl, fun k r hk => hR k r (by omega), hr0, rfl, rfl, rfl, h⟩, ?_⟩
  clear h
  rintro _ n w9 ⟨t, rs', r, rfl, ht', hrl', hR', hri, hx1, hx2, hx3, h⟩
  obtain ⟨ad, had, hcell⟩ := own_cell h hru
  have hc1 : w9.cell? ((ad.add (mulS i 3)).add 1) = some (.slice r0.1 r0.2.1 r0.2.2.1) := by rw [add_add, mulS_eq]; exact hcell
  refine ⟨_, _, _, B.c4 (rdH 2 h.l), idx_n had hlt ⟨_, _, _, hc1, br_intro (fun h2 => ?_) fun h2 => ?_⟩⟩
  · have h2 : t < r0.2.1 := by have := of_decide_eq_true h2; omega
    have hAi : (rsA rs')[i]? = some (own 1 r.1 r.2.1 r.2.2.1 r.2.2.2) := by unfold rsA; rw [List.getElem?_map, hri]; rfl
    have h := St.out (h.pick 3 [1, 0, 2]) hAi
    have hol := own_len h
    rw [Nat.mul_one] at hol
    obtain ⟨adr, hadr⟩ := own_addr h (by omega)
    refine ⟨_, _, _, B.c4 (rdH 3 h.l), idx_n had hlt ⟨_, _, _, hc1, idx_i (by rw [← hx1]; exact hadr) h2 (own_st1 h hadr (by omega) fun w10 h => ⟨⟨by omega, by omega⟩, ⟨t + 1, rs'.set i (r.1, r.2.1, r.2.2.1, r.2.2.2.set t (.int .i64 (-3))), (r.1, r.2.1, r.2.2.1, r.2.2.2.set t (.int .i64 (-3))), by simp, by omega, by rw [List.length_set]; exact hrl', fun k q hk hq => ?_, ?_, hx1, hx2, hx3, ?_⟩, by dsimp only; omega⟩)⟩⟩
    · rw [List.getElem?_set_ne (by omega)] at hq
      exact hR' k q hk hq
    · rw [List.getElem?_set_self (by omega)]
    · have h := St.back h hAi
      have e1 : (rsA rs').set i (own 1 r.1 r.2.1 r.2.2.1 (r.2.2.2.set t (.int .i64 (-3)))) = rsA (rs'.set i (r.1, r.2.1, r.2.2.1, r.2.2.2.set t (.int .i64 (-3)))) := by unfold rsA; rw [List.map_set]
      rw [e1] at h
      exact h.pick 3 [1, 0, 2]
  · refine ⟨_, _, _, B.c4 (rdH 2 h.l), idx_n had hlt ?_⟩
    rw [mulS_eq]
    refine own_stR h had (by simp; omega) (by intro v hv; simp at hv; rcases hv with rfl | rfl | rfl <;> rfl) (by simp) fun w11 h => ⟨⟨by omega, by omega⟩, ⟨i + 1, _, rs', by simp, by omega, ?_, hrl', fun k q hk hq => ?_, h⟩, by dsimp only; omega⟩
    · simp only [List.length_append, List.length_take, List.length_drop, List.length_cons, List.length_nil]; omega
    · obtain ⟨w1', w2'⟩ := hR' k q (by omega) hq
      refine ⟨w1', ?_⟩
      rw [List.getElem?_append_right (by simp; omega), List.getElem?_drop]
      simp only [List.length_append, List.length_take, List.length_cons, List.length_nil]
      rw [show i * 3 + (0 + 1 + 1 + 1) + (k * 3 + 1 - (min (i * 3) us.length + (0 + 1 + 1 + 1))) = k * 3 + 1 from by omega]
      exact w2'
end
end Go.Proofs.YtaheggomcnbbiaaDoor
set_option linter.unusedVariables false
namespace Go.V
theorem nodup_map_on {α β : Type} {f : α → β} {l : List α} (hf : ∀ a ∈ l, ∀ b ∈ l, f a = f b → a = b) (h : l.Nodup) : (l.map f).Nodup := by
  unfold List.Nodup at *
  rw [List.pairwise_map]
  exact h.imp_of_mem fun {a b} ha hb hab e => hab (hf a ha b hb e)
theorem rank_at {uns : List Bool} {n k : Nat} (hk : k < n) (hu : fnB uns k = true) : ∃ i, (membs n (fnB uns))[i]? = some k ∧ i = cnt k (fnB uns) ∧ i < cnt n (fnB uns) := by
  have hm : k ∈ membs n (fnB uns) := by unfold membs; rw [List.mem_filter, List.mem_range]; exact ⟨hk, hu⟩
  obtain ⟨i, hi, e⟩ := List.mem_iff_getElem.1 hm
  have hg : (membs n (fnB uns))[i]? = some k := by rw [← e]; exact List.getElem?_eq_getElem hi
  obtain ⟨_, _, h3⟩ := membs_get hg
  have hl := congrArg List.length h3
  rw [List.length_take, membs_len, membs_len] at hl
  rw [membs_len] at hi
  exact ⟨i, hg, by omega, hi⟩
theorem at_rank {uns : List Bool} {n i : Nat} (hi : i < cnt n (fnB uns)) : ∃ k, k < n ∧ fnB uns k = true ∧ cnt k (fnB uns) = i := by
  have hl : i < (membs n (fnB uns)).length := by rw [membs_len]; exact hi
  obtain ⟨h1, h2, h3⟩ := membs_get (List.getElem?_eq_getElem hl)
  have he := congrArg List.length h3
  rw [List.length_take, membs_len, membs_len] at he
  exact ⟨_, h2, h1, by omega⟩
theorem Us.pd {g : GramT} (hv : ValidP g) {s : Int} (h : Us g s) : Pd g s := by
  cases h with
  | start h => exact h
  | zero hc _ => exact absurd hc.1 (valid_sizes hv).2.2.2
  | pr p s hp _ hr hs => exact hr s hs
theorem Us.nt {g : GramT} (hv : ValidP g) {s : Int} (h : Pd g s) (hT : (g.T : Int) ≤ s) : ∃ p ∈ g.prods, p.left = s ∧ PdR g p.right := by
  cases h with
  | tm t ht => omega
  | mk p hp hr => exact ⟨p, hp, rfl, hr⟩
section
variable {g : GramT} {pds uns : List Bool}
theorem red_N : (redG g pds uns).N = 1 + cnt g.N (fnB uns) := by
  show (nonsU g uns).length = _
  unfold nonsU
  rw [List.length_cons, List.length_map, membs_len]; omega
theorem num_us (hun : UnP g uns) {s : Int} (hT : (g.T : Int) ≤ s) (h : Us g s) : numU g.T uns s = (g.T : Int) + 1 + (cnt (s.toNat - g.T) (fnB uns) : Int) ∧ fnB uns (s.toNat - g.T) = true := by
  have hu : fnB uns (s.toNat - g.T) = true := (hun.2 _).2 (by rw [subT hT]; exact h)
  unfold numU
  rw [if_neg (by omega), if_pos hu]
  exact ⟨rfl, hu⟩
theorem num_in (he : EitherP g) (hun : UnP g uns) {s : Int} (hT : (g.T : Int) ≤ s) (h : Us g s) : (g.T : Int) + 1 ≤ numU g.T uns s ∧ numU g.T uns s < (g.T : Int) + 1 + cnt g.N (fnB uns) := by
  obtain ⟨e, hu⟩ := num_us hun hT h
  have := (h.in he).2
  obtain ⟨i, _, h2, h3⟩ := rank_at (n := g.N) (k := s.toNat - g.T) (by omega) hu
  rw [e]; omega
theorem kept_us (hpd : PnP g pds) (hun : UnP g uns) (iG : InG g) {p : ProdT} (hp : p ∈ g.prods) : keepU g pds uns p = true ↔ Us g p.left ∧ PdR g p.right := by
  obtain ⟨hl, hr⟩ := iG p hp
  rw [keep_fit, hun.2, subT hl.1, hpd.fit hr]
theorem red_closed (hv : ValidP g) (hp : Pd g g.start) (hpd : PnP g pds) (hun : UnP g uns) : ClosedP (redG g pds uns) := by
  have he : EitherP g := .inl hv
  obtain ⟨iG, bT, bN, pN, pT, bP⟩ := inG he
  obtain ⟨sg1, sg2⟩ := start_in he
  obtain ⟨⟨a1, a2, a3, a4, a5, a6, a7, a8, a9, a10⟩, ⟨c1, c2, c3, c4, c5, c6⟩, _⟩ := id hv
  have hN' : g.N = g.nons.length := rfl
  have hst : Us g g.start := .start hp
  have hsr := num_in he hun sg1 hst
  have hcn : cnt g.N (fnB uns) ≤ g.N := cnt_le _ _
  have hc0 : 0 < cnt g.N (fnB uns) := by omega
  have hRN := red_N (g := g) (pds := pds) (uns := uns)
  have hRN' : (redG g pds uns).nons.length = 1 + cnt g.N (fnB uns) := hRN
  have mem_d : ∀ q, q ∈ (redG g pds uns).prods.drop 1 ↔ ∃ p ∈ g.prods, (Us g p.left ∧ PdR g p.right) ∧ q = prodU g uns p := fun q => by
    show q ∈ keptU g pds uns g.prods ↔ _
    unfold keptU
    rw [List.mem_map]
    constructor
    · rintro ⟨p, hp', rfl⟩
      rw [List.mem_filter] at hp'
      exact ⟨p, hp'.1, (kept_us hpd hun iG hp'.1).1 hp'.2, rfl⟩
    · rintro ⟨p, hp', hk, rfl⟩
      exact ⟨p, List.mem_filter.2 ⟨hp', (kept_us hpd hun iG hp').2 hk⟩, rfl⟩
  have hkl : ∀ {n : Nat}, n = (keptU g pds uns g.prods).length → n ≤ g.prods.length := fun h => by
    rw [h]; unfold keptU; rw [List.length_map]; exact List.length_filter_le _ _
  have hname : ∀ k, k < g.N → g.nons[k]? = some (nameU g k) := fun k hk => by
    unfold nameU
    rw [List.getD_eq_getElem?_getD, List.getElem?_eq_getElem hk]; rfl
  refine ⟨rfl, ⟨a1, by show 1 < (redG g pds uns).nons.length; omega, a3, by show (redG g pds uns).nons.length ≤ 64 + 1; omega, by show g.terms.length - 1 + ((redG g pds uns).nons.length - 1) ≤ 64; omega, a6, a7, a8, ?_, ?_⟩, ⟨?_, ?_, ?_, ?_, ?_, ?_⟩, ⟨firstU g uns, rfl, rfl, rfl, rfl⟩⟩
  · show ((membs g.N (fnB uns)).map (nameU g)).Nodup
    have hnd : (membs g.N (fnB uns)).Nodup := by unfold membs; exact List.nodup_range.filter _
    refine nodup_map_on ?_ hnd
    intro i hi j hj e
    unfold membs at hi hj
    rw [List.mem_filter, List.mem_range] at hi hj
    have h1 := hname i hi.1
    have h2 := hname j hj.1
    have hnn : g.nons.Nodup := by simpa using a9
    have l1 : i < g.nons.length := hi.1
    have l2 : j < g.nons.length := hj.1
    rw [List.getElem?_eq_getElem l1] at h1
    rw [List.getElem?_eq_getElem l2] at h2
    have e' : g.nons[i] = g.nons[j] := by rw [Option.some.inj h1, Option.some.inj h2]; exact e
    have hpw := List.pairwise_iff_getElem.1 hnn
    rcases Nat.lt_trichotomy i j with h | h | h
    · exact absurd e' (hpw i j l1 l2 h)
    · exact h
    · exact absurd e'.symm (hpw j i l2 l1 h)
  · intro s hs
    have hs : s ∈ (membs g.N (fnB uns)).map (nameU g) := hs
    obtain ⟨k, hk, rfl⟩ := List.mem_map.1 hs
    unfold membs at hk
    rw [List.mem_filter, List.mem_range] at hk
    exact a10 _ (by rw [List.drop_zero]; exact List.mem_of_getElem? (hname k hk.1))
  · obtain ⟨p, hp1, hp2, hp3⟩ := Us.nt hv hp sg1
    have : prodU g uns p ∈ (redG g pds uns).prods.drop 1 := (mem_d _).2 ⟨p, hp1, ⟨by rw [hp2]; exact hst, hp3⟩, rfl⟩
    have := List.length_pos_of_mem this
    rw [List.length_drop] at this
    omega
  · show (firstU g uns :: keptU g pds uns g.prods).length ≤ 96 + 1
    have := hkl rfl
    rw [List.length_cons]; omega
  · intro q hq
    obtain ⟨p, hp1, ⟨hu, hr⟩, rfl⟩ := (mem_d q).1 hq
    obtain ⟨hl1, hl2⟩ := iG p hp1
    have hn := num_in he hun hl1.1 hu
    have hpo := c3 p (by rw [List.drop_zero]; exact hp1)
    refine ⟨⟨hn.1, ?_, hpo.1.2.2.1, hpo.1.2.2.2⟩, fun s hs => ?_⟩
    · show numU g.T uns p.left < ((redG g pds uns).T : Int) + (redG g pds uns).N
      rw [hRN]
      have : (redG g pds uns).T = g.T := rfl
      rw [this]; omega
    · obtain ⟨y, hy, rfl⟩ := List.mem_map.1 hs
      have hyo := hpo.2 y hy
      have hT' : (redG g pds uns).T = g.T := rfl
      unfold symOk
      rw [hRN, hT']
      by_cases hT : y < (g.T : Int)
      · have : numU g.T uns y = y := by unfold numU; rw [if_pos hT]
        rw [this]
        exact ⟨hyo.1, by omega, by omega⟩
      · have hyU : Us g y := .pr p y hp1 hu hr hy
        have := num_in he hun (by omega) hyU
        exact ⟨by omega, by omega, by omega⟩
  · show ((leftsL (((redG g pds uns).prods.drop 1).map ProdT.left)).length : Int) = _
    have hmem : ∀ y, y ∈ leftsL (((redG g pds uns).prods.drop 1).map ProdT.left) ↔ y ∈ (List.range (cnt g.N (fnB uns))).map fun (c : Nat) => (g.T : Int) + 1 + (c : Int) := fun y => by
      rw [mem_leftsL, List.mem_map, List.mem_map]
      constructor
      · rintro ⟨q, hq, rfl⟩
        obtain ⟨p, hp1, ⟨hu, hr⟩, rfl⟩ := (mem_d q).1 hq
        have hl1 := (iG p hp1).1
        obtain ⟨e, hu'⟩ := num_us hun hl1.1 hu
        obtain ⟨i, _, h2, h3⟩ := rank_at (n := g.N) (k := p.left.toNat - g.T) (by omega) hu'
        exact ⟨i, List.mem_range.2 h3, by show _ = numU g.T uns p.left; rw [e, h2]⟩
      · rintro ⟨c, hc, rfl⟩
        obtain ⟨k, hk1, hk2, hk3⟩ := at_rank (List.mem_range.1 hc)
        have hU : Us g ((g.T + k : Nat) : Int) := (hun.2 k).1 hk2
        obtain ⟨p, hp1, hp2, hp3⟩ := Us.nt hv (hU.pd hv) (by omega)
        refine ⟨prodU g uns p, (mem_d _).2 ⟨p, hp1, ⟨by rw [hp2]; exact hU, hp3⟩, rfl⟩, ?_⟩
        show numU g.T uns p.left = _
        rw [hp2, (num_us hun (by omega) hU).1, show ((g.T + k : Nat) : Int).toNat - g.T = k from by omega, hk3]
    have hnd : ((List.range (cnt g.N (fnB uns))).map fun (c : Nat) => (g.T : Int) + 1 + (c : Int)).Nodup :=
      nodup_map_on (fun a _ b _ h => by omega) List.nodup_range
    have h1 := nodup_le (leftsL_nodup _) fun y hy => (hmem y).1 hy
    have h2 := nodup_le hnd fun y hy => (hmem y).2 hy
    rw [List.length_map, List.length_range] at h1 h2
    rw [hRN]; omega
  · show (g.T : Int) + (1 : Nat) ≤ numU g.T uns g.start
    omega
  · show numU g.T uns g.start < ((redG g pds uns).T : Int) + (redG g pds uns).N
    rw [hRN]
    have : (redG g pds uns).T = g.T := rfl
    rw [this]; omega
theorem red_ok (hv : ValidP g) (hb : okG g) : okG (redG g pds uns) := by
  obtain ⟨iG, bT, bN, pN, pT, bP⟩ := inG (.inl hv)
  obtain ⟨b1, b2, b3, b4, b5, b6, b7⟩ := id hb
  have hcn : cnt g.N (fnB uns) ≤ g.N := cnt_le _ _
  have hRN' : (redG g pds uns).nons.length = 1 + cnt g.N (fnB uns) := red_N
  refine ⟨b1, by omega, b3, ?_, b5, fun s hs => ?_, fun p hp => ?_⟩
  · show (firstU g uns :: keptU g pds uns g.prods).length * 40 ≤ _
    have : (keptU g pds uns g.prods).length ≤ g.prods.length := by unfold keptU; rw [List.length_map]; exact List.length_filter_le _ _
    rw [List.length_cons]; omega
  · have hs : s ∈ ByteArray.empty :: (membs g.N (fnB uns)).map (nameU g) := hs
    rcases List.mem_cons.1 hs with rfl | hs
    · show (0 : Nat) ≤ _; omega
    · obtain ⟨k, hk, rfl⟩ := List.mem_map.1 hs
      unfold membs at hk
      rw [List.mem_filter, List.mem_range] at hk
      refine b6 _ ?_
      have l : k < g.nons.length := hk.1
      unfold nameU
      rw [List.getD_eq_getElem?_getD, List.getElem?_eq_getElem l]
      exact List.getElem_mem l
  · have hp : p ∈ firstU g uns :: keptU g pds uns g.prods := hp
    rcases List.mem_cons.1 hp with rfl | hp
    · show (1 : Nat) ≤ _; omega
    · unfold keptU at hp
      obtain ⟨q, hq, rfl⟩ := List.mem_map.1 hp
      rw [List.mem_filter] at hq
      show (q.right.map _).length ≤ _
      rw [List.length_map]; exact b7 q hq.1
theorem empty_ok : okG emptyG := ⟨by decide, by decide, by decide, by decide, fun _ h => (by simp [emptyG] at h), fun _ h => (by simp [emptyG] at h), fun _ h => (by simp [emptyG] at h)⟩
theorem RedRes.ok {e : Int} {G : GramT} (h : RedRes g e G) (hb : okG g) : okG G := by
  rcases h with ⟨_, _, rfl⟩ | ⟨_, _, _, rfl⟩ | ⟨hv, _, _, pds, uns, _, _, rfl⟩
  · exact empty_ok
  · exact empty_ok
  · exact red_ok hv hb
end
end Go.V
set_option linter.unusedVariables false
namespace Go.Proofs.YtaheggomcnbbiaaDoor
open Go.V
section
variable {w : World} {L : List Asn} {g : GramT} {x : GA}
set_option maxHeartbeats 8000000 in
theorem l_ReachReduces (hg : gR (hp w) g x) (hb : okG g) (hbT : g.terms.length * 24 ≤ 140737488355328) (hbN : g.nons.length * 16 ≤ 140737488355328) (ht : tabA (hp w)) : Run Tryd.prog n_presagelaw06_ReachReduces [.agg ⟨x.cells⟩] w fun v w' => v = .bool true ∧ Gr w w' := by
  refine run_presagelaw06_ReachReduces _ _ _ _ _ _ _ _ _ _ _ _ _ w _ ?_
  refine gbox hg fun k1 w1 gw hg B => ?_
  have gs : sub (hp w) (hp w1) := gw
  have ht1 : tabA (hp w1) := rdV.mono gw ht
  refine ⟨_, _, _, _, _, _, _, _, _, _, _, _, _, B.row (sub.refl _), (d_Copy (x := x) hg hb hbT hbN).mono ?_⟩
  rintro _ w2 ⟨y, os, rfl, hy, hos, h2⟩
  unfold V.all at h2
  refine ⟨_, _, _, _, _, _, _, _, _, _, _, _, _, rfl, newC_i h2 fun k18 w3 h3 => stR_i h3 rfl (by intro v hv; simp at hv; rcases hv with rfl | rfl | rfl | rfl | rfl <;> rfl) fun w4 h4 => ?_⟩
  have C18' : GB (hp w4) k18 y := gb_of h4.row
  have hk4 : gR (hp w4) g y := ownG_gR hy hos h4.tail
  have s14 : sub (hp w1) (hp w4) := rdH 5 h4.tail.l
  refine ⟨_, _, _, _, _, _, _, _, _, _, _, _, _, C18'.row (sub.refl _), (r_Reduce (x := y) hk4 hb (rdV.mono s14 ht1)).mono ?_⟩
  rintro _ w5 ⟨x1, G, os1, e1, rfl, hx1, hos1, rR, h5⟩
  unfold V.all at h5
  refine ⟨_, _, _, _, _, _, _, _, _, _, _, _, _, _, rfl, newC_i h5 fun k35 w6 h6 => stR_i h6 rfl (by intro v hv; simp at hv; rcases hv with rfl | rfl | rfl | rfl | rfl <;> rfl) fun w7 h7 => ?_⟩
  have s47 : sub (hp w4) (hp w7) := rdH 5 h7.tail.l
  have s17 : sub (hp w1) (hp w7) := sub.trans s14 s47
  refine ⟨_, _, _, _, _, _, _, _, _, _, _, _, _, B.row s17, (d_Reduce (x := x) (hg.mono s17) hb).mono ?_⟩
  rintro _ w8 ⟨x2, G', os2, e2, rfl, hx2, hos2, rR2, h8⟩
  obtain ⟨rfl, rfl⟩ := rR.inj rR2
  have hbG := rR.ok hb
  unfold V.all at h8
  refine ⟨_, _, _, _, _, _, _, _, _, _, _, _, _, _, rfl, newC_i h8 fun k52 w9 h9 => stR_i h9 rfl (by intro v hv; simp at hv; rcases hv with rfl | rfl | rfl | rfl | rfl <;> rfl) fun w10 h10 => ?_⟩
  have hl7 : St w7 ((cel k35 x1.cells :: ownG G x1 os1) ++ (cel k18 y.cells :: (ownG g y os ++ [has (hp w1)]))) := St.on (N := cel k35 x1.cells :: ownG G x1 os1) h7 h4.l
  have hl10 : St w10 ((cel k52 x2.cells :: ownG G x2 os2) ++ ((cel k35 x1.cells :: ownG G x1 os1) ++ (cel k18 y.cells :: (ownG g y os ++ [has (hp w1)])))) := St.on (N := cel k52 x2.cells :: ownG G x2 os2) h10 hl7.l
  have h : St w10 (ownG G x1 os1 ++ (ownG g y os ++ (cel k52 x2.cells :: (ownG G x2 os2 ++ [cel k35 x1.cells, cel k18 y.cells, has (hp w1)])))) := hl10.pick 19 [7, 8, 9, 10, 11, 13, 14, 15, 16, 17, 0, 1, 2, 3, 4, 5, 6, 12, 18]
  clear hl7 hl10 h2 h3 h4 h5 h6 h7 h8 h9 h10
  obtain ⟨Hr, hlr, h⟩ := St.freezeL (ownG G x1 os1 ++ ownG g y os) (M := cel k52 x2.cells :: (ownG G x2 os2 ++ [cel k35 x1.cells, cel k18 y.cells, has (hp w1)])) (by rw [List.append_assoc]; exact h)
  rw [List.append_assoc] at h
  have C52 : GB Hr k52 x2 := gb_of (rdCel 0 hlr)
  have C35 : GB Hr k35 x1 := gb_of (rdCel 6 hlr)
  have C18 : GB Hr k18 y := gb_of (rdCel 7 hlr)
  have s1r : sub (hp w1) Hr := rdH 8 hlr
  have gRr : gR Hr G x2 := ownG_gR hx2 hos2 (starL_tail hlr)
  have gwr : sub (hp w) Hr := sub.trans gs s1r
  have htr : tabA Hr := rdV.mono s1r ht1
  have hgr : gR Hr g x := hg.mono s1r
  have Br : ∀ {w : World}, sub Hr (hp w) → V.rowAt w ⟨k1, 0, none⟩ 0 5 = some x.cells := fun s => B.row (sub.trans s1r s)
  clear hlr
  have sub10 : ∀ {w : World}, St w (ownG G x1 os1 ++ (ownG g y os ++ [has Hr])) → sub Hr (hp w) := fun h => rdH 10 h.l
  have gR10 : ∀ {w : World}, St w (ownG G x1 os1 ++ (ownG g y os ++ [has Hr])) → gR (hp w) G x1 := fun h => ownG_gR hx1 hos1 h
  refine ⟨fun w' => St w' (ownG G x1 os1 ++ (ownG g y os ++ [has Hr])), br_intro (fun h => by simp at h) fun _ => ?_, ?_⟩
  · refine ⟨_, _, _, _, _, _, _, _, _, _, _, _, _, C35.row (sub10 h), _, _, _, _, _, _, _, _, _, _, _, _, _, C52.row (sub10 h), (d_Same (x := x1) (y := x2) (gR10 h) (gRr.mono (sub10 h)) hbG).mono ?_⟩
    rintro _ w11 ⟨rfl, g11⟩
    have h := h.gr g11
    refine ⟨_, rfl, br_intro (fun h => absurd h (by decide)) fun _ => br_intro (fun he0 => ?_) fun _ => h⟩
    have he0 : e1 = 0 := by simpa using he0
    refine ⟨_, _, _, _, _, _, _, _, _, _, _, _, _, C35.row (sub10 h), (d_Closed (x := x1) (gR10 h) hbG).mono ?_⟩
    rintro _ w12 ⟨⟨r, rfl, hr⟩, g12⟩
    have h := h.gr g12
    refine ⟨_, rfl, br_intro (fun hf => ?_) fun _ => h⟩
    exfalso
    rcases rR with ⟨_, h1, _⟩ | ⟨_, _, h1, _⟩ | ⟨hv, hP, _, pds, uns, h1, h2, rfl⟩
    · omega
    · omega
    · rw [hr.2 (red_closed hv hP h1 h2)] at hf; cases hf
  clear h
  rintro _ w13 h
  refine ⟨_, _, _, _, _, _, _, _, _, _, _, _, _, C35.row (sub10 h), ?_⟩
  obtain ⟨H1, hl1, h⟩ := St.freezeL (ownG G x1 os1) h
  refine (l_spoil hx1 hos1 hbG h).mono ?_
  rintro _ w14 ⟨rfl, h⟩
  have h : St w14 (ownG g y os ++ [has Hr]) := starL_sub hl1 (rdH 0 h.l)
  clear hl1
  have subA : ∀ {w : World}, St w (ownG g y os ++ [has Hr]) → sub Hr (hp w) := fun h => rdH 5 h.l
  refine ⟨rfl, _, _, _, _, _, _, _, _, _, _, _, _, _, C18.row (subA h), _, _, _, _, _, _, _, _, _, _, _, _, _, Br (subA h), (d_Same (x := y) (y := x) (ownG_gR hy hos h) (hgr.mono (subA h)) hb).mono ?_⟩
  rintro _ w15 ⟨rfl, g15⟩
  have h := h.gr g15
  refine ⟨_, rfl, br_intro (fun h => absurd h (by decide)) fun _ => ⟨_, _, _, _, _, _, _, _, _, _, _, _, _, C18.row (subA h), (r_Reduce (x := y) (ownG_gR hy hos h) hb (rdV.mono (subA h) htr)).mono ?_⟩⟩
  rintro _ w16 ⟨x3, G3, os3, e3, rfl, hx3, hos3, rR3, h16⟩
  obtain ⟨rfl, rfl⟩ := rR.inj rR3
  unfold V.all at h16
  refine ⟨_, _, _, _, _, _, _, _, _, _, _, _, _, _, rfl, newC_i h16 fun k117 w17 h17 => stR_i h17 rfl (by intro v hv; simp at hv; rcases hv with rfl | rfl | rfl | rfl | rfl <;> rfl) fun w18 h18 => ?_⟩
  have hl18 : St w18 ((cel k117 x3.cells :: ownG G x3 os3) ++ (ownG g y os ++ [has Hr])) := St.on (N := cel k117 x3.cells :: ownG G x3 os3) h18 h.l
  have h : St w18 (ownG g y os ++ (cel k117 x3.cells :: (ownG G x3 os3 ++ [has Hr]))) := hl18.pick 12 [6, 7, 8, 9, 10, 0, 1, 2, 3, 4, 5, 11]
  clear hl18 h16 h17 h18
  obtain ⟨H3, hl3, h⟩ := St.freezeL (ownG g y os) h
  have C117 : GB H3 k117 x3 := gb_of (rdCel 0 hl3)
  have gR3 : gR H3 G x3 := ownG_gR hx3 hos3 (starL_tail hl3)
  have sr3 : sub Hr H3 := rdH 6 hl3
  refine ⟨_, _, _, _, _, _, _, _, _, _, _, _, _, C18.row (sub.trans sr3 (rdH 5 h.l)), (l_spoil hy hos hb h).mono ?_⟩
  rintro _ w19 ⟨rfl, h⟩
  have s3 : sub H3 (hp w19) := rdH 0 h.l
  have sr : sub Hr (hp w19) := sub.trans sr3 s3
  refine ⟨rfl, br_intro (fun _ => ⟨_, _, _, _, _, _, _, _, _, _, _, _, _, C117.row s3, _, _, _, _, _, _, _, _, _, _, _, _, _, C52.row sr, (d_Same (x := x3) (y := x2) (gR3.mono s3) (gRr.mono sr) hbG).mono ?_⟩) fun h => by simp at h⟩
  rintro _ w20 ⟨rfl, g20⟩
  refine ⟨_, rfl, br_intro (fun _ => (l_awake6 (rdV.mono (sub.trans sr g20) htr)).mono ?_) fun h => absurd h (by decide)⟩
  rintro _ w21 ⟨rfl, g21⟩
  exact ⟨_, rfl, rfl, sub.trans gwr (sub.trans sr (sub.trans g20 g21))⟩
end
end Go.Proofs.YtaheggomcnbbiaaDoor
set_option linter.unusedVariables false
namespace Go.V
def nmAt (g : GramT) (s : Int) : Option ByteArray := g.nons[s.toNat - g.T]?
structure LikeP (g : GramT) (p : ProdT) (G : GramT) (q : ProdT) : Prop where
  l : p.right.length = q.right.length
  v : p.level = q.level
  n : nmAt g p.left = nmAt G q.left
  s : ∀ (i : Nat) a b, p.right[i]? = some a → q.right[i]? = some b → ((a < (g.T : Int) ∨ b < (G.T : Int)) → a = b) ∧ ((g.T : Int) ≤ a → (G.T : Int) ≤ b → nmAt g a = nmAt G b)
def PrIn (g : GramT) (p : ProdT) : Prop := ((g.T : Int) ≤ p.left ∧ p.left < g.T + g.N) ∧ ∀ s ∈ p.right, 0 ≤ s ∧ s < (g.T : Int) + g.N
end Go.V
namespace Go.Proofs.YtaheggomcnbbiaaDoor
open Go.V
section
variable {w : World} {L : List Asn} {g G : GramT} {x y : GA} {p q : ProdT} {a b : Option Addr} {l m c d : Nat}
set_option maxHeartbeats 4000000 in
theorem l_like (hg : gR (hp w) g x) (hG : gR (hp w) G y) (hp' : PrIn g p) (hq' : PrIn G q) (hpr : rdS (hp w) p.right a l) (hqr : rdS (hp w) q.right b m) (hT : g.T ≤ 65) (hN : g.N ≤ 65) (hT2 : G.T ≤ 65) (hN2 : G.N ≤ 65) (hl : l ≤ 17592186043904) :
    Run Tryd.prog n_presagelaw06_like [.agg ⟨x.cells⟩, .agg #[.int .i64 p.left, .slice a l c, .int .i64 p.level], .agg ⟨y.cells⟩, .agg #[.int .i64 q.left, .slice b m d, .int .i64 q.level]] w fun v w' => (∃ r : Bool, v = .bool r ∧ (LikeP g p G q → r = true)) ∧ Gr w w' := by
  refine run_presagelaw06_like _ _ _ _ _ _ _ _ _ _ _ _ _ _ _ _ _ _ _ _ _ _ _ _ _ _ _ _ _ _ _ _ _ _ _ _ w _ ?_
  refine gbox hg fun k1 w1 g1 hg B => newC_i (St.all w1) fun k2 w2 h2 => ?_
  have s2 : Gr w1 w2 := h2.gone1
  have r2' : rowH (hp w2) ⟨k2, 0, none⟩ [.int .i64 p.left, .slice a l c, .int .i64 p.level] := h2.row
  refine gbox ((hG.mono g1).mono s2) fun k3 w3 g3 hG C => newC_i (St.all w3) fun k4 w4 h4 => ?_
  have s4 : Gr w3 w4 := h4.gone1
  have gall : Gr w w4 := (g1.trans s2).trans (g3.trans s4)
  have hg := hg.mono (s2.trans (g3.trans s4))
  have hG := hG.mono s4
  have r4 : rowH (hp w4) ⟨k4, 0, none⟩ [.int .i64 q.left, .slice b m d, .int .i64 q.level] := h4.row
  have r2 := r2'.mono (g3.trans s4)
  have B : GB (hp w4) k1 x := by
    have s : sub (hp w1) (hp w4) := s2.trans (g3.trans s4)
    exact ⟨fun h => B.c0 (sub.trans s h), fun h => B.c1 (sub.trans s h), fun h => B.c2 (sub.trans s h), fun h => B.c3 (sub.trans s h), fun h => B.c4 (sub.trans s h), fun h => B.row (sub.trans s h)⟩
  have C : GB (hp w4) k3 y := by
    have s : sub (hp w3) (hp w4) := s4
    exact ⟨fun h => C.c0 (sub.trans s h), fun h => C.c1 (sub.trans s h), fun h => C.c2 (sub.trans s h), fun h => C.c3 (sub.trans s h), fun h => C.c4 (sub.trans s h), fun h => C.row (sub.trans s h)⟩
  have hpr := hpr.mono gall
  have hqr := hqr.mono gall
  obtain ⟨⟨pl1, pl2⟩, ps⟩ := hp'
  obtain ⟨⟨ql1, ql2⟩, qs⟩ := hq'
  have tl : g.T = x.tl := hg.t.1
  have nl : g.N = x.nl := hg.n.1
  have tl2 : G.T = y.tl := hG.t.1
  have nl2 : G.N = y.nl := hG.n.1
  have pl := hpr.1
  have ql := hqr.1
  have rd1 : ∀ {s : Int}, (g.T : Int) ≤ s → s < (g.T : Int) + g.N → ∃ nm ad, nmAt g s = some nm ∧ x.na = some ad ∧ ∀ w, sub (hp w4) (hp w) → w.cell? (ad.add (s.toNat - g.T)) = some (.string nm) := fun {s} h1 h2 => by
    obtain ⟨nm, ad, e1, e2, e3⟩ := hg.n.get1 (i := s.toNat - g.T) (by omega)
    exact ⟨nm, ad, e1, e2, e3⟩
  have rd2 : ∀ {s : Int}, (G.T : Int) ≤ s → s < (G.T : Int) + G.N → ∃ nm ad, nmAt G s = some nm ∧ y.na = some ad ∧ ∀ w, sub (hp w4) (hp w) → w.cell? (ad.add (s.toNat - G.T)) = some (.string nm) := fun {s} h1 h2 => by
    obtain ⟨nm, ad, e1, e2, e3⟩ := hG.n.get1 (i := s.toNat - G.T) (by omega)
    exact ⟨nm, ad, e1, e2, e3⟩
  have no : ∀ {w'}, Gr w4 w' → ¬ LikeP g p G q → (∃ r : Bool, Value.bool false = .bool r ∧ (LikeP g p G q → r = true)) ∧ Gr w w' := fun {w'} gg hn => ⟨⟨false, rfl, fun h => absurd h hn⟩, gall.trans gg⟩
  refine ⟨fun b w' => (LikeP g p G q → b = false) ∧ (b = false → l = m) ∧ Gr w4 w', fun w5 hd => ?_, ?_⟩
  · have g5 : Gr w4 w5 := Gr.drawn hd
    refine ⟨fun w => sub (hp w4) (hp w), g5, _, _, _, fun w s => r2.cell s (j := 1) rfl, _, _, _, fun w s => r4.cell s (j := 1) rfl, br_intro (fun h => ⟨fun hL => ?_, fun h => absurd h (by decide), g5⟩) fun hlm => ⟨_, fun w s => r2.cell s (j := 2) rfl, _, fun w s => r4.cell s (j := 2) rfl, br_intro (fun h => ⟨fun hL => ?_, fun h => absurd h (by decide), g5⟩) fun h => ?_⟩⟩
    · have := hL.l; simp at h; omega
    · have := hL.v; simp at h; exact absurd this h
    have hlm : l = m := by have : (l : Int) = m := by simpa using hlm
                           omega
    obtain ⟨nm, ad, e1, e2, e3⟩ := rd1 pl1 pl2
    obtain ⟨nm2, ad2, e4, e5, e6⟩ := rd2 ql1 ql2
    have eu : p.left - (x.tl : Int) = ((p.left.toNat - g.T : Nat) : Int) := by omega
    have eu2 : q.left - (y.tl : Int) = ((q.left.toNat - G.T : Nat) : Int) := by omega
    refine ⟨_, _, _, fun w s => B.c1 s, _, fun w s => r2.cell0 s, _, _, _, fun w s => B.c0 s, ⟨by omega, by omega⟩, ?_⟩
    rw [eu]
    refine idx_i e2 (by omega) ⟨nm, fun w s => e3 w s, _, _, _, fun w s => C.c1 s, _, fun w s => r4.cell0 s, _, _, _, fun w s => C.c0 s, ⟨by omega, by omega⟩, ?_⟩
    rw [eu2]
    refine idx_i e5 (by omega) ⟨nm2, fun w s => e6 w s, fun hL => ?_, fun _ => hlm, g5⟩
    have := hL.n
    rw [e1, e4] at this
    cases this
    simp
  rintro _ b1 w18 ⟨hL1, hlm, g18⟩
  refine br_intro (fun h => no g18 fun hL => by rw [hL1 hL] at h; cases h) fun hb1 => ?_
  have hlm := hlm hb1
  refine ⟨fun n w' => ∃ j : Nat, n = j ∧ j ≤ l ∧ Gr w4 w', fun n _ => l - n.toNat, ⟨0, rfl, by omega, g18⟩, ?_⟩
  rintro _ n w19 ⟨j, rfl, hj, g19⟩
  refine ⟨_, _, _, r2.cell g19 (j := 1) rfl, br_intro (fun hlt => ?_) fun _ => ⟨⟨true, rfl, fun _ => rfl⟩, gall.trans g19⟩⟩
  have hlt : j < l := by have := of_decide_eq_true hlt; omega
  obtain ⟨u, ad, hu, hua, hu2⟩ := hpr.get1 hlt
  obtain ⟨v, ad2, hv, hva, hv2⟩ := hqr.get1 (i := j) (by omega)
  have hur := ps u (List.mem_of_getElem? hu)
  have hvr := qs v (List.mem_of_getElem? hv)
  have nx : ∀ {w'}, Gr w4 w' → inI ((j : Int) + 1) ∧ (∃ j' : Nat, (j : Int) + 1 = j' ∧ j' ≤ l ∧ Gr w4 w') ∧ l - ((j : Int) + 1).toNat < l - (j : Int).toNat := fun gg => ⟨⟨by omega, by omega⟩, ⟨j + 1, by simp, by omega, gg⟩, msr hlt⟩
  refine ⟨_, _, _, r2.cell g19 (j := 1) rfl, idx_i hua hlt ⟨u, hu2 _ g19, _, _, _, r4.cell g19 (j := 1) rfl, idx_i hva (by omega) ⟨v, hv2 _ g19, fun b w' => b = (decide (u < (g.T : Int)) || decide (v < (G.T : Int))) ∧ w' = w19, ⟨_, _, _, B.c0 g19, br_intro (fun h => ⟨by rw [tl, h]; rfl, rfl⟩) fun h => ⟨_, _, _, C.c0 g19, by rw [tl, tl2, h]; simp, rfl⟩⟩, ?_⟩⟩⟩
  rintro _ b2 w20 ⟨rfl, rfl⟩
  refine br_intro (fun h => br_intro (fun h2 => no g19 fun hL => ?_) fun _ => nx g19) fun h => fun w21 hd => ?_
  · rw [Bool.or_eq_true, decide_eq_true_eq, decide_eq_true_eq] at h
    have := (hL.s j u v hu hv).1 h
    simp at h2; exact h2 this
  rw [Bool.or_eq_false_iff, decide_eq_false_iff_not, decide_eq_false_iff_not] at h
  have g21 : Gr w4 w21 := sub.trans g19 (Gr.drawn hd)
  obtain ⟨nm, ad3, e1, e2, e3⟩ := rd1 (s := u) (by omega) hur.2
  obtain ⟨nm2, ad4, e4, e5, e6⟩ := rd2 (s := v) (by omega) hvr.2
  have eu : u - (x.tl : Int) = ((u.toNat - g.T : Nat) : Int) := by omega
  have eu2 : v - (y.tl : Int) = ((v.toNat - G.T : Nat) : Int) := by omega
  refine ⟨fun w => sub (hp w4) (hp w), g21, _, _, _, fun w s => B.c1 s, _, _, _, fun w s => B.c0 s, ⟨by omega, by omega⟩, ?_⟩
  rw [eu]
  refine idx_i e2 (by omega) ⟨nm, fun w s => e3 w s, _, _, _, fun w s => C.c1 s, _, _, _, fun w s => C.c0 s, ⟨by omega, by omega⟩, ?_⟩
  rw [eu2]
  refine idx_i e5 (by omega) ⟨nm2, fun w s => e6 w s, br_intro (fun h2 => no g21 fun hL => ?_) fun _ => nx g21⟩
  have := (hL.s j u v hu hv).2 (by omega) (by omega)
  rw [e1, e4] at this
  cases this
  simp at h2
end
end Go.Proofs.YtaheggomcnbbiaaDoor
set_option linter.unusedVariables false
namespace Go.V
section
variable {g : GramT} {pds uns : List Bool}
theorem num_lo {T : Nat} {s : Int} (h : s < (T : Int)) : numU T uns s = s := by unfold numU; rw [if_pos h]
theorem prodU_mem (hpd : PnP g pds) (hun : UnP g uns) (iG : InG g) {p : ProdT} (hp : p ∈ g.prods) (hu : Us g p.left) (hr : PdR g p.right) : prodU g uns p ∈ (redG g pds uns).prods := by
  refine List.mem_cons_of_mem _ ?_
  show prodU g uns p ∈ keptU g pds uns g.prods
  unfold keptU
  exact List.mem_map.2 ⟨p, List.mem_filter.2 ⟨hp, (kept_us hpd hun iG hp).2 ⟨hu, hr⟩⟩, rfl⟩
theorem red_pd (hpd : PnP g pds) (hun : UnP g uns) (iG : InG g) {s : Int} (h : Pd g s) : (s < (g.T : Int) ∨ Us g s) → Pd (redG g pds uns) (numU g.T uns s) := by
  induction h with
  | tm t ht => intro _; rw [num_lo (by omega)]; exact .tm t ht
  | mk p hp hr ih =>
    intro hu
    have hl := (iG p hp).1
    have hu : Us g p.left := hu.resolve_left (by omega)
    refine .mk (prodU g uns p) (prodU_mem hpd hun iG hp hu hr) fun y hy => ?_
    obtain ⟨s, hs, rfl⟩ := List.mem_map.1 hy
    exact ih s hs (.inr (.pr p s hp hu hr hs))
theorem red_us (hv : ValidP g) (hpd : PnP g pds) (hun : UnP g uns) (iG : InG g) {s : Int} (h : Us g s) : Us (redG g pds uns) (numU g.T uns s) := by
  induction h with
  | start hp => exact Us.start (g := redG g pds uns) (red_pd hpd hun iG hp (.inr (.start hp)))
  | zero hc _ => exact absurd hc.1 (valid_sizes hv).2.2.2
  | pr p s hp hu hr hs ih =>
    refine .pr (prodU g uns p) _ (prodU_mem hpd hun iG hp hu hr) ih (fun y hy => ?_) (List.mem_map.2 ⟨s, hs, rfl⟩)
    obtain ⟨z, hz, rfl⟩ := List.mem_map.1 hy
    exact red_pd hpd hun iG (hr z hz) (.inr (.pr p z hp hu hr hz))
theorem red_all (hv : ValidP g) (hpd : PnP g pds) (hun : UnP g uns) (iG : InG g) {i : Nat} (h1 : 1 ≤ i) (h2 : i < (redG g pds uns).N) : Us (redG g pds uns) (((redG g pds uns).T + i : Nat) : Int) ∧ Pd (redG g pds uns) (((redG g pds uns).T + i : Nat) : Int) := by
  rw [red_N] at h2
  obtain ⟨k, hk1, hk2, hk3⟩ := at_rank (n := g.N) (uns := uns) (i := i - 1) (by omega)
  have hU : Us g ((g.T + k : Nat) : Int) := (hun.2 k).1 hk2
  have e : numU g.T uns ((g.T + k : Nat) : Int) = (((redG g pds uns).T + i : Nat) : Int) := by
    rw [(num_us hun (by omega) hU).1, show ((g.T + k : Nat) : Int).toNat - g.T = k from by omega, hk3]
    have : (redG g pds uns).T = g.T := rfl
    rw [this]; omega
  exact ⟨e ▸ red_us hv hpd hun iG hU, e ▸ red_pd hpd hun iG (hU.pd hv) (.inr hU)⟩
theorem names_at {i : Nat} {k : Nat} (h : (membs g.N (fnB uns))[i]? = some k) : (nonsU g uns)[i + 1]? = some (nameU g k) := by
  unfold nonsU
  rw [List.getElem?_cons_succ, List.getElem?_map, h]; rfl
theorem nmAt_num (he : EitherP g) (hun : UnP g uns) {s : Int} (hT : (g.T : Int) ≤ s) (h : Us g s) : nmAt g s = nmAt (redG g pds uns) (numU g.T uns s) := by
  obtain ⟨e, hu⟩ := num_us hun hT h
  have hs := (h.in he).2
  obtain ⟨i, h1, h2, h3⟩ := rank_at (n := g.N) (k := s.toNat - g.T) (by omega) hu
  have hl : s.toNat - g.T < g.nons.length := by have : g.N = g.nons.length := rfl; omega
  unfold nmAt
  have e2 : (numU g.T uns s).toNat - (redG g pds uns).T = i + 1 := by
    have : (redG g pds uns).T = g.T := rfl
    rw [this, e, h2]; omega
  rw [e2]
  show _ = (nonsU g uns)[i + 1]?
  rw [names_at h1]
  unfold nameU
  rw [List.getD_eq_getElem?_getD, List.getElem?_eq_getElem hl]; rfl
theorem like_img (he : EitherP g) (hpd : PnP g pds) (hun : UnP g uns) {p : ProdT} (hp : p ∈ g.prods) (hk : keepU g pds uns p = true) : LikeP g p (redG g pds uns) (prodU g uns p) := by
  obtain ⟨iG, bT, bN, pN, pT, bP⟩ := inG he
  obtain ⟨hu, hr⟩ := (kept_us hpd hun iG hp).1 hk
  obtain ⟨hl, hrr⟩ := iG p hp
  have hT : (redG g pds uns).T = g.T := rfl
  refine ⟨by show _ = (p.right.map _).length; rw [List.length_map], rfl, nmAt_num he hun hl.1 hu, fun i a b ha hb => ?_⟩
  have hb : (p.right.map (numU g.T uns))[i]? = some b := hb
  rw [List.getElem?_map, ha] at hb
  cases hb
  have ham := List.mem_of_getElem? ha
  rw [hT]
  by_cases h : a < (g.T : Int)
  · rw [num_lo h]
    exact ⟨fun _ => rfl, fun h1 _ => by omega⟩
  · have hU : Us g a := .pr p a hp hu hr ham
    have hn := num_in he hun (by omega) hU
    refine ⟨fun h1 => ?_, fun h1 _ => nmAt_num he hun h1 hU⟩
    rcases h1 with h1 | h1 <;> omega
theorem us_none (he : EitherP g) (hn : ¬ Pd g g.start) {s : Int} (h : Us g s) : False := by
  induction h with
  | start h => exact hn h
  | zero _ h => exact hn h
  | pr p s _ _ _ _ ih => exact ih
theorem us_pd (he : EitherP g) {s : Int} (h : Us g s) : Pd g s := by
  have hst : Pd g g.start := Classical.byContradiction fun hn => us_none he hn h
  cases h with
  | start h => exact h
  | zero hc _ =>
    obtain ⟨_, _, _, p, hp, h1, h2, _⟩ := hc
    rw [← h1]
    refine .mk p (List.mem_of_getElem? hp) fun s hs => ?_
    rw [h2, List.mem_singleton] at hs
    rw [hs]; exact hst
  | pr p s _ _ hr hs => exact hr s hs
theorem cnt_pos_us (he : EitherP g) (hun : UnP g uns) : 0 < cnt g.N (fnB uns) ↔ Pd g g.start := by
  obtain ⟨sg1, sg2⟩ := start_in he
  constructor
  · intro h
    obtain ⟨k, _, hk2, _⟩ := at_rank h
    exact Classical.byContradiction fun hn => us_none he hn ((hun.2 k).1 hk2)
  · intro h
    have hu : fnB uns (g.start.toNat - g.T) = true := (hun.2 _).2 (by rw [subT sg1]; exact .start h)
    obtain ⟨i, _, _, h3⟩ := rank_at (n := g.N) (by omega) hu
    omega
end
end Go.V
set_option linter.unusedVariables false
namespace Go.Proofs.YtaheggomcnbbiaaDoor
open Go.V
section
variable {w : World} {L : List Asn} {g : GramT} {x : GA}
set_option maxHeartbeats 8000000 in
theorem l_ReachParts (hg : gR (hp w) g x) (hb : okG g) (hbT : g.terms.length * 24 ≤ 140737488355328) (hbN : g.nons.length * 16 ≤ 140737488355328) (ht : tabA (hp w)) : Run Tryd.prog n_presagelaw06_ReachParts [.agg ⟨x.cells⟩] w fun v w' => v = .bool true ∧ Gr w w' := by
  refine run_presagelaw06_ReachParts _ _ _ _ _ _ _ _ _ _ _ _ _ w _ ?_
  refine gbox hg fun k1 w1 gw hg B => ?_
  have tl : g.T = x.tl := hg.t.1
  have nl : g.N = x.nl := hg.n.1
  have pl := hg.p.1
  have hsx := hg.s
  have ht1 : tabA (hp w1) := rdV.mono gw ht
  -- productive
  refine ⟨_, _, _, _, _, _, _, _, _, _, _, _, _, B.row (sub.refl _), (d_Copy (x := x) hg hb hbT hbN).mono ?_⟩
  rintro _ w2 ⟨y1, os1, rfl, hy1, hos1, h2⟩
  have hk2 : gR (hp w2) g y1 := ownG_gR hy1 hos1 h2
  have s2 : Gr w1 w2 := rdH 5 h2.l
  refine ⟨_, _, _, _, _, _, _, _, _, _, _, _, _, rfl, (r_Productive2 (x := y1) hk2 hb (rdV.mono s2 ht1)).mono ?_⟩
  rintro _ w3 ⟨oa, na, ca, ea, nn, rfl, hnl, rN, h3⟩
  have s3 : Gr w1 w3 := s2.trans h3.gone1
  have rdN : rdS (hp w3) nn oa na := rdB_of hnl (rdOwn 0 h3.l)
  -- useful
  refine ⟨_, _, _, _, rfl, _, _, _, _, _, _, _, _, _, _, _, _, _, B.row s3, (d_Copy (x := x) (hg.mono s3) hb hbT hbN).mono ?_⟩
  rintro _ w4 ⟨y2, os2, rfl, hy2, hos2, h4⟩
  have hk4 : gR (hp w4) g y2 := ownG_gR hy2 hos2 h4
  have g34 : Gr w3 w4 := rdH 5 h4.l
  have s4 : Gr w1 w4 := s3.trans g34
  refine ⟨_, _, _, _, _, _, _, _, _, _, _, _, _, rfl, (r_Useful2 (x := y2) hk4 hb (rdV.mono s4 ht1)).mono ?_⟩
  rintro _ w5 ⟨ob, nb, cb, eb, mm, rfl, hml, rM, h5⟩
  have g45 : Gr w4 w5 := h5.gone1
  have s5 : Gr w1 w5 := s4.trans g45
  have rdM : rdS (hp w5) mm ob nb := rdB_of hml (rdOwn 0 h5.l)
  -- reduced
  refine ⟨_, _, _, _, rfl, _, _, _, _, _, _, _, _, _, _, _, _, _, B.row s5, (d_Copy (x := x) (hg.mono s5) hb hbT hbN).mono ?_⟩
  rintro _ w6 ⟨y3, os3, rfl, hy3, hos3, h6⟩
  have hk6 : gR (hp w6) g y3 := ownG_gR hy3 hos3 h6
  have g56 : Gr w5 w6 := rdH 5 h6.l
  have s6 : Gr w1 w6 := s5.trans g56
  refine ⟨_, _, _, _, _, _, _, _, _, _, _, _, _, rfl, (r_Reduce (x := y3) hk6 hb (rdV.mono s6 ht1)).mono ?_⟩
  rintro _ w7 ⟨z, G, osR, er, rfl, hz, hosR, rR, h7⟩
  have hG7 : gR (hp w7) G z := ownG_gR hz hosR h7
  have g67 : Gr w6 w7 := rdH 5 h7.l
  have s7 : Gr w1 w7 := s6.trans g67
  refine ⟨_, _, _, _, _, _, _, _, _, _, _, _, _, _, rfl, newC_i (St.all w7) fun k62 w8 h8 => stR_i h8 rfl (by intro v hv; simp at hv; rcases hv with rfl | rfl | rfl | rfl | rfl <;> rfl) fun w9 h9 => ?_⟩
  have C : GB (hp w9) k62 z := gb_of h9.row
  have g79 : Gr w7 w9 := h9.gone1
  have s9 : Gr w1 w9 := s7.trans g79
  have hG := hG7.mono g79
  have rdN := rdN.mono (sub.trans g34 (sub.trans g45 (sub.trans g56 (sub.trans g67 g79))))
  have rdM := rdM.mono (sub.trans g56 (sub.trans g67 g79))
  have gw9 : Gr w w9 := gw.trans s9
  have ht9 : tabA (hp w9) := rdV.mono s9 ht1
  have hg := hg.mono s9
  have B : GB (hp w9) k1 x := by
    have s : sub (hp w1) (hp w9) := s9
    exact ⟨fun h => B.c0 (sub.trans s h), fun h => B.c1 (sub.trans s h), fun h => B.c2 (sub.trans s h), fun h => B.c3 (sub.trans s h), fun h => B.c4 (sub.trans s h), fun h => B.row (sub.trans s h)⟩
  clear h2 h3 h4 h5 h6 h7 h8 h9
  have aw : ∀ {w' : World}, Gr w9 w' → Run Tryd.prog n_presagelaw06_awake [] w' fun v w'' => ∃ b : Bool, v = .bool b ∧ (Value.bool b = .bool true ∧ Gr w w'') := fun {w'} gg => by
    refine (l_awake6 (rdV.mono gg ht9)).mono ?_
    rintro _ w'' ⟨rfl, g6⟩
    exact ⟨_, rfl, rfl, sub.trans gw9 (sub.trans gg g6)⟩
  have hbG := rR.ok hb
  by_cases he : EitherP g
  rotate_left
  · rcases rN with ⟨_, rfl, rfl⟩ | ⟨h, _⟩
    rotate_left
    · exact absurd h he
    rcases rM with ⟨_, rfl, rfl⟩ | ⟨h, _⟩
    rotate_left
    · exact absurd h he
    refine ⟨fun w' => w' = w9, br_intro (fun h => absurd h (by decide)) fun _ => br_intro (fun h => absurd h (by decide)) fun _ => rfl, ?_⟩
    rintro _ w10 rfl
    refine br_intro (fun _ => br_intro (fun _ => aw (Gr.refl _)) fun h => ?_) fun h => absurd h (by decide)
    exfalso
    rcases rR with ⟨_, rfl, _⟩ | ⟨hv, _⟩ | ⟨hv, _⟩
    · exact absurd h (by decide)
    · exact he (.inl hv)
    · exact he (.inl hv)
  obtain ⟨iG, bT, bN, pN, pT, bP⟩ := inG he
  obtain ⟨sg1, sg2⟩ := start_in he
  rcases rN with ⟨h, _⟩ | ⟨_, rfl, pA⟩
  · exact absurd he h
  rcases rM with ⟨h, _⟩ | ⟨_, rfl, pB⟩
  · exact absurd he h
  have hna : na = g.N := by rw [← hnl, pA.1]
  have hnb : nb = g.N := by rw [← hml, pB.1]
  subst hna
  subst hnb
  have usp : ∀ {j : Nat}, fnB mm j = true → fnB nn j = true := fun {j} h => (pA.2 j).2 (us_pd he ((pB.2 j).1 h))
  refine ⟨fun w' => w' = w9, br_intro (fun h => absurd h (by decide)) fun _ => br_intro (fun _ => ⟨_, _, _, B.c1 (sub.refl _), br_intro (fun h => ?_) fun _ => ⟨_, _, _, B.c1 (sub.refl _), br_intro (fun h => ?_) fun _ => rfl⟩⟩) fun _ => rfl, ?_⟩
  · simp at h; omega
  · simp at h; omega
  rintro _ w10 rfl
  refine br_intro (fun h => absurd h (by decide)) fun _ => ⟨_, _, _, _, _, _, _, _, _, _, _, _, _, B.row (sub.refl _), (d_Valid (x := x) hg hb).mono ?_⟩
  rintro _ w12 ⟨⟨r1, rfl, e1⟩, g12⟩
  refine ⟨_, rfl, br_intro (fun h1 => ?_) fun h1 => ?_⟩
  · -- a closed one
    have hnv : ¬ ValidP g := fun h => by rw [e1.2 h] at h1; cases h1
    refine ⟨fun n w' => ∃ j : Nat, n = j ∧ j ≤ g.N ∧ Gr w10 w', fun n _ => g.N - n.toNat, ⟨0, rfl, by omega, g12⟩, ?_⟩
    rintro _ n w13 ⟨j, rfl, hj, g13⟩
    refine br_intro (fun hlt => ?_) fun _ => ?_
    · have hlt : j < g.N := by have := of_decide_eq_true hlt; omega
      obtain ⟨b3, ad, hb1, hba, hb2⟩ := rdM.get1 hlt
      obtain ⟨b4, ad2, hc1, hca, hc2⟩ := rdN.get1 hlt
      have nx : inI ((j : Int) + 1) ∧ (∃ j' : Nat, (j : Int) + 1 = j' ∧ j' ≤ g.N ∧ Gr w10 w13) ∧ g.N - ((j : Int) + 1).toNat < g.N - (j : Int).toNat := ⟨⟨by omega, by omega⟩, ⟨j + 1, by simp, by omega, g13⟩, msr hlt⟩
      refine idx_i hba hlt ⟨b3, hb2 _ g13, br_intro (fun h3 => idx_i hca hlt ⟨b4, hc2 _ g13, br_intro (fun h4 => ?_) fun _ => nx⟩) fun _ => nx⟩
      have := usp (j := j) (by rw [fnB_get hb1]; exact h3)
      rw [fnB_get hc1] at this
      rw [this] at h4; cases h4
    intro w14 hd
    have g14 : Gr w10 w14 := g13.trans (Gr.drawn hd)
    have er1 : er = 1 := by
      rcases rR with ⟨_, h, _⟩ | ⟨hv, _⟩ | ⟨hv, _⟩
      · exact h
      · exact absurd hv hnv
      · exact absurd hv hnv
    refine ⟨fun w => sub (hp w10) (hp w), g14, br_intro (fun _ => ?_) fun h => by rw [er1] at h; exact absurd h (by decide)⟩
    refine ⟨_, _, _, _, _, _, _, _, _, _, _, _, _, fun w s => B.row s, (d_Closed (x := x) (hg.mono g14) hb).mono ?_⟩
    rintro _ w16 ⟨⟨r2, rfl, e2⟩, g16⟩
    have s16 : Gr w10 w16 := g14.trans g16
    obtain ⟨b6, ad6, n61, n62, n63⟩ := rdM.get1 (i := 0) pN
    obtain ⟨b7, ad7, n71, n72, n73⟩ := rdM.get1 (i := g.start.toNat - g.T) (by omega)
    have esn : x.s - (x.tl : Int) = ((g.start.toNat - g.T : Nat) : Int) := by rw [hsx, ← tl]; omega
    refine ⟨_, rfl, fun w => sub (hp w10) (hp w), s16, fun _ h => h, br_intro (fun h5 => idx_0 n62 pN ⟨b6, fun w s => n63 _ s, _, fun w s => B.c3 s, _, _, _, fun w s => B.c0 s, ⟨by omega, by omega⟩, ?_⟩) fun h5 => ?_⟩
    rotate_left
    · rw [e2.2 (he.resolve_left hnv)] at h5; cases h5
    rw [esn]
    refine idx_i n72 (by omega) ⟨b7, fun w s => n73 _ s, br_intro (fun _ => (l_awake6 (rdV.mono s16 ht9)).mono ?_) fun h => ?_⟩
    · rintro _ w22 ⟨rfl, g22⟩
      exact ⟨_, rfl, sub.trans s16 g22, rfl, sub.trans gw9 (sub.trans s16 g22)⟩
    exfalso
    have hC : ClosedP g := e2.1 h5
    have : b6 = b7 := by
      have e6 := pB.2 0
      have e7 := pB.2 (g.start.toNat - g.T)
      rw [fnB_get n61, Nat.add_zero] at e6
      rw [fnB_get n71, subT sg1] at e7
      rw [Bool.eq_iff_iff, e6, e7]
      by_cases hP : Pd g g.start
      · exact ⟨fun _ => .start hP, fun _ => .zero hC hP⟩
      · exact ⟨fun h => absurd h (us_none he hP), fun h => absurd h (us_none he hP)⟩
    rw [this] at h; simp at h
  -- one that may be
  have hv : ValidP g := e1.1 (by simpa using h1)
  have hPA : ∀ {j : Nat}, fnB mm j = true → Us g ((g.T + j : Nat) : Int) := fun h => (pB.2 _).1 h
  obtain ⟨z1, z2, z3, z4⟩ := valid_sizes hv
  have hH12 := St.all w12
  unfold V.all at hH12
  have s12' : sub (hp w10) (hp w12) := g12
  refine ⟨fun o l c n w' => ∃ j : Nat, n = j ∧ j ≤ g.N ∧ l = ((membs j (fnB mm)).map (nameU g)).length ∧ St w' [own 1 o l c (((membs j (fnB mm)).map (nameU g)).map fun s => Value.string s), has (hp w12)], fun _ _ _ n _ => g.N - n.toNat, ⟨0, rfl, by omega, by simp [membs], ?_⟩, ?_⟩
  · have e0 : ((membs 0 (fnB mm)).map (nameU g)).map (fun s => Value.string s) = [] := by simp [membs]
    rw [e0]; exact own_nil 1 hH12
  rintro _ o42 l42 c42 n15 w23 ⟨j, rfl, hj, rfl, h⟩
  have s23 : sub (hp w10) (hp w23) := sub.trans s12' (rdH 1 h.l)
  have hlen : ((membs j (fnB mm)).map (nameU g)).length = cnt j (fnB mm) := by rw [List.length_map, membs_len]
  have hcj := cnt_le j (fnB mm)
  refine br_intro (fun hlt => ?_) fun hlt => ?_
  · have hlt : j < g.N := by have := of_decide_eq_true hlt; omega
    obtain ⟨b9, ad, hb1, hba, hb2⟩ := rdM.get1 hlt
    obtain ⟨b10, ad2, hc1, hca, hc2⟩ := rdN.get1 hlt
    obtain ⟨nm, ad3, hn1, hna, hn2⟩ := hg.n.get1 (i := j) (by omega)
    refine idx_i hba hlt ⟨b9, hb2 _ s23, br_intro (fun h9 => ?_) fun h9 => ?_⟩
    · subst h9
      refine idx_i hca hlt ⟨b10, hc2 _ s23, br_intro (fun h10 => ?_) fun _ => ?_⟩
      · exfalso
        have := usp (j := j) (by rw [fnB_get hb1])
        rw [fnB_get hc1] at this
        rw [this] at h10; cases h10
      refine idx_i hba hlt ⟨true, hb2 _ s23, br_intro (fun _ => ⟨_, _, _, B.c1 s23, idx_i hna (by omega) ⟨nm, hn2 _ s23, newC_i h fun k89 w24 h => ?_⟩⟩) fun h => absurd h (by decide)⟩
      refine (app_one tyOk (rfl : kdOfT Ty _ = .slice _) (rfl : kdOfT Ty _ = .slice _) rfl rfl rfl h rfl (by simp [oneC]) (by show (_ + 1) * 16 ≤ _; rw [hlen]; omega) (by rw [hlen]; omega)).mono ?_
      rintro _ w25 ⟨o', c', rfl, h⟩
      have em : (membs (j + 1) (fnB mm)).map (nameU g) = (membs j (fnB mm)).map (nameU g) ++ [nm] := by
        rw [membs_snoc, fnB_get hb1, if_pos rfl, List.map_append]
        unfold nameU
        rw [List.map_cons, List.getD_eq_getElem?_getD, hn1]; rfl
      refine ⟨_, _, _, rfl, ⟨by omega, by omega⟩, ⟨j + 1, by simp, by omega, by rw [em, List.length_append]; rfl, ?_⟩, msr hlt⟩
      have e4 : (((membs j (fnB mm)).map (nameU g)).map fun s => Value.string s) ++ [.string nm] = ((membs (j + 1) (fnB mm)).map (nameU g)).map fun s => Value.string s := by rw [em, List.map_append]; rfl
      rw [e4] at h
      exact h.pick 3 [0, 2]
    · subst h9
      have em : membs (j + 1) (fnB mm) = membs j (fnB mm) := by rw [membs_snoc, fnB_get hb1]; simp
      refine idx_i hba hlt ⟨false, hb2 _ s23, br_intro (fun h => absurd h (by decide)) fun _ => ⟨⟨by omega, by omega⟩, ⟨j + 1, by simp, by omega, by rw [em], ?_⟩, msr hlt⟩⟩
      rw [em]; exact h
  have hlt : j = g.N := by have := of_decide_eq_false hlt; omega
  subst hlt
  have rdNm : rdS (hp w23) ((membs g.N (fnB mm)).map (nameU g)) o42 ((membs g.N (fnB mm)).map (nameU g)).length := rdS_of_row rfl (rdOwn 0 h.l)
  have hcp := cnt_pos_us he pB
  have e13 : (er == 0) = decide (0 < ((((membs g.N (fnB mm)).map (nameU g)).length : Nat) : Int)) := by
    rw [hlen]
    rcases rR with ⟨hn, _⟩ | ⟨_, hn, rfl, _⟩ | ⟨_, hP, rfl, _⟩
    · exact absurd hv hn
    · have hz : cnt g.N (fnB mm) = 0 := Nat.eq_zero_of_not_pos fun h => hn (hcp.1 h)
      rw [decide_eq_false (by omega)]; rfl
    · rw [decide_eq_true (by have := hcp.2 hP; omega)]; rfl
  refine ⟨fun w' => w' = w23, br_intro (fun hx => ?_) fun _ => br_intro (fun h0 => br_intro (fun h12 => ?_) fun _ => rfl) fun _ => rfl, ?_⟩
  · rw [e13] at hx; simp at hx
  · exfalso
    rcases rR with ⟨hn, _⟩ | ⟨_, hn, rfl, _⟩ | ⟨_, hP, rfl, _⟩
    · exact absurd hv hn
    · exact absurd h12 (by decide)
    · exact absurd h0 (by decide)
  rintro _ w28 rfl
  refine br_intro (fun _ => aw s23) fun h0 => ?_
  have h0 : er = 0 := by simpa using h0
  rcases rR with ⟨hn, _⟩ | ⟨_, hn, h1, _⟩ | ⟨_, hP, _, pds, uns, hpd, hun, rfl⟩
  · exact absurd hv hn
  · omega
  have := hun.inj pB
  subst this
  have := hpd.inj pA
  subst this
  have hcl := red_closed hv hP hpd hun
  have heR : EitherP (redG g pds uns) := .inr hcl
  obtain ⟨iGR, bTR, bNR, pNR, pTR, bPR⟩ := inG heR
  have hNR := red_N (g := g) (pds := pds) (uns := uns)
  have znl : z.nl = 1 + cnt g.N (fnB uns) := by rw [← hNR]; exact hG.n.1.symm
  have zpl := hG.p.1
  refine ⟨fun b w' => b = false ∧ Gr w28 w', ⟨_, _, _, C.c1 s23, ⟨by rw [hlen]; omega, by rw [hlen]; omega⟩, br_intro (fun hx => ?_) fun _ => ⟨_, _, _, _, _, _, _, _, _, _, _, _, _, C.row s23, (d_Closed (x := z) (hG.mono s23) hbG).mono ?_⟩⟩, ?_⟩
  · rw [hlen, znl] at hx; simp at hx; omega
  · rintro _ w30 ⟨⟨r, rfl, hr⟩, g30⟩
    exact ⟨_, rfl, by rw [hr.2 hcl]; rfl, g30⟩
  rintro _ _ w31 ⟨rfl, g31⟩
  refine br_intro (fun h => absurd h (by decide)) fun _ => ?_
  have s31 : sub (hp w10) (hp w31) := sub.trans s23 g31
  refine ⟨fun n w' => ∃ i : Nat, n = i ∧ i ≤ cnt g.N (fnB uns) ∧ Gr w31 w', fun n _ => cnt g.N (fnB uns) - n.toNat, ⟨0, rfl, by omega, Gr.refl _⟩, ?_⟩
  rintro _ n w32 ⟨i, rfl, hi, g32⟩
  refine br_intro (fun hlt => ?_) fun _ => ?_
  · have hlt : i < cnt g.N (fnB uns) := by have := of_decide_eq_true hlt; rw [hlen] at this; omega
    intro w33 hd
    have g33 : Gr w31 w33 := g32.trans (Gr.drawn hd)
    have s33 : sub (hp w28) (hp w33) := sub.trans g31 g33
    obtain ⟨s, ad, hs1, hsa, hs2⟩ := hG.n.get1 (i := i + 1) (by omega)
    obtain ⟨t, ad2, ht1', hta, ht2⟩ := rdNm.get1 (i := i) (by rw [hlen]; exact hlt)
    have hst : s = t := by
      rw [List.getElem?_map] at ht1'
      cases hk : (membs g.N (fnB uns))[i]? with
      | none => rw [hk] at ht1'; cases ht1'
      | some k =>
        rw [hk] at ht1'; cases ht1'
        have := names_at (g := g) hk
        have hs1 : (nonsU g uns)[i + 1]? = some s := hs1
        rw [this] at hs1; cases hs1; rfl
    subst hst
    have ei : (i : Int) + 1 = ((i + 1 : Nat) : Int) := by omega
    refine ⟨fun w => sub (hp w28) (hp w), s33, _, _, _, fun w s => C.c1 (sub.trans s23 s), ⟨by omega, by omega⟩, ?_⟩
    rw [ei]
    refine idx_i hsa (by omega) ⟨s, fun w q => hs2 _ (sub.trans s23 q), idx_i hta (by rw [hlen]; exact hlt) ⟨s, fun w q => ht2 _ q, br_intro (fun hx => by simp at hx) fun _ => ⟨⟨by omega, by omega⟩, ⟨i + 1, by simp, by omega, g33⟩, by dsimp only; omega⟩⟩⟩
  have s32 : sub (hp w10) (hp w32) := sub.trans s31 g32
  refine ⟨_, _, _, _, _, _, _, _, _, _, _, _, _, C.row s32, (d_Used (x := z) (hG.mono s32) hbG heR).mono ?_⟩
  rintro _ w37 ⟨ku, uu, rfl, huu, h37⟩
  have g37 : Gr w32 w37 := h37.gone1
  have s37 : sub (hp w10) (hp w37) := sub.trans s32 g37
  refine ⟨_, _, _, rfl, _, _, _, _, _, _, _, _, _, _, _, _, _, C.row s37, (d_Marks (x := z) (hG.mono s37) hbG heR).mono ?_⟩
  rintro _ w38 ⟨km, vv, rfl, hvv, h38⟩
  have g38 : Gr w37 w38 := h38.gone1
  have s38 : sub (hp w10) (hp w38) := sub.trans s37 g38
  have ruu : rowH (hp w38) ⟨ku, 0, none⟩ (bv uu) := h37.row.mono g38
  have rvv : rowH (hp w38) ⟨km, 0, none⟩ (bv vv) := h38.row
  have hul := huu.1
  have hvl := hvv.1
  refine ⟨_, _, _, rfl, fun n w' => ∃ i : Nat, n = i ∧ 1 ≤ i ∧ i ≤ (redG g pds uns).N ∧ Gr w38 w', fun n _ => (redG g pds uns).N - n.toNat, ⟨1, rfl, by omega, by omega, Gr.refl _⟩, ?_⟩
  rintro _ n w39 ⟨i, rfl, hi1, hi2, g39⟩
  have s39 : sub (hp w10) (hp w39) := sub.trans s38 g39
  refine ⟨_, _, _, C.c1 s39, br_intro (fun hlt => ?_) fun _ => ?_⟩
  · have hlt : i < (redG g pds uns).N := by have := of_decide_eq_true hlt; omega
    obtain ⟨a1, a2⟩ := red_all hv hpd hun iG hi1 hlt
    refine idx_i rfl hlt ⟨_, cel_bit (ruu.mono g39) (by omega), br_intro (fun hx => by rw [(huu.2 i).2 a1] at hx; cases hx) fun _ => idx_i rfl hlt ⟨_, cel_bit (rvv.mono g39) (by omega), br_intro (fun hx => by rw [(hvv.2 i).2 a2] at hx; cases hx) fun _ => ⟨⟨by omega, by omega⟩, ⟨i + 1, by simp, by omega, by omega, g39⟩, by dsimp only; omega⟩⟩⟩
  have hkl : (redG g pds uns).prods.length = 1 + (keptU g pds uns g.prods).length := by show (_ :: _).length = _; rw [List.length_cons]; omega
  refine ⟨fun m n w' => ∃ (k i : Nat) (l : List ProdT), m = k ∧ n = i ∧ 1 ≤ i ∧ i ≤ (redG g pds uns).prods.length ∧ k ≤ g.prods.length ∧ l.Sublist (g.prods.drop k) ∧ (∀ p ∈ l, keepU g pds uns p = true) ∧ l.map (prodU g uns) = (keptU g pds uns g.prods).drop (i - 1) ∧ Gr w39 w', fun _ n _ => (redG g pds uns).prods.length - n.toNat, ⟨0, 1, g.prods.filter (keepU g pds uns), rfl, rfl, by omega, by omega, by omega, by rw [List.drop_zero]; exact List.filter_sublist, fun p hp => (List.mem_filter.1 hp).2, by rw [Nat.sub_self, List.drop_zero]; rfl, Gr.refl _⟩, ?_⟩
  rintro _ n21 n22 w40 ⟨k, i, l, rfl, rfl, hi1, hi2, hk, hsb, hkp, hmp, g40⟩
  have s40 : sub (hp w10) (hp w40) := sub.trans s39 g40
  refine ⟨_, _, _, C.c4 s40, br_intro (fun hlt => ?_) fun _ => aw s40⟩
  have hlt : i < (redG g pds uns).prods.length := by have := of_decide_eq_true hlt; omega
  obtain ⟨q, adq, vq, hq1, hqa, hq2, qa, ql, qc, rfl, hqc, hq3⟩ := hG.p.get (i := i) (by omega)
  have hq1' : (keptU g pds uns g.prods)[i - 1]? = some q := by
    have hq1 : (firstU g uns :: keptU g pds uns g.prods)[i]? = some q := hq1
    rwa [show i = (i - 1) + 1 from by omega, List.getElem?_cons_succ] at hq1
  have hqm := List.mem_of_getElem? hq1
  refine ⟨fun m w' => ∃ (k : Nat) (l : List ProdT), m = k ∧ k ≤ g.prods.length ∧ l.Sublist (g.prods.drop k) ∧ (∀ p ∈ l, keepU g pds uns p = true) ∧ l.map (prodU g uns) = (keptU g pds uns g.prods).drop (i - 1) ∧ Gr w39 w', fun m _ => g.prods.length - m.toNat, ⟨k, l, rfl, hk, hsb, hkp, hmp, g40⟩, ?_⟩
  clear hk hsb hkp hmp g40 s40
  rintro _ n23 w41 ⟨k, l, rfl, hk, hsb, hkp, hmp, g41⟩ w42 hd
  have g42 : Gr w39 w42 := g41.trans (Gr.drawn hd)
  have s42 : sub (hp w10) (hp w42) := sub.trans s39 g42
  obtain ⟨p0, l', rfl⟩ : ∃ p0 l', l = p0 :: l' := by
    cases l with
    | nil =>
      have := congrArg List.length hmp
      rw [List.map_nil, List.length_nil, List.length_drop] at this
      omega
    | cons p0 l' => exact ⟨p0, l', rfl⟩
  have hdk : (keptU g pds uns g.prods).drop (i - 1) = q :: (keptU g pds uns g.prods).drop i := by
    rw [List.drop_eq_getElem_cons (by omega), show i - 1 + 1 = i from by omega]
    congr 1
    have := (List.getElem?_eq_some_iff.1 hq1').2
    exact this
  rw [hdk, List.map_cons] at hmp
  obtain ⟨hp0, hmp'⟩ := List.cons.inj hmp
  refine ⟨fun w => sub (hp w10) (hp w), s42, _, _, _, fun w s => B.c4 s, br_intro (fun hk1 => ?_) fun hk1 => ?_⟩
  rotate_left
  · exfalso
    have hk1 : k = g.prods.length := by have := of_decide_eq_false hk1; omega
    rw [hk1, List.drop_length] at hsb
    cases hsb
  have hk1 : k < g.prods.length := by have := of_decide_eq_true hk1; omega
  obtain ⟨p, adp, vp, hp1, hpa, hp2, pa, pl', pc, rfl, hpc, hp3⟩ := hg.p.get (i := k) (by omega)
  have hpm := List.mem_of_getElem? hp1
  have hdg : g.prods.drop k = p :: g.prods.drop (k + 1) := by
    rw [List.drop_eq_getElem_cons (by omega)]
    congr 1
    exact (List.getElem?_eq_some_iff.1 hp1).2
  rw [hdg] at hsb
  have hpl2 := hp3.1
  have hb7 := hb.2.2.2.2.2.2 p hpm
  have s42G := hG.mono s42
  refine ⟨_, _, _, _, _, _, _, _, _, _, _, _, _, fun w s => B.row s, _, _, _, fun w s => B.c4 s, idx_n hpa (by omega) ⟨_, _, _, _, _, fun w s => hp2.at s rfl, _, _, _, _, _, _, _, _, _, _, _, _, _, fun w s => C.row s, _, _, _, fun w s => C.c4 s, idx_n hqa (by omega) ⟨_, _, _, _, _, fun w s => hq2.at s rfl, ?_⟩⟩⟩
  refine (l_like (x := x) (y := z) (hg.mono s42) s42G (iG p hpm) (iGR q hqm) (hp3.mono s42) (hq3.mono s42) bT bN bTR bNR (by omega)).mono ?_
  rintro _ w50 ⟨⟨r, rfl, hr⟩, g50⟩
  have g50' : Gr w39 w50 := g42.trans g50
  have s50 : sub (hp w10) (hp w50) := sub.trans s42 g50
  refine ⟨_, rfl, s50, br_intro (fun hx => ?_) fun hx => ⟨_, _, _, B.c4 s50, br_intro (fun hy => ?_) fun _ => ?_⟩⟩
  · refine ⟨⟨by omega, by omega⟩, ⟨k + 1, p0 :: l', by simp, by omega, ?_, hkp, by rw [hdk, List.map_cons, hp0, hmp'], g50'⟩, msr hk1⟩
    cases hsb with
    | cons _ h => exact h
    | cons_cons _ h =>
      exfalso
      have := hr (hp0 ▸ like_img he hpd hun hpm (hkp _ (by simp)))
      rw [this] at hx; cases hx
  · exfalso
    simp at hy; omega
  · refine ⟨⟨by omega, by omega⟩, ⟨by omega, by omega⟩, ⟨k + 1, i + 1, l', by simp, by simp, by omega, by omega, by omega, ?_, fun p hp => hkp p (by simp [hp]), by rw [Nat.add_sub_cancel]; exact hmp', g50'⟩, by dsimp only; omega⟩
    cases hsb with
    | cons _ h => exact (List.sublist_cons_self p0 l').trans h
    | cons_cons _ h => exact h
end
end Go.Proofs.YtaheggomcnbbiaaDoor
set_option linter.unusedVariables false
namespace Go.V
open Go.RowKit Go.WideShapes Go.ChangeShapes
theorem cellH_of {w : World} {a : Addr} {v : Value} (h : w.cell? a = some v) : cellH (hp w) a = some v := by
  unfold World.cell? at h
  unfold cellH hp
  cases ho : w.heap[a.block]? with
  | none => rw [ho] at h; cases h
  | some o => rw [ho] at h; cases o <;> first | exact h | cases h
theorem mapM_get' {α β : Type} {f : α → Option β} : ∀ {l : List α} {r : List β}, l.mapM f = some r → r.length = l.length ∧ ∀ (i : Nat) (a : α) (b : β), l[i]? = some a → r[i]? = some b → f a = some b
  | [], r, h => by
    simp at h; subst h; exact ⟨rfl, fun i a b ha => by simp at ha⟩
  | x :: l, r, h => by
    simp only [List.mapM_cons, Option.bind_eq_bind, Option.bind_eq_some_iff, Option.pure_def, Option.some.injEq] at h
    obtain ⟨b, hb, r', hr', rfl⟩ := h
    obtain ⟨h1, h2⟩ := mapM_get' hr'
    refine ⟨by simp [h1], fun i a b' ha hb' => ?_⟩
    cases i with
    | zero => simp at ha hb'; subst ha; subst hb'; exact hb
    | succ i => exact h2 i a b' (by simpa using ha) (by simpa using hb')
theorem cells_row {w : World} {base n : Nat} {a : Addr} {vs : List Value} (h : w.cells? base a n = some vs) : rowH (hp w) a vs := by
  unfold World.cells? at h
  split at h
  · obtain ⟨h1, h2⟩ := mapM_get' h
    intro j v hj
    have hlt := (List.getElem?_eq_some_iff.1 hj).1
    rw [h1, List.length_range] at hlt
    exact cellH_of (h2 j j v (by simp [hlt]) hj)
  · cases h
theorem weightsAll_get {H : Type} {P : Program} {e : TypeId} {N : Nat} : ∀ {l : List (DataW H)}, (DataW.weightsAll P e l).all (· ≤ N) = true → ∀ d ∈ l, (d.weights P e).all (· ≤ N) = true
  | [], _, d, hd => by simp at hd
  | x :: l, h, d, hd => by
    rw [DataW.weightsAll, List.all_append, Bool.and_eq_true] at h
    rcases List.mem_cons.1 hd with rfl | hd
    · exact h.1
    · exact weightsAll_get h.2 d hd
theorem weightsEach_get {H : Type} {P : Program} {N : Nat} : ∀ {ts : List TypeId} {l : List (DataW H)}, (DataW.weightsEach P ts l).all (· ≤ N) = true → ∀ (i : Nat) t d, ts[i]? = some t → l[i]? = some d → (d.weights P t).all (· ≤ N) = true
  | [], l, _, i, t, d, ht, _ => by simp at ht
  | _ :: _, [], _, i, t, d, _, hd => by simp at hd
  | t0 :: ts, x :: l, h, i, t, d, ht, hd => by
    rw [DataW.weightsEach, List.all_append, Bool.and_eq_true] at h
    cases i with
    | zero => simp at ht hd; subst ht; subst hd; exact h.1
    | succ i => exact weightsEach_get h.2 i t d (by simpa using ht) (by simpa using hd)
def Opn (P : Program) (α : Type) [Rep α] (bd : α → Prop) (t : TypeId) : Prop :=
  ∀ {H : Type} (enc : TypeId × Value → H) (W : World) (n : Nat) (cs : List Value) (x : DataW H × List MemPlace), DataW.trod enc P W 0 (fun _ => true) true n t cs = some x → (x.1.weights P t).all (· ≤ reachBytes) = true → ∃ y : α, rd (hp W) y cs ∧ bd y
def anyS : ByteArray → Prop := fun s => s.size ≤ reachBytes
def anyL {α : Type} (bytes : Nat) (bd : α → Prop) : List α → Prop := fun xs => xs.length * bytes ≤ reachBytes ∧ ∀ x ∈ xs, bd x
section
variable {P : Program} {t e : TypeId}
theorem opn_int (ht : P.underlying t = some (.int .i64)) : Opn P Int anyI t := by
  intro H enc W n cs x h hw
  obtain ⟨z, rfl, _, hwf⟩ := DataW.trod_int ht h
  refine ⟨z, rfl, ?_⟩
  have : IntKind.i64.min ≤ z ∧ z ≤ IntKind.i64.max := by simpa [Lit.wf] using hwf
  exact this
theorem opn_str (ht : P.underlying t = some .string) : Opn P ByteArray anyS t := by
  intro H enc W n cs x h hw
  obtain ⟨z, rfl, rfl, _⟩ := DataW.trod_string ht h
  refine ⟨z, rfl, ?_⟩
  simpa [DataW.weights, anyS] using hw
theorem opn_slice {α : Type} [Rep α] {bd : α → Prop} {bb : Nat} (ht : P.underlying t = some (.slice e)) (hc : P.cellsOf e = Rep.n α) (hb : P.bytesOf e = bb) (he : Opn P α bd e) : Opn P (List α) (anyL bb bd) t := by
  intro H enc W n cs x h hw
  rcases DataW.trod_slice ht h with ⟨rfl, rfl⟩ | ⟨a, len, cap, elems, rest, m, rfl, rfl, rfl, _, hlc, hcm, hel, hg, _, _⟩
  · exact ⟨[], ⟨none, 0, 0, rfl, Nat.le_refl _, rdS.nil⟩, by simp [reachBytes], fun x hx => by simp at hx⟩
  · simp only [DataW.weights, ht, List.all_cons, List.all_append, Bool.and_eq_true, decide_eq_true_eq, List.length_map] at hw
    obtain ⟨hw1, hw2, _⟩ := hw
    have key : ∀ k, k ≤ len → ∃ ys : List α, ys.length = k ∧ (∀ i y, ys[i]? = some y → ∃ vs, rowH (hp W) (a.add (mulS i (Rep.n α))) vs ∧ rd (hp W) y vs) ∧ ∀ y ∈ ys, bd y := by
      intro k
      induction k with
      | zero => exact fun _ => ⟨[], rfl, fun i y hy => by simp at hy, fun y hy => by simp at hy⟩
      | succ k ih =>
        intro hk
        obtain ⟨ys, h1, h2, h3⟩ := ih (by omega)
        have hgk := hg k (by omega)
        obtain ⟨d, hd⟩ : ∃ d, elems[k]? = some d := ⟨elems[k]'(by omega), List.getElem?_eq_getElem _⟩
        rw [hd, Option.bind_eq_some_iff] at hgk
        obtain ⟨vs, hv1, hv2⟩ := hgk
        obtain ⟨y, hy1, hy2⟩ := he enc W m vs d hv2 (weightsAll_get hw2 _ (by
          have := List.mem_of_getElem? hd
          exact List.mem_map_of_mem this))
        refine ⟨ys ++ [y], by simp [h1], fun i z hz => ?_, fun z hz => ?_⟩
        · by_cases hi : i < k
          · rw [List.getElem?_append_left (by omega)] at hz
            exact h2 i z hz
          · have : i = k := by
              have := (List.getElem?_eq_some_iff.1 hz).1
              simp at this; omega
            subst this
            rw [List.getElem?_append_right (by omega), h1, Nat.sub_self] at hz
            cases hz
            refine ⟨vs, ?_, hy1⟩
            rw [mulS_eq, ← hc]
            exact cells_row hv1
        · rcases List.mem_append.1 hz with hz | hz
          · exact h3 z hz
          · simp at hz; subst hz; exact hy2
    obtain ⟨ys, h1, h2, h3⟩ := key len (Nat.le_refl _)
    refine ⟨ys, ⟨some a, len, cap, rfl, hlc, h1, fun i y hy => ?_⟩, ?_, h3⟩
    · obtain ⟨vs, h4, h5⟩ := h2 i y hy
      exact ⟨a, vs, rfl, h4, h5⟩
    · rw [h1, ← hb, ← hel]
      exact Nat.le_trans (Nat.mul_le_mul_right _ (Nat.le_add_right _ _)) hw1
theorem opn_struct {fs : Array Field} (ht : P.underlying t = some (.struct fs)) {H : Type} {enc : TypeId × Value → H} {W : World} {n : Nat} {cs : List Value} {x : DataW H × List MemPlace} (h : DataW.trod enc P W 0 (fun _ => true) true n t cs = some x) (hw : (x.1.weights P t).all (· ≤ reachBytes) = true) :
    cs.length = P.cellsOf t ∧ ∀ (i : Nat) (f : Field) (ty k o : Nat), fs[i]? = some f → P.cellsOf ty = k → f.type = ty → f.offset = o → ∃ (m : Nat) (d : DataW H × List MemPlace), DataW.trod enc P W 0 (fun _ => true) true m ty ((cs.drop o).take k) = some d ∧ (d.1.weights P ty).all (· ≤ reachBytes) = true := by
  obtain ⟨xs, m, rfl, rfl, hl, hxs, hf⟩ := DataW.trod_struct ht h
  refine ⟨hl, ?_⟩
  rintro i f _ _ _ hi rfl rfl rfl
  have hlt := (Array.getElem?_eq_some_iff.1 hi).1
  obtain ⟨d, hd⟩ : ∃ d, xs[i]? = some d := ⟨xs[i]'(by omega), List.getElem?_eq_getElem _⟩
  refine ⟨m, d, by rw [hf i f hi, hd], ?_⟩
  simp only [DataW.weights, ht] at hw
  exact weightsEach_get hw i f.type d.1 (by simp [hi]) (by simp [hd])
theorem opn_arg {α : Type} [Rep α] {bd : α → Prop} (ho : Opn P α bd t) {H : Type} {enc : TypeId × Value → H} {W : World} {v : Value} {d : DataW H} {ps : List MemPlace} (h : DataW.Trod enc P W 0 (fun _ => true) true t v d ps)
    (hw : (d.weights P t).all (· ≤ reachBytes) = true) : ∃ y : α, rd (hp W) y v.cells.toList ∧ bd y := by
  obtain ⟨n, h⟩ := h
  exact ho enc W n _ _ h hw
theorem arg_int {H : Type} {enc : TypeId × Value → H} {W : World} {b : Nat} {v : Value} {d : DataW H} {ps : List MemPlace} (ht : P.underlying t = some (.int .i64)) (hval : Value.okWide P W .any b t v) (h : DataW.Trod enc P W 0 (fun _ => true) true t v d ps) : ∃ x : Int, v = .int .i64 x ∧ anyI x := by
  obtain ⟨n, rfl, _, _, hwf⟩ := open_int ht hval h
  refine ⟨n, rfl, ?_⟩
  have : IntKind.i64.min ≤ n ∧ n ≤ IntKind.i64.max := by simpa [Lit.wf] using hwf
  exact this
theorem arg_slice {α : Type} [Rep α] {bd : α → Prop} {bb : Nat} (ho : Opn P (List α) (anyL bb bd) t) (ht : P.underlying t = some (.slice e)) {H : Type} {enc : TypeId × Value → H} {W : World} {b : Nat} {v : Value} {d : DataW H} {ps : List MemPlace}
    (hval : Value.okWide P W .any b t v) (h : DataW.Trod enc P W 0 (fun _ => true) true t v d ps) (hw : (d.weights P t).all (· ≤ reachBytes) = true) : ∃ (xs : List α) (a : Option Addr) (l c : Nat), v = .slice a l c ∧ l ≤ c ∧ rdS (hp W) xs a l ∧ anyL bb bd xs := by
  obtain ⟨xs, ⟨a, l, c, hv, hlc, hr⟩, hb⟩ := opn_arg ho h hw
  refine ⟨xs, a, l, c, ?_, hlc, hr, hb⟩
  cases v <;> first | (simp [Value.okWide, ht, Cell.okWide, Cell.ok] at hval; done) | simpa [Value.cells] using hv
theorem arg_struct {α : Type} [Rep α] {bd : α → Prop} {fs : Array Field} (ho : Opn P α bd t) (ht : P.underlying t = some (.struct fs)) {H : Type} {enc : TypeId × Value → H} {W : World} {b : Nat} {v : Value} {d : DataW H} {ps : List MemPlace}
    (hval : Value.okWide P W .any b t v) (h : DataW.Trod enc P W 0 (fun _ => true) true t v d ps) (hw : (d.weights P t).all (· ≤ reachBytes) = true) : ∃ (x : α) (cs : List Value), v = .agg ⟨cs⟩ ∧ rd (hp W) x cs ∧ bd x := by
  obtain ⟨x, hr, hb⟩ := opn_arg ho h hw
  simp only [Value.okWide, ht] at hval
  obtain ⟨cs, rfl, _⟩ := hval
  exact ⟨x, cs.toList, rfl, hr, hb⟩
theorem below_of {w w' : World} (h : Ev w w') (g : Gr w w') : Below w.heap.size w w' := by
  refine ⟨h.os, h.tape, h.output, h.size, fun k hk => ?_⟩
  cases ho : w.heap[k]? with
  | none => rw [Array.getElem?_eq_none_iff] at ho; omega
  | some o =>
    by_cases hd : notD o = true
    · have : hp w k = some o := by unfold hp; rw [ho, hidD_not hd]
      exact hidD_some (g k o this)
    · cases o <;> first | exact absurd rfl hd | exact h.dfr _ _ ho
theorem trodAll_below (hl : laidOutB P = true) {H : Type} {enc : TypeId × Value → H} {W W' : World} (hb : Below W.heap.size W W') {sp : Nat → Bool} : ∀ {ts : List TypeId} {vs : List Value} {ds : List (DataW H)} {ps : List MemPlace},
    (ts.all fun t => P.readableRec t && decide (t < P.types.size)) = true → DataW.TrodAll enc P W 0 (fun _ => true) true ts vs ds ps → (∀ x ∈ ps, x.block < W.heap.size) → (∀ x ∈ ps, sp x.block = true) →
    DataW.TrodAll enc P W' 0 sp true ts vs ds ps
  | [], [], [], ps, _, h, _, _ => h
  | [], _ :: _, _, _, _, h, _, _ => h.elim
  | [], [], _ :: _, _, _, h, _, _ => h.elim
  | _ :: _, [], _, _, _, h, _, _ => h.elim
  | _ :: _, _ :: _, [], _, _, h, _, _ => h.elim
  | t :: ts, v :: vs, d :: ds, ps, ht, h, hlt, hsp => by
    obtain ⟨p, q, h1, h2, rfl⟩ := h
    rw [List.all_cons, Bool.and_eq_true, Bool.and_eq_true, decide_eq_true_eq] at ht
    exact ⟨p, q, WideElems.Trod_stays hl ht.1.1 ht.1.2 h1 (fun x hx => hb.same (hlt x (by simp [hx]))) (fun x hx => hsp x (by simp [hx])), trodAll_below hl hb ht.2 h2 (fun x hx => hlt x (by simp [hx])) (fun x hx => hsp x (by simp [hx])), rfl⟩
theorem law_post {H : Type} {enc : TypeId × Value → H} {s : ChangeSpec} {f : Func} {W W' : World} {args : Array Value} {ds gs : List (DataW H)} {before : List MemPlace} {tb : TypeId} (hv : s.vars = []) (hrt : f.resultTypes = #[tb]) (htb : P.underlying tb = some .bool)
    (hsp : s.fn H (ds ++ gs) = { results := [.lit (.bool true)], args := ds }) (hl : laidOutB P = true) (hrd : (f.params.toList.all fun t => P.readableRec t && decide (t < P.types.size)) = true)
    (hW : DataW.Whole enc P f.params.toList s.vars false W args.toList ds gs before) (hE : Ev W W') (hg : Gr W W') : s.post enc P f false true false false W args (.bool true) W' := by
  have hb := below_of hE hg
  have hlt : ∀ p ∈ before, p.block < W.heap.size := fun p hp => hW.lt p hp
  have hold : ∀ p ∈ before, (fun b => decide (b < W.heap.size)) p.block = true := fun p hp => by simpa using hlt p hp
  have hW' := hW
  obtain ⟨p, q, h1, h2, rfl, h3, h4⟩ := hW
  have hq : q = [] := by
    rw [hv] at h2
    cases gs with
    | nil => exact h2
    | cons _ _ => exact h2.elim
  subst hq
  rw [List.append_nil] at *
  have hargs : ∀ sp : Nat → Bool, (∀ x ∈ p, sp x.block = true) → DataW.TrodAll enc P W' 0 sp true f.params.toList args.toList (s.fn H (ds ++ gs)).args p := fun sp hs => by
    rw [hsp]; exact trodAll_below hl hb hrd h1 hlt hs
  have hvars : ∀ sp : Nat → Bool, DataW.TrodVars enc P W' sp s.vars (s.fn H (ds ++ gs)).vars [] := fun sp => by
    rw [hsp, hv]; exact rfl
  have hres : ∀ (b : Nat) (sp : Nat → Bool) (hd : Bool), DataW.TrodAll enc P W' b sp hd f.resultTypes.toList ((Value.bool true).resultList f.resultTypes.size) (s.fn H (ds ++ gs)).results [] := fun b sp hd => by
    rw [hsp, hrt]; exact trodAll_cons_mk (shut_bool htb _) trodAll_mk0
  have hok : ∀ (j : Nat) (t : TypeId) (r : Value), f.resultTypes[j]? = some t → ((Value.bool true).resultList f.resultTypes.size)[j]? = some r → Value.okWide P W' .any 0 t r := ok_one hrt rfl (okWide_bool_mk htb _)
  refine ⟨ds, gs, p, [], p, [], hW', hres _ _ _, hargs _ hold, hvars _, World.keptBut_mono (fun x hx => ⟨hx, ?_⟩) (hb.frame (· ∈ p)), fun _ => ?_⟩
  · exact Or.inr (by simpa using hx)
  · refine ⟨hok, _, _, ([] ++ p) ++ [], ⟨[] ++ p, [], trodAll_append (hargs _ (fun _ _ => rfl)) (hres _ _ _), hvars _, rfl, ?_, ?_⟩, ?_⟩
    · intro b off hp
      have hin : MemPlace.cell b off ∈ p := by simpa using hp
      rw [hb.frozen (hlt _ hin)]
      exact h3 b off hin
    · intro ha; cases ha
    · intro x hx _
      simpa using hx
end
end Go.V
set_option linter.unusedVariables false
namespace Go.Proofs.YtaheggomcnbbiaaDoor
open Go.V Go.RowKit Go.WideShapes Go.ChangeShapes Go.ChangeAt
theorem ownK : ownKnob Tryd.prog.godebug = none := by kernel_rfl
theorem laidO : laidOutB Tryd.prog = true := by kernel_rfl
theorem cellsI : Tryd.prog.cellsOf 3 = 1 := by kernel_rfl
theorem bytesI : Tryd.prog.bytesOf 3 = 8 := by kernel_rfl
theorem cellsStr : Tryd.prog.cellsOf 9 = 1 := by kernel_rfl
theorem bytesStr : Tryd.prog.bytesOf 9 = 16 := by kernel_rfl
theorem cellsS24 : Tryd.prog.cellsOf 24 = 1 := by kernel_rfl
theorem cellsS22 : Tryd.prog.cellsOf 22 = 1 := by kernel_rfl
theorem cellsS23 : Tryd.prog.cellsOf 23 = 1 := by kernel_rfl
theorem cellsS25 : Tryd.prog.cellsOf 25 = 1 := by kernel_rfl
theorem cellsT : Tryd.prog.cellsOf 81 = 2 := by kernel_rfl
theorem bytesT : Tryd.prog.bytesOf 81 = 24 := by kernel_rfl
theorem cellsP : Tryd.prog.cellsOf 51 = 3 := by kernel_rfl
theorem bytesP : Tryd.prog.bytesOf 51 = 40 := by kernel_rfl
theorem cellsG : Tryd.prog.cellsOf 27 = 5 := by kernel_rfl
theorem oInt : Opn Tryd.prog Int anyI 3 := opn_int Tryd.underlying3
theorem oInts : Opn Tryd.prog (List Int) (anyL 8 anyI) 24 := opn_slice Tryd.underlying24 cellsI bytesI oInt
theorem oStr : Opn Tryd.prog ByteArray anyS 9 := opn_str Tryd.underlying9
theorem oStrs : Opn Tryd.prog (List ByteArray) (anyL 16 anyS) 23 := opn_slice Tryd.underlying23 cellsStr bytesStr oStr
theorem oTerm : Opn Tryd.prog TermT (fun t => anyS t.name ∧ anyI t.level) 81 := by
  intro H enc W n cs x h hw
  obtain ⟨hl, hf⟩ := opn_struct Tryd.underlying81 h hw
  rw [cellsT] at hl
  obtain ⟨_, _, t0, w0⟩ := hf 0 _ 9 1 0 rfl cellsStr rfl rfl
  obtain ⟨_, _, t1, w1⟩ := hf 1 _ 3 1 1 rfl cellsI rfl rfl
  obtain ⟨y0, r0, b0⟩ := oStr enc W _ _ _ t0 w0
  obtain ⟨y1, r1, b1⟩ := oInt enc W _ _ _ t1 w1
  match cs, hl with
  | [c0, c1], _ =>
    have e0 : [c0] = [.string y0] := r0
    have e1 : [c1] = [.int .i64 y1] := r1
    cases e0; cases e1
    exact ⟨⟨y0, y1⟩, rfl, b0, b1⟩
theorem oTerms : Opn Tryd.prog (List TermT) (anyL 24 fun t => anyS t.name ∧ anyI t.level) 22 := opn_slice Tryd.underlying22 cellsT bytesT oTerm
theorem oProd : Opn Tryd.prog ProdT (fun p => anyI p.left ∧ anyL 8 anyI p.right ∧ anyI p.level) 51 := by
  intro H enc W n cs x h hw
  obtain ⟨hl, hf⟩ := opn_struct Tryd.underlying51 h hw
  rw [cellsP] at hl
  obtain ⟨_, _, t0, w0⟩ := hf 0 _ 3 1 0 rfl cellsI rfl rfl
  obtain ⟨_, _, t1, w1⟩ := hf 1 _ 24 1 1 rfl cellsS24 rfl rfl
  obtain ⟨_, _, t2, w2⟩ := hf 2 _ 3 1 2 rfl cellsI rfl rfl
  obtain ⟨y0, r0, b0⟩ := oInt enc W _ _ _ t0 w0
  obtain ⟨y1, ⟨a, l, c, r1, hlc, r1'⟩, b1⟩ := oInts enc W _ _ _ t1 w1
  obtain ⟨y2, r2, b2⟩ := oInt enc W _ _ _ t2 w2
  match cs, hl with
  | [c0, c1, c2], _ =>
    have e0 : [c0] = [.int .i64 y0] := r0
    have e1 : [c1] = [.slice a l c] := r1
    have e2 : [c2] = [.int .i64 y2] := r2
    cases e0; cases e1; cases e2
    exact ⟨⟨y0, y1, y2⟩, ⟨a, l, c, rfl, hlc, r1'⟩, b0, b1, b2⟩
theorem oProds : Opn Tryd.prog (List ProdT) (anyL 40 fun p => anyI p.left ∧ anyL 8 anyI p.right ∧ anyI p.level) 25 := opn_slice Tryd.underlying25 cellsP bytesP oProd
def okG2 (g : GramT) : Prop := okG g ∧ g.terms.length * 24 ≤ 140737488355328 ∧ g.nons.length * 16 ≤ 140737488355328
theorem oGram : Opn Tryd.prog GramT okG2 27 := by
  intro H enc W n cs x h hw
  obtain ⟨hl, hf⟩ := opn_struct Tryd.underlying27 h hw
  rw [cellsG] at hl
  obtain ⟨_, _, t0, w0⟩ := hf 0 _ 22 1 0 rfl cellsS22 rfl rfl
  obtain ⟨_, _, t1, w1⟩ := hf 1 _ 23 1 1 rfl cellsS23 rfl rfl
  obtain ⟨_, _, t2, w2⟩ := hf 2 _ 24 1 2 rfl cellsS24 rfl rfl
  obtain ⟨_, _, t3, w3⟩ := hf 3 _ 3 1 3 rfl cellsI rfl rfl
  obtain ⟨_, _, t4, w4⟩ := hf 4 _ 25 1 4 rfl cellsS25 rfl rfl
  obtain ⟨y0, ⟨a0, l0, c0', r0, k0, q0⟩, b0⟩ := oTerms enc W _ _ _ t0 w0
  obtain ⟨y1, ⟨a1, l1, c1', r1, k1, q1⟩, b1⟩ := oStrs enc W _ _ _ t1 w1
  obtain ⟨y2, ⟨a2, l2, c2', r2, k2, q2⟩, b2⟩ := oInts enc W _ _ _ t2 w2
  obtain ⟨y3, r3, b3⟩ := oInt enc W _ _ _ t3 w3
  obtain ⟨y4, ⟨a4, l4, c4', r4, k4, q4⟩, b4⟩ := oProds enc W _ _ _ t4 w4
  match cs, hl with
  | [c0, c1, c2, c3, c4], _ =>
    have e0 : [c0] = [.slice a0 l0 c0'] := r0
    have e1 : [c1] = [.slice a1 l1 c1'] := r1
    have e2 : [c2] = [.slice a2 l2 c2'] := r2
    have e3 : [c3] = [.int .i64 y3] := r3
    have e4 : [c4] = [.slice a4 l4 c4'] := r4
    cases e0; cases e1; cases e2; cases e3; cases e4
    refine ⟨⟨y0, y1, y2, y3, y4⟩, ⟨⟨a0, l0, c0', a1, l1, c1', a2, l2, c2', y3, a4, l4, c4'⟩, rfl, q0, q1, q2, rfl, q4, k0, k1, k2, k4⟩, ?_⟩
    have z0 := b0.1
    have z1 := b1.1
    have z2 := b2.1
    have z4 := b4.1
    unfold reachBytes at z0 z1 z2 z4
    refine ⟨⟨by show y0.length ≤ _; omega, by show y1.length ≤ _; omega, by show y2.length ≤ _; omega, by show y4.length * 40 ≤ _; omega, fun t ht => ⟨?_, (b0.2 t ht).2⟩, fun s hs => ?_, fun p hp => ?_⟩, by show y0.length * 24 ≤ _; omega, by show y1.length * 16 ≤ _; omega⟩
    · have := (b0.2 t ht).1; unfold anyS reachBytes at this; omega
    · have := b1.2 s hs; unfold anyS reachBytes at this; omega
    · have := (b4.2 p hp).2.1.1; unfold reachBytes at this; omega
theorem gTab : Tryd.prog.globalNamed "math/bits.deBruijn64tab" = some 0 := by kernel_rfl
theorem gTabType : (Tryd.prog.globals[0]?).map (·.type) = some 133 := by kernel_rfl
theorem cellsTab : Tryd.prog.cellsOf 133 = 64 := by kernel_rfl
theorem cellsTabE : Tryd.prog.cellsOf 5 = 1 := by kernel_rfl
theorem table {W : World} (h : laidMetH Tryd.prog [("math/bits.deBruijn64tab", Rows.laid_math_bits_deBruijn64tab)] W) : tabA (hp W) := by
  have ht : Lib.TabIs Tryd.prog W "math/bits.deBruijn64tab" .u8 (Lib.deBruijn64tab.map fun (k : Nat) => (k : Int)) :=
    Lib.tabIs_of_head (rest := []) gTab gTabType Tryd.underlying133 Tryd.underlying5 cellsTabE cellsTab h
  refine .inr ⟨_, rfl, fun j v hj => ?_⟩
  have hlt := (List.getElem?_eq_some_iff.1 hj).1
  have hc := ht.cell gTab j (by simpa [tabV] using hlt)
  rw [add_lit0]
  refine cellH_of (hc.trans ?_)
  rw [← hj]
  simp only [tabV, List.getElem?_map, List.length_map] at hj hlt ⊢
  rw [List.getElem?_eq_getElem hlt]
  simp [hlt]
noncomputable def laidWorld (os : Os) : World :=
  { World.holding Tryd.prog os ⟨#[], #[], []⟩ with heap := (World.holding Tryd.prog os ⟨#[], #[], []⟩).heap.modify 0 fun
      | .cells _ t frozen => .cells ⟨tabV⟩ t frozen
      | o => o }
end Go.Proofs.YtaheggomcnbbiaaDoor
