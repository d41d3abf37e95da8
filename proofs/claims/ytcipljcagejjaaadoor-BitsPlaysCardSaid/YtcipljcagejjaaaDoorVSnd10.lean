/- A function's code: its proposition gives its contract (3). -/
import Derived.Test.YtcipljcagejjaaaDoorVSndR
set_option linter.unusedVariables false
namespace Go.V
section
variable {P : Program} {Ty : TypeId → Option TyI} {Fn : FuncId → Bool} {E : World → World → Prop} {N : Nat} {rf : Bool}
theorem brV_elim {v : Value} {a b : Prop} (h : brV v a b) : ∃ t, v = .bool t ∧ (if t then a else b) := by
  unfold brV at h
  split at h
  · rename_i c; refine ⟨c, rfl, ?_⟩; cases c <;> exact h
  · exact h.elim
/- a state at a joint, taken up again -/
theorem join_take {ws : List Nat} {fr fr2 : Fr} {lv : List (Nat × S1)} {J : arrS (shs lv) (World → Prop)} {w : World} {b : Fr → World → Prop}
    (hJ : apS (shs lv) J (selS fr2 lv) (fun _ => False) w) (hb : ∀ (d : Nat → Value), allS (shs lv) fun vs => ∀ w, apS (shs lv) J vs (fun _ => False) w → b (updS N (havoc N d ws fr) lv vs) w) :
    b (updS N (havoc N (getS fr2) ws fr) lv (selS fr2 lv)) w :=
  apS_typed (fun _ => False) (fun f => f w) (fun h => h) hJ _ (hb (getS fr2)) w hJ
theorem bif_x {i j : Nat} {p q : Prop} (h : bif Nat.beq i j then p else q) : if i = j then p else q := by
  by_cases hij : i = j
  · subst hij; simpa using h
  · rw [if_neg hij]
    have : Nat.beq i j = false := by cases hb : Nat.beq i j with | false => rfl | true => exact absurd (Nat.eq_of_beq_eq_true hb) hij
    rw [this] at h; exact h
def selA (a : Act) : List (Nat × S1) → List Value
  | [] => []
  | (s, _) :: l => a.tmps.getD s undef :: selA a l
theorem selA_eq {fr : Fr} {ds : List Deferred} (hf : Fits N fr) : ∀ lv, selA (actOf N fr ds) lv = selS fr lv
  | [] => rfl
  | (s, c) :: l => by
    have h1 := actOf_get N fr ds hf s
    show (actOf N fr ds).tmps.getD s undef :: selA (actOf N fr ds) l = getS fr s :: selS fr l
    rw [h1, selA_eq hf l]
theorem den_sound (hT : TyOk P Ty) (hF : FnOk P Fn) (hE : EOk E) (hm : P.follows .mixedOrders = true) (A : Ann) : ∀ (c : Code) (ro : Option Nat) (_ : hasRF c = true → ro = none ∧ rf = true ∧ ∀ a b, E a b → Ev a b) (k : Nat) (fr : Fr) (w : World) (n r : Fr → World → Prop) (x : Nat → Fr → World → Prop),
    den P Ty Fn E N A c fr w n r x → Fits N fr → ∀ ds, c.wpIn (wf ro) k P (QN rf E N (wrs c) fr w ds n r x) (actOf N fr ds) w := by
  have eref : ∀ w, E w w := fun w => hE.ofEv _ _ (Ev.refl w)
  intro c
  induction c with
  | skip => exact fun ro hro k fr w n r x h hf ds => wpIn_skip ⟨fr, [], rfl, hf, Agr.refl _ _, eref w, Mk.nil _ _, h⟩
  | region id ops draw =>
    intro ro hro k fr w n r x h hf ds
    exact reg_sound hT hF hE hm h hf fun fr' w' h1 h2 h3 h4 => ⟨fr', [], rfl, h1, h2, h3, Mk.nil _ _, h4⟩
  | seq a b iha ihb =>
    intro ro hro k fr w n r x h hf ds
    have hra := fun (h : hasRF a = true) => hro (by simp [hasRF, h])
    have hrb := fun (h : hasRF b = true) => hro (by simp [hasRF, h])
    have sa : ∀ t ∈ wrs a, t ∈ wrs (.seq a b) := fun t ht => by rw [wrs_seq]; simp [ht]
    have sb : ∀ t ∈ wrs b, t ∈ wrs (.seq a b) := fun t ht => by rw [wrs_seq]; simp [ht]
    refine wpIn_seq ?_
    have key : ∀ n', den P Ty Fn E N A a fr w n' r x → (∀ fr' w', Fits N fr' → Agr (wrs a) fr fr' → E w w' → n' fr' w' → ∃ fr'', (∀ d, actOf N fr'' d = actOf N fr' d) ∧ Fits N fr'' ∧ Agr (wrs a) fr fr'' ∧ den P Ty Fn E N A b fr'' w' n r x) →
        a.wpIn (wf ro) k P (Exit.then (b.wpIn (wf ro) k P (QN rf E N (wrs (.seq a b)) fr w ds n r x)) (QN rf E N (wrs (.seq a b)) fr w ds n r x)) (actOf N fr ds) w := by
      intro n' hd hn
      refine wpIn_mono (iha ro hra k fr w n' r x hd hf ds) fun e a' w' hq => ?_
      cases e with
      | normal =>
        obtain ⟨fr', ds', rfl, h2, h3, h4, h5, h6⟩ := hq
        obtain ⟨fr'', g1, g2, g3, g4⟩ := hn fr' w' h2 h3 h4 h6
        show b.wpIn (wf ro) k P _ _ w'
        rw [← g1]
        exact wpIn_mono (ihb ro hrb k fr'' w' n r x g4 g2 (ds' ++ ds)) fun e a w hq => QN.later hE sb (g3.mono sa) h4 h5 hq
      | ret => exact QN.mono sa (fun _ _ _ _ h => h) (fun _ _ h => h) (fun _ _ _ h => h) (n := n') (n' := n') hq
      | exit i => exact QN.mono sa (fun _ _ _ _ h => h) (fun _ _ h => h) (fun _ _ _ h => h) (n := n') (n' := n') hq
      | goto l => exact hq.elim
      | panic ch => exact hq.elim
      | outgrown => exact hq.elim
    simp only [den] at h
    split at h
    · rename_i lv _
      obtain ⟨J, h1, h2⟩ := h
      refine key _ h1 fun fr' w' g1 g2 g3 g4 => ⟨_, fun d => act_join lv d g2, fits_updS lv _ (fits_havoc _ hf), agr_join' lv hf g2, join_take (b := fun fr w => den P Ty Fn E N A b fr w n r x) g4 h2⟩
    · exact key _ h fun fr' w' g1 g2 g3 g4 => ⟨fr', fun _ => rfl, g1, g2, g4⟩
  | cond c a b iha ihb =>
    intro ro hro k fr w n r x h hf ds
    have hra := fun (h : hasRF a = true) => hro (by simp [hasRF, h])
    have hrb := fun (h : hasRF b = true) => hro (by simp [hasRF, h])
    obtain ⟨t, ht, h⟩ := brV_elim h
    have he : (actOf N fr ds).eval c = .bool t := by rw [ev_act N fr ds hf]; exact ht
    refine wpIn_cond he ?_
    cases t with
    | true => exact wpIn_mono (iha ro hra k fr w n r x h hf ds) fun e a w hq => QN.mono (fun t ht => by rw [wrs_cond]; simp [ht]) (fun _ _ _ _ h => h) (fun _ _ h => h) (fun _ _ _ h => h) hq
    | false => exact wpIn_mono (ihb ro hrb k fr w n r x h hf ds) fun e a w hq => QN.mono (fun t ht => by rw [wrs_cond]; simp [ht]) (fun _ _ _ _ h => h) (fun _ _ h => h) (fun _ _ _ h => h) hq
  | block id a iha =>
    intro ro hro k fr w n r x h hf ds
    have hra := fun (h : hasRF a = true) => hro (by simpa [hasRF] using h)
    refine wpIn_block ?_
    have key : ∀ n', den P Ty Fn E N A a fr w n' r (fun j fr w => bif Nat.beq j id then n' fr w else x j fr w) → (∀ fr' w', Fits N fr' → Agr (wrs a) fr fr' → n' fr' w' → ∃ fr'', (∀ d, actOf N fr'' d = actOf N fr' d) ∧ Fits N fr'' ∧ Agr (wrs a) fr fr'' ∧ n fr'' w') →
        a.wpIn (wf ro) k P (Exit.inBlock id (QN rf E N (wrs (.block id a)) fr w ds n r x)) (actOf N fr ds) w := by
      intro n' hd hn
      have toN : ∀ fr' ds' w', Fits N fr' → Agr (wrs a) fr fr' → E w w' → Mk rf w w' ds' → n' fr' w' → QN rf E N (wrs (.block id a)) fr w ds n r x .normal (actOf N fr' (ds' ++ ds)) w' := fun fr' ds' w' h2 h3 h4 h5 h6 => by
        obtain ⟨fr'', g1, g2, g3, g4⟩ := hn fr' w' h2 h3 h6
        exact ⟨fr'', ds', (g1 _).symm, g2, g3, h4, h5, g4⟩
      refine wpIn_mono (iha ro hra k fr w n' r _ hd hf ds) fun e a' w' hq => ?_
      cases e with
      | normal => obtain ⟨fr', ds', rfl, h2, h3, h4, h5, h6⟩ := hq; exact toN fr' ds' w' h2 h3 h4 h5 h6
      | exit i =>
        obtain ⟨fr', ds', rfl, h2, h3, h4, h5, h6⟩ := hq
        have h6 := bif_x h6
        simp only [Exit.inBlock]
        split
        · rename_i hi; rw [if_pos hi] at h6; exact toN fr' ds' w' h2 h3 h4 h5 h6
        · rename_i hi; rw [if_neg hi] at h6; exact ⟨fr', ds', rfl, h2, h3, h4, h5, h6⟩
      | ret => exact hq
      | goto l => exact hq.elim
      | panic ch => exact hq.elim
      | outgrown => exact hq.elim
    simp only [den] at h
    split at h
    · rename_i lv _
      obtain ⟨J, h1, h2⟩ := h
      refine key _ h1 fun fr' w' g1 g2 g4 => ⟨_, fun d => act_join lv d g2, fits_updS lv _ (fits_havoc _ hf), agr_join' lv hf g2, join_take g4 h2⟩
    · exact key _ h fun fr' w' g1 g2 g4 => ⟨fr', fun _ => rfl, g1, g2, g4⟩
  | loop a iha =>
    intro ro hro k fr w n r x h hf ds
    have hra := fun (h : hasRF a = true) => hro (by simpa [hasRF] using h)
    simp only [den] at h
    split at h
    · rename_i lv _
      obtain ⟨I, m, h0, hr⟩ := h
      refine wpIn_loop (fun a' w' => ∃ fr2 ds', a' = actOf N fr2 (ds' ++ ds) ∧ Fits N fr2 ∧ Agr (wrs a) fr fr2 ∧ E w w' ∧ Mk rf w w' ds' ∧ apS (shs lv) I (selS fr2 lv) (fun _ => False) w')
        (fun a' w' => apS (shs lv) m (selA a' lv) (fun _ => 0) w') ⟨fr, [], rfl, hf, Agr.refl _ _, eref w, Mk.nil _ _, h0⟩ ?_
      rintro _ w' ⟨fr2, ds', rfl, h2, h3, h4, h5, h6⟩
      have hfit : Fits N (updS N (havoc N (getS fr2) (wrs a) fr) lv (selS fr2 lv)) := fits_updS lv _ (fits_havoc _ hf)
      have hagr := agr_join' (N := N) lv hf h3
      have hb := apS_typed (fun _ => False) (fun f => f w') (fun h => h) h6 (fun vs => ∀ w, apS (shs lv) I vs (fun _ => False) w → den P Ty Fn E N A a (updS N (havoc N (getS fr2) (wrs a) fr) lv vs) w
        (fun fr' w' => apS (shs lv) I (selS fr' lv) (fun _ => False) w' ∧ apS (shs lv) m (selS fr' lv) (fun _ => 0) w' < apS (shs lv) m vs (fun _ => 0) w) r x) (hr (getS fr2)) w' h6
      have hw := iha ro hra k _ w' _ r x hb hfit (ds' ++ ds)
      rw [act_join lv (ds' ++ ds) h3] at hw
      refine wpIn_mono hw fun e a' w'' hq => ?_
      cases e with
      | normal =>
        obtain ⟨fr3, ds3, rfl, g2, g3, g4, g5, g6, g7⟩ := hq
        refine ⟨⟨fr3, ds3 ++ ds', by rw [List.append_assoc], g2, hagr.trans g3, hE.trans h4 g4, Mk.trans hE h4 g4 h5 g5, g6⟩, ?_⟩
        rw [selA_eq g2, selA_eq h2]
        exact g7
      | ret =>
        have hq' : QN rf E N (wrs a) _ w' (ds' ++ ds) n r x (.ret) a' w'' := hq
        exact QN.later hE (fun _ h => h) hagr h4 h5 hq'
      | exit i =>
        have hq' : QN rf E N (wrs a) _ w' (ds' ++ ds) n r x (.exit i) a' w'' := hq
        exact QN.later hE (fun _ h => h) hagr h4 h5 hq'
      | goto l => exact hq.elim
      | panic ch => exact hq.elim
      | outgrown => exact hq.elim
    · exact h.elim
  | exit i => exact fun ro hro k fr w n r x h hf ds => wpIn_exit ⟨fr, [], rfl, hf, Agr.refl _ _, eref w, Mk.nil _ _, h⟩
  | ret => exact fun ro hro k fr w n r x h hf ds => wpIn_ret ⟨fr, [], rfl, hf, Agr.refl _ _, eref w, Mk.nil _ _, h⟩
  | label l => exact fun ro hro k fr w n r x h hf ds => wpIn_label ⟨fr, [], rfl, hf, Agr.refl _ _, eref w, Mk.nil _ _, h⟩
  | rangeFunc f ps a b iha ihb =>
    intro ro hro k fr w n r x h hf ds
    obtain ⟨rfl, hrf, hEE⟩ := hro rfl
    simp only [den] at h
    obtain ⟨hab, h⟩ := ifT_iff.1 h
    simp only [Bool.and_eq_true, Bool.not_eq_true'] at hab
    split at h
    · rename_i g first cap lv hv hlv
      obtain ⟨hg2, h⟩ := ifT_iff.1 h
      obtain ⟨hg1, h⟩ := ifT_iff.1 h
      exact rng_sound hrf hT hF hE hEE A (fun ro k => iha ro (fun e => by rw [hab.1] at e; cases e) k) (fun ro k => ihb ro (fun e => by rw [hab.2] at e; cases e) k) hv hg1 hg2 h hf
    · exact h.elim
  | scope a iha => exact fun ro hro k fr w n r x h hf ds => h.elim
  | goto l => exact fun ro hro k fr w n r x h hf ds => h.elim
  | refuse y => exact fun ro hro k fr w n r x h hf ds => h.elim
end
end Go.V
