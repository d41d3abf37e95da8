/- Laws of sets (1): some answers; the nil set and one that nobody made. -/
import Derived.Test.YtcipljcagejjaaaDoorVRef01b
set_option linter.unusedVariables false
namespace Go.V
theorem br_t {c : Bool} {a b : Prop} (h : c = true) (ha : a) : br c a b := by subst h; exact ha
theorem br_f {c : Bool} {a b : Prop} (h : c = false) (hb : b) : br c a b := by subst h; exact hb
theorem cel_rd1 {α : Type} [Rep1 α] {h : Hp} {b : Nat} (xs : List α) (hc : cel b (xs.map Rep1.val) h) : rdS h xs (some ⟨b, 0, none⟩) xs.length :=
  rdS_of_row rfl (.inr ⟨_, rfl, cel_row hc⟩)
theorem St.rd1 {α : Type} [Rep1 α] {w : World} {L : List Asn} {b : Nat} (xs : List α) (h : St w (cel b (xs.map Rep1.val) :: L)) : rdS (hp w) xs (some ⟨b, 0, none⟩) xs.length := by
  obtain ⟨h1, s, ha⟩ := h.first
  exact (cel_rd1 xs ha).mono s
theorem unionB_nil (vss : List (List Bool)) : unionB [] vss = [] := List.eq_nil_of_length_eq_zero (unionB_len _ _)
theorem setR_nil (h : Hp) : setR h none [] := .inl ⟨rfl, rfl⟩
theorem zero_set {w : World} {L : List Asn} {b : Nat} (h : St w (cel b [.slice none 0 0, .int .i64 0] :: L)) : St w (setO (some ⟨b, 0, none⟩) [] :: L) := by
  refine setM_mk (a := none) (c := 0) (ws := []) (inv_zero (Nat.zero_le _)) ?_
  exact (own_nil 1 h).swap
end Go.V
namespace Go.Proofs.YtcipljcagejjaaaDoor
open Go.V
section
variable {w : World} {L : List Asn} {a a2 : Option Addr} {l c l2 c2 : Nat} {p q : Option Addr} {bs cs : List Bool} {xs ys : List Int} {os : List (Option Addr)} {vss : List (List Bool)}
theorem l_awake : Run Tryd.prog n_presagelaw01_awake [] w fun v w' => v = .bool true ∧ Gr w w' := by
  refine run_presagelaw01_awake w _ ?_
  refine newC_i (St.all w) fun b1 w1 h1 => ?_
  refine (s_Of (xs := [1, 3]) 4 (h1.rd1 ([1, 3] : List Int)) (by decide)).mono ?_
  rintro _ w2 ⟨b2, rfl, h2⟩
  have h3 := (h2.on1 h1).pick 3 [0, 2]
  have e : ofB 4 [1, 3] = [false, true, false, true] := by decide
  rw [e] at h3
  clear h1 h2
  refine ⟨_, rfl, br_t rfl ?_⟩
  refine (s_Size h3.setR).mono ?_
  rintro _ _ ⟨rfl, rfl⟩
  refine ⟨_, rfl, br_t rfl ((s_Count h3.setR).mono ?_)⟩
  rintro _ _ ⟨rfl, rfl⟩
  refine ⟨_, rfl, br_t rfl ((s_Has h3.setR 3).mono ?_)⟩
  rintro _ _ ⟨rfl, rfl⟩
  refine ⟨_, rfl, br_t rfl ((s_Has h3.setR 0).mono ?_)⟩
  rintro _ _ ⟨rfl, rfl⟩
  refine ⟨_, rfl, br_t rfl (newC_i h3 fun b3 w3 h4 => ?_)⟩
  refine (s_Add (xs := [0, 0]) (l := 2) h4.swap (fun h hh => ?_) (by omega)).mono ?_
  · obtain ⟨h1, _, _, s1, _, ha, _⟩ := hh
    exact (cel_rd1 ([0, 0] : List Int) ha).mono s1
  rintro _ w4 ⟨rfl, h5⟩
  have e : addB [false, true, false, true] [0, 0] = [true, true, false, true] := by decide
  rw [e] at h5 ⊢
  refine ⟨_, rfl, br_t (by decide) ((s_Count h5.setR).mono ?_)⟩
  rintro _ _ ⟨rfl, rfl⟩
  refine ⟨_, rfl, br_t (by decide) ((s_All h5.setR).mono ?_)⟩
  rintro _ w5 ⟨b4, rfl, h6⟩
  refine ⟨_, _, rfl, rfl, ?_⟩
  have h7 := h6.on1 h5
  exact (h7.pick 4 [3]).has
theorem l_BitsNothing (hx : rdS (hp w) xs a l) (ht : tabA (hp w)) (hb : l ≤ 4611686018427387904) (x : Int) :
    Run Tryd.prog n_presagelaw01_BitsNothing [.slice a l c, .int .i64 x] w fun v w' => v = .bool true ∧ Gr w w' := by
  refine run_presagelaw01_BitsNothing _ _ _ _ w _ ?_
  have hs := St.all w
  have hfin : ∀ w', sub (hp w) (hp w') → Gr w w' := fun w' h => h
  unfold V.all at hs
  refine newC_i hs fun b1 w1 h1 => ?_
  refine l_awake.mono ?_
  rintro _ w2 ⟨rfl, hg⟩
  refine ⟨_, rfl, br_f rfl (newC_i (h1.gr hg) fun b2 w3 h2 => ?_)⟩
  generalize hp w = h0 at *
  refine (s_Of (l : Int) (hx.mono h2.gone2) hb).mono ?_
  rintro _ w4 ⟨ox, rfl, h3⟩
  refine ⟨_, rfl, newC_i (h3.on1 h2) fun b3 w5 h4 => ?_⟩
  have hl := hx.1
  have hX : (([] : List Bool) = ofB (l : Int) xs) ↔ l = 0 := by
    constructor
    · intro e
      have := congrArg List.length e
      rw [ofB_len] at this
      unfold ofN at this
      simp at this
      split at this <;> split at this <;> omega
    · rintro rfl
      exact (List.eq_nil_of_length_eq_zero (by rw [ofB_len]; decide)).symm
  generalize ofB (l : Int) xs = X at *
  have h5 : St w5 [cel b3 [.pointer none, .pointer (some ⟨b2, 0, none⟩)], setO (some ⟨ox, 0, none⟩) X, setO (some ⟨b2, 0, none⟩) [], cel b1 [.bool false], has h0] :=
    (zero_set (h4.pick 5 [2, 0, 1, 3, 4])).pick 5 [1, 2, 0, 3, 4]
  clear h1 h2 h3 h4 hs hg
  refine ⟨fun n1 w => ∃ j : Nat, n1 = j ∧ j ≤ 2 ∧ St w [cel b3 [.pointer none, .pointer (some ⟨b2, 0, none⟩)], setO (some ⟨ox, 0, none⟩) X, setO (some ⟨b2, 0, none⟩) [], cel b1 [.bool false], has h0], fun n1 _ => 2 - n1.toNat, ⟨0, rfl, by omega, h5⟩, ?_⟩
  clear h5
  rintro _ n1 w6 ⟨j, rfl, hj, hs⟩
  refine br_intro (fun hlt => ?_) fun hlt => ?_
  · have hlt : j < 2 := by have := of_decide_eq_true hlt; omega
    -- e, with what else there is
    obtain ⟨e, M, he, hM, hback, ho, hxM, hM0, hres⟩ : ∃ (e : Option Addr) (M : List Asn), w6.cell? ⟨b3, j, none⟩ = some (.pointer e) ∧ St w6 (setO e [] :: M) ∧
        (∀ w', St w' (setO e [] :: M) → St w' [cel b3 [.pointer none, .pointer (some ⟨b2, 0, none⟩)], setO (some ⟨ox, 0, none⟩) X, setO (some ⟨b2, 0, none⟩) [], cel b1 [.bool false], has h0]) ∧
        (∀ w', St w' (setO e [] :: M) → setR (hp w') (some ⟨b2, 0, none⟩) []) ∧ (∀ h, starL M h → setR h (some ⟨ox, 0, none⟩) X) ∧ (∀ h, starL M h → sub h0 h) ∧ True := by
      have hc := fun i => hs.cell i
      have hXr : ∀ (L : List Asn) h, starL (setO (some ⟨ox, 0, none⟩) X :: L) h → setR h (some ⟨ox, 0, none⟩) X := fun L h ⟨h1, _, _, s1, _, ha, _⟩ => (setO_R ha).mono s1
      rcases (by omega : j = 0 ∨ j = 1) with rfl | rfl
      · exact ⟨none, [cel b3 [.pointer none, .pointer (some ⟨b2, 0, none⟩)], setO (some ⟨ox, 0, none⟩) X, setO (some ⟨b2, 0, none⟩) [], cel b1 [.bool false], has h0], hc 0, setO_none hs, fun w' h => h.tail, fun w' h => (h.pick 5 [3]).setR,
          fun h hh => hXr _ h (starL_tail hh), fun h hh => starL_has (starL_tail (starL_tail (starL_tail (starL_tail hh)))), trivial⟩
      · exact ⟨some ⟨b2, 0, none⟩, [cel b3 [.pointer none, .pointer (some ⟨b2, 0, none⟩)], setO (some ⟨ox, 0, none⟩) X, cel b1 [.bool false], has h0], hc 1, hs.pick 5 [2, 0, 1, 3, 4], fun w' h => h.pick 5 [1, 2, 0, 3, 4], fun w' h => h.setR,
          fun h hh => hXr _ h (starL_tail hh), fun h hh => starL_has (starL_tail (starL_tail (starL_tail hh))), trivial⟩
    have e1 : (⟨b3, 0, none⟩ : Addr).add j = ⟨b3, j, none⟩ := add_lit0 _ _
    refine idx_i rfl hlt ⟨e, by rw [e1]; exact he, ?_⟩
    have hMx : ∀ h, starL M h → rdS h xs a l := fun h hh => hx.mono (hM0 h hh)
    have hMt : ∀ h, starL M h → tabA h := fun h hh => rdV.mono (hM0 h hh) ht
    have kx : ∀ {w'}, St w' (setO e [] :: M) → setR (hp w') (some ⟨ox, 0, none⟩) X := fun {w'} h => hxM _ h.tail
    have kt : ∀ {w'}, St w' (setO e [] :: M) → tabA (hp w') := fun {w'} h => hMt _ h.tail
    refine ⟨fun b w => b = false ∧ St w (setO e [] :: M), ?_, ?_⟩
    · refine (s_Add hM hMx hb).mono ?_
      rintro _ w7 ⟨rfl, h7⟩
      have h7 : St w7 (setO e [] :: M) := h7
      refine ⟨_, rfl, br_f rfl ((s_Drop h7 hMx hb).mono ?_)⟩
      rintro _ w8 ⟨rfl, h8⟩
      have h8 : St w8 (setO e [] :: M) := h8
      refine ⟨_, rfl, br_f rfl (newC_i h8 fun b4 w9 h9 => ?_)⟩
      refine (s_Union (os := [some ⟨ox, 0, none⟩, e]) (vss := [X, []]) (l := 2) h9.swap (fun h hh => ?_) rfl (fun h hh i r v hr hv => ?_) (fun h hh => hMt _ (starL_tail hh)) (by omega)).mono ?_
      · obtain ⟨h1, _, _, s1, _, ha, _⟩ := hh
        exact (cel_rd1 ([some ⟨ox, 0, none⟩, e] : List (Option Addr)) ha).mono s1
      · match i with
        | 0 => cases hr; cases hv; exact .inl (hxM _ (starL_tail hh))
        | 1 => cases hr; cases hv; exact .inr ⟨rfl, rfl⟩
        | i + 2 => simp at hr
      rintro _ w10 ⟨rfl, h10⟩
      rw [unionB_nil] at h10 ⊢
      have h10 : St w10 (setO e [] :: M) := h10.swap.tail
      refine ⟨_, rfl, br_f rfl ((s_Size h10.setR).mono ?_)⟩
      rintro _ _ ⟨rfl, rfl⟩
      refine ⟨_, rfl, br_f rfl ((s_Count h10.setR).mono ?_)⟩
      rintro _ _ ⟨rfl, rfl⟩
      refine ⟨_, rfl, br_f rfl ((s_Has h10.setR x).mono ?_)⟩
      rintro _ _ ⟨rfl, rfl⟩
      refine ⟨_, rfl, br_f (by simp [hasB, fnB]) ((s_Meets (vss := []) (os := []) h10.setR rdS.nil rfl (fun i r v hr => by simp at hr) (kt h10) (by omega)).mono ?_)⟩
      rintro _ w11 ⟨rfl, g11⟩
      have h11 := h10.gr g11
      refine ⟨_, rfl, br_f rfl (newC_i h11 fun b5 w12 h12 => ?_)⟩
      refine (s_Meets (vss := [X]) (os := [some ⟨ox, 0, none⟩]) (l := 1) h12.swap.setR (h12.rd1 ([some ⟨ox, 0, none⟩] : List (Option Addr))) rfl (fun i r v hr hv => ?_) (kt h12.tail) (by omega)).mono ?_
      · match i with
        | 0 => cases hr; cases hv; exact kx h12.tail
        | i + 1 => simp at hr
      rintro _ w13 ⟨rfl, g13⟩
      have h13 := h12.tail.gr g13
      refine ⟨_, rfl, br_f rfl (newC_i h13 fun b6 w14 h14 => ?_)⟩
      refine (s_Meets (vss := [[]]) (os := [e]) (l := 1) (kx h14.tail) (h14.rd1 ([e] : List (Option Addr))) rfl (fun i r v hr hv => ?_) (kt h14.tail) (by omega)).mono ?_
      · match i with
        | 0 => cases hr; cases hv; exact h14.tail.setR
        | i + 1 => simp at hr
      rintro _ w15 ⟨rfl, g15⟩
      have h15 := h14.tail.gr g15
      refine ⟨_, rfl, br_f (by simp [meetsB, fnB]) ((s_Members h15.setR (kt h15)).mono ?_)⟩
      rintro _ w16 ⟨a1, c1, rfl, h16⟩
      have h17 := (h16.on1 h15).tail
      refine ⟨_, _, _, rfl, br_f rfl ((s_Equal h17.setR (setR_nil _) (kt h17)).mono ?_)⟩
      rintro _ w18 ⟨rfl, g18⟩
      have h18 := h17.gr g18
      refine ⟨_, rfl, br_f rfl ((s_Equal h18.setR (ho _ h18) (kt h18)).mono ?_)⟩
      rintro _ w19 ⟨rfl, g19⟩
      have h19 := h18.gr g19
      refine ⟨_, rfl, br_f rfl ((s_Equal (ho _ h19) h19.setR (kt h19)).mono ?_)⟩
      rintro _ w20 ⟨rfl, g20⟩
      have h20 := h19.gr g20
      refine ⟨_, rfl, br_f rfl ((s_Equal h20.setR (kx h20) (kt h20)).mono ?_)⟩
      rintro _ w21 ⟨rfl, g21⟩
      refine ⟨_, rfl, ?_, h20.gr g21⟩
      by_cases hz : l = 0
      · rw [decide_eq_true (hX.2 hz)]; subst hz; rfl
      · rw [decide_eq_false (fun h => hz (hX.1 h))]
        have : ((l : Int) == 0) = false := by simp; omega
        rw [this]; rfl
    · rintro _ _ w22 ⟨rfl, h22⟩
      refine br_f rfl ((s_Copy h22.setR (kt h22)).mono ?_)
      rintro _ w23 ⟨b7, rfl, h23⟩
      have h24 := h23.on1 h22
      refine ⟨_, rfl, (s_All h24.tail.setR).mono ?_⟩
      rintro _ w25 ⟨b8, rfl, h25⟩
      have h26 := h25.on1 h24
      refine ⟨_, _, rfl, fun b w => b = false ∧ St w (itD b8 0 (fnB []) :: setO (some ⟨b7, 0, none⟩) [] :: setO e [] :: M), ?_, ?_⟩
      · refine br_f rfl ((s_Equal h26.tail.setR h26.tail.tail.setR (kt h26.tail.tail)).mono ?_)
        rintro _ w27 ⟨rfl, g27⟩
        have h27 := h26.gr g27
        refine ⟨_, rfl, br_f rfl ((s_Size h27.tail.setR).mono ?_)⟩
        rintro _ _ ⟨rfl, rfl⟩
        exact ⟨_, rfl, rfl, h27⟩
      · rintro _ _ w28 ⟨rfl, h28⟩
        refine br_f rfl (ifT_iff.2 ⟨rfl, ivm (mb []), itD b8 0 (fnB []), tabA, fun _ => pu True, pu False, fun _ => pu False, setO e [] :: M, St.pu.2 ⟨trivial, h28.pick 3 [0, 2]⟩, fun h hh => hMt _ (starL_tail hh), c_All_itr, ?_, ?_, ?_, ?_, trivial⟩)
        · intro x hx; cases hx
        · intro i x hx; cases i <;> cases hx
        · intro w29 h29
          have h30 : St w29 (itD b8 0 (fnB []) :: setO e [] :: M) := (St.pu.1 h29).2
          exact ⟨⟨by omega, by omega⟩, ⟨j + 1, by simp, by omega, hback _ h30.tail⟩, msr hlt⟩
        · intro w29 h29
          exact (St.pu.1 h29).1.elim
  · refine st1_i (hs.pick 5 [3, 4]) (by simp) fun w7 h7 => ⟨_, h7.cell 0, fun w8 h8 => ⟨rfl, hfin _ ?_⟩⟩
    exact (h7.gone1).trans (hp_sub h8)
end
end Go.Proofs.YtcipljcagejjaaaDoor
