/- Texts of this claim, one behind the other. -/
import Derived.Test.YtaheggomcnbbiaaDoorG3
import Derived.Test.YtaheggomcnbbiaaDoorG1
import Derived.Test.YtaheggomcnbbiaaDoorG2
import Derived.Test.YtaheggomcnbbiaaDoorCards
import Derived.Test.YtaheggomcnbbiaaDoorTie
import Derived.WalkKit
import Derived.ProofKit
import Derived.OpenShut
import Derived.Carry
import Derived.OpenVars
import Derived.Deep.DeepHandedRow
import Derived.Lib.LaidTab
/- What rows begin with (7): the laws' both. -/
set_option linter.unusedVariables false
namespace Go.V
def bothN (xs ys : List Int) (n : Nat) : List Nat := (List.range n).filter fun (k : Nat) => decide ((k : Int) ∈ xs ∨ (k : Int) ∈ ys)
def bothL (xs ys : List Int) (n : Nat) : List Int := (bothN xs ys n).map fun (k : Nat) => (k : Int)
theorem bothL_succ (xs ys : List Int) (n : Nat) : bothL xs ys (n + 1) = bothL xs ys n ++ (if (n : Int) ∈ xs ∨ (n : Int) ∈ ys then [(n : Int)] else []) := by
  unfold bothL bothN
  rw [List.range_succ, List.filter_append, List.map_append]
  congr 1
  by_cases h : (n : Int) ∈ xs ∨ (n : Int) ∈ ys <;> simp [h]
theorem bothL_len (xs ys : List Int) (n : Nat) : (bothL xs ys n).length ≤ n := by
  unfold bothL bothN
  rw [List.length_map]
  exact Nat.le_trans (List.length_filter_le _ _) (by simp)
theorem mem_bothL {xs ys : List Int} {n : Nat} {x : Int} : x ∈ bothL xs ys n ↔ (0 ≤ x ∧ x < n) ∧ (x ∈ xs ∨ x ∈ ys) := by
  unfold bothL bothN
  rw [List.mem_map]
  constructor
  · rintro ⟨k, hk, rfl⟩
    rw [List.mem_filter, List.mem_range, decide_eq_true_eq] at hk
    exact ⟨by omega, hk.2⟩
  · rintro ⟨h1, h2⟩
    refine ⟨x.toNat, ?_, by omega⟩
    rw [List.mem_filter, List.mem_range, decide_eq_true_eq, show ((x.toNat : Nat) : Int) = x from by omega]
    exact ⟨by omega, h2⟩
/- a set's members, by a longer count -/
theorem mbI_range {bs : List Bool} {n : Nat} (h : bs.length ≤ n) : mbI bs = ((List.range n).filter fun k => fnB bs k).map fun (k : Nat) => (k : Int) := by
  unfold mbI mb membs
  have e : n = bs.length + (n - bs.length) := by omega
  rw [e, List.range_add, List.filter_append]
  have : ((List.range (n - bs.length)).map (bs.length + ·)).filter (fun k => fnB bs k) = [] := by
    rw [List.filter_eq_nil_iff]
    intro k hk
    obtain ⟨j, _, rfl⟩ := List.mem_map.1 hk
    rw [fnB_out (by omega)]; simp
  rw [this, List.append_nil]
theorem bothL_mbI {bs cs us : List Bool} {n : Nat} (hu : us.length ≤ n) (h : ∀ k : Nat, k < n → (fnB us k = true ↔ (k : Int) ∈ mbI bs ∨ (k : Int) ∈ mbI cs)) : bothL (mbI bs) (mbI cs) n = mbI us := by
  rw [mbI_range hu]
  unfold bothL bothN
  congr 1
  refine List.filter_congr fun k hk => ?_
  have := h k (by simpa using hk)
  rw [Bool.eq_iff_iff, decide_eq_true_eq, this]
end Go.V
namespace Go.Proofs.YtaheggomcnbbiaaDoor
open Go.V
section
variable {w : World} {L : List Asn} {a a2 : Option Addr} {l l2 c c2 : Nat} {xs ys : List Int}
theorem l_both (hx : rdS (hp w) xs a l) (hy : rdS (hp w) ys a2 l2) (hb : l ≤ 4611686018427387904) (hb2 : l2 ≤ 4611686018427387904) : Run Tryd.prog n_presagelaw07_both [.slice a l c, .slice a2 l2 c2] w fun v w' => ∃ o c', v = .slice o (bothL xs ys 65).length c' ∧ St w' (own 1 o (bothL xs ys 65).length c' (iv (bothL xs ys 65)) :: all w) := by
  refine run_presagelaw07_both _ _ _ _ _ _ w _ ?_
  have h0 := St.all w
  unfold V.all at *
  generalize hp w = H at *
  refine ⟨fun o l' c' n w' => ∃ j : Nat, n = j ∧ j ≤ 65 ∧ l' = (bothL xs ys j).length ∧ St w' [own 1 o l' c' (iv (bothL xs ys j)), has H], fun _ _ _ n _ => 65 - n.toNat, ⟨0, rfl, by omega, rfl, own_nil 1 h0⟩, ?_⟩
  rintro _ o l' c' n w1 ⟨j, rfl, hj, rfl, h⟩
  have s1 : sub H (hp w1) := rdH 1 h.l
  have hlen := bothL_len xs ys j
  refine br_intro (fun hlt => ?_) fun hlt => ?_
  rotate_left
  · have hlt : j = 65 := by have := of_decide_eq_false hlt; omega
    subst hlt
    exact ⟨o, c', rfl, h⟩
  have hlt : j < 65 := by have := of_decide_eq_true hlt; omega
  refine ⟨fun b n w' => ∃ i : Nat, n = i ∧ i ≤ l ∧ (b = true ↔ (j : Int) ∈ xs.take i) ∧ w' = w1, fun _ n _ => l - n.toNat, ⟨0, rfl, by omega, by simp, rfl⟩, ?_⟩
  rintro _ b n2 w2 ⟨i, rfl, hi, hbi, rfl⟩
  refine br_intro (fun hlt2 => ?_) fun hlt2 => ?_
  · have hlt2 : i < l := by have := of_decide_eq_true hlt2; omega
    obtain ⟨y, ad, hy1, hya, hy2⟩ := hx.get1 hlt2
    refine br_intro (fun h1 => ?_) fun h1 => idx_i hya hlt2 ⟨y, hy2 _ s1, ?_⟩
    · subst h1
      refine ⟨⟨by omega, by omega⟩, ⟨i + 1, by simp, by omega, ⟨fun _ => ?_, fun _ => rfl⟩, rfl⟩, msr hlt2⟩
      rw [take_succ_get hy1]; exact List.mem_append.2 (.inl (hbi.1 rfl))
    · subst h1
      refine ⟨⟨by omega, by omega⟩, ⟨i + 1, by simp, by omega, ?_, rfl⟩, msr hlt2⟩
      have : (j : Int) ∉ xs.take i := fun hm => by have := hbi.2 hm; cases this
      rw [take_succ_get hy1, List.mem_append, List.mem_singleton, beq_iff_eq]
      exact ⟨fun h => .inr h.symm, fun h => (h.resolve_left this).symm⟩
  have hlt2 : i = l := by have := of_decide_eq_false hlt2; omega
  subst hlt2
  rw [List.take_of_length_le (by have := hx.1; omega)] at hbi
  refine ⟨fun b n w' => ∃ k : Nat, n = k ∧ k ≤ l2 ∧ (b = true ↔ (j : Int) ∈ xs ∨ (j : Int) ∈ ys.take k) ∧ w' = w2, fun _ n _ => l2 - n.toNat, ⟨0, rfl, by omega, by simpa using hbi, rfl⟩, ?_⟩
  rintro _ b2 n4 w3 ⟨k, rfl, hk, hbk, rfl⟩
  refine br_intro (fun hlt3 => ?_) fun hlt3 => ?_
  · have hlt3 : k < l2 := by have := of_decide_eq_true hlt3; omega
    obtain ⟨y, ad, hy1, hya, hy2⟩ := hy.get1 hlt3
    refine br_intro (fun h1 => ?_) fun h1 => idx_i hya hlt3 ⟨y, hy2 _ s1, ?_⟩
    · subst h1
      refine ⟨⟨by omega, by omega⟩, ⟨k + 1, by simp, by omega, ⟨fun _ => ?_, fun _ => rfl⟩, rfl⟩, msr hlt3⟩
      rw [take_succ_get hy1]
      rcases hbk.1 rfl with h | h
      · exact .inl h
      · exact .inr (List.mem_append.2 (.inl h))
    · subst h1
      refine ⟨⟨by omega, by omega⟩, ⟨k + 1, by simp, by omega, ?_, rfl⟩, msr hlt3⟩
      have t1 : ¬ ((j : Int) ∈ xs ∨ (j : Int) ∈ ys.take k) := fun hm => by have := hbk.2 hm; cases this
      rw [take_succ_get hy1, List.mem_append, List.mem_singleton, beq_iff_eq]
      exact ⟨fun h => .inr (.inr h.symm), fun h => by
        rcases h with h | h | h
        · exact absurd (.inl h) t1
        · exact absurd (.inr h) t1
        · exact h.symm⟩
  have hlt3 : k = l2 := by have := of_decide_eq_false hlt3; omega
  subst hlt3
  rw [List.take_of_length_le (by have := hy.1; omega)] at hbk
  have es := bothL_succ xs ys j
  refine br_intro (fun h1 => newC_i h fun k3 w4 h => ?_) fun h1 => ?_
  · refine (app_one tyOk (rfl : kdOfT Ty _ = .slice _) (rfl : kdOfT Ty _ = .slice _) rfl rfl rfl h rfl (by simp [oneC]) (by show (_ + 1) * 8 ≤ _; omega) (by omega)).mono ?_
    rintro _ w5 ⟨o2, c2', rfl, h⟩
    rw [if_pos (hbk.1 h1)] at es
    refine ⟨_, _, _, rfl, ⟨by omega, by omega⟩, ⟨j + 1, by simp, by omega, by rw [es]; simp, ?_⟩, by dsimp only; omega⟩
    have e3 : ∀ l : List Int, iv (l ++ [(j : Int)]) = iv l ++ [.int .i64 (j : Int)] := fun l => by simp [iv]
    rw [es, e3]
    exact h.pick 3 [0, 2]
  · rw [if_neg (fun hm => by rw [hbk.2 hm] at h1; cases h1), List.append_nil] at es
    refine ⟨⟨by omega, by omega⟩, ⟨j + 1, by simp, by omega, by rw [es], ?_⟩, by dsimp only; omega⟩
    rw [es]; exact h
end
end Go.Proofs.YtaheggomcnbbiaaDoor
/- What rows begin with (8): the example. -/
set_option linter.unusedVariables false
namespace Go.V
def by1 (n : UInt8) : ByteArray := ⟨⟨[n]⟩⟩
def smallG : GramT := ⟨[⟨⟨⟨[]⟩⟩, 0⟩, ⟨by1 120, 0⟩, ⟨by1 121, 0⟩, ⟨by1 122, 0⟩], [by1 115, by1 97], [], 4, [⟨4, [5, 4, 1], 0⟩, ⟨4, [2], 0⟩, ⟨5, [], 0⟩, ⟨5, [3], 0⟩]⟩
def smallN : List Bool := [false, false, false, false, false, true]
def smallV : List (List Bool) := [[true, false, false, false], [false, true, false, false], [false, false, true, false], [false, false, false, true], [false, false, true, true], [false, false, false, true]]
theorem small_in : InG smallG := by
  intro p hp
  simp only [smallG, List.mem_cons, List.not_mem_nil, or_false] at hp
  rcases hp with rfl | rfl | rfl | rfl <;> refine ⟨by decide, ?_⟩ <;> intro s hs <;> simp at hs
  · rcases hs with rfl | rfl | rfl <;> decide
  · subst hs; decide
  · subst hs; decide
theorem small_n5 : Nul smallG 5 := .mk ⟨5, [], 0⟩ (by simp [smallG]) (fun s hs => by simp at hs)
theorem small_53 : Fst smallG 5 3 := .pr ⟨5, [3], 0⟩ 0 3 3 (by simp [smallG]) rfl (by simp) (.tm 3 (by decide))
theorem small_mk : MkF smallG smallN smallV := by
  refine ⟨rfl, rfl, by decide, fun i h => ?_, fun i t h => ?_, by decide⟩
  · by_cases hi : i < 6
    · have : ∀ i, i < 6 → fnB smallN i = true → i = 5 := by decide
      rw [this i hi h]; exact small_n5
    · rw [fnB_out (by show 6 ≤ i; omega)] at h; cases h
  · by_cases hi : i < 6
    · by_cases ht : t < 4
      · have hall : ((List.range 6).all fun i => (List.range 4).all fun t => !fnB (smallV.getD i []) t || (i == t || (i == 4 && t == 2) || (i == 4 && t == 3) || (i == 5 && t == 3))) = true := by decide
        have this : i = t ∨ (i = 4 ∧ t = 2) ∨ (i = 4 ∧ t = 3) ∨ (i = 5 ∧ t = 3) := by
          have h1 := all_range.1 (all_range.1 hall i hi) t ht
          rw [h] at h1
          simp only [Bool.not_true, Bool.false_or, Bool.or_eq_true, Bool.and_eq_true, beq_iff_eq] at h1
          omega
        rcases this with rfl | ⟨rfl, rfl⟩ | ⟨rfl, rfl⟩ | ⟨rfl, rfl⟩
        · exact .tm i ht
        · exact .pr ⟨4, [2], 0⟩ 0 2 2 (by simp [smallG]) rfl (by simp) (.tm 2 (by decide))
        · exact .pr ⟨4, [5, 4, 1], 0⟩ 0 5 3 (by simp [smallG]) rfl (by simp) small_53
        · exact small_53
      · have : ∀ i, i < 6 → (smallV.getD i []).length = 4 := by decide
        rw [fnB_out (by have := this i hi; omega)] at h; cases h
    · rw [List.getD_eq_getElem?_getD, List.getElem?_eq_none (by show 6 ≤ i; omega)] at h
      simp [fnB] at h
theorem small_all : AllF smallG smallN smallV := small_mk.all small_in (by
  intro p hp
  simp only [smallG, List.mem_cons, List.not_mem_nil, or_false] at hp
  unfold ClP
  rcases hp with rfl | rfl | rfl | rfl <;> decide)
theorem small_nn : NnP smallG [false, true] := ⟨rfl, fun i => by
  have := small_all.nn (4 + i)
  rw [← fnB_dropL] at this
  exact this⟩
theorem small_ss : SsP smallG [[false, false, true, true], [false, false, false, true]] := ⟨rfl, fun i bs hi => by
  have hi' : (smallV.drop 4)[i]? = some bs := hi
  rw [List.getElem?_drop] at hi'
  refine ⟨small_all.le _ (List.mem_of_getElem? hi'), fun t => ?_⟩
  have := small_all.nv (4 + i) t
  rw [List.getD_eq_getElem?_getD, hi'] at this
  exact this⟩
theorem small_row : BsP smallG [5, 5] [false, false, false, true] ∧ NulR smallG [5, 5] := by
  have hr : ∀ s ∈ [(5 : Int), 5], 0 ≤ s ∧ s < (smallG.T : Int) + smallG.N := by decide
  obtain ⟨a1, a2⟩ := small_all.row hr
  refine ⟨⟨rfl, fun t => ?_⟩, a1.1 (by decide)⟩
  have h := a2 [false, false, false, false] t
  have e : rowB smallN smallV [false, false, false, false] [5, 5] = [false, false, false, true] := by decide
  rw [e] at h
  rw [h]
  have hz : fnB [false, false, false, false] t = false := by
    have := fnB_rep 4 t; exact this
  rw [hz]
  constructor
  · rintro (h | h)
    · cases h
    · exact h.2
  · intro h
    obtain ⟨i, s, _, _, h3⟩ := id h
    exact .inr ⟨h3.lt, h⟩
theorem rowH.part {h : Hp} {b : Nat} {vs : List Value} (r : rowH h ⟨b, 0, none⟩ vs) (i n : Nat) : rowH h ((⟨b, 0, none⟩ : Addr).add (mulS i n)) ((vs.drop (i * n)).take n) := fun j v hj => by
  rw [List.getElem?_take] at hj
  split at hj
  · rw [List.getElem?_drop] at hj
    rw [add_add, mulS_eq]
    exact r _ v hj
  · cases hj
end Go.V
/- What rows begin with (9): the example is reckoned. -/
set_option linter.unusedVariables false
namespace Go.V
theorem small_valid : ValidP smallG := by
  refine ⟨⟨rfl, by decide, by decide, by decide, by decide, ?_, ?_, ?_, ?_, ?_⟩, ⟨by decide, by decide, ?_, by decide, by decide, by decide⟩, ?_⟩
  · decide
  · intro i v h; simp [smallG] at h
  · decide
  · decide
  · decide
  · intro p hp
    simp only [List.drop_zero, smallG, List.mem_cons, List.not_mem_nil, or_false] at hp
    unfold prodOk symOk
    rcases hp with rfl | rfl | rfl | rfl <;> refine ⟨by decide, ?_⟩ <;> intro s hs <;> simp at hs
    · rcases hs with rfl | rfl | rfl <;> decide
    · subst hs; decide
    · subst hs; decide
  · intro i x y hx hy
    have e : leftsG smallG 0 = [4, 5] := by decide
    rw [e] at hx hy
    match i, hx, hy with
    | 0, hx, hy => cases hx; cases hy; decide
    | 1, _, hy => cases hy
    | i + 2, hx, _ => cases hx
theorem rdS_lit {α : Type} [Rep α] {h : Hp} {xs : List α} {b : Nat} {vs : List Value} (r : rowH h ⟨b, 0, none⟩ vs) (hx : ∀ (i : Nat) x, xs[i]? = some x → rd h x ((vs.drop (i * Rep.n α)).take (Rep.n α))) : rdS h xs (some ⟨b, 0, none⟩) xs.length :=
  ⟨rfl, fun i x hi => ⟨_, _, rfl, r.part i _, hx i x hi⟩⟩
end Go.V
namespace Go.Proofs.YtaheggomcnbbiaaDoor
open Go.V
section
variable {w : World} {L : List Asn}
set_option maxHeartbeats 1000000 in
theorem l_small : Run Tryd.prog n_presagelaw07_small [] w fun v w' => ∃ x : GA, v = .agg ⟨x.cells⟩ ∧ gR (hp w') smallG x ∧ Gr w w' := by
  refine run_presagelaw07_small w _ ?_
  refine newC_i (St.all w) fun k1 w1 h => newC_i h fun k2 w2 h => newC_i h fun k3 w3 h => newC_i h fun k4 w4 h => newC_i h fun k5 w5 h => newC_i h fun k6 w6 h => newC_i h fun k7 w7 h => stR_i (h.pick 8 [6, 0, 1, 2, 3, 4, 5, 7]) rfl (by intro v hv; simp at hv; rcases hv with rfl | rfl | rfl | rfl | rfl <;> rfl) fun w8 h => ?_
  have r7 : rowH (hp w8) ⟨k7, 0, none⟩ _ := rdCel 1 h.l
  have r6 : rowH (hp w8) ⟨k6, 0, none⟩ _ := rdCel 2 h.l
  have r5 : rowH (hp w8) ⟨k5, 0, none⟩ _ := rdCel 3 h.l
  have r4 : rowH (hp w8) ⟨k4, 0, none⟩ _ := rdCel 4 h.l
  have r3 : rowH (hp w8) ⟨k3, 0, none⟩ _ := rdCel 5 h.l
  have r2 : rowH (hp w8) ⟨k2, 0, none⟩ _ := rdCel 6 h.l
  have r1 : rowH (hp w8) ⟨k1, 0, none⟩ _ := rdCel 0 h.l
  have g8 : sub (hp w) (hp w8) := rdH 7 h.l
  have p4 : rdS (hp w8) ([5, 4, 1] : List Int) (some ⟨k4, 0, none⟩) 3 := rdI_of rfl (.inr ⟨_, rfl, r4⟩)
  have p5 : rdS (hp w8) ([2] : List Int) (some ⟨k5, 0, none⟩) 1 := rdI_of rfl (.inr ⟨_, rfl, r5⟩)
  have p6 : rdS (hp w8) ([3] : List Int) (some ⟨k6, 0, none⟩) 1 := rdI_of rfl (.inr ⟨_, rfl, r6⟩)
  have p0 : rdS (hp w8) ([] : List Int) none 0 := rdI_of rfl (.inl rfl)
  refine ⟨_, _, _, _, _, _, _, _, _, _, _, _, _, r1.at (sub.refl _) rfl, ⟨some ⟨k2, 0, none⟩, 4, 4, some ⟨k3, 0, none⟩, 2, 2, none, 0, 0, 4, some ⟨k7, 0, none⟩, 4, 4⟩, rfl, ⟨?_, ?_, ?_, rfl, ?_, Nat.le_refl _, Nat.le_refl _, Nat.le_refl _, Nat.le_refl _⟩, g8⟩
  · refine rdS_lit (xs := smallG.terms) r2 fun i t hi => ?_
    match i, hi with
    | 0, hi => cases hi; rfl
    | 1, hi => cases hi; rfl
    | 2, hi => cases hi; rfl
    | 3, hi => cases hi; rfl
    | i + 4, hi => cases hi
  · exact rdS_of_row (xs := smallG.nons) rfl (.inr ⟨_, rfl, r3⟩)
  · exact p0
  · refine rdS_lit (xs := smallG.prods) r7 fun i t hi => ?_
    match i, hi with
    | 0, hi => cases hi; exact ⟨_, _, _, rfl, by decide, p4⟩
    | 1, hi => cases hi; exact ⟨_, _, _, rfl, by decide, p5⟩
    | 2, hi => cases hi; exact ⟨_, _, _, rfl, by decide, p0⟩
    | 3, hi => cases hi; exact ⟨_, _, _, rfl, by decide, p6⟩
    | i + 4, hi => cases hi
end
end Go.Proofs.YtaheggomcnbbiaaDoor
/- What rows begin with (10): awake. -/
set_option linter.unusedVariables false
namespace Go.V
theorem nn_rd {h : Hp} {k T : Nat} {nl nn : List Bool} (r : rowH h ⟨k, 0, none⟩ (bv (nl ++ nn))) (hl : nl.length = T) (hn : 0 < nn.length) : rdS h nn (some ⟨k, T, none⟩) nn.length := by
  have h0 : rdS h (nl ++ nn) (some ⟨k, 0, none⟩) (nl.length + nn.length) := rdB_of (by simp) (.inr ⟨_, rfl, r⟩)
  have h1 := h0.drop (k := T) (m := nl.length + nn.length) (by omega) (Nat.le_refl _)
  have e : slP (some ⟨k, 0, none⟩) T (nl.length + nn.length) 1 = some ⟨k, T, none⟩ := by
    unfold slP
    rw [if_neg (by omega), Option.map_some, show mulS T 1 = T from by rw [mulS_eq, Nat.mul_one], add_lit0]
  have e2 : (nl ++ nn).drop T = nn := by rw [← hl, List.drop_left]
  rw [e2, show nl.length + nn.length - T = nn.length from by omega] at h1
  exact e ▸ h1
theorem small_ok : okG smallG := by
  refine ⟨by decide, by decide, by decide, by decide, ?_, by decide, by decide⟩
  intro t ht
  simp only [smallG, List.mem_cons, List.not_mem_nil, or_false] at ht
  unfold anyI
  rcases ht with rfl | rfl | rfl | rfl <;> decide
end Go.V
namespace Go.Proofs.YtaheggomcnbbiaaDoor
open Go.V
section
variable {w : World} {L : List Asn}
set_option maxHeartbeats 1000000 in
theorem l_awake7 (ht : tabA (hp w)) : Run Tryd.prog n_presagelaw07_awake [] w fun v w' => v = .bool true ∧ Gr w w' := by
  refine run_presagelaw07_awake w _ ?_
  refine l_small.mono ?_
  rintro _ w1 ⟨x, rfl, hg, g1⟩
  refine ⟨_, _, _, _, _, _, _, _, _, _, _, _, _, rfl, newC_i (St.all w1) fun k9 w2 h => stR_i h rfl (by intro v hv; simp at hv; rcases hv with rfl | rfl | rfl | rfl | rfl <;> rfl) fun w3 h => ?_⟩
  have g3 : Gr w1 w3 := h.gone1
  have hg := hg.mono g3
  have B : GB (hp w3) k9 x := gb_of h.row
  have ht3 : tabA (hp w3) := rdV.mono (g1.trans g3) ht
  clear h
  have he : EitherP smallG := .inl small_valid
  refine ⟨_, _, _, _, _, _, _, _, _, _, _, _, _, B.row (sub.refl _), (f_Nullable (x := x) hg small_ok ht3).mono ?_⟩
  rintro _ w4 (⟨hn, _⟩ | ⟨_, k, nl, nn, hnl, hnn, rfl, h4⟩)
  · exact absurd he hn
  have e1 := hnn.inj small_nn
  subst e1
  have g4 : Gr w3 w4 := h4.gone1
  have r4 : rdS (hp w4) [false, true] (some ⟨k, smallG.T, none⟩) 2 := nn_rd h4.row hnl (by decide)
  refine ⟨_, _, _, _, rfl, _, _, _, _, _, _, _, _, _, _, _, _, _, B.row g4, (f_Sets (x := x) (hg.mono g4) small_ok (rdV.mono g4 ht3)).mono ?_⟩
  rintro _ w5 (⟨hn, _⟩ | ⟨_, a5, c5, os, bss, hos, hss, rfl, h5⟩)
  · exact absurd he hn
  have e2 := hss.inj small_ss
  subst e2
  have g5 : Gr w4 w5 := rdH 2 h5.l
  obtain ⟨⟨o0, c0⟩, ⟨o1, c1⟩, rfl⟩ : ∃ p q, os = [p, q] := by
    match os, hos with
    | [p, q], _ => exact ⟨p, q, rfl⟩
    | [], h => cases h
    | [_], h => cases h
    | _ :: _ :: _ :: _, h => simp [smallG, GramT.N] at h
  obtain ⟨ad5, ea5⟩ := own_addr h5 (by show 0 < 2; decide)
  subst ea5
  have c5' : ∀ w', sub (hp w5) (hp w') → w'.cell? ad5 = some (.slice o0 2 c0) := fun w' s => by
    obtain ⟨h1, s1, ha⟩ := h5.first
    rcases own_rdVh ha with h | ⟨ad, e, hc⟩
    · cases h
    · cases e
      exact rowH.cell0 (v := .slice o0 2 c0) (vs := [.slice o1 1 c1]) hc (sub.trans s1 s)
  refine ⟨_, _, _, _, rfl, _, _, _, _, _, _, _, _, _, _, _, _, _, B.row (g4.trans g5), newC_i (St.all w5) fun k38 w6 h6 => ?_⟩
  have g6 : Gr w5 w6 := h6.gone1
  have r6 : rdS (hp w6) ([5, 5] : List Int) (some ⟨k38, 0, none⟩) 2 := rdI_of rfl (.inr ⟨_, rfl, h6.row⟩)
  refine (f_Row (x := x) (hg.mono ((g4.trans g5).trans g6)) small_ok (rdV.mono ((g4.trans g5).trans g6) ht3) r6 (by decide)).mono ?_
  rintro _ w7 (⟨hn, _⟩ | ⟨_, o7, c7, bs, b, hbs, hbn, rfl, h7⟩)
  · exact absurd ⟨he, by unfold SyP; decide⟩ hn
  have e3 := hbs.inj small_row.1
  subst e3
  have e4 := hbn.2 small_row.2
  subst e4
  have g7 : Gr w6 w7 := h7.gone1
  have r7 : rdS (hp w7) ([3] : List Int) o7 1 := own_rdI h7
  obtain ⟨y0, ad0, q0, qa0, qc0⟩ := r4.get1 (i := 0) (by decide)
  obtain ⟨y1, ad1, q1, qa1, qc1⟩ := r4.get1 (i := 1) (by decide)
  obtain ⟨y3, ad3, q3, qa3, qc3⟩ := r7.get1 (i := 0) (by decide)
  cases q0; cases q1; cases q3
  have s47 : sub (hp w4) (hp w7) := g5.trans (g6.trans g7)
  have s57 : sub (hp w5) (hp w7) := g6.trans g7
  refine ⟨_, _, _, _, _, rfl, br_intro (fun _ => br_intro (fun _ => br_intro (fun _ => br_intro (fun _ => idx_0 qa0 (by decide) ⟨_, qc0 _ s47, br_intro (fun _ => ?_) fun h => absurd h (by decide)⟩) fun h => absurd h (by decide)) fun h => absurd h (by decide)) fun h => absurd h (by decide)) fun h => absurd h (by decide)⟩
  show idx _ _ ((1 : Nat) : Int) 1 _
  refine idx_i qa1 (by decide) ⟨_, qc1 _ s47, br_intro (fun _ => br_intro (fun _ => idx_0 rfl (by decide) ⟨o0, 2, c0, c5' _ s57, br_intro (fun _ => br_intro (fun _ => idx_0 qa3 (by decide) ⟨_, qc3 _ (sub.refl _), br_intro (fun _ => ⟨rfl, ?_⟩) fun h => absurd h (by decide)⟩) fun h => absurd h (by decide)) fun h => absurd h (by decide)⟩) fun h => absurd h (by decide)) fun h => absurd h (by decide)⟩
  exact (g1.trans g3).trans (g4.trans s47)
end
end Go.Proofs.YtaheggomcnbbiaaDoor
/- What rows begin with (11): rows one behind the other, plainly. -/
set_option linter.unusedVariables false
namespace Go.V
theorem NulR_app {g : GramT} {xs ys : List Int} : NulR g (xs ++ ys) ↔ NulR g xs ∧ NulR g ys := by
  unfold NulR
  constructor
  · exact fun h => ⟨fun s hs => h s (List.mem_append.2 (.inl hs)), fun s hs => h s (List.mem_append.2 (.inr hs))⟩
  · rintro ⟨h1, h2⟩ s hs
    rcases List.mem_append.1 hs with h | h
    · exact h1 s h
    · exact h2 s h
theorem FstR_app {g : GramT} {xs ys : List Int} {t : Nat} : FstR g (xs ++ ys) t ↔ FstR g xs t ∨ (NulR g xs ∧ FstR g ys t) := by
  unfold FstR
  constructor
  · rintro ⟨i, s, h1, h2, h3⟩
    by_cases hi : i < xs.length
    · rw [List.getElem?_append_left hi] at h1
      exact .inl ⟨i, s, h1, fun x hx => h2 x (by rw [List.take_append_of_le_length (by omega)]; exact hx), h3⟩
    · rw [List.getElem?_append_right (by omega)] at h1
      have e : (xs ++ ys).take i = xs ++ ys.take (i - xs.length) := by rw [List.take_append, List.take_of_length_le (by omega)]
      rw [e] at h2
      exact .inr ⟨fun x hx => h2 x (List.mem_append.2 (.inl hx)), i - xs.length, s, h1, fun x hx => h2 x (List.mem_append.2 (.inr hx)), h3⟩
  · rintro (⟨i, s, h1, h2, h3⟩ | ⟨hn, i, s, h1, h2, h3⟩)
    · have hi := (List.getElem?_eq_some_iff.1 h1).1
      exact ⟨i, s, by rw [List.getElem?_append_left hi]; exact h1, fun x hx => h2 x (by rw [List.take_append_of_le_length (by omega)] at hx; exact hx), h3⟩
    · refine ⟨xs.length + i, s, by rw [List.getElem?_append_right (by omega), Nat.add_sub_cancel_left]; exact h1, fun x hx => ?_, h3⟩
      rw [List.take_append, List.take_of_length_le (by omega), Nat.add_sub_cancel_left] at hx
      rcases List.mem_append.1 hx with h | h
      · exact hn x h
      · exact h2 x h
theorem SyP_app {g : GramT} {xs ys : List Int} : SyP g (xs ++ ys) ↔ SyP g xs ∧ SyP g ys := by
  unfold SyP
  constructor
  · exact fun h => ⟨fun s hs => h s (List.mem_append.2 (.inl hs)), fun s hs => h s (List.mem_append.2 (.inr hs))⟩
  · rintro ⟨h1, h2⟩ s hs
    rcases List.mem_append.1 hs with h | h
    · exact h1 s h
    · exact h2 s h
theorem mem_mbI_nat {bs : List Bool} {k : Nat} : (k : Int) ∈ mbI bs ↔ fnB bs k = true := by
  rw [mbI_range (Nat.le_refl _), List.mem_map]
  constructor
  · rintro ⟨j, hj, e⟩
    have : j = k := by omega
    subst this
    exact (List.mem_filter.1 hj).2
  · intro h
    refine ⟨k, List.mem_filter.2 ⟨?_, h⟩, rfl⟩
    rw [List.mem_range]
    exact Nat.lt_of_not_le fun hl => by rw [fnB_out hl] at h; cases h
/- the laws' want -/
theorem want_no {g : GramT} {xs ys : List Int} {bs us : List Bool} (hT : g.T ≤ 65) (h1 : BsP g xs bs) (hu : BsP g (xs ++ ys) us) (hn : ¬ NulR g xs) : bothL (mbI bs) [] 65 = mbI us :=
  bothL_mbI (cs := []) (by rw [hu.1]; exact hT) fun k hk => by
    rw [hu.2, FstR_app, mem_mbI_nat, h1.2, mem_mbI_nat]
    constructor
    · rintro (h | ⟨h, _⟩)
      · exact .inl h
      · exact absurd h hn
    · rintro (h | h)
      · exact .inl h
      · simp [fnB] at h
theorem want_yes {g : GramT} {xs ys : List Int} {bs cs us : List Bool} (hT : g.T ≤ 65) (h1 : BsP g xs bs) (h2 : BsP g ys cs) (hu : BsP g (xs ++ ys) us) (hn : NulR g xs) : bothL (mbI bs) (mbI cs) 65 = mbI us :=
  bothL_mbI (by rw [hu.1]; exact hT) fun k hk => by
    rw [hu.2, FstR_app, mem_mbI_nat, h1.2, mem_mbI_nat, h2.2]
    exact or_congr Iff.rfl ⟨fun h => h.2, fun h => ⟨hn, h⟩⟩
end Go.V
/- The propositions of this seat's functions (written by a program). -/
set_option linter.unusedVariables false
namespace Go.Proofs.YtaheggomcnbbiaaDoor
open Go.V
/- presage/presagelaw07.FirstExact -/
abbrev n_presagelaw07_FirstExact : FuncId := 3
def ann_presagelaw07_FirstExact : Ann := { rngs := [], loops := [(4, [(7, (.one (.int .i64)))]), (20, [(28, (.one (.int .i64)))]), (23, [(29, (.one (.int .i64)))]), (28, [(30, (.one (.int .i64)))]), (32, [(31, (.one (.int .i64)))])], joins := [(18, [(124, (.one .bool))])], blocks := [] }
set_option maxRecDepth 100000 in
def vc_presagelaw07_FirstExact (p0g_0a : Option Addr) (p0g_0l : Nat) (p0g_0c : Nat) (p0g_1a : Option Addr) (p0g_1l : Nat) (p0g_1c : Nat) (p0g_2a : Option Addr) (p0g_2l : Nat) (p0g_2c : Nat) (p0g_3 : Int) (p0g_4a : Option Addr) (p0g_4l : Nat) (p0g_4c : Nat) (p1rowa : Option Addr) (p1rowl : Nat) (p1rowc : Nat) (w : World) (R : Value → World → Prop) : Prop :=
  new w
  (Obj.cells
  (Array.mk [Value.slice p0g_0a p0g_0l p0g_0c, Value.slice p0g_1a p0g_1l p0g_1c, Value.slice p0g_2a p0g_2l p0g_2c, Value.int IntKind.i64 p0g_3, Value.slice p0g_4a p0g_4l p0g_4c])
  27)
  fun (k1 : Nat) (w1 : World) =>
  RunE Proofs.Tryd.prog Ev 13 [] w1 fun (v1 : Value) (w2 : World) =>
  ∃ (b1 : Bool),
  v1 = Value.bool b1 ∧
  ∃ (o1 : Option Addr),
  ∃ (k2 : Nat),
  ∃ (k3 : Nat),
  ∃ (o2 : Option Addr),
  ∃ (k4 : Nat),
  ∃ (k5 : Nat),
  ∃ (o3 : Option Addr),
  ∃ (k6 : Nat),
  ∃ (k7 : Nat),
  ∃ (n1 : Int),
  ∃ (o4 : Option Addr),
  ∃ (k8 : Nat),
  ∃ (k9 : Nat),
  V.rowAt w2 (Addr.mk k1 0 none) 0 5 =
  some [Value.slice o1 k2 k3, Value.slice o2 k4 k5, Value.slice o3 k6 k7, Value.int IntKind.i64 n1, Value.slice o4 k8 k9] ∧
  RunE Proofs.Tryd.prog Ev 14
  [Value.agg (Array.mk [Value.slice o1 k2 k3, Value.slice o2 k4 k5, Value.slice o3 k6 k7, Value.int IntKind.i64 n1, Value.slice o4 k8 k9])] w2
  fun (v2 : Value) (w3 : World) =>
  ∃ (o5 : Option Addr),
  ∃ (k10 : Nat),
  ∃ (k11 : Nat),
  ∃ (o6 : Option Addr),
  ∃ (k12 : Nat),
  ∃ (k13 : Nat),
  ∃ (o7 : Option Addr),
  ∃ (k14 : Nat),
  ∃ (k15 : Nat),
  ∃ (n2 : Int),
  ∃ (o8 : Option Addr),
  ∃ (k16 : Nat),
  ∃ (k17 : Nat),
  v2 =
  Value.agg
  (Array.mk
  [Value.slice o5 k10 k11, Value.slice o6 k12 k13, Value.slice o7 k14 k15, Value.int IntKind.i64 n2,
  Value.slice o8 k16 k17]) ∧
  new w3
  (Obj.cells
  (Array.mk
  [Value.slice none 0 0, Value.slice none 0 0, Value.slice none 0 0, Value.int IntKind.i64 0,
  Value.slice none 0 0])
  27)
  fun (k18 : Nat) (w4 : World) =>
  stR w4 (Addr.mk k18 0 none)
  [Value.slice o5 k10 k11, Value.slice o6 k12 k13, Value.slice o7 k14 k15, Value.int IntKind.i64 n2,
  Value.slice o8 k16 k17]
  fun (w5 : World) =>
  ∃ (x1 : arrS (shs [(7, S1.one (Cs.int IntKind.i64))]) (World → Prop)),
  ∃ (x2 : arrS (shs [(7, S1.one (Cs.int IntKind.i64))]) (World → Nat)),
  x1 0 w5 ∧
  ∀ (I1 : Nat → Value) (n3 : Int) (w6 : World),
  x1 n3 w6 →
  br (decide (n3 < 2))
  (∃ (o9 : Option Addr),
  ∃ (k19 : Nat),
  ∃ (k20 : Nat),
  ∃ (o10 : Option Addr),
  ∃ (k21 : Nat),
  ∃ (k22 : Nat),
  ∃ (o11 : Option Addr),
  ∃ (k23 : Nat),
  ∃ (k24 : Nat),
  ∃ (n4 : Int),
  ∃ (o12 : Option Addr),
  ∃ (k25 : Nat),
  ∃ (k26 : Nat),
  V.rowAt w6 (Addr.mk k1 0 none) 0 5 =
  some
  [Value.slice o9 k19 k20, Value.slice o10 k21 k22,
  Value.slice o11 k23 k24, Value.int IntKind.i64 n4,
  Value.slice o12 k25 k26] ∧
  RunE Proofs.Tryd.prog Ev 15
  [Value.agg
  (Array.mk
  [Value.slice o9 k19 k20, Value.slice o10 k21 k22,
  Value.slice o11 k23 k24, Value.int IntKind.i64 n4,
  Value.slice o12 k25 k26])]
  w6 fun (v3 : Value) (w7 : World) =>
  ∃ (o13 : Option Addr),
  ∃ (k27 : Nat),
  ∃ (k28 : Nat),
  ∃ (n5 : Int),
  v3 =
  Value.tuple
  (Array.mk
  [Value.slice o13 k27 k28,
  Value.int IntKind.i64 n5]) ∧
  ∃ (o14 : Option Addr),
  ∃ (k29 : Nat),
  ∃ (k30 : Nat),
  ∃ (o15 : Option Addr),
  ∃ (k31 : Nat),
  ∃ (k32 : Nat),
  ∃ (o16 : Option Addr),
  ∃ (k33 : Nat),
  ∃ (k34 : Nat),
  ∃ (n6 : Int),
  ∃ (o17 : Option Addr),
  ∃ (k35 : Nat),
  ∃ (k36 : Nat),
  V.rowAt w7 (Addr.mk k18 0 none)
  0 5 =
  some
  [Value.slice o14 k29 k30,
  Value.slice o15 k31 k32,
  Value.slice o16 k33 k34,
  Value.int IntKind.i64
  n6,
  Value.slice o17 k35
  k36] ∧
  RunE Proofs.Tryd.prog Ev 16
  [Value.agg
  (Array.mk
  [Value.slice o14 k29
  k30,
  Value.slice o15 k31
  k32,
  Value.slice o16 k33
  k34,
  Value.int
  IntKind.i64 n6,
  Value.slice o17 k35
  k36])]
  w7
  fun (v4 : Value)
  (w8 : World) =>
  ∃ (o18 : Option Addr),
  ∃ (k37 : Nat),
  ∃ (k38 : Nat),
  ∃ (n7 : Int),
  v4 =
  Value.tuple
  (Array.mk
  [Value.slice
  o18 k37
  k38,
  Value.int
  IntKind.i64
  n7]) ∧
  RunE
  Proofs.Tryd.prog
  Ev 17
  [Value.slice o13
  k27 k28,
  Value.slice
  o18 k37 k38]
  w8
  fun (v5 : Value)
  (w9 :
  World) =>
  ∃ (b2 : Bool),
  v5 =
  Value.bool
  b2 ∧
  ∃ (o19 :
  Option
  Addr),
  ∃ (k39 :
  Nat),
  ∃ (k40 :
  Nat),
  ∃ (o20
  :
  Option
  Addr),
  ∃
  (k41
  :
  Nat),
  ∃
  (k42
  :
  Nat),
  ∃
  (o21
  :
  Option
  Addr),
  ∃
  (k43
  :
  Nat),
  ∃
  (k44
  :
  Nat),
  ∃
  (n8
  :
  Int),
  ∃
  (o22
  :
  Option
  Addr),
  ∃
  (k45
  :
  Nat),
  ∃
  (k46
  :
  Nat),
  V.rowAt
  w9
  (Addr.mk
  k1
  0
  none)
  0
  5 =
  some
  [Value.slice
  o19
  k39
  k40,
  Value.slice
  o20
  k41
  k42,
  Value.slice
  o21
  k43
  k44,
  Value.int
  IntKind.i64
  n8,
  Value.slice
  o22
  k45
  k46] ∧
  RunE
  Proofs.Tryd.prog
  Ev
  18
  [Value.agg
  (Array.mk
  [Value.slice
  o19
  k39
  k40,
  Value.slice
  o20
  k41
  k42,
  Value.slice
  o21
  k43
  k44,
  Value.int
  IntKind.i64
  n8,
  Value.slice
  o22
  k45
  k46])]
  w9
  fun
  (v6 :
  Value)
  (w10 :
  World) =>
  ∃
  (o23
  :
  Option
  Addr),
  ∃
  (k47
  :
  Nat),
  ∃
  (k48
  :
  Nat),
  ∃
  (n9
  :
  Int),
  v6 =
  Value.tuple
  (Array.mk
  [Value.slice
  o23
  k47
  k48,
  Value.int
  IntKind.i64
  n9]) ∧
  ∃
  (o24
  :
  Option
  Addr),
  ∃
  (k49
  :
  Nat),
  ∃
  (k50
  :
  Nat),
  ∃
  (o25
  :
  Option
  Addr),
  ∃
  (k51
  :
  Nat),
  ∃
  (k52
  :
  Nat),
  ∃
  (o26
  :
  Option
  Addr),
  ∃
  (k53
  :
  Nat),
  ∃
  (k54
  :
  Nat),
  ∃
  (n10
  :
  Int),
  ∃
  (o27
  :
  Option
  Addr),
  ∃
  (k55
  :
  Nat),
  ∃
  (k56
  :
  Nat),
  V.rowAt
  w10
  (Addr.mk
  k18
  0
  none)
  0
  5 =
  some
  [Value.slice
  o24
  k49
  k50,
  Value.slice
  o25
  k51
  k52,
  Value.slice
  o26
  k53
  k54,
  Value.int
  IntKind.i64
  n10,
  Value.slice
  o27
  k55
  k56] ∧
  RunE
  Proofs.Tryd.prog
  Ev
  19
  [Value.agg
  (Array.mk
  [Value.slice
  o24
  k49
  k50,
  Value.slice
  o25
  k51
  k52,
  Value.slice
  o26
  k53
  k54,
  Value.int
  IntKind.i64
  n10,
  Value.slice
  o27
  k55
  k56])]
  w10
  fun
  (v7 :
  Value)
  (w11 :
  World) =>
  ∃
  (o28
  :
  Option
  Addr),
  ∃
  (k57
  :
  Nat),
  ∃
  (k58
  :
  Nat),
  ∃
  (n11
  :
  Int),
  v7 =
  Value.tuple
  (Array.mk
  [Value.slice
  o28
  k57
  k58,
  Value.int
  IntKind.i64
  n11]) ∧
  RunE
  Proofs.Tryd.prog
  Ev
  20
  [Value.slice
  o23
  k47
  k48,
  Value.slice
  o28
  k57
  k58]
  w11
  fun
  (v8 :
  Value)
  (w12 :
  World) =>
  ∃
  (b3
  :
  Bool),
  v8 =
  Value.bool
  b3 ∧
  RunE
  Proofs.Tryd.prog
  Ev
  21
  [Value.slice
  p1rowa
  p1rowl
  p1rowc]
  w12
  fun
  (v9 :
  Value)
  (w13 :
  World) =>
  ∃
  (o29
  :
  Option
  Addr),
  ∃
  (k59
  :
  Nat),
  ∃
  (k60
  :
  Nat),
  ∃
  (o30
  :
  Option
  Addr),
  ∃
  (k61
  :
  Nat),
  ∃
  (k62
  :
  Nat),
  v9 =
  Value.tuple
  (Array.mk
  [Value.slice
  o29
  k59
  k60,
  Value.slice
  o30
  k61
  k62]) ∧
  ∃
  (o31
  :
  Option
  Addr),
  ∃
  (k63
  :
  Nat),
  ∃
  (k64
  :
  Nat),
  ∃
  (o32
  :
  Option
  Addr),
  ∃
  (k65
  :
  Nat),
  ∃
  (k66
  :
  Nat),
  ∃
  (o33
  :
  Option
  Addr),
  ∃
  (k67
  :
  Nat),
  ∃
  (k68
  :
  Nat),
  ∃
  (n12
  :
  Int),
  ∃
  (o34
  :
  Option
  Addr),
  ∃
  (k69
  :
  Nat),
  ∃
  (k70
  :
  Nat),
  V.rowAt
  w13
  (Addr.mk
  k1
  0
  none)
  0
  5 =
  some
  [Value.slice
  o31
  k63
  k64,
  Value.slice
  o32
  k65
  k66,
  Value.slice
  o33
  k67
  k68,
  Value.int
  IntKind.i64
  n12,
  Value.slice
  o34
  k69
  k70] ∧
  RunE
  Proofs.Tryd.prog
  Ev
  22
  [Value.agg
  (Array.mk
  [Value.slice
  o31
  k63
  k64,
  Value.slice
  o32
  k65
  k66,
  Value.slice
  o33
  k67
  k68,
  Value.int
  IntKind.i64
  n12,
  Value.slice
  o34
  k69
  k70]),
  Value.slice
  o29
  k59
  k60]
  w13
  fun
  (v10 :
  Value)
  (w14 :
  World) =>
  ∃
  (o35
  :
  Option
  Addr),
  ∃
  (k71
  :
  Nat),
  ∃
  (k72
  :
  Nat),
  ∃
  (b4
  :
  Bool),
  ∃
  (n13
  :
  Int),
  v10 =
  Value.tuple
  (Array.mk
  [Value.slice
  o35
  k71
  k72,
  Value.bool
  b4,
  Value.int
  IntKind.i64
  n13]) ∧
  ∃
  (o36
  :
  Option
  Addr),
  ∃
  (k73
  :
  Nat),
  ∃
  (k74
  :
  Nat),
  ∃
  (o37
  :
  Option
  Addr),
  ∃
  (k75
  :
  Nat),
  ∃
  (k76
  :
  Nat),
  ∃
  (o38
  :
  Option
  Addr),
  ∃
  (k77
  :
  Nat),
  ∃
  (k78
  :
  Nat),
  ∃
  (n14
  :
  Int),
  ∃
  (o39
  :
  Option
  Addr),
  ∃
  (k79
  :
  Nat),
  ∃
  (k80
  :
  Nat),
  V.rowAt
  w14
  (Addr.mk
  k18
  0
  none)
  0
  5 =
  some
  [Value.slice
  o36
  k73
  k74,
  Value.slice
  o37
  k75
  k76,
  Value.slice
  o38
  k77
  k78,
  Value.int
  IntKind.i64
  n14,
  Value.slice
  o39
  k79
  k80] ∧
  RunE
  Proofs.Tryd.prog
  Ev
  23
  [Value.agg
  (Array.mk
  [Value.slice
  o36
  k73
  k74,
  Value.slice
  o37
  k75
  k76,
  Value.slice
  o38
  k77
  k78,
  Value.int
  IntKind.i64
  n14,
  Value.slice
  o39
  k79
  k80]),
  Value.slice
  p1rowa
  p1rowl
  p1rowc]
  w14
  fun
  (v11 :
  Value)
  (w15 :
  World) =>
  ∃
  (o40
  :
  Option
  Addr),
  ∃
  (k81
  :
  Nat),
  ∃
  (k82
  :
  Nat),
  ∃
  (b5
  :
  Bool),
  ∃
  (n15
  :
  Int),
  v11 =
  Value.tuple
  (Array.mk
  [Value.slice
  o40
  k81
  k82,
  Value.bool
  b5,
  Value.int
  IntKind.i64
  n15]) ∧
  RunE
  Proofs.Tryd.prog
  Ev
  24
  [Value.slice
  o35
  k71
  k72,
  Value.slice
  o40
  k81
  k82]
  w15
  fun
  (v12 :
  Value)
  (w16 :
  World) =>
  ∃
  (b6
  :
  Bool),
  v12 =
  Value.bool
  b6 ∧
  RunE
  Proofs.Tryd.prog
  Ev
  25
  [Value.slice
  o30
  k61
  k62,
  Value.slice
  p1rowa
  p1rowl
  p1rowc]
  w16
  fun
  (v13 :
  Value)
  (w17 :
  World) =>
  ∃
  (b7
  :
  Bool),
  v13 =
  Value.bool
  b7 ∧
  ∃
  (x3
  :
  arrS
  (shs
  [(124,
  S1.one
  Cs.bool)])
  (World →
  Prop)),
  br
  (!b2)
  (x3
  true
  w17)
  (br
  (!b3)
  (x3
  true
  w17)
  (br
  (!b6)
  (x3
  true
  w17)
  (br
  (!b7)
  (x3
  true
  w17)
  (br
  (n5 !=
  n7)
  (x3
  true
  w17)
  (br
  (n9 !=
  n11)
  (x3
  true
  w17)
  (br
  (n13 !=
  n15)
  (x3
  true
  w17)
  (x3
  (!b4 ==
  b5)
  w17))))))) ∧
  ∀
  (I2 :
  Nat →
  Value)
  (b8 :
  Bool)
  (w18 :
  World),
  x3
  b8
  w18 →
  br
  b8
  (R
  (Value.bool
  false)
  w18)
  (∃
  (x4
  :
  arrS
  (shs
  [(28,
  S1.one
  (Cs.int
  IntKind.i64))])
  (World →
  Prop)),
  ∃
  (x5
  :
  arrS
  (shs
  [(28,
  S1.one
  (Cs.int
  IntKind.i64))])
  (World →
  Nat)),
  x4
  0
  w18 ∧
  ∀
  (I3 :
  Nat →
  Value)
  (n16 :
  Int)
  (w19 :
  World),
  x4
  n16
  w19 →
  br
  (decide
  (n16 <
  (↑k47 :
  Int)))
  (∃
  (x6
  :
  arrS
  (shs
  [(29,
  S1.one
  (Cs.int
  IntKind.i64))])
  (World →
  Prop)),
  ∃
  (x7
  :
  arrS
  (shs
  [(29,
  S1.one
  (Cs.int
  IntKind.i64))])
  (World →
  Nat)),
  x6
  0
  w19 ∧
  ∀
  (I4 :
  Nat →
  Value)
  (n17 :
  Int)
  (w20 :
  World),
  x6
  n17
  w20 →
  idx
  o23
  k47
  n16
  1
  fun
  (a1 :
  Addr) =>
  ∃
  (o41
  :
  Option
  Addr),
  ∃
  (k83
  :
  Nat),
  ∃
  (k84
  :
  Nat),
  World.cell?
  w20
  a1 =
  some
  (Value.slice
  o41
  k83
  k84) ∧
  br
  (decide
  (n17 <
  (↑k83 :
  Int)))
  (idx
  o23
  k47
  n16
  1
  fun
  (a2 :
  Addr) =>
  ∃
  (o42
  :
  Option
  Addr),
  ∃
  (k85
  :
  Nat),
  ∃
  (k86
  :
  Nat),
  World.cell?
  w20
  a2 =
  some
  (Value.slice
  o42
  k85
  k86) ∧
  idx
  o42
  k85
  n17
  1
  fun
  (a3 :
  Addr) =>
  st1
  w20
  a3
  (Value.int
  IntKind.i64
  99)
  fun
  (w21 :
  World) =>
  inI
  (n17 +
  1) ∧
  x6
  (n17 +
  1)
  w21 ∧
  x7
  (n17 +
  1)
  w21 <
  x7
  n17
  w20)
  (idx
  o23
  k47
  n16
  1
  fun
  (a4 :
  Addr) =>
  ∃
  (o43
  :
  Option
  Addr),
  ∃
  (k87
  :
  Nat),
  ∃
  (k88
  :
  Nat),
  World.cell?
  w20
  a4 =
  some
  (Value.slice
  o43
  k87
  k88) ∧
  new
  w20
  (Obj.cells
  (Array.mk
  [Value.int
  IntKind.i64
  98])
  3)
  fun
  (k89 :
  Nat)
  (w22 :
  World) =>
  RunS
  Proofs.Tryd.prog
  (Builtin.append_
  (Array.mk
  [24,
  24])
  24
  (Array.mk
  [Value.slice
  o43
  k87
  k88,
  Value.slice
  (some
  (Addr.mk
  k89
  0
  none))
  1
  1]))
  w22
  fun
  (v14 :
  Value)
  (w23 :
  World) =>
  ∃
  (o44
  :
  Option
  Addr),
  ∃
  (k90
  :
  Nat),
  ∃
  (k91
  :
  Nat),
  v14 =
  Value.slice
  o44
  k90
  k91 ∧
  idx
  o23
  k47
  n16
  1
  fun
  (a5 :
  Addr) =>
  st1
  w23
  a5
  (Value.slice
  o44
  k90
  k91)
  fun
  (w24 :
  World) =>
  inI
  (n16 +
  1) ∧
  x4
  (n16 +
  1)
  w24 ∧
  x5
  (n16 +
  1)
  w24 <
  x5
  n16
  w19))
  (∃
  (x8
  :
  arrS
  (shs
  [(30,
  S1.one
  (Cs.int
  IntKind.i64))])
  (World →
  Prop)),
  ∃
  (x9
  :
  arrS
  (shs
  [(30,
  S1.one
  (Cs.int
  IntKind.i64))])
  (World →
  Nat)),
  x8
  0
  w19 ∧
  ∀
  (I5 :
  Nat →
  Value)
  (n18 :
  Int)
  (w25 :
  World),
  x8
  n18
  w25 →
  br
  (decide
  (n18 <
  (↑k27 :
  Int)))
  (idx
  o13
  k27
  n18
  1
  fun
  (a6 :
  Addr) =>
  ∃
  (b9
  :
  Bool),
  World.cell?
  w25
  a6 =
  some
  (Value.bool
  b9) ∧
  idx
  o13
  k27
  n18
  1
  fun
  (a7 :
  Addr) =>
  st1
  w25
  a7
  (Value.bool
  !b9)
  fun
  (w26 :
  World) =>
  inI
  (n18 +
  1) ∧
  x8
  (n18 +
  1)
  w26 ∧
  x9
  (n18 +
  1)
  w26 <
  x9
  n18
  w25)
  (∃
  (x10
  :
  arrS
  (shs
  [(31,
  S1.one
  (Cs.int
  IntKind.i64))])
  (World →
  Prop)),
  ∃
  (x11
  :
  arrS
  (shs
  [(31,
  S1.one
  (Cs.int
  IntKind.i64))])
  (World →
  Nat)),
  x10
  0
  w25 ∧
  ∀
  (I6 :
  Nat →
  Value)
  (n19 :
  Int)
  (w27 :
  World),
  x10
  n19
  w27 →
  br
  (decide
  (n19 <
  (↑k71 :
  Int)))
  (idx
  o35
  k71
  n19
  1
  fun
  (a8 :
  Addr) =>
  st1
  w27
  a8
  (Value.int
  IntKind.i64
  99)
  fun
  (w28 :
  World) =>
  inI
  (n19 +
  1) ∧
  x10
  (n19 +
  1)
  w28 ∧
  x11
  (n19 +
  1)
  w28 <
  x11
  n19
  w27)
  (inI
  (n3 +
  1) ∧
  x1
  (n3 +
  1)
  w27 ∧
  x2
  (n3 +
  1)
  w27 <
  x2
  n3
  w6)))))
  (∃ (o45 : Option Addr),
  ∃ (k92 : Nat),
  ∃ (k93 : Nat),
  ∃ (o46 : Option Addr),
  ∃ (k94 : Nat),
  ∃ (k95 : Nat),
  ∃ (o47 : Option Addr),
  ∃ (k96 : Nat),
  ∃ (k97 : Nat),
  ∃ (n20 : Int),
  ∃ (o48 : Option Addr),
  ∃ (k98 : Nat),
  ∃ (k99 : Nat),
  V.rowAt w6 (Addr.mk k1 0 none) 0 5 =
  some
  [Value.slice o45 k92 k93, Value.slice o46 k94 k95,
  Value.slice o47 k96 k97, Value.int IntKind.i64 n20,
  Value.slice o48 k98 k99] ∧
  ∃ (o49 : Option Addr),
  ∃ (k100 : Nat),
  ∃ (k101 : Nat),
  ∃ (o50 : Option Addr),
  ∃ (k102 : Nat),
  ∃ (k103 : Nat),
  ∃ (o51 : Option Addr),
  ∃ (k104 : Nat),
  ∃ (k105 : Nat),
  ∃ (n21 : Int),
  ∃ (o52 : Option Addr),
  ∃ (k106 : Nat),
  ∃ (k107 : Nat),
  V.rowAt w6 (Addr.mk k18 0 none) 0 5 =
  some
  [Value.slice o49 k100 k101,
  Value.slice o50 k102 k103,
  Value.slice o51 k104 k105,
  Value.int IntKind.i64 n21,
  Value.slice o52 k106 k107] ∧
  RunE Proofs.Tryd.prog Ev 26
  [Value.agg
  (Array.mk
  [Value.slice o45 k92 k93,
  Value.slice o46 k94 k95,
  Value.slice o47 k96 k97,
  Value.int IntKind.i64 n20,
  Value.slice o48 k98 k99]),
  Value.agg
  (Array.mk
  [Value.slice o49 k100 k101,
  Value.slice o50 k102 k103,
  Value.slice o51 k104 k105,
  Value.int IntKind.i64 n21,
  Value.slice o52 k106 k107])]
  w6 fun (v15 : Value) (w29 : World) =>
  ∃ (b10 : Bool),
  v15 = Value.bool b10 ∧
  br b1 (R (Value.bool b10) w29)
  (R (Value.bool false) w29))
set_option maxRecDepth 100000 in
theorem run_presagelaw07_FirstExact (p0g_0a : Option Addr) (p0g_0l : Nat) (p0g_0c : Nat) (p0g_1a : Option Addr) (p0g_1l : Nat) (p0g_1c : Nat) (p0g_2a : Option Addr) (p0g_2l : Nat) (p0g_2c : Nat) (p0g_3 : Int) (p0g_4a : Option Addr) (p0g_4l : Nat) (p0g_4c : Nat) (p1rowa : Option Addr) (p1rowl : Nat) (p1rowc : Nat) (w : World) (R : Value → World → Prop) (h : vc_presagelaw07_FirstExact p0g_0a p0g_0l p0g_0c p0g_1a p0g_1l p0g_1c p0g_2a p0g_2l p0g_2c p0g_3 p0g_4a p0g_4l p0g_4c p1rowa p1rowl p1rowc w R) : Run Tryd.prog 3 [(.agg #[(.slice p0g_0a p0g_0l p0g_0c), (.slice p0g_1a p0g_1l p0g_1c), (.slice p0g_2a p0g_2l p0g_2c), (.int .i64 p0g_3), (.slice p0g_4a p0g_4l p0g_4c)]), (.slice p1rowa p1rowl p1rowc)] w R :=
  run_ev tyOk fnOk mixed Tryd.func3 ann_presagelaw07_FirstExact ((by kernel_rfl : fnV Tryd.prog Ty Fn Ev ann_presagelaw07_FirstExact Tryd.f3 [(.agg #[(.slice p0g_0a p0g_0l p0g_0c), (.slice p0g_1a p0g_1l p0g_1c), (.slice p0g_2a p0g_2l p0g_2c), (.int .i64 p0g_3), (.slice p0g_4a p0g_4l p0g_4c)]), (.slice p1rowa p1rowl p1rowc)] w R = vc_presagelaw07_FirstExact p0g_0a p0g_0l p0g_0c p0g_1a p0g_1l p0g_1c p0g_2a p0g_2l p0g_2c p0g_3 p0g_4a p0g_4l p0g_4c p1rowa p1rowl p1rowc w R) ▸ h)

/- presage/presagelaw07.FirstRows -/
abbrev n_presagelaw07_FirstRows : FuncId := 4
def ann_presagelaw07_FirstRows : Ann := { rngs := [], loops := [], joins := [], blocks := [] }
set_option maxRecDepth 100000 in
def vc_presagelaw07_FirstRows (p0g_0a : Option Addr) (p0g_0l : Nat) (p0g_0c : Nat) (p0g_1a : Option Addr) (p0g_1l : Nat) (p0g_1c : Nat) (p0g_2a : Option Addr) (p0g_2l : Nat) (p0g_2c : Nat) (p0g_3 : Int) (p0g_4a : Option Addr) (p0g_4l : Nat) (p0g_4c : Nat) (p1aa : Option Addr) (p1al : Nat) (p1ac : Nat) (p2ba : Option Addr) (p2bl : Nat) (p2bc : Nat) (w : World) (R : Value → World → Prop) : Prop :=
  new w
  (Obj.cells
  (Array.mk [Value.slice p0g_0a p0g_0l p0g_0c, Value.slice p0g_1a p0g_1l p0g_1c, Value.slice p0g_2a p0g_2l p0g_2c, Value.int IntKind.i64 p0g_3, Value.slice p0g_4a p0g_4l p0g_4c])
  27)
  fun (k1 : Nat) (w1 : World) =>
  RunE Proofs.Tryd.prog Ev 13 [] w1 fun (v1 : Value) (w2 : World) =>
  ∃ (b1 : Bool),
  v1 = Value.bool b1 ∧
  ∃ (o1 : Option Addr),
  ∃ (k2 : Nat),
  ∃ (k3 : Nat),
  ∃ (o2 : Option Addr),
  ∃ (k4 : Nat),
  ∃ (k5 : Nat),
  ∃ (o3 : Option Addr),
  ∃ (k6 : Nat),
  ∃ (k7 : Nat),
  ∃ (n1 : Int),
  ∃ (o4 : Option Addr),
  ∃ (k8 : Nat),
  ∃ (k9 : Nat),
  V.rowAt w2 (Addr.mk k1 0 none) 0 5 =
  some [Value.slice o1 k2 k3, Value.slice o2 k4 k5, Value.slice o3 k6 k7, Value.int IntKind.i64 n1, Value.slice o4 k8 k9] ∧
  RunE Proofs.Tryd.prog Ev 22
  [Value.agg (Array.mk [Value.slice o1 k2 k3, Value.slice o2 k4 k5, Value.slice o3 k6 k7, Value.int IntKind.i64 n1, Value.slice o4 k8 k9]),
  Value.slice p1aa p1al p1ac]
  w2 fun (v2 : Value) (w3 : World) =>
  ∃ (o5 : Option Addr),
  ∃ (k10 : Nat),
  ∃ (k11 : Nat),
  ∃ (b2 : Bool),
  ∃ (n2 : Int),
  v2 = Value.tuple (Array.mk [Value.slice o5 k10 k11, Value.bool b2, Value.int IntKind.i64 n2]) ∧
  ∃ (o6 : Option Addr),
  ∃ (k12 : Nat),
  ∃ (k13 : Nat),
  ∃ (o7 : Option Addr),
  ∃ (k14 : Nat),
  ∃ (k15 : Nat),
  ∃ (o8 : Option Addr),
  ∃ (k16 : Nat),
  ∃ (k17 : Nat),
  ∃ (n3 : Int),
  ∃ (o9 : Option Addr),
  ∃ (k18 : Nat),
  ∃ (k19 : Nat),
  V.rowAt w3 (Addr.mk k1 0 none) 0 5 =
  some
  [Value.slice o6 k12 k13, Value.slice o7 k14 k15, Value.slice o8 k16 k17, Value.int IntKind.i64 n3,
  Value.slice o9 k18 k19] ∧
  RunE Proofs.Tryd.prog Ev 22
  [Value.agg
  (Array.mk
  [Value.slice o6 k12 k13, Value.slice o7 k14 k15, Value.slice o8 k16 k17,
  Value.int IntKind.i64 n3, Value.slice o9 k18 k19]),
  Value.slice p2ba p2bl p2bc]
  w3 fun (v3 : Value) (w4 : World) =>
  ∃ (o10 : Option Addr),
  ∃ (k20 : Nat),
  ∃ (k21 : Nat),
  ∃ (b3 : Bool),
  ∃ (n4 : Int),
  v3 =
  Value.tuple
  (Array.mk [Value.slice o10 k20 k21, Value.bool b3, Value.int IntKind.i64 n4]) ∧
  RunS Proofs.Tryd.prog
  (Builtin.append_ (Array.mk [24, 24]) 24
  (Array.mk [Value.slice none 0 0, Value.slice p1aa p1al p1ac]))
  w4 fun (v4 : Value) (w5 : World) =>
  ∃ (o11 : Option Addr),
  ∃ (k22 : Nat),
  ∃ (k23 : Nat),
  v4 = Value.slice o11 k22 k23 ∧
  RunS Proofs.Tryd.prog
  (Builtin.append_ (Array.mk [24, 24]) 24
  (Array.mk [Value.slice o11 k22 k23, Value.slice p2ba p2bl p2bc]))
  w5 fun (v5 : Value) (w6 : World) =>
  ∃ (o12 : Option Addr),
  ∃ (k24 : Nat),
  ∃ (k25 : Nat),
  v5 = Value.slice o12 k24 k25 ∧
  ∃ (o13 : Option Addr),
  ∃ (k26 : Nat),
  ∃ (k27 : Nat),
  ∃ (o14 : Option Addr),
  ∃ (k28 : Nat),
  ∃ (k29 : Nat),
  ∃ (o15 : Option Addr),
  ∃ (k30 : Nat),
  ∃ (k31 : Nat),
  ∃ (n5 : Int),
  ∃ (o16 : Option Addr),
  ∃ (k32 : Nat),
  ∃ (k33 : Nat),
  V.rowAt w6 (Addr.mk k1 0 none) 0 5 =
  some
  [Value.slice o13 k26 k27,
  Value.slice o14 k28 k29,
  Value.slice o15 k30 k31,
  Value.int IntKind.i64 n5,
  Value.slice o16 k32 k33] ∧
  RunE Proofs.Tryd.prog Ev 22
  [Value.agg
  (Array.mk
  [Value.slice o13 k26 k27,
  Value.slice o14 k28 k29,
  Value.slice o15 k30 k31,
  Value.int IntKind.i64 n5,
  Value.slice o16 k32 k33]),
  Value.slice o12 k24 k25]
  w6 fun (v6 : Value) (w7 : World) =>
  ∃ (o17 : Option Addr),
  ∃ (k34 : Nat),
  ∃ (k35 : Nat),
  ∃ (b4 : Bool),
  ∃ (n6 : Int),
  v6 =
  Value.tuple
  (Array.mk
  [Value.slice o17 k34
  k35,
  Value.bool b4,
  Value.int
  IntKind.i64
  n6]) ∧
  br (n2 != 0)
  (br b1
  (br (n6 == 1)
  (br
  ((↑k34 : Int) ==
  0)
  (R
  (Value.bool !b4)
  w7)
  (R
  (Value.bool
  false)
  w7))
  (R
  (Value.bool false)
  w7))
  (R (Value.bool false)
  w7))
  (br (n4 != 0)
  (br b1
  (br (n6 == 1)
  (br
  ((↑k34 : Int) ==
  0)
  (R
  (Value.bool
  !b4)
  w7)
  (R
  (Value.bool
  false)
  w7))
  (R
  (Value.bool
  false)
  w7))
  (R
  (Value.bool false)
  w7))
  (RunE Proofs.Tryd.prog
  Ev 27
  [Value.slice o5 k10
  k11,
  Value.slice none 0
  0]
  w7
  fun (v7 : Value)
  (w8 : World) =>
  ∃ (o18 :
  Option Addr),
  ∃ (k36 : Nat),
  ∃ (k37 : Nat),
  v7 =
  Value.slice
  o18 k36
  k37 ∧
  br b2
  (RunE
  Proofs.Tryd.prog
  Ev 27
  [Value.slice
  o5
  k10
  k11,
  Value.slice
  o10
  k20
  k21]
  w8
  fun
  (v8 :
  Value)
  (w9 :
  World) =>
  ∃ (o19 :
  Option
  Addr),
  ∃ (k38
  :
  Nat),
  ∃
  (k39
  :
  Nat),
  v8 =
  Value.slice
  o19
  k38
  k39 ∧
  RunE
  Proofs.Tryd.prog
  Ev
  24
  [Value.slice
  o17
  k34
  k35,
  Value.slice
  o19
  k38
  k39]
  w9
  fun
  (v9 :
  Value)
  (w10 :
  World) =>
  ∃
  (b5
  :
  Bool),
  v9 =
  Value.bool
  b5 ∧
  br
  b1
  (br
  b5
  (br
  (n6 ==
  0)
  (br
  b2
  (R
  (Value.bool
  (b4 ==
  b3))
  w10)
  (R
  (Value.bool
  (b4 ==
  false))
  w10))
  (R
  (Value.bool
  false)
  w10))
  (R
  (Value.bool
  false)
  w10))
  (R
  (Value.bool
  false)
  w10))
  (RunE
  Proofs.Tryd.prog
  Ev 24
  [Value.slice
  o17
  k34
  k35,
  Value.slice
  o18
  k36
  k37]
  w8
  fun
  (v10 :
  Value)
  (w11 :
  World) =>
  ∃ (b6 :
  Bool),
  v10 =
  Value.bool
  b6 ∧
  br
  b1
  (br
  b6
  (br
  (n6 ==
  0)
  (br
  b2
  (R
  (Value.bool
  (b4 ==
  b3))
  w11)
  (R
  (Value.bool
  (b4 ==
  false))
  w11))
  (R
  (Value.bool
  false)
  w11))
  (R
  (Value.bool
  false)
  w11))
  (R
  (Value.bool
  false)
  w11))))
set_option maxRecDepth 100000 in
theorem run_presagelaw07_FirstRows (p0g_0a : Option Addr) (p0g_0l : Nat) (p0g_0c : Nat) (p0g_1a : Option Addr) (p0g_1l : Nat) (p0g_1c : Nat) (p0g_2a : Option Addr) (p0g_2l : Nat) (p0g_2c : Nat) (p0g_3 : Int) (p0g_4a : Option Addr) (p0g_4l : Nat) (p0g_4c : Nat) (p1aa : Option Addr) (p1al : Nat) (p1ac : Nat) (p2ba : Option Addr) (p2bl : Nat) (p2bc : Nat) (w : World) (R : Value → World → Prop) (h : vc_presagelaw07_FirstRows p0g_0a p0g_0l p0g_0c p0g_1a p0g_1l p0g_1c p0g_2a p0g_2l p0g_2c p0g_3 p0g_4a p0g_4l p0g_4c p1aa p1al p1ac p2ba p2bl p2bc w R) : Run Tryd.prog 4 [(.agg #[(.slice p0g_0a p0g_0l p0g_0c), (.slice p0g_1a p0g_1l p0g_1c), (.slice p0g_2a p0g_2l p0g_2c), (.int .i64 p0g_3), (.slice p0g_4a p0g_4l p0g_4c)]), (.slice p1aa p1al p1ac), (.slice p2ba p2bl p2bc)] w R :=
  run_ev tyOk fnOk mixed Tryd.func4 ann_presagelaw07_FirstRows ((by kernel_rfl : fnV Tryd.prog Ty Fn Ev ann_presagelaw07_FirstRows Tryd.f4 [(.agg #[(.slice p0g_0a p0g_0l p0g_0c), (.slice p0g_1a p0g_1l p0g_1c), (.slice p0g_2a p0g_2l p0g_2c), (.int .i64 p0g_3), (.slice p0g_4a p0g_4l p0g_4c)]), (.slice p1aa p1al p1ac), (.slice p2ba p2bl p2bc)] w R = vc_presagelaw07_FirstRows p0g_0a p0g_0l p0g_0c p0g_1a p0g_1l p0g_1c p0g_2a p0g_2l p0g_2c p0g_3 p0g_4a p0g_4l p0g_4c p1aa p1al p1ac p2ba p2bl p2bc w R) ▸ h)

/- presage/presagelaw07.FirstProds -/
abbrev n_presagelaw07_FirstProds : FuncId := 5
def ann_presagelaw07_FirstProds : Ann := { rngs := [], loops := [(11, [(10, (.one (.int .i64)))]), (16, [(11, (.one .slice)), (12, (.one .bool)), (13, (.one (.int .i64)))])], joins := [(8, []), (9, [(79, (.one .bool))])], blocks := [] }
set_option maxRecDepth 100000 in
def vc_presagelaw07_FirstProds (p0g_0a : Option Addr) (p0g_0l : Nat) (p0g_0c : Nat) (p0g_1a : Option Addr) (p0g_1l : Nat) (p0g_1c : Nat) (p0g_2a : Option Addr) (p0g_2l : Nat) (p0g_2c : Nat) (p0g_3 : Int) (p0g_4a : Option Addr) (p0g_4l : Nat) (p0g_4c : Nat) (w : World) (R : Value → World → Prop) : Prop :=
  new w
  (Obj.cells
  (Array.mk [Value.slice p0g_0a p0g_0l p0g_0c, Value.slice p0g_1a p0g_1l p0g_1c, Value.slice p0g_2a p0g_2l p0g_2c, Value.int IntKind.i64 p0g_3, Value.slice p0g_4a p0g_4l p0g_4c])
  27)
  fun (k1 : Nat) (w1 : World) =>
  RunE Proofs.Tryd.prog Ev 13 [] w1 fun (v1 : Value) (w2 : World) =>
  ∃ (b1 : Bool),
  v1 = Value.bool b1 ∧
  ∃ (o1 : Option Addr),
  ∃ (k2 : Nat),
  ∃ (k3 : Nat),
  ∃ (o2 : Option Addr),
  ∃ (k4 : Nat),
  ∃ (k5 : Nat),
  ∃ (o3 : Option Addr),
  ∃ (k6 : Nat),
  ∃ (k7 : Nat),
  ∃ (n1 : Int),
  ∃ (o4 : Option Addr),
  ∃ (k8 : Nat),
  ∃ (k9 : Nat),
  V.rowAt w2 (Addr.mk k1 0 none) 0 5 =
  some [Value.slice o1 k2 k3, Value.slice o2 k4 k5, Value.slice o3 k6 k7, Value.int IntKind.i64 n1, Value.slice o4 k8 k9] ∧
  RunE Proofs.Tryd.prog Ev 18
  [Value.agg (Array.mk [Value.slice o1 k2 k3, Value.slice o2 k4 k5, Value.slice o3 k6 k7, Value.int IntKind.i64 n1, Value.slice o4 k8 k9])] w2
  fun (v2 : Value) (w3 : World) =>
  ∃ (o5 : Option Addr),
  ∃ (k10 : Nat),
  ∃ (k11 : Nat),
  ∃ (n2 : Int),
  v2 = Value.tuple (Array.mk [Value.slice o5 k10 k11, Value.int IntKind.i64 n2]) ∧
  ∃ (o6 : Option Addr),
  ∃ (k12 : Nat),
  ∃ (k13 : Nat),
  ∃ (o7 : Option Addr),
  ∃ (k14 : Nat),
  ∃ (k15 : Nat),
  ∃ (o8 : Option Addr),
  ∃ (k16 : Nat),
  ∃ (k17 : Nat),
  ∃ (n3 : Int),
  ∃ (o9 : Option Addr),
  ∃ (k18 : Nat),
  ∃ (k19 : Nat),
  V.rowAt w3 (Addr.mk k1 0 none) 0 5 =
  some
  [Value.slice o6 k12 k13, Value.slice o7 k14 k15, Value.slice o8 k16 k17, Value.int IntKind.i64 n3,
  Value.slice o9 k18 k19] ∧
  RunE Proofs.Tryd.prog Ev 15
  [Value.agg
  (Array.mk
  [Value.slice o6 k12 k13, Value.slice o7 k14 k15, Value.slice o8 k16 k17,
  Value.int IntKind.i64 n3, Value.slice o9 k18 k19])]
  w3 fun (v3 : Value) (w4 : World) =>
  ∃ (o10 : Option Addr),
  ∃ (k20 : Nat),
  ∃ (k21 : Nat),
  ∃ (n4 : Int),
  v3 = Value.tuple (Array.mk [Value.slice o10 k20 k21, Value.int IntKind.i64 n4]) ∧
  ∃ (o11 : Option Addr),
  ∃ (k22 : Nat),
  ∃ (k23 : Nat),
  ∃ (o12 : Option Addr),
  ∃ (k24 : Nat),
  ∃ (k25 : Nat),
  ∃ (o13 : Option Addr),
  ∃ (k26 : Nat),
  ∃ (k27 : Nat),
  ∃ (n5 : Int),
  ∃ (o14 : Option Addr),
  ∃ (k28 : Nat),
  ∃ (k29 : Nat),
  V.rowAt w4 (Addr.mk k1 0 none) 0 5 =
  some
  [Value.slice o11 k22 k23, Value.slice o12 k24 k25,
  Value.slice o13 k26 k27, Value.int IntKind.i64 n5,
  Value.slice o14 k28 k29] ∧
  RunE Proofs.Tryd.prog Ev 28
  [Value.agg
  (Array.mk
  [Value.slice o11 k22 k23, Value.slice o12 k24 k25,
  Value.slice o13 k26 k27, Value.int IntKind.i64 n5,
  Value.slice o14 k28 k29])]
  w4 fun (v4 : Value) (w5 : World) =>
  ∃ (b2 : Bool),
  v4 = Value.bool b2 ∧
  ∃ (o15 : Option Addr),
  ∃ (k30 : Nat),
  ∃ (k31 : Nat),
  ∃ (o16 : Option Addr),
  ∃ (k32 : Nat),
  ∃ (k33 : Nat),
  ∃ (o17 : Option Addr),
  ∃ (k34 : Nat),
  ∃ (k35 : Nat),
  ∃ (n6 : Int),
  ∃ (o18 : Option Addr),
  ∃ (k36 : Nat),
  ∃ (k37 : Nat),
  V.rowAt w5 (Addr.mk k1 0 none) 0
  5 =
  some
  [Value.slice o15 k30 k31,
  Value.slice o16 k32 k33,
  Value.slice o17 k34 k35,
  Value.int IntKind.i64
  n6,
  Value.slice o18 k36
  k37] ∧
  RunE Proofs.Tryd.prog Ev 29
  [Value.agg
  (Array.mk
  [Value.slice o15 k30
  k31,
  Value.slice o16 k32
  k33,
  Value.slice o17 k34
  k35,
  Value.int
  IntKind.i64 n6,
  Value.slice o18 k36
  k37])]
  w5
  fun (v5 : Value)
  (w6 : World) =>
  ∃ (b3 : Bool),
  v5 = Value.bool b3 ∧
  ∃ (x1 :
  arrS (shs [])
  (World → Prop)),
  br (!b2)
  (br (!b3)
  (br b1
  (br (n2 == 1)
  (br
  (n4 == 1)
  (br
  ((↑k10 :
  Int) ==
  0)
  (R
  (Value.bool
  ((↑k20 :
  Int) ==
  0))
  w6)
  (R
  (Value.bool
  false)
  w6))
  (R
  (Value.bool
  false)
  w6))
  (R
  (Value.bool
  false)
  w6))
  (R
  (Value.bool
  false)
  w6))
  (x1 w6))
  (x1 w6) ∧
  ∀ (I1 : Nat → Value)
  (w7 : World),
  x1 w7 →
  ∃ (x2 :
  arrS
  (shs
  [(79,
  S1.one
  Cs.bool)])
  (World →
  Prop)),
  br (n2 != 0)
  (x2 true
  w7)
  (br
  (n4 !=
  0)
  (x2 true
  w7)
  (∃ (o19
  :
  Option
  Addr),
  ∃ (k38
  :
  Nat),
  ∃
  (k39
  :
  Nat),
  World.cell?
  w7
  (Addr.add
  (Addr.mk
  k1
  0
  none)
  1) =
  some
  (Value.slice
  o19
  k38
  k39) ∧
  br
  ((↑k10 :
  Int) !=
  (↑k38 :
  Int))
  (x2
  true
  w7)
  (∃
  (o20
  :
  Option
  Addr),
  ∃
  (k40
  :
  Nat),
  ∃
  (k41
  :
  Nat),
  World.cell?
  w7
  (Addr.add
  (Addr.mk
  k1
  0
  none)
  1) =
  some
  (Value.slice
  o20
  k40
  k41) ∧
  x2
  ((↑k20 :
  Int) !=
  (↑k40 :
  Int))
  w7))) ∧
  ∀
  (I2 :
  Nat →
  Value)
  (b4 :
  Bool)
  (w8 :
  World),
  x2 b4 w8 →
  br b4
  (R
  (Value.bool
  false)
  w8)
  (∃ (x3
  :
  arrS
  (shs
  [(10,
  S1.one
  (Cs.int
  IntKind.i64))])
  (World →
  Prop)),
  ∃
  (x4
  :
  arrS
  (shs
  [(10,
  S1.one
  (Cs.int
  IntKind.i64))])
  (World →
  Nat)),
  x3
  0
  w8 ∧
  ∀
  (I3 :
  Nat →
  Value)
  (n7 :
  Int)
  (w9 :
  World),
  x3
  n7
  w9 →
  ∃
  (o21
  :
  Option
  Addr),
  ∃
  (k42
  :
  Nat),
  ∃
  (k43
  :
  Nat),
  World.cell?
  w9
  (Addr.add
  (Addr.mk
  k1
  0
  none)
  1) =
  some
  (Value.slice
  o21
  k42
  k43) ∧
  br
  (decide
  (n7 <
  (↑k42 :
  Int)))
  (∃
  (x5
  :
  arrS
  (shs
  [(11,
  S1.one
  Cs.slice),
  (12,
  S1.one
  Cs.bool),
  (13,
  S1.one
  (Cs.int
  IntKind.i64))])
  (World →
  Prop)),
  ∃
  (x6
  :
  arrS
  (shs
  [(11,
  S1.one
  Cs.slice),
  (12,
  S1.one
  Cs.bool),
  (13,
  S1.one
  (Cs.int
  IntKind.i64))])
  (World →
  Nat)),
  x5
  none
  0
  0
  false
  0
  w9 ∧
  ∀
  (I4 :
  Nat →
  Value)
  (o22 :
  Option
  Addr)
  (k44
  k45 :
  Nat)
  (b5 :
  Bool)
  (n8 :
  Int)
  (w10 :
  World),
  x5
  o22
  k44
  k45
  b5
  n8
  w10 →
  ∃
  (o23
  :
  Option
  Addr),
  ∃
  (k46
  :
  Nat),
  ∃
  (k47
  :
  Nat),
  World.cell?
  w10
  (Addr.add
  (Addr.mk
  k1
  0
  none)
  4) =
  some
  (Value.slice
  o23
  k46
  k47) ∧
  br
  (decide
  (n8 <
  (↑k46 :
  Int)))
  (∀
  (w11 :
  World),
  drawn
  w10
  w11 →
  ∃
  (I5
  :
  World →
  Prop),
  I5
  w11 ∧
  ∃
  (o24
  :
  Option
  Addr),
  ∃
  (k48
  :
  Nat),
  ∃
  (k49
  :
  Nat),
  (∀
  (w12 :
  World),
  I5
  w12 →
  World.cell?
  w12
  (Addr.add
  (Addr.mk
  k1
  0
  none)
  4) =
  some
  (Value.slice
  o24
  k48
  k49)) ∧
  idx
  o24
  k48
  n8
  3
  fun
  (a1 :
  Addr) =>
  ∃
  (n9
  :
  Int),
  (∀
  (w13 :
  World),
  I5
  w13 →
  World.cell?
  w13
  a1 =
  some
  (Value.int
  IntKind.i64
  n9)) ∧
  ∃
  (o25
  :
  Option
  Addr),
  ∃
  (k50
  :
  Nat),
  ∃
  (k51
  :
  Nat),
  (∀
  (w14 :
  World),
  I5
  w14 →
  World.cell?
  w14
  (Addr.mk
  k1
  0
  none) =
  some
  (Value.slice
  o25
  k50
  k51)) ∧
  inI
  ((↑k50 :
  Int) +
  n7) ∧
  br
  (n9 !=
  (↑k50 :
  Int) +
  n7)
  (inI
  (n8 +
  1) ∧
  x5
  o22
  k44
  k45
  b5
  (n8 +
  1)
  w11 ∧
  x6
  o22
  k44
  k45
  b5
  (n8 +
  1)
  w11 <
  x6
  o22
  k44
  k45
  b5
  n8
  w10)
  (∀
  (w15 :
  World),
  drawn
  w11
  w15 →
  ∃
  (I6
  :
  World →
  Prop),
  I6
  w15 ∧
  ∃
  (o26
  :
  Option
  Addr),
  ∃
  (k52
  :
  Nat),
  ∃
  (k53
  :
  Nat),
  ∃
  (o27
  :
  Option
  Addr),
  ∃
  (k54
  :
  Nat),
  ∃
  (k55
  :
  Nat),
  ∃
  (o28
  :
  Option
  Addr),
  ∃
  (k56
  :
  Nat),
  ∃
  (k57
  :
  Nat),
  ∃
  (n10
  :
  Int),
  ∃
  (o29
  :
  Option
  Addr),
  ∃
  (k58
  :
  Nat),
  ∃
  (k59
  :
  Nat),
  (∀
  (w16 :
  World),
  I6
  w16 →
  V.rowAt
  w16
  (Addr.mk
  k1
  0
  none)
  0
  5 =
  some
  [Value.slice
  o26
  k52
  k53,
  Value.slice
  o27
  k54
  k55,
  Value.slice
  o28
  k56
  k57,
  Value.int
  IntKind.i64
  n10,
  Value.slice
  o29
  k58
  k59]) ∧
  ∃
  (o30
  :
  Option
  Addr),
  ∃
  (k60
  :
  Nat),
  ∃
  (k61
  :
  Nat),
  (∀
  (w17 :
  World),
  I6
  w17 →
  World.cell?
  w17
  (Addr.add
  (Addr.mk
  k1
  0
  none)
  4) =
  some
  (Value.slice
  o30
  k60
  k61)) ∧
  idx
  o30
  k60
  n8
  3
  fun
  (a2 :
  Addr) =>
  ∃
  (o31
  :
  Option
  Addr),
  ∃
  (k62
  :
  Nat),
  ∃
  (k63
  :
  Nat),
  (∀
  (w18 :
  World),
  I6
  w18 →
  World.cell?
  w18
  (Addr.add
  a2
  1) =
  some
  (Value.slice
  o31
  k62
  k63)) ∧
  RunE
  Proofs.Tryd.prog
  Ev
  22
  [Value.agg
  (Array.mk
  [Value.slice
  o26
  k52
  k53,
  Value.slice
  o27
  k54
  k55,
  Value.slice
  o28
  k56
  k57,
  Value.int
  IntKind.i64
  n10,
  Value.slice
  o29
  k58
  k59]),
  Value.slice
  o31
  k62
  k63]
  w15
  fun
  (v6 :
  Value)
  (w19 :
  World) =>
  ∃
  (o32
  :
  Option
  Addr),
  ∃
  (k64
  :
  Nat),
  ∃
  (k65
  :
  Nat),
  ∃
  (b6
  :
  Bool),
  ∃
  (n11
  :
  Int),
  v6 =
  Value.tuple
  (Array.mk
  [Value.slice
  o32
  k64
  k65,
  Value.bool
  b6,
  Value.int
  IntKind.i64
  n11]) ∧
  I6
  w19 ∧
  br
  (n11 !=
  0)
  (R
  (Value.bool
  false)
  w19)
  (RunE
  Proofs.Tryd.prog
  Ev
  27
  [Value.slice
  o22
  k44
  k45,
  Value.slice
  o32
  k64
  k65]
  w19
  fun
  (v7 :
  Value)
  (w20 :
  World) =>
  ∃
  (o33
  :
  Option
  Addr),
  ∃
  (k66
  :
  Nat),
  ∃
  (k67
  :
  Nat),
  v7 =
  Value.slice
  o33
  k66
  k67 ∧
  br
  b5
  (inI
  (n8 +
  1) ∧
  x5
  o33
  k66
  k67
  true
  (n8 +
  1)
  w20 ∧
  x6
  o33
  k66
  k67
  true
  (n8 +
  1)
  w20 <
  x6
  o22
  k44
  k45
  b5
  n8
  w10)
  (inI
  (n8 +
  1) ∧
  x5
  o33
  k66
  k67
  b6
  (n8 +
  1)
  w20 ∧
  x6
  o33
  k66
  k67
  b6
  (n8 +
  1)
  w20 <
  x6
  o22
  k44
  k45
  b5
  n8
  w10))))
  (idx
  o5
  k10
  n7
  1
  fun
  (a3 :
  Addr) =>
  ∃
  (o34
  :
  Option
  Addr),
  ∃
  (k68
  :
  Nat),
  ∃
  (k69
  :
  Nat),
  World.cell?
  w10
  a3 =
  some
  (Value.slice
  o34
  k68
  k69) ∧
  RunE
  Proofs.Tryd.prog
  Ev
  24
  [Value.slice
  o34
  k68
  k69,
  Value.slice
  o22
  k44
  k45]
  w10
  fun
  (v8 :
  Value)
  (w21 :
  World) =>
  ∃
  (b7
  :
  Bool),
  v8 =
  Value.bool
  b7 ∧
  br
  (!b7)
  (R
  (Value.bool
  false)
  w21)
  (idx
  o10
  k20
  n7
  1
  fun
  (a4 :
  Addr) =>
  ∃
  (b8
  :
  Bool),
  World.cell?
  w21
  a4 =
  some
  (Value.bool
  b8) ∧
  br
  (!b5 ==
  b8)
  (R
  (Value.bool
  false)
  w21)
  (inI
  (n7 +
  1) ∧
  x3
  (n7 +
  1)
  w21 ∧
  x4
  (n7 +
  1)
  w21 <
  x4
  n7
  w9))))
  (R
  (Value.bool
  b1)
  w9))
set_option maxRecDepth 100000 in
theorem run_presagelaw07_FirstProds (p0g_0a : Option Addr) (p0g_0l : Nat) (p0g_0c : Nat) (p0g_1a : Option Addr) (p0g_1l : Nat) (p0g_1c : Nat) (p0g_2a : Option Addr) (p0g_2l : Nat) (p0g_2c : Nat) (p0g_3 : Int) (p0g_4a : Option Addr) (p0g_4l : Nat) (p0g_4c : Nat) (w : World) (R : Value → World → Prop) (h : vc_presagelaw07_FirstProds p0g_0a p0g_0l p0g_0c p0g_1a p0g_1l p0g_1c p0g_2a p0g_2l p0g_2c p0g_3 p0g_4a p0g_4l p0g_4c w R) : Run Tryd.prog 5 [(.agg #[(.slice p0g_0a p0g_0l p0g_0c), (.slice p0g_1a p0g_1l p0g_1c), (.slice p0g_2a p0g_2l p0g_2c), (.int .i64 p0g_3), (.slice p0g_4a p0g_4l p0g_4c)])] w R :=
  run_ev tyOk fnOk mixed Tryd.func5 ann_presagelaw07_FirstProds ((by kernel_rfl : fnV Tryd.prog Ty Fn Ev ann_presagelaw07_FirstProds Tryd.f5 [(.agg #[(.slice p0g_0a p0g_0l p0g_0c), (.slice p0g_1a p0g_1l p0g_1c), (.slice p0g_2a p0g_2l p0g_2c), (.int .i64 p0g_3), (.slice p0g_4a p0g_4l p0g_4c)])] w R = vc_presagelaw07_FirstProds p0g_0a p0g_0l p0g_0c p0g_1a p0g_1l p0g_1c p0g_2a p0g_2l p0g_2c p0g_3 p0g_4a p0g_4l p0g_4c w R) ▸ h)

/- presage/presagelaw07.FirstLeast -/
abbrev n_presagelaw07_FirstLeast : FuncId := 6
def ann_presagelaw07_FirstLeast : Ann := { rngs := [], loops := [(7, [(8, (.one (.int .i64)))]), (11, [(10, (.one .slice))]), (16, [(10, (.one .slice)), (12, (.one (.int .i64)))]), (21, [(10, (.one .slice)), (14, (.one .bool)), (15, (.one (.int .i64)))]), (28, [(16, (.one (.int .i64)))])], joins := [(5, [(49, (.one .bool))]), (26, [(10, (.one .slice))])], blocks := [] }
set_option maxRecDepth 100000 in
def vc_presagelaw07_FirstLeast (p0g_0a : Option Addr) (p0g_0l : Nat) (p0g_0c : Nat) (p0g_1a : Option Addr) (p0g_1l : Nat) (p0g_1c : Nat) (p0g_2a : Option Addr) (p0g_2l : Nat) (p0g_2c : Nat) (p0g_3 : Int) (p0g_4a : Option Addr) (p0g_4l : Nat) (p0g_4c : Nat) (w : World) (R : Value → World → Prop) : Prop :=
  new w
  (Obj.cells
  (Array.mk [Value.slice p0g_0a p0g_0l p0g_0c, Value.slice p0g_1a p0g_1l p0g_1c, Value.slice p0g_2a p0g_2l p0g_2c, Value.int IntKind.i64 p0g_3, Value.slice p0g_4a p0g_4l p0g_4c])
  27)
  fun (k1 : Nat) (w1 : World) =>
  RunE Proofs.Tryd.prog Ev 13 [] w1 fun (v1 : Value) (w2 : World) =>
  ∃ (b1 : Bool),
  v1 = Value.bool b1 ∧
  ∃ (o1 : Option Addr),
  ∃ (k2 : Nat),
  ∃ (k3 : Nat),
  ∃ (o2 : Option Addr),
  ∃ (k4 : Nat),
  ∃ (k5 : Nat),
  ∃ (o3 : Option Addr),
  ∃ (k6 : Nat),
  ∃ (k7 : Nat),
  ∃ (n1 : Int),
  ∃ (o4 : Option Addr),
  ∃ (k8 : Nat),
  ∃ (k9 : Nat),
  V.rowAt w2 (Addr.mk k1 0 none) 0 5 =
  some [Value.slice o1 k2 k3, Value.slice o2 k4 k5, Value.slice o3 k6 k7, Value.int IntKind.i64 n1, Value.slice o4 k8 k9] ∧
  RunE Proofs.Tryd.prog Ev 18
  [Value.agg (Array.mk [Value.slice o1 k2 k3, Value.slice o2 k4 k5, Value.slice o3 k6 k7, Value.int IntKind.i64 n1, Value.slice o4 k8 k9])] w2
  fun (v2 : Value) (w3 : World) =>
  ∃ (o5 : Option Addr),
  ∃ (k10 : Nat),
  ∃ (k11 : Nat),
  ∃ (n2 : Int),
  v2 = Value.tuple (Array.mk [Value.slice o5 k10 k11, Value.int IntKind.i64 n2]) ∧
  ∃ (o6 : Option Addr),
  ∃ (k12 : Nat),
  ∃ (k13 : Nat),
  ∃ (o7 : Option Addr),
  ∃ (k14 : Nat),
  ∃ (k15 : Nat),
  ∃ (o8 : Option Addr),
  ∃ (k16 : Nat),
  ∃ (k17 : Nat),
  ∃ (n3 : Int),
  ∃ (o9 : Option Addr),
  ∃ (k18 : Nat),
  ∃ (k19 : Nat),
  V.rowAt w3 (Addr.mk k1 0 none) 0 5 =
  some
  [Value.slice o6 k12 k13, Value.slice o7 k14 k15, Value.slice o8 k16 k17, Value.int IntKind.i64 n3,
  Value.slice o9 k18 k19] ∧
  RunE Proofs.Tryd.prog Ev 15
  [Value.agg
  (Array.mk
  [Value.slice o6 k12 k13, Value.slice o7 k14 k15, Value.slice o8 k16 k17,
  Value.int IntKind.i64 n3, Value.slice o9 k18 k19])]
  w3 fun (v3 : Value) (w4 : World) =>
  ∃ (o10 : Option Addr),
  ∃ (k20 : Nat),
  ∃ (k21 : Nat),
  ∃ (n4 : Int),
  v3 = Value.tuple (Array.mk [Value.slice o10 k20 k21, Value.int IntKind.i64 n4]) ∧
  ∃ (x1 : arrS (shs [(49, S1.one Cs.bool)]) (World → Prop)),
  br (n2 != 0) (x1 true w4)
  (br (n4 != 0) (x1 true w4)
  (∃ (o11 : Option Addr),
  ∃ (k22 : Nat),
  ∃ (k23 : Nat),
  World.cell? w4 (Addr.add (Addr.mk k1 0 none) 1) =
  some (Value.slice o11 k22 k23) ∧
  br ((↑k10 : Int) != (↑k22 : Int)) (x1 true w4)
  (∃ (o12 : Option Addr),
  ∃ (k24 : Nat),
  ∃ (k25 : Nat),
  World.cell? w4 (Addr.add (Addr.mk k1 0 none) 1) =
  some (Value.slice o12 k24 k25) ∧
  x1 ((↑k20 : Int) != (↑k24 : Int)) w4))) ∧
  ∀ (I1 : Nat → Value) (b2 : Bool) (w5 : World),
  x1 b2 w5 →
  br b2
  (br b1 (br (n2 == 1) (R (Value.bool (n4 == 1)) w5) (R (Value.bool false) w5))
  (R (Value.bool false) w5))
  (∃ (x2 : arrS (shs [(8, S1.one (Cs.int IntKind.i64))]) (World → Prop)),
  ∃ (x3 : arrS (shs [(8, S1.one (Cs.int IntKind.i64))]) (World → Nat)),
  x2 0 w5 ∧
  ∀ (I2 : Nat → Value) (n5 : Int) (w6 : World),
  x2 n5 w6 →
  ∃ (o13 : Option Addr),
  ∃ (k26 : Nat),
  ∃ (k27 : Nat),
  World.cell? w6 (Addr.add (Addr.mk k1 0 none) 1) =
  some (Value.slice o13 k26 k27) ∧
  br (decide (n5 < (↑k26 : Int)))
  (∃ (o14 : Option Addr),
  ∃ (k28 : Nat),
  ∃ (k29 : Nat),
  ∃ (o15 : Option Addr),
  ∃ (k30 : Nat),
  ∃ (k31 : Nat),
  ∃ (o16 : Option Addr),
  ∃ (k32 : Nat),
  ∃ (k33 : Nat),
  ∃ (n6 : Int),
  ∃ (o17 : Option Addr),
  ∃ (k34 : Nat),
  ∃ (k35 : Nat),
  V.rowAt w6 (Addr.mk k1 0 none) 0 5 =
  some
  [Value.slice o14 k28 k29,
  Value.slice o15 k30 k31,
  Value.slice o16 k32 k33,
  Value.int IntKind.i64 n6,
  Value.slice o17 k34 k35] ∧
  RunE Proofs.Tryd.prog Ev 30
  [Value.agg
  (Array.mk
  [Value.slice o14 k28 k29,
  Value.slice o15 k30 k31,
  Value.slice o16 k32 k33,
  Value.int IntKind.i64
  n6,
  Value.slice o17 k34
  k35])]
  w6
  fun (v4 : Value) (w7 : World) =>
  ∃ (n7 : Int),
  v4 =
  Value.int IntKind.i64 n7 ∧
  mkOk n7 n7 1 ∧
  new w7
  (Obj.cells
  (Array.mk
  (reps (Int.toNat n7)
  [Value.bool
  false]))
  4)
  fun (k36 : Nat)
  (w8 : World) =>
  ∃ (o18 : Option Addr),
  ∃ (k37 : Nat),
  ∃ (k38 : Nat),
  World.cell? w8
  (Addr.mk k1
  0 none) =
  some
  (Value.slice
  o18 k37
  k38) ∧
  inI
  ((↑k37 :
  Int) +
  n5) ∧
  new w8
  (Obj.cells
  (Array.mk
  [Value.int
  IntKind.i64
  ((↑k37 :
  Int) +
  n5)])
  3)
  fun
  (k39 :
  Nat)
  (w9 :
  World) =>
  ∃ (x4 :
  arrS
  (shs
  [(10,
  S1.one
  Cs.slice)])
  (World →
  Prop)),
  ∃ (x5 :
  arrS
  (shs
  [(10,
  S1.one
  Cs.slice)])
  (World →
  Nat)),
  x4
  (some
  (Addr.mk
  k39
  0
  none))
  1 1
  w9 ∧
  ∀
  (I3 :
  Nat →
  Value)
  (o19 :
  Option
  Addr)
  (k40
  k41 :
  Nat)
  (w10 :
  World),
  x4
  o19
  k40
  k41
  w10 →
  br
  (decide
  (0 <
  (↑k40 :
  Int)))
  (idx
  o19
  k40
  0
  1
  fun
  (a1 :
  Addr) =>
  ∃
  (n8
  :
  Int),
  World.cell?
  w10
  a1 =
  some
  (Value.int
  IntKind.i64
  n8) ∧
  slc
  o19
  k40
  k41
  (some
  1)
  none
  none
  1
  fun
  (o20 :
  Option
  Addr)
  (k42
  k43 :
  Nat) =>
  ∃
  (o21
  :
  Option
  Addr),
  ∃
  (k44
  :
  Nat),
  ∃
  (k45
  :
  Nat),
  World.cell?
  w10
  (Addr.mk
  k1
  0
  none) =
  some
  (Value.slice
  o21
  k44
  k45) ∧
  br
  (decide
  (n8 <
  (↑k44 :
  Int)))
  (x4
  o20
  k42
  k43
  w10 ∧
  x5
  o20
  k42
  k43
  w10 <
  x5
  o19
  k40
  k41
  w10)
  (∃
  (x6
  :
  arrS
  (shs
  [(10,
  S1.one
  Cs.slice),
  (12,
  S1.one
  (Cs.int
  IntKind.i64))])
  (World →
  Prop)),
  ∃
  (x7
  :
  arrS
  (shs
  [(10,
  S1.one
  Cs.slice),
  (12,
  S1.one
  (Cs.int
  IntKind.i64))])
  (World →
  Nat)),
  x6
  o20
  k42
  k43
  0
  w10 ∧
  ∀
  (I4 :
  Nat →
  Value)
  (o22 :
  Option
  Addr)
  (k46
  k47 :
  Nat)
  (n9 :
  Int)
  (w11 :
  World),
  x6
  o22
  k46
  k47
  n9
  w11 →
  ∃
  (o23
  :
  Option
  Addr),
  ∃
  (k48
  :
  Nat),
  ∃
  (k49
  :
  Nat),
  World.cell?
  w11
  (Addr.add
  (Addr.mk
  k1
  0
  none)
  4) =
  some
  (Value.slice
  o23
  k48
  k49) ∧
  br
  (decide
  (n9 <
  (↑k48 :
  Int)))
  (∃
  (o24
  :
  Option
  Addr),
  ∃
  (k50
  :
  Nat),
  ∃
  (k51
  :
  Nat),
  World.cell?
  w11
  (Addr.add
  (Addr.mk
  k1
  0
  none)
  4) =
  some
  (Value.slice
  o24
  k50
  k51) ∧
  idx
  o24
  k50
  n9
  3
  fun
  (a2 :
  Addr) =>
  ∃
  (o25
  :
  Option
  Addr),
  ∃
  (k52
  :
  Nat),
  ∃
  (k53
  :
  Nat),
  World.cell?
  w11
  (Addr.add
  a2
  1) =
  some
  (Value.slice
  o25
  k52
  k53) ∧
  ∃
  (o26
  :
  Option
  Addr),
  ∃
  (k54
  :
  Nat),
  ∃
  (k55
  :
  Nat),
  World.cell?
  w11
  (Addr.add
  (Addr.mk
  k1
  0
  none)
  4) =
  some
  (Value.slice
  o26
  k54
  k55) ∧
  idx
  o26
  k54
  n9
  3
  fun
  (a3 :
  Addr) =>
  ∃
  (n10
  :
  Int),
  World.cell?
  w11
  a3 =
  some
  (Value.int
  IntKind.i64
  n10) ∧
  ∃
  (x8
  :
  arrS
  (shs
  [(10,
  S1.one
  Cs.slice),
  (14,
  S1.one
  Cs.bool),
  (15,
  S1.one
  (Cs.int
  IntKind.i64))])
  (World →
  Prop)),
  ∃
  (x9
  :
  arrS
  (shs
  [(10,
  S1.one
  Cs.slice),
  (14,
  S1.one
  Cs.bool),
  (15,
  S1.one
  (Cs.int
  IntKind.i64))])
  (World →
  Nat)),
  x8
  o22
  k46
  k47
  (n10 ==
  n8)
  0
  w11 ∧
  ∀
  (I5 :
  Nat →
  Value)
  (o27 :
  Option
  Addr)
  (k56
  k57 :
  Nat)
  (b3 :
  Bool)
  (n11 :
  Int)
  (w12 :
  World),
  x8
  o27
  k56
  k57
  b3
  n11
  w12 →
  br
  (decide
  (n11 <
  (↑k52 :
  Int)))
  (br
  b3
  (∃
  (x10
  :
  arrS
  (shs
  [(10,
  S1.one
  Cs.slice)])
  (World →
  Prop)),
  (idx
  o25
  k52
  n11
  1
  fun
  (a4 :
  Addr) =>
  ∃
  (n12
  :
  Int),
  World.cell?
  w12
  a4 =
  some
  (Value.int
  IntKind.i64
  n12) ∧
  idx
  (some
  (Addr.mk
  k36
  0
  none))
  (Int.toNat
  n7)
  n12
  1
  fun
  (a5 :
  Addr) =>
  ∃
  (b4
  :
  Bool),
  World.cell?
  w12
  a5 =
  some
  (Value.bool
  b4) ∧
  br
  (!b4)
  (idx
  o25
  k52
  n11
  1
  fun
  (a6 :
  Addr) =>
  ∃
  (n13
  :
  Int),
  World.cell?
  w12
  a6 =
  some
  (Value.int
  IntKind.i64
  n13) ∧
  idx
  (some
  (Addr.mk
  k36
  0
  none))
  (Int.toNat
  n7)
  n13
  1
  fun
  (a7 :
  Addr) =>
  st1
  w12
  a7
  (Value.bool
  true)
  fun
  (w13 :
  World) =>
  idx
  o25
  k52
  n11
  1
  fun
  (a8 :
  Addr) =>
  ∃
  (n14
  :
  Int),
  World.cell?
  w13
  a8 =
  some
  (Value.int
  IntKind.i64
  n14) ∧
  new
  w13
  (Obj.cells
  (Array.mk
  [Value.int
  IntKind.i64
  n14])
  3)
  fun
  (k58 :
  Nat)
  (w14 :
  World) =>
  RunS
  Proofs.Tryd.prog
  (Builtin.append_
  (Array.mk
  [24,
  24])
  24
  (Array.mk
  [Value.slice
  o27
  k56
  k57,
  Value.slice
  (some
  (Addr.mk
  k58
  0
  none))
  1
  1]))
  w14
  fun
  (v5 :
  Value)
  (w15 :
  World) =>
  ∃
  (o28
  :
  Option
  Addr),
  ∃
  (k59
  :
  Nat),
  ∃
  (k60
  :
  Nat),
  v5 =
  Value.slice
  o28
  k59
  k60 ∧
  x10
  o28
  k59
  k60
  w15)
  (x10
  o27
  k56
  k57
  w12)) ∧
  ∀
  (I6 :
  Nat →
  Value)
  (o29 :
  Option
  Addr)
  (k61
  k62 :
  Nat)
  (w16 :
  World),
  x10
  o29
  k61
  k62
  w16 →
  ∀
  (w17 :
  World),
  drawn
  w16
  w17 →
  ∃
  (I7
  :
  World →
  Prop),
  I7
  w17 ∧
  idx
  o25
  k52
  n11
  1
  fun
  (a9 :
  Addr) =>
  ∃
  (n15
  :
  Int),
  (∀
  (w18 :
  World),
  I7
  w18 →
  World.cell?
  w18
  a9 =
  some
  (Value.int
  IntKind.i64
  n15)) ∧
  ∃
  (o30
  :
  Option
  Addr),
  ∃
  (k63
  :
  Nat),
  ∃
  (k64
  :
  Nat),
  (∀
  (w19 :
  World),
  I7
  w19 →
  World.cell?
  w19
  (Addr.mk
  k1
  0
  none) =
  some
  (Value.slice
  o30
  k63
  k64)) ∧
  br
  (decide
  ((↑k63 :
  Int) ≤
  n15))
  (idx
  o25
  k52
  n11
  1
  fun
  (a10 :
  Addr) =>
  ∃
  (n16
  :
  Int),
  (∀
  (w20 :
  World),
  I7
  w20 →
  World.cell?
  w20
  a10 =
  some
  (Value.int
  IntKind.i64
  n16)) ∧
  ∃
  (o31
  :
  Option
  Addr),
  ∃
  (k65
  :
  Nat),
  ∃
  (k66
  :
  Nat),
  (∀
  (w21 :
  World),
  I7
  w21 →
  World.cell?
  w21
  (Addr.mk
  k1
  0
  none) =
  some
  (Value.slice
  o31
  k65
  k66)) ∧
  inI
  (n16 -
  (↑k65 :
  Int)) ∧
  idx
  o10
  k20
  (n16 -
  (↑k65 :
  Int))
  1
  fun
  (a11 :
  Addr) =>
  ∃
  (b5
  :
  Bool),
  (∀
  (w22 :
  World),
  I7
  w22 →
  World.cell?
  w22
  a11 =
  some
  (Value.bool
  b5)) ∧
  inI
  (n11 +
  1) ∧
  x8
  o29
  k61
  k62
  b5
  (n11 +
  1)
  w17 ∧
  x9
  o29
  k61
  k62
  b5
  (n11 +
  1)
  w17 <
  x9
  o27
  k56
  k57
  b3
  n11
  w12)
  (inI
  (n11 +
  1) ∧
  x8
  o29
  k61
  k62
  false
  (n11 +
  1)
  w17 ∧
  x9
  o29
  k61
  k62
  false
  (n11 +
  1)
  w17 <
  x9
  o27
  k56
  k57
  b3
  n11
  w12))
  (inI
  (n9 +
  1) ∧
  x6
  o27
  k56
  k57
  (n9 +
  1)
  w12 ∧
  x7
  o27
  k56
  k57
  (n9 +
  1)
  w12 <
  x7
  o22
  k46
  k47
  n9
  w11))
  (inI
  (n9 +
  1) ∧
  x6
  o27
  k56
  k57
  (n9 +
  1)
  w12 ∧
  x7
  o27
  k56
  k57
  (n9 +
  1)
  w12 <
  x7
  o22
  k46
  k47
  n9
  w11))
  (x4
  o22
  k46
  k47
  w11 ∧
  x5
  o22
  k46
  k47
  w11 <
  x5
  o19
  k40
  k41
  w10)))
  (∃
  (x11
  :
  arrS
  (shs
  [(16,
  S1.one
  (Cs.int
  IntKind.i64))])
  (World →
  Prop)),
  ∃
  (x12
  :
  arrS
  (shs
  [(16,
  S1.one
  (Cs.int
  IntKind.i64))])
  (World →
  Nat)),
  x11
  0
  w10 ∧
  ∀
  (I8 :
  Nat →
  Value)
  (n17 :
  Int)
  (w23 :
  World),
  x11
  n17
  w23 →
  idx
  o5
  k10
  n5
  1
  fun
  (a12 :
  Addr) =>
  ∃
  (o32
  :
  Option
  Addr),
  ∃
  (k67
  :
  Nat),
  ∃
  (k68
  :
  Nat),
  World.cell?
  w23
  a12 =
  some
  (Value.slice
  o32
  k67
  k68) ∧
  br
  (decide
  (n17 <
  (↑k67 :
  Int)))
  (∀
  (w24 :
  World),
  drawn
  w23
  w24 →
  ∃
  (I9
  :
  World →
  Prop),
  I9
  w24 ∧
  idx
  o5
  k10
  n5
  1
  fun
  (a13 :
  Addr) =>
  ∃
  (o33
  :
  Option
  Addr),
  ∃
  (k69
  :
  Nat),
  ∃
  (k70
  :
  Nat),
  (∀
  (w25 :
  World),
  I9
  w25 →
  World.cell?
  w25
  a13 =
  some
  (Value.slice
  o33
  k69
  k70)) ∧
  idx
  o33
  k69
  n17
  1
  fun
  (a14 :
  Addr) =>
  ∃
  (n18
  :
  Int),
  (∀
  (w26 :
  World),
  I9
  w26 →
  World.cell?
  w26
  a14 =
  some
  (Value.int
  IntKind.i64
  n18)) ∧
  br
  (decide
  (n18 <
  0))
  (R
  (Value.bool
  false)
  w24)
  (idx
  o5
  k10
  n5
  1
  fun
  (a15 :
  Addr) =>
  ∃
  (o34
  :
  Option
  Addr),
  ∃
  (k71
  :
  Nat),
  ∃
  (k72
  :
  Nat),
  (∀
  (w27 :
  World),
  I9
  w27 →
  World.cell?
  w27
  a15 =
  some
  (Value.slice
  o34
  k71
  k72)) ∧
  idx
  o34
  k71
  n17
  1
  fun
  (a16 :
  Addr) =>
  ∃
  (n19
  :
  Int),
  (∀
  (w28 :
  World),
  I9
  w28 →
  World.cell?
  w28
  a16 =
  some
  (Value.int
  IntKind.i64
  n19)) ∧
  ∃
  (o35
  :
  Option
  Addr),
  ∃
  (k73
  :
  Nat),
  ∃
  (k74
  :
  Nat),
  (∀
  (w29 :
  World),
  I9
  w29 →
  World.cell?
  w29
  (Addr.mk
  k1
  0
  none) =
  some
  (Value.slice
  o35
  k73
  k74)) ∧
  br
  (decide
  ((↑k73 :
  Int) ≤
  n19))
  (R
  (Value.bool
  false)
  w24)
  (idx
  o5
  k10
  n5
  1
  fun
  (a17 :
  Addr) =>
  ∃
  (o36
  :
  Option
  Addr),
  ∃
  (k75
  :
  Nat),
  ∃
  (k76
  :
  Nat),
  (∀
  (w30 :
  World),
  I9
  w30 →
  World.cell?
  w30
  a17 =
  some
  (Value.slice
  o36
  k75
  k76)) ∧
  idx
  o36
  k75
  n17
  1
  fun
  (a18 :
  Addr) =>
  ∃
  (n20
  :
  Int),
  (∀
  (w31 :
  World),
  I9
  w31 →
  World.cell?
  w31
  a18 =
  some
  (Value.int
  IntKind.i64
  n20)) ∧
  idx
  (some
  (Addr.mk
  k36
  0
  none))
  (Int.toNat
  n7)
  n20
  1
  fun
  (a19 :
  Addr) =>
  ∃
  (b6
  :
  Bool),
  (∀
  (w32 :
  World),
  I9
  w32 →
  World.cell?
  w32
  a19 =
  some
  (Value.bool
  b6)) ∧
  br
  (!b6)
  (R
  (Value.bool
  false)
  w24)
  (inI
  (n17 +
  1) ∧
  x11
  (n17 +
  1)
  w24 ∧
  x12
  (n17 +
  1)
  w24 <
  x12
  n17
  w23))))
  (inI
  (n5 +
  1) ∧
  x2
  (n5 +
  1)
  w23 ∧
  x3
  (n5 +
  1)
  w23 <
  x3
  n5
  w6)))
  (R (Value.bool b1) w6))
set_option maxRecDepth 100000 in
theorem run_presagelaw07_FirstLeast (p0g_0a : Option Addr) (p0g_0l : Nat) (p0g_0c : Nat) (p0g_1a : Option Addr) (p0g_1l : Nat) (p0g_1c : Nat) (p0g_2a : Option Addr) (p0g_2l : Nat) (p0g_2c : Nat) (p0g_3 : Int) (p0g_4a : Option Addr) (p0g_4l : Nat) (p0g_4c : Nat) (w : World) (R : Value → World → Prop) (h : vc_presagelaw07_FirstLeast p0g_0a p0g_0l p0g_0c p0g_1a p0g_1l p0g_1c p0g_2a p0g_2l p0g_2c p0g_3 p0g_4a p0g_4l p0g_4c w R) : Run Tryd.prog 6 [(.agg #[(.slice p0g_0a p0g_0l p0g_0c), (.slice p0g_1a p0g_1l p0g_1c), (.slice p0g_2a p0g_2l p0g_2c), (.int .i64 p0g_3), (.slice p0g_4a p0g_4l p0g_4c)])] w R :=
  run_ev tyOk fnOk mixed Tryd.func6 ann_presagelaw07_FirstLeast ((by kernel_rfl : fnV Tryd.prog Ty Fn Ev ann_presagelaw07_FirstLeast Tryd.f6 [(.agg #[(.slice p0g_0a p0g_0l p0g_0c), (.slice p0g_1a p0g_1l p0g_1c), (.slice p0g_2a p0g_2l p0g_2c), (.int .i64 p0g_3), (.slice p0g_4a p0g_4l p0g_4c)])] w R = vc_presagelaw07_FirstLeast p0g_0a p0g_0l p0g_0c p0g_1a p0g_1l p0g_1c p0g_2a p0g_2l p0g_2c p0g_3 p0g_4a p0g_4l p0g_4c w R) ▸ h)

/- presage/presagelaw07.FirstGrows -/
abbrev n_presagelaw07_FirstGrows : FuncId := 7
def ann_presagelaw07_FirstGrows : Ann := { rngs := [], loops := [(18, [(21, (.one (.int .i64)))])], joins := [(16, [(107, (.one .bool))])], blocks := [] }
set_option maxRecDepth 100000 in
def vc_presagelaw07_FirstGrows (p0g_0a : Option Addr) (p0g_0l : Nat) (p0g_0c : Nat) (p0g_1a : Option Addr) (p0g_1l : Nat) (p0g_1c : Nat) (p0g_2a : Option Addr) (p0g_2l : Nat) (p0g_2c : Nat) (p0g_3 : Int) (p0g_4a : Option Addr) (p0g_4l : Nat) (p0g_4c : Nat) (p1left : Int) (p2righta : Option Addr) (p2rightl : Nat) (p2rightc : Nat) (w : World) (R : Value → World → Prop) : Prop :=
  new w
  (Obj.cells
  (Array.mk [Value.slice p0g_0a p0g_0l p0g_0c, Value.slice p0g_1a p0g_1l p0g_1c, Value.slice p0g_2a p0g_2l p0g_2c, Value.int IntKind.i64 p0g_3, Value.slice p0g_4a p0g_4l p0g_4c])
  27)
  fun (k1 : Nat) (w1 : World) =>
  RunE Proofs.Tryd.prog Ev 13 [] w1 fun (v1 : Value) (w2 : World) =>
  ∃ (b1 : Bool),
  v1 = Value.bool b1 ∧
  ∃ (o1 : Option Addr),
  ∃ (k2 : Nat),
  ∃ (k3 : Nat),
  ∃ (o2 : Option Addr),
  ∃ (k4 : Nat),
  ∃ (k5 : Nat),
  ∃ (o3 : Option Addr),
  ∃ (k6 : Nat),
  ∃ (k7 : Nat),
  ∃ (n1 : Int),
  ∃ (o4 : Option Addr),
  ∃ (k8 : Nat),
  ∃ (k9 : Nat),
  V.rowAt w2 (Addr.mk k1 0 none) 0 5 =
  some [Value.slice o1 k2 k3, Value.slice o2 k4 k5, Value.slice o3 k6 k7, Value.int IntKind.i64 n1, Value.slice o4 k8 k9] ∧
  RunE Proofs.Tryd.prog Ev 28
  [Value.agg (Array.mk [Value.slice o1 k2 k3, Value.slice o2 k4 k5, Value.slice o3 k6 k7, Value.int IntKind.i64 n1, Value.slice o4 k8 k9])] w2
  fun (v2 : Value) (w3 : World) =>
  ∃ (b2 : Bool),
  v2 = Value.bool b2 ∧
  br (!b2) (R (Value.bool b1) w3)
  (∃ (o5 : Option Addr),
  ∃ (k10 : Nat),
  ∃ (k11 : Nat),
  ∃ (o6 : Option Addr),
  ∃ (k12 : Nat),
  ∃ (k13 : Nat),
  ∃ (o7 : Option Addr),
  ∃ (k14 : Nat),
  ∃ (k15 : Nat),
  ∃ (n2 : Int),
  ∃ (o8 : Option Addr),
  ∃ (k16 : Nat),
  ∃ (k17 : Nat),
  V.rowAt w3 (Addr.mk k1 0 none) 0 5 =
  some
  [Value.slice o5 k10 k11, Value.slice o6 k12 k13, Value.slice o7 k14 k15, Value.int IntKind.i64 n2,
  Value.slice o8 k16 k17] ∧
  RunE Proofs.Tryd.prog Ev 14
  [Value.agg
  (Array.mk
  [Value.slice o5 k10 k11, Value.slice o6 k12 k13, Value.slice o7 k14 k15, Value.int IntKind.i64 n2,
  Value.slice o8 k16 k17])]
  w3 fun (v3 : Value) (w4 : World) =>
  ∃ (o9 : Option Addr),
  ∃ (k18 : Nat),
  ∃ (k19 : Nat),
  ∃ (o10 : Option Addr),
  ∃ (k20 : Nat),
  ∃ (k21 : Nat),
  ∃ (o11 : Option Addr),
  ∃ (k22 : Nat),
  ∃ (k23 : Nat),
  ∃ (n3 : Int),
  ∃ (o12 : Option Addr),
  ∃ (k24 : Nat),
  ∃ (k25 : Nat),
  v3 =
  Value.agg
  (Array.mk
  [Value.slice o9 k18 k19, Value.slice o10 k20 k21,
  Value.slice o11 k22 k23, Value.int IntKind.i64 n3,
  Value.slice o12 k24 k25]) ∧
  new w4
  (Obj.cells
  (Array.mk
  [Value.slice none 0 0, Value.slice none 0 0, Value.slice none 0 0,
  Value.int IntKind.i64 0, Value.slice none 0 0])
  27)
  fun (k26 : Nat) (w5 : World) =>
  stR w5 (Addr.mk k26 0 none)
  [Value.slice o9 k18 k19, Value.slice o10 k20 k21, Value.slice o11 k22 k23,
  Value.int IntKind.i64 n3, Value.slice o12 k24 k25]
  fun (w6 : World) =>
  ∃ (o13 : Option Addr),
  ∃ (k27 : Nat),
  ∃ (k28 : Nat),
  World.cell? w6 (Addr.add (Addr.mk k26 0 none) 4) =
  some (Value.slice o13 k27 k28) ∧
  new w6
  (Obj.cells
  (Array.mk
  [Value.int IntKind.i64 p1left,
  Value.slice p2righta p2rightl p2rightc,
  Value.int IntKind.i64 0])
  51)
  fun (k29 : Nat) (w7 : World) =>
  RunS Proofs.Tryd.prog
  (Builtin.append_ (Array.mk [25, 25]) 25
  (Array.mk
  [Value.slice o13 k27 k28,
  Value.slice (some (Addr.mk k29 0 none)) 1 1]))
  w7 fun (v4 : Value) (w8 : World) =>
  ∃ (o14 : Option Addr),
  ∃ (k30 : Nat),
  ∃ (k31 : Nat),
  v4 = Value.slice o14 k30 k31 ∧
  st1 w8 (Addr.add (Addr.mk k26 0 none) 4)
  (Value.slice o14 k30 k31) fun (w9 : World) =>
  ∃ (o15 : Option Addr),
  ∃ (k32 : Nat),
  ∃ (k33 : Nat),
  ∃ (o16 : Option Addr),
  ∃ (k34 : Nat),
  ∃ (k35 : Nat),
  ∃ (o17 : Option Addr),
  ∃ (k36 : Nat),
  ∃ (k37 : Nat),
  ∃ (n4 : Int),
  ∃ (o18 : Option Addr),
  ∃ (k38 : Nat),
  ∃ (k39 : Nat),
  V.rowAt w9
  (Addr.mk k26 0 none)
  0 5 =
  some
  [Value.slice o15 k32
  k33,
  Value.slice o16
  k34 k35,
  Value.slice o17
  k36 k37,
  Value.int
  IntKind.i64 n4,
  Value.slice o18
  k38 k39] ∧
  RunE Proofs.Tryd.prog Ev
  28
  [Value.agg
  (Array.mk
  [Value.slice o15
  k32 k33,
  Value.slice
  o16 k34 k35,
  Value.slice
  o17 k36 k37,
  Value.int
  IntKind.i64
  n4,
  Value.slice
  o18 k38
  k39])]
  w9
  fun (v5 : Value)
  (w10 : World) =>
  ∃ (b3 : Bool),
  v5 = Value.bool b3 ∧
  br (!b3)
  (∃ (o19 :
  Option Addr),
  ∃ (k40 : Nat),
  ∃ (k41 :
  Nat),
  ∃ (o20 :
  Option
  Addr),
  ∃ (k42 :
  Nat),
  ∃ (k43
  :
  Nat),
  ∃
  (o21
  :
  Option
  Addr),
  ∃
  (k44
  :
  Nat),
  ∃
  (k45
  :
  Nat),
  ∃
  (n5
  :
  Int),
  ∃
  (o22
  :
  Option
  Addr),
  ∃
  (k46
  :
  Nat),
  ∃
  (k47
  :
  Nat),
  V.rowAt
  w10
  (Addr.mk
  k26
  0
  none)
  0
  5 =
  some
  [Value.slice
  o19
  k40
  k41,
  Value.slice
  o20
  k42
  k43,
  Value.slice
  o21
  k44
  k45,
  Value.int
  IntKind.i64
  n5,
  Value.slice
  o22
  k46
  k47] ∧
  RunE
  Proofs.Tryd.prog
  Ev
  18
  [Value.agg
  (Array.mk
  [Value.slice
  o19
  k40
  k41,
  Value.slice
  o20
  k42
  k43,
  Value.slice
  o21
  k44
  k45,
  Value.int
  IntKind.i64
  n5,
  Value.slice
  o22
  k46
  k47])]
  w10
  fun
  (v6 :
  Value)
  (w11 :
  World) =>
  ∃
  (o23
  :
  Option
  Addr),
  ∃
  (k48
  :
  Nat),
  ∃
  (k49
  :
  Nat),
  ∃
  (n6
  :
  Int),
  v6 =
  Value.tuple
  (Array.mk
  [Value.slice
  o23
  k48
  k49,
  Value.int
  IntKind.i64
  n6]) ∧
  br
  b1
  (R
  (Value.bool
  (n6 ==
  1))
  w11)
  (R
  (Value.bool
  false)
  w11))
  (∃ (o24 :
  Option Addr),
  ∃ (k50 : Nat),
  ∃ (k51 :
  Nat),
  ∃ (o25 :
  Option
  Addr),
  ∃ (k52 :
  Nat),
  ∃ (k53
  :
  Nat),
  ∃
  (o26
  :
  Option
  Addr),
  ∃
  (k54
  :
  Nat),
  ∃
  (k55
  :
  Nat),
  ∃
  (n7
  :
  Int),
  ∃
  (o27
  :
  Option
  Addr),
  ∃
  (k56
  :
  Nat),
  ∃
  (k57
  :
  Nat),
  V.rowAt
  w10
  (Addr.mk
  k1
  0
  none)
  0
  5 =
  some
  [Value.slice
  o24
  k50
  k51,
  Value.slice
  o25
  k52
  k53,
  Value.slice
  o26
  k54
  k55,
  Value.int
  IntKind.i64
  n7,
  Value.slice
  o27
  k56
  k57] ∧
  RunE
  Proofs.Tryd.prog
  Ev
  15
  [Value.agg
  (Array.mk
  [Value.slice
  o24
  k50
  k51,
  Value.slice
  o25
  k52
  k53,
  Value.slice
  o26
  k54
  k55,
  Value.int
  IntKind.i64
  n7,
  Value.slice
  o27
  k56
  k57])]
  w10
  fun
  (v7 :
  Value)
  (w12 :
  World) =>
  ∃
  (o28
  :
  Option
  Addr),
  ∃
  (k58
  :
  Nat),
  ∃
  (k59
  :
  Nat),
  ∃
  (n8
  :
  Int),
  v7 =
  Value.tuple
  (Array.mk
  [Value.slice
  o28
  k58
  k59,
  Value.int
  IntKind.i64
  n8]) ∧
  ∃
  (o29
  :
  Option
  Addr),
  ∃
  (k60
  :
  Nat),
  ∃
  (k61
  :
  Nat),
  ∃
  (o30
  :
  Option
  Addr),
  ∃
  (k62
  :
  Nat),
  ∃
  (k63
  :
  Nat),
  ∃
  (o31
  :
  Option
  Addr),
  ∃
  (k64
  :
  Nat),
  ∃
  (k65
  :
  Nat),
  ∃
  (n9
  :
  Int),
  ∃
  (o32
  :
  Option
  Addr),
  ∃
  (k66
  :
  Nat),
  ∃
  (k67
  :
  Nat),
  V.rowAt
  w12
  (Addr.mk
  k26
  0
  none)
  0
  5 =
  some
  [Value.slice
  o29
  k60
  k61,
  Value.slice
  o30
  k62
  k63,
  Value.slice
  o31
  k64
  k65,
  Value.int
  IntKind.i64
  n9,
  Value.slice
  o32
  k66
  k67] ∧
  RunE
  Proofs.Tryd.prog
  Ev
  15
  [Value.agg
  (Array.mk
  [Value.slice
  o29
  k60
  k61,
  Value.slice
  o30
  k62
  k63,
  Value.slice
  o31
  k64
  k65,
  Value.int
  IntKind.i64
  n9,
  Value.slice
  o32
  k66
  k67])]
  w12
  fun
  (v8 :
  Value)
  (w13 :
  World) =>
  ∃
  (o33
  :
  Option
  Addr),
  ∃
  (k68
  :
  Nat),
  ∃
  (k69
  :
  Nat),
  ∃
  (n10
  :
  Int),
  v8 =
  Value.tuple
  (Array.mk
  [Value.slice
  o33
  k68
  k69,
  Value.int
  IntKind.i64
  n10]) ∧
  ∃
  (o34
  :
  Option
  Addr),
  ∃
  (k70
  :
  Nat),
  ∃
  (k71
  :
  Nat),
  ∃
  (o35
  :
  Option
  Addr),
  ∃
  (k72
  :
  Nat),
  ∃
  (k73
  :
  Nat),
  ∃
  (o36
  :
  Option
  Addr),
  ∃
  (k74
  :
  Nat),
  ∃
  (k75
  :
  Nat),
  ∃
  (n11
  :
  Int),
  ∃
  (o37
  :
  Option
  Addr),
  ∃
  (k76
  :
  Nat),
  ∃
  (k77
  :
  Nat),
  V.rowAt
  w13
  (Addr.mk
  k1
  0
  none)
  0
  5 =
  some
  [Value.slice
  o34
  k70
  k71,
  Value.slice
  o35
  k72
  k73,
  Value.slice
  o36
  k74
  k75,
  Value.int
  IntKind.i64
  n11,
  Value.slice
  o37
  k76
  k77] ∧
  RunE
  Proofs.Tryd.prog
  Ev
  18
  [Value.agg
  (Array.mk
  [Value.slice
  o34
  k70
  k71,
  Value.slice
  o35
  k72
  k73,
  Value.slice
  o36
  k74
  k75,
  Value.int
  IntKind.i64
  n11,
  Value.slice
  o37
  k76
  k77])]
  w13
  fun
  (v9 :
  Value)
  (w14 :
  World) =>
  ∃
  (o38
  :
  Option
  Addr),
  ∃
  (k78
  :
  Nat),
  ∃
  (k79
  :
  Nat),
  ∃
  (n12
  :
  Int),
  v9 =
  Value.tuple
  (Array.mk
  [Value.slice
  o38
  k78
  k79,
  Value.int
  IntKind.i64
  n12]) ∧
  ∃
  (o39
  :
  Option
  Addr),
  ∃
  (k80
  :
  Nat),
  ∃
  (k81
  :
  Nat),
  ∃
  (o40
  :
  Option
  Addr),
  ∃
  (k82
  :
  Nat),
  ∃
  (k83
  :
  Nat),
  ∃
  (o41
  :
  Option
  Addr),
  ∃
  (k84
  :
  Nat),
  ∃
  (k85
  :
  Nat),
  ∃
  (n13
  :
  Int),
  ∃
  (o42
  :
  Option
  Addr),
  ∃
  (k86
  :
  Nat),
  ∃
  (k87
  :
  Nat),
  V.rowAt
  w14
  (Addr.mk
  k26
  0
  none)
  0
  5 =
  some
  [Value.slice
  o39
  k80
  k81,
  Value.slice
  o40
  k82
  k83,
  Value.slice
  o41
  k84
  k85,
  Value.int
  IntKind.i64
  n13,
  Value.slice
  o42
  k86
  k87] ∧
  RunE
  Proofs.Tryd.prog
  Ev
  18
  [Value.agg
  (Array.mk
  [Value.slice
  o39
  k80
  k81,
  Value.slice
  o40
  k82
  k83,
  Value.slice
  o41
  k84
  k85,
  Value.int
  IntKind.i64
  n13,
  Value.slice
  o42
  k86
  k87])]
  w14
  fun
  (v10 :
  Value)
  (w15 :
  World) =>
  ∃
  (o43
  :
  Option
  Addr),
  ∃
  (k88
  :
  Nat),
  ∃
  (k89
  :
  Nat),
  ∃
  (n14
  :
  Int),
  v10 =
  Value.tuple
  (Array.mk
  [Value.slice
  o43
  k88
  k89,
  Value.int
  IntKind.i64
  n14]) ∧
  ∃
  (x1
  :
  arrS
  (shs
  [(107,
  S1.one
  Cs.bool)])
  (World →
  Prop)),
  br
  (n8 !=
  0)
  (x1
  true
  w15)
  (br
  (n10 !=
  0)
  (x1
  true
  w15)
  (br
  (n12 !=
  0)
  (x1
  true
  w15)
  (br
  (n14 !=
  0)
  (x1
  true
  w15)
  (br
  ((↑k58 :
  Int) !=
  (↑k68 :
  Int))
  (x1
  true
  w15)
  (br
  ((↑k78 :
  Int) !=
  (↑k88 :
  Int))
  (x1
  true
  w15)
  (x1
  ((↑k58 :
  Int) !=
  (↑k78 :
  Int))
  w15)))))) ∧
  ∀
  (I1 :
  Nat →
  Value)
  (b4 :
  Bool)
  (w16 :
  World),
  x1
  b4
  w16 →
  br
  b4
  (R
  (Value.bool
  false)
  w16)
  (∃
  (x2
  :
  arrS
  (shs
  [(21,
  S1.one
  (Cs.int
  IntKind.i64))])
  (World →
  Prop)),
  ∃
  (x3
  :
  arrS
  (shs
  [(21,
  S1.one
  (Cs.int
  IntKind.i64))])
  (World →
  Nat)),
  x2
  0
  w16 ∧
  ∀
  (I2 :
  Nat →
  Value)
  (n15 :
  Int)
  (w17 :
  World),
  x2
  n15
  w17 →
  br
  (decide
  (n15 <
  (↑k58 :
  Int)))
  (∀
  (w18 :
  World),
  drawn
  w17
  w18 →
  ∃
  (I3
  :
  World →
  Prop),
  I3
  w18 ∧
  idx
  o38
  k78
  n15
  1
  fun
  (a1 :
  Addr) =>
  ∃
  (o44
  :
  Option
  Addr),
  ∃
  (k90
  :
  Nat),
  ∃
  (k91
  :
  Nat),
  (∀
  (w19 :
  World),
  I3
  w19 →
  World.cell?
  w19
  a1 =
  some
  (Value.slice
  o44
  k90
  k91)) ∧
  idx
  o43
  k88
  n15
  1
  fun
  (a2 :
  Addr) =>
  ∃
  (o45
  :
  Option
  Addr),
  ∃
  (k92
  :
  Nat),
  ∃
  (k93
  :
  Nat),
  (∀
  (w20 :
  World),
  I3
  w20 →
  World.cell?
  w20
  a2 =
  some
  (Value.slice
  o45
  k92
  k93)) ∧
  idx
  o43
  k88
  n15
  1
  fun
  (a3 :
  Addr) =>
  ∃
  (o46
  :
  Option
  Addr),
  ∃
  (k94
  :
  Nat),
  ∃
  (k95
  :
  Nat),
  (∀
  (w21 :
  World),
  I3
  w21 →
  World.cell?
  w21
  a3 =
  some
  (Value.slice
  o46
  k94
  k95)) ∧
  RunE
  Proofs.Tryd.prog
  Ev
  27
  [Value.slice
  o44
  k90
  k91,
  Value.slice
  o45
  k92
  k93]
  w18
  fun
  (v11 :
  Value)
  (w22 :
  World) =>
  ∃
  (o47
  :
  Option
  Addr),
  ∃
  (k96
  :
  Nat),
  ∃
  (k97
  :
  Nat),
  v11 =
  Value.slice
  o47
  k96
  k97 ∧
  I3
  w22 ∧
  RunE
  Proofs.Tryd.prog
  Ev
  24
  [Value.slice
  o47
  k96
  k97,
  Value.slice
  o46
  k94
  k95]
  w22
  fun
  (v12 :
  Value)
  (w23 :
  World) =>
  ∃
  (b5
  :
  Bool),
  v12 =
  Value.bool
  b5 ∧
  I3
  w23 ∧
  br
  (!b5)
  (R
  (Value.bool
  false)
  w23)
  (idx
  o28
  k58
  n15
  1
  fun
  (a4 :
  Addr) =>
  ∃
  (b6
  :
  Bool),
  World.cell?
  w23
  a4 =
  some
  (Value.bool
  b6) ∧
  br
  b6
  (idx
  o33
  k68
  n15
  1
  fun
  (a5 :
  Addr) =>
  ∃
  (b7
  :
  Bool),
  World.cell?
  w23
  a5 =
  some
  (Value.bool
  b7) ∧
  br
  (!b7)
  (R
  (Value.bool
  false)
  w23)
  (inI
  (n15 +
  1) ∧
  x2
  (n15 +
  1)
  w23 ∧
  x3
  (n15 +
  1)
  w23 <
  x3
  n15
  w17))
  (inI
  (n15 +
  1) ∧
  x2
  (n15 +
  1)
  w23 ∧
  x3
  (n15 +
  1)
  w23 <
  x3
  n15
  w17)))
  (R
  (Value.bool
  b1)
  w17))))
set_option maxRecDepth 100000 in
theorem run_presagelaw07_FirstGrows (p0g_0a : Option Addr) (p0g_0l : Nat) (p0g_0c : Nat) (p0g_1a : Option Addr) (p0g_1l : Nat) (p0g_1c : Nat) (p0g_2a : Option Addr) (p0g_2l : Nat) (p0g_2c : Nat) (p0g_3 : Int) (p0g_4a : Option Addr) (p0g_4l : Nat) (p0g_4c : Nat) (p1left : Int) (p2righta : Option Addr) (p2rightl : Nat) (p2rightc : Nat) (w : World) (R : Value → World → Prop) (h : vc_presagelaw07_FirstGrows p0g_0a p0g_0l p0g_0c p0g_1a p0g_1l p0g_1c p0g_2a p0g_2l p0g_2c p0g_3 p0g_4a p0g_4l p0g_4c p1left p2righta p2rightl p2rightc w R) : Run Tryd.prog 7 [(.agg #[(.slice p0g_0a p0g_0l p0g_0c), (.slice p0g_1a p0g_1l p0g_1c), (.slice p0g_2a p0g_2l p0g_2c), (.int .i64 p0g_3), (.slice p0g_4a p0g_4l p0g_4c)]), (.int .i64 p1left), (.slice p2righta p2rightl p2rightc)] w R :=
  run_ev tyOk fnOk mixed Tryd.func7 ann_presagelaw07_FirstGrows ((by kernel_rfl : fnV Tryd.prog Ty Fn Ev ann_presagelaw07_FirstGrows Tryd.f7 [(.agg #[(.slice p0g_0a p0g_0l p0g_0c), (.slice p0g_1a p0g_1l p0g_1c), (.slice p0g_2a p0g_2l p0g_2c), (.int .i64 p0g_3), (.slice p0g_4a p0g_4l p0g_4c)]), (.int .i64 p1left), (.slice p2righta p2rightl p2rightc)] w R = vc_presagelaw07_FirstGrows p0g_0a p0g_0l p0g_0c p0g_1a p0g_1l p0g_1c p0g_2a p0g_2l p0g_2c p0g_3 p0g_4a p0g_4l p0g_4c p1left p2righta p2rightl p2rightc w R) ▸ h)

end Go.Proofs.YtaheggomcnbbiaaDoor
/- What rows begin with (12): the law of rows. -/
set_option linter.unusedVariables false
namespace Go.Proofs.YtaheggomcnbbiaaDoor
open Go.V
section
variable {w : World} {L : List Asn} {g : GramT} {x : GA} {a a2 : Option Addr} {l l2 c c2 : Nat} {xs ys : List Int}
set_option maxHeartbeats 2000000 in
theorem l_FirstRows (hg : gR (hp w) g x) (hb : okG g) (ht : tabA (hp w)) (hx : rdS (hp w) xs a l) (hy : rdS (hp w) ys a2 l2) (hsz : (l + l2) * 8 ≤ 140737488355328) : Run Tryd.prog n_presagelaw07_FirstRows [.agg ⟨x.cells⟩, .slice a l c, .slice a2 l2 c2] w fun v w' => v = .bool true ∧ Gr w w' := by
  refine run_presagelaw07_FirstRows _ _ _ _ _ _ _ _ _ _ _ _ _ _ _ _ _ _ _ w _ ?_
  refine gbox hg fun k1 w1 gw hg B => ?_
  refine (l_awake7 (rdV.mono gw ht)).mono ?_
  rintro _ w2 ⟨rfl, g2⟩
  have gw2 : Gr w w2 := gw.trans g2
  have ht2 : tabA (hp w2) := rdV.mono gw2 ht
  refine ⟨_, rfl, _, _, _, _, _, _, _, _, _, _, _, _, _, B.row g2, (f_Row (x := x) (hg.mono g2) hb ht2 (hx.mono gw2) (by omega)).mono ?_⟩
  intro v3 w3 r3
  obtain ⟨o3, n3, c3, b3, e3, rfl, g3, q3⟩ : ∃ (o : Option Addr) (n c : Nat) (b : Bool) (e : Int), v3 = .tuple #[.slice o n c, .bool b, .int .i64 e] ∧ Gr w2 w3 ∧ ((¬ (EitherP g ∧ SyP g xs) ∧ e = 1) ∨ ((EitherP g ∧ SyP g xs) ∧ e = 0 ∧ (b = true ↔ NulR g xs) ∧ ∃ bs, BsP g xs bs ∧ rdS (hp w3) (mbI bs) o n)) := by
    rcases r3 with ⟨h1, rfl, h2⟩ | ⟨h1, o, c, bs, b, h2, h3, rfl, h4⟩
    · exact ⟨_, _, _, _, _, rfl, h2, .inl ⟨h1, rfl⟩⟩
    · exact ⟨_, _, _, _, _, rfl, h4.gone1, .inr ⟨h1, rfl, h3, bs, h2, own_rdI h4⟩⟩
  have gw3 : Gr w w3 := gw2.trans g3
  refine ⟨_, _, _, _, _, rfl, _, _, _, _, _, _, _, _, _, _, _, _, _, B.row (g2.trans g3), (f_Row (x := x) (hg.mono (g2.trans g3)) hb (rdV.mono gw3 ht) (hy.mono gw3) (by omega)).mono ?_⟩
  intro v4 w4 r4
  obtain ⟨o4, n4, c4, b4, e4, rfl, g4, q4⟩ : ∃ (o : Option Addr) (n c : Nat) (b : Bool) (e : Int), v4 = .tuple #[.slice o n c, .bool b, .int .i64 e] ∧ Gr w3 w4 ∧ ((¬ (EitherP g ∧ SyP g ys) ∧ e = 1) ∨ ((EitherP g ∧ SyP g ys) ∧ e = 0 ∧ (b = true ↔ NulR g ys) ∧ ∃ bs, BsP g ys bs ∧ rdS (hp w4) (mbI bs) o n)) := by
    rcases r4 with ⟨h1, rfl, h2⟩ | ⟨h1, o, c, bs, b, h2, h3, rfl, h4⟩
    · exact ⟨_, _, _, _, _, rfl, h2, .inl ⟨h1, rfl⟩⟩
    · exact ⟨_, _, _, _, _, rfl, h4.gone1, .inr ⟨h1, rfl, h3, bs, h2, own_rdI h4⟩⟩
  have gw4 : Gr w w4 := gw3.trans g4
  refine ⟨_, _, _, _, _, rfl, (app_rd (xs := xs) tyOk (rfl : kdOfT Ty _ = .slice _) (rfl : kdOfT Ty _ = .slice _) rfl rfl rfl (own_nil 1 (St.all w4)) rfl (hx.mono gw4) (fun _ => rfl) (by show (0 + l) * 8 ≤ _; omega) (by omega)).mono ?_⟩
  rintro _ w5 ⟨o5, c5, rfl, h5⟩
  have g5 : Gr w4 w5 := h5.gone1
  refine ⟨_, _, _, rfl, (app_rd (xs := ys) tyOk (rfl : kdOfT Ty _ = .slice _) (rfl : kdOfT Ty _ = .slice _) rfl rfl rfl h5 rfl (hy.mono (gw4.trans g5)) (fun _ => rfl) (by show (0 + l + l2) * 8 ≤ _; omega) (by omega)).mono ?_⟩
  rintro _ w6 ⟨o6, c6, rfl, h6⟩
  have g6 : Gr w4 w6 := h6.gone1
  have gw6 : Gr w w6 := gw4.trans g6
  have r6 : rdS (hp w6) (xs ++ ys) o6 (0 + l + l2) := by
    have e : ([] : List Value) ++ xs.map Rep1.val ++ ys.map Rep1.val = iv (xs ++ ys) := by simp [iv]; rfl
    rw [e] at h6
    exact own_rdI h6
  have gB : Gr w1 w6 := (g2.trans g3).trans (g4.trans g6)
  refine ⟨_, _, _, rfl, _, _, _, _, _, _, _, _, _, _, _, _, _, B.row gB, (f_Row (x := x) (hg.mono gB) hb (rdV.mono gw6 ht) r6 (by omega)).mono ?_⟩
  intro v7 w7 r7
  obtain ⟨o7, n7, c7, b7, e7, rfl, g7, q7⟩ : ∃ (o : Option Addr) (n c : Nat) (b : Bool) (e : Int), v7 = .tuple #[.slice o n c, .bool b, .int .i64 e] ∧ Gr w6 w7 ∧ ((¬ (EitherP g ∧ SyP g (xs ++ ys)) ∧ e = 1 ∧ n = 0 ∧ b = false) ∨ ((EitherP g ∧ SyP g (xs ++ ys)) ∧ e = 0 ∧ (b = true ↔ NulR g (xs ++ ys)) ∧ ∃ bs, BsP g (xs ++ ys) bs ∧ rdS (hp w7) (mbI bs) o n)) := by
    rcases r7 with ⟨h1, rfl, h2⟩ | ⟨h1, o, c, bs, b, h2, h3, rfl, h4⟩
    · exact ⟨_, _, _, _, _, rfl, h2, .inl ⟨h1, rfl, rfl, rfl⟩⟩
    · exact ⟨_, _, _, _, _, rfl, h4.gone1, .inr ⟨h1, rfl, h3, bs, h2, own_rdI h4⟩⟩
  have gw7 : Gr w w7 := gw6.trans g7
  refine ⟨_, _, _, _, _, rfl, ?_⟩
  rw [SyP_app] at q7
  have bad : ¬ (EitherP g ∧ SyP g xs ∧ SyP g ys) → br (e7 == 1) (br ((n7 : Int) == 0) (Value.bool (!b7) = .bool true ∧ Gr w w7) (Value.bool false = .bool true ∧ Gr w w7)) (Value.bool false = .bool true ∧ Gr w w7) := fun hn => by
    rcases q7 with ⟨_, rfl, rfl, rfl⟩ | ⟨h, _⟩
    · exact br_intro (fun _ => br_intro (fun _ => ⟨rfl, gw7⟩) fun h => absurd h (by decide)) fun h => absurd h (by decide)
    · exact absurd h hn
  refine br_intro (fun h1 => br_intro (fun _ => ?_) fun h => absurd h (by decide)) fun h1 => br_intro (fun h2 => br_intro (fun _ => ?_) fun h => absurd h (by decide)) fun h2 => ?_
  · rcases q3 with ⟨hn, _⟩ | ⟨_, rfl, _⟩
    · exact bad fun h => hn ⟨h.1, h.2.1⟩
    · exact absurd h1 (by decide)
  · rcases q4 with ⟨hn, _⟩ | ⟨_, rfl, _⟩
    · exact bad fun h => hn ⟨h.1, h.2.2⟩
    · exact absurd h2 (by decide)
  rcases q3 with ⟨_, rfl⟩ | ⟨⟨he, hs3⟩, rfl, hb3, bs, hbs, rb⟩
  · exact absurd h1 (by decide)
  rcases q4 with ⟨_, rfl⟩ | ⟨⟨_, hs4⟩, rfl, hb4, cs, hcs, rc⟩
  · exact absurd h2 (by decide)
  rcases q7 with ⟨hn, _⟩ | ⟨_, rfl, hb7, us, hus, ru⟩
  · exact absurd ⟨he, hs3, hs4⟩ hn
  obtain ⟨iG, bT, bN, pN, pT, bP⟩ := inG he
  have ln : ∀ {bs : List Bool} {h : Hp} {o : Option Addr} {n : Nat}, bs.length = g.T → rdS h (mbI bs) o n → n ≤ 65 := fun {bs h o n} hl r => by
    have h1 := r.1
    have h2 := cntB_le bs
    rw [mbI_len] at h1
    omega
  have l3 := ln hbs.1 rb
  have l4 := ln hcs.1 rc
  have l7 := ln hus.1 ru
  have g37 : sub (hp w3) (hp w7) := g4.trans (g6.trans g7)
  have g47 : sub (hp w4) (hp w7) := g6.trans g7
  rw [NulR_app] at hb7
  refine (l_both (l2 := 0) (rb.mono g37) (rdI_of (xs := []) rfl (.inl rfl)) (by omega) (by omega)).mono ?_
  rintro _ w8 ⟨o8, c8, rfl, h8⟩
  have g8 : Gr w7 w8 := h8.gone1
  refine ⟨_, _, _, rfl, br_intro (fun h3 => ?_) fun h3 => ?_⟩
  · refine (l_both ((rb.mono g37).mono g8) ((rc.mono g47).mono g8) (by omega) (by omega)).mono ?_
    rintro _ w9 ⟨o9, c9, rfl, h9⟩
    have g9 : Gr w8 w9 := h9.gone1
    have r9 := own_rdI h9
    have hw := want_yes bT hbs hcs hus (hb3.1 h3)
    refine ⟨_, _, _, rfl, (r_Ints ((ru.mono g8).mono g9) r9 (by omega)).mono ?_⟩
    rintro _ w10 ⟨rfl, e10⟩
    have g10 : Gr w w10 := (gw7.trans g8).trans (g9.trans (Gr.of_eq e10))
    rw [hw]
    refine ⟨_, rfl, br_intro (fun _ => br_intro (fun _ => br_intro (fun _ => br_intro (fun _ => ⟨?_, g10⟩) fun h => by rw [h3] at h; cases h) fun h => absurd h (by decide)) fun h => by simp at h) fun h => absurd h (by decide)⟩
    have : b7 = b4 := by rw [Bool.eq_iff_iff, hb7, hb4]; exact ⟨fun h => h.2, fun h => ⟨hb3.1 h3, h⟩⟩
    rw [this]; simp
  · have hn : ¬ NulR g xs := fun h => by rw [hb3.2 h] at h3; cases h3
    have r8 := own_rdI h8
    have hw := want_no bT hbs hus hn
    refine (r_Ints (ru.mono g8) r8 (by omega)).mono ?_
    rintro _ w10 ⟨rfl, e10⟩
    have g10 : Gr w w10 := (gw7.trans g8).trans (Gr.of_eq e10)
    rw [hw]
    refine ⟨_, rfl, br_intro (fun _ => br_intro (fun _ => br_intro (fun _ => br_intro (fun h => by rw [h3] at h; cases h) fun _ => ⟨?_, g10⟩) fun h => absurd h (by decide)) fun h => by simp at h) fun h => absurd h (by decide)⟩
    have : b7 = false := by
      cases hb : b7
      · rfl
      · exact absurd (hb7.1 hb).1 hn
    rw [this]; rfl
end
end Go.Proofs.YtaheggomcnbbiaaDoor
/- What rows begin with (13): the answers, as they read; a nonterminal's set is that of its productions. -/
set_option linter.unusedVariables false
namespace Go.V
theorem ownH_le {sz l c : Nat} {a : Option Addr} {vs : List Value} {h : Hp} (ha : own sz a l c vs h) : l ≤ c := by
  rcases ha with ⟨_, rfl, rfl, _⟩ | ⟨_, _, _, _, _, _, _, _, h⟩
  · exact Nat.le_refl _
  · exact h
theorem rdSts {w : World} {L : List Asn} {a : Option Addr} {n c : Nat} {os : List (Option Addr × Nat)} {bss : List (List Bool)} (h : St w (own 1 a n c (slvB os bss) :: sta (rowsA os bss) :: L)) (hl : os.length = n) (hn : bss.length = n) : rdS (hp w) (bss.map mbI) a n := by
  refine ⟨by rw [List.length_map, hn], fun i x hx => ?_⟩
  rw [List.getElem?_map] at hx
  cases hb : bss[i]? with
  | none => rw [hb] at hx; cases hx
  | some bs =>
    rw [hb] at hx; cases hx
    have hi := (List.getElem?_eq_some_iff.1 hb).1
    obtain ⟨o, ho⟩ : ∃ o, os[i]? = some o := ⟨os[i]'(by omega), List.getElem?_eq_getElem _⟩
    have hv : (slvB os bss)[i]? = some (.slice o.1 (cntB bs) o.2) := by unfold slvB; rw [List.getElem?_zipWith, ho, hb]
    have hr : (rowsA os bss)[i]? = some (own 1 o.1 (cntB bs) o.2 (iv (mbI bs))) := by unfold rowsA; rw [List.getElem?_zipWith, ho, hb]
    obtain ⟨h1, s1, ha⟩ := h.first
    obtain ⟨h2, s2, hs⟩ := h.tail.first
    obtain ⟨h3, s3, hc⟩ := starL_in (List.mem_of_getElem? hr) hs
    rcases own_rdVh ha with e | ⟨ad, rfl, hcell⟩
    · rw [e] at hv; simp at hv
    refine ⟨ad, _, rfl, fun j v hj => ?_, o.1, cntB bs, o.2, rfl, ownH_le hc, (rdI_of (mbI_len bs) (own_rdVh hc)).mono (s3.trans s2)⟩
    cases j with
    | zero =>
      simp only [List.getElem?_cons_zero, Option.some.injEq] at hj
      subst hj
      have := cellH_sub s1 (hcell i _ hv)
      rw [mulS_eq, show (Rep.n (List Int)) = 1 from rfl, Nat.mul_one]
      simpa [add_add] using this
    | succ j => simp at hj
/- what one and another have -/
def orB (n : Nat) (bs cs : List Bool) : List Bool := tabB n fun k => decide (k < n) && (fnB bs k || fnB cs k)
theorem orB_len (n : Nat) (bs cs : List Bool) : (orB n bs cs).length = n := tabB_len _ _
theorem fnB_or {n : Nat} {bs cs : List Bool} (h1 : bs.length = n) (h2 : cs.length = n) (k : Nat) : fnB (orB n bs cs) k = true ↔ fnB bs k = true ∨ fnB cs k = true := by
  unfold orB
  rw [fnB_tab fun k hk => by simp; omega]
  simp only [Bool.and_eq_true, Bool.or_eq_true, decide_eq_true_eq]
  exact ⟨fun h => h.2, fun h => ⟨by rcases h with h | h <;> have := fnB_lt h <;> omega, h⟩⟩
theorem both_or {n : Nat} {bs cs : List Bool} (hn : n ≤ 65) (h1 : bs.length = n) (h2 : cs.length = n) : bothL (mbI bs) (mbI cs) 65 = mbI (orB n bs cs) :=
  bothL_mbI (by rw [orB_len]; exact hn) fun k _ => by rw [fnB_or h1 h2, mem_mbI_nat, mem_mbI_nat]
theorem mbI_rep (n : Nat) : mbI (List.replicate n false) = [] := by
  unfold mbI mb membs
  rw [List.map_eq_nil_iff, List.filter_eq_nil_iff]
  intro k _; rw [fnB_rep]; simp
theorem Fst_non {g : GramT} {j : Nat} {t : Nat} : Fst g ((g.T + j : Nat) : Int) t ↔ ∃ p ∈ g.prods, p.left = ((g.T + j : Nat) : Int) ∧ FstR g p.right t := by
  constructor
  · intro h
    generalize hs : ((g.T + j : Nat) : Int) = s at h
    cases h with
    | tm t ht => omega
    | pr p i s' t hp h1 h2 h3 => exact ⟨p, hp, rfl, i, s', h1, h2, h3⟩
  · rintro ⟨p, hp, he, i, s, h1, h2, h3⟩
    rw [← he]; exact .pr p i s t hp h1 h2 h3
theorem Nul_non {g : GramT} {s : Int} : Nul g s ↔ ∃ p ∈ g.prods, p.left = s ∧ NulR g p.right := by
  constructor
  · intro h
    cases h with | mk p hp h1 => exact ⟨p, hp, rfl, h1⟩
  · rintro ⟨p, hp, rfl, h⟩; exact .mk p hp h
theorem ex_take {α : Type} {l : List α} {m : Nat} {p : α} {P : α → Prop} (hp : l[m]? = some p) : (∃ q ∈ l.take (m + 1), P q) ↔ (∃ q ∈ l.take m, P q) ∨ P p := by
  have e : l.take (m + 1) = l.take m ++ [p] := by rw [List.take_add_one, hp]; rfl
  rw [e]
  constructor
  · rintro ⟨q, hq, h⟩
    rcases List.mem_append.1 hq with hq | hq
    · exact .inl ⟨q, hq, h⟩
    · simp at hq; subst hq; exact .inr h
  · rintro (⟨q, hq, h⟩ | h)
    · exact ⟨q, List.mem_append.2 (.inl hq), h⟩
    · exact ⟨p, by simp, h⟩
end Go.V
namespace Go.Proofs.YtaheggomcnbbiaaDoor
open Go.V
section
variable {w : World} {L : List Asn} {g : GramT} {x : GA}
theorem f_Sets1 (hg : gR (hp w) g x) (hb : okG g) (ht : tabA (hp w)) : Run Tryd.prog n_first_Sets [.agg ⟨x.cells⟩] w fun v w' => ∃ (o : Option Addr) (n c : Nat) (e : Int), v = .tuple #[.slice o n c, .int .i64 e] ∧ Gr w w' ∧ ((¬ EitherP g ∧ e = 1 ∧ n = 0) ∨ (EitherP g ∧ e = 0 ∧ n = g.N ∧ ∃ bss, SsP g bss ∧ rdS (hp w') (bss.map mbI) o n)) := by
  refine (f_Sets hg hb ht).mono ?_
  rintro _ w' (⟨h1, rfl, h2⟩ | ⟨h1, a, c, os, bss, h2, h3, rfl, h4⟩)
  · exact ⟨_, _, _, _, rfl, h2, .inl ⟨h1, rfl, rfl⟩⟩
  · exact ⟨_, _, _, _, rfl, rdH 2 h4.l, .inr ⟨h1, rfl, rfl, bss, h3, rdSts h4 h2 h3.1⟩⟩
theorem f_Nullable1 (hg : gR (hp w) g x) (hb : okG g) (ht : tabA (hp w)) : Run Tryd.prog n_first_Nullable [.agg ⟨x.cells⟩] w fun v w' => ∃ (o : Option Addr) (n c : Nat) (e : Int), v = .tuple #[.slice o n c, .int .i64 e] ∧ Gr w w' ∧ ((¬ EitherP g ∧ e = 1 ∧ n = 0) ∨ (EitherP g ∧ e = 0 ∧ n = g.N ∧ ∃ nn, NnP g nn ∧ rdS (hp w') nn o n)) := by
  refine (f_Nullable hg hb ht).mono ?_
  rintro _ w' (⟨h1, rfl, h2⟩ | ⟨h1, k, nl, nn, h2, h3, rfl, h4⟩)
  · exact ⟨_, _, _, _, rfl, h2, .inl ⟨h1, rfl, rfl⟩⟩
  · have := nn_rd h4.row h2 (by have := (inG h1).2.2.2.1; rw [h3.1]; exact this)
    rw [h3.1] at this
    exact ⟨_, _, _, _, rfl, h4.gone1, .inr ⟨h1, rfl, rfl, nn, h3, this⟩⟩
theorem f_Row1 {a : Option Addr} {l c : Nat} {row : List Int} (hg : gR (hp w) g x) (hb : okG g) (ht : tabA (hp w)) (hr : rdS (hp w) row a l) (hl : l ≤ 4611686018427387904) : Run Tryd.prog n_first_Row [.agg ⟨x.cells⟩, .slice a l c] w fun v w' => ∃ (o : Option Addr) (n c : Nat) (b : Bool) (e : Int), v = .tuple #[.slice o n c, .bool b, .int .i64 e] ∧ Gr w w' ∧ ((¬ (EitherP g ∧ SyP g row) ∧ e = 1 ∧ n = 0 ∧ b = false) ∨ ((EitherP g ∧ SyP g row) ∧ e = 0 ∧ (b = true ↔ NulR g row) ∧ ∃ bs, BsP g row bs ∧ rdS (hp w') (mbI bs) o n)) := by
  refine (f_Row hg hb ht hr hl).mono ?_
  rintro _ w' (⟨h1, rfl, h2⟩ | ⟨h1, o, c, bs, b, h2, h3, rfl, h4⟩)
  · exact ⟨_, _, _, _, _, rfl, h2, .inl ⟨h1, rfl, rfl, rfl⟩⟩
  · exact ⟨_, _, _, _, _, rfl, h4.gone1, .inr ⟨h1, rfl, h3, bs, h2, own_rdI h4⟩⟩
theorem rd_le65 {g : GramT} {h : Hp} {bs : List Bool} {o : Option Addr} {n : Nat} (hT : g.T ≤ 65) (hl : bs.length = g.T) (r : rdS h (mbI bs) o n) : n ≤ 65 := by
  have h1 := r.1
  have h2 := cntB_le bs
  rw [mbI_len] at h1
  omega
set_option maxHeartbeats 2000000 in
theorem l_FirstProds (hg : gR (hp w) g x) (hb : okG g) (ht : tabA (hp w)) : Run Tryd.prog n_presagelaw07_FirstProds [.agg ⟨x.cells⟩] w fun v w' => v = .bool true ∧ Gr w w' := by
  refine run_presagelaw07_FirstProds _ _ _ _ _ _ _ _ _ _ _ _ _ w _ ?_
  refine gbox hg fun k1 w1 gw hg B => ?_
  have tl : g.T = x.tl := hg.t.1
  have nl : g.N = x.nl := hg.n.1
  have pl := hg.p.1
  refine (l_awake7 (rdV.mono gw ht)).mono ?_
  rintro _ w2 ⟨rfl, g2⟩
  refine ⟨_, rfl, _, _, _, _, _, _, _, _, _, _, _, _, _, B.row g2, (f_Sets1 (x := x) (hg.mono g2) hb (rdV.mono (gw.trans g2) ht)).mono ?_⟩
  rintro _ w3 ⟨o3, n3, c3, e3, rfl, g3, q3⟩
  have s3 : Gr w1 w3 := g2.trans g3
  refine ⟨_, _, _, _, rfl, _, _, _, _, _, _, _, _, _, _, _, _, _, B.row s3, (f_Nullable1 (x := x) (hg.mono s3) hb (rdV.mono (gw.trans s3) ht)).mono ?_⟩
  rintro _ w4 ⟨o4, n4, c4, e4, rfl, g4, q4⟩
  have s4 : Gr w1 w4 := s3.trans g4
  refine ⟨_, _, _, _, rfl, _, _, _, _, _, _, _, _, _, _, _, _, _, B.row s4, (d_Valid (x := x) (hg.mono s4) hb).mono ?_⟩
  rintro _ w5 ⟨⟨r1, rfl, e1⟩, g5⟩
  have s5 : Gr w1 w5 := s4.trans g5
  refine ⟨_, rfl, _, _, _, _, _, _, _, _, _, _, _, _, _, B.row s5, (d_Closed (x := x) (hg.mono s5) hb).mono ?_⟩
  rintro _ w6 ⟨⟨r2, rfl, e2⟩, g6⟩
  have s6 : Gr w1 w6 := s5.trans g6
  refine ⟨_, rfl, fun w' => w' = w6 ∧ EitherP g, br_intro (fun h1 => br_intro (fun h2 => ?_) fun h2 => ⟨rfl, .inr (e2.1 (by simpa using h2))⟩) fun h1 => ⟨rfl, .inl (e1.1 (by simpa using h1))⟩, ?_⟩
  · have hn : ¬ EitherP g := by
      rintro (h | h)
      · rw [e1.2 h] at h1; cases h1
      · rw [e2.2 h] at h2; cases h2
    rcases q3 with ⟨_, rfl, rfl⟩ | ⟨h, _⟩
    · rcases q4 with ⟨_, rfl, rfl⟩ | ⟨h, _⟩
      · exact br_intro (fun _ => br_intro (fun _ => br_intro (fun _ => br_intro (fun _ => ⟨rfl, gw.trans s6⟩) fun h => absurd h (by decide)) fun h => absurd h (by decide)) fun h => absurd h (by decide)) fun h => absurd h (by decide)
      · exact absurd h hn
    · exact absurd h hn
  rintro _ w7 ⟨rfl, he⟩
  rcases q3 with ⟨hn, _⟩ | ⟨_, rfl, rfl, bss, hss, rs⟩
  · exact absurd he hn
  rcases q4 with ⟨hn, _⟩ | ⟨_, rfl, rfl, nn, hnn, rn⟩
  · exact absurd he hn
  obtain ⟨iG, bT, bN, pN, pT, bP⟩ := inG he
  refine ⟨fun b w' => b = false ∧ w' = w7, br_intro (fun h => absurd h (by decide)) fun _ => br_intro (fun h => absurd h (by decide)) fun _ => ⟨_, _, _, B.c1 s6, br_intro (fun h => ?_) fun _ => ⟨_, _, _, B.c1 s6, ?_, rfl⟩⟩, ?_⟩
  · simp at h; omega
  · simp; omega
  rintro _ _ w8 ⟨rfl, rfl⟩
  refine br_intro (fun h => absurd h (by decide)) fun _ => ?_
  refine ⟨fun n w' => ∃ j : Nat, n = j ∧ j ≤ g.N ∧ Gr w8 w', fun n _ => g.N - n.toNat, ⟨0, rfl, by omega, Gr.refl _⟩, ?_⟩
  rintro _ n w9 ⟨j, rfl, hj, g9⟩
  refine ⟨_, _, _, B.c1 (s6.trans g9), br_intro (fun h1 => ?_) fun h1 => ⟨rfl, gw.trans (s6.trans g9)⟩⟩
  have h1 : j < g.N := by have := of_decide_eq_true h1; omega
  refine ⟨fun o l c b n w' => ∃ (m : Nat) (ws : List Bool), n = m ∧ m ≤ g.prods.length ∧ ws.length = g.T ∧ (∀ t, fnB ws t = true ↔ ∃ p ∈ g.prods.take m, p.left = ((g.T + j : Nat) : Int) ∧ FstR g p.right t) ∧ (b = true ↔ ∃ p ∈ g.prods.take m, p.left = ((g.T + j : Nat) : Int) ∧ NulR g p.right) ∧ rdS (hp w') (mbI ws) o l ∧ Gr w8 w', fun _ _ _ _ n _ => g.prods.length - n.toNat, ⟨0, List.replicate g.T false, rfl, by omega, by simp, fun t => by rw [fnB_rep]; simp, by simp, by rw [mbI_rep]; exact rdS.nil, g9⟩, ?_⟩
  rintro _ o l c b n w10 ⟨m, ws, rfl, hm, hws, hwf, hb5, hrd, g10⟩
  have s10 : Gr w1 w10 := s6.trans g10
  refine ⟨_, _, _, B.c4 s10, br_intro (fun h2 => ?_) fun h2 => ?_⟩
  · have h2 : m < g.prods.length := by have := of_decide_eq_true h2; omega
    obtain ⟨p, ad, vs, hp1, hpa, hp2, ra, rl, rc, rfl, hrc, hp3⟩ := hg.p.get (i := m) (by omega)
    have hpm := List.mem_of_getElem? hp1
    obtain ⟨b1', b2', b3', b4', b5', b6', b7⟩ := id hb
    have b7' := b7 p hpm
    have rl1 := hp3.1
    intro w11 hd
    have g11 : Gr w10 w11 := Gr.drawn hd
    have s11 : Gr w1 w11 := s10.trans g11
    refine ⟨fun w' => Gr w11 w', Gr.refl _, _, _, _, fun w s => B.c4 (s11.trans s), idx_n hpa (by omega) ⟨p.left, fun w s => hp2.cell0 (sub.trans s11 s), _, _, _, fun w s => B.c0 (s11.trans s), ⟨by omega, by omega⟩, br_intro (fun h3 => ?_) fun h3 => ?_⟩⟩
    · have h3 : p.left ≠ ((g.T + j : Nat) : Int) := by simp at h3; omega
      refine ⟨⟨by omega, by omega⟩, ⟨m + 1, ws, by simp, by omega, hws, fun t => ?_, ?_, hrd.mono g11, g10.trans g11⟩, msr h2⟩
      · rw [ex_take hp1, hwf]
        exact ⟨.inl, fun h => h.resolve_right fun h => h3 h.1⟩
      · rw [ex_take hp1, hb5]
        exact ⟨.inl, fun h => h.resolve_right fun h => h3 h.1⟩
    have h3 : p.left = ((g.T + j : Nat) : Int) := by simp at h3; omega
    intro w15 hd2
    have g15 : Gr w11 w15 := Gr.drawn hd2
    have s15 : Gr w1 w15 := s11.trans g15
    refine ⟨fun w' => Gr w15 w', Gr.refl _, _, _, _, _, _, _, _, _, _, _, _, _, _, fun w s => B.row (s15.trans s), _, _, _, fun w s => B.c4 (s15.trans s), idx_n hpa (by omega) ⟨_, _, _, fun w s => hp2.cell (sub.trans s15 s) (j := 1) rfl, (f_Row1 (x := x) (hg.mono s15) hb (rdV.mono (gw.trans s15) ht) (hp3.mono s15) (by omega)).mono ?_⟩⟩
    rintro _ w19 ⟨o9, n9, c9, b9, e9, rfl, g19, q9⟩
    rcases q9 with ⟨hn, _⟩ | ⟨_, rfl, hb9, bs, hbs, rb⟩
    · exact absurd ⟨he, (iG p hpm).2⟩ hn
    refine ⟨_, _, _, _, _, rfl, g19, br_intro (fun h => absurd h (by decide)) fun _ => ?_⟩
    have l5 := rd_le65 bT hws hrd
    have l9 := rd_le65 bT hbs.1 rb
    refine (l_both (((hrd.mono g11).mono g15).mono g19) rb (by omega) (by omega)).mono ?_
    rintro _ w20 ⟨o20, c20, rfl, h20⟩
    have g20 : Gr w19 w20 := h20.gone1
    have r20 := own_rdI h20
    rw [both_or bT hws hbs.1] at r20 
    have gall : Gr w8 w20 := (g10.trans (g11.trans g15)).trans (g19.trans g20)
    have hst : ∀ b6 : Bool, (b6 = true ↔ b = true ∨ b9 = true) → inI ((m : Int) + 1) ∧ (∃ (m' : Nat) (ws' : List Bool), (m : Int) + 1 = m' ∧ m' ≤ g.prods.length ∧ ws'.length = g.T ∧ (∀ t, fnB ws' t = true ↔ ∃ p ∈ g.prods.take m', p.left = ((g.T + j : Nat) : Int) ∧ FstR g p.right t) ∧ (b6 = true ↔ ∃ p ∈ g.prods.take m', p.left = ((g.T + j : Nat) : Int) ∧ NulR g p.right) ∧ rdS (hp w20) (mbI ws') o20 (bothL (mbI ws) (mbI bs) 65).length ∧ Gr w8 w20) ∧ g.prods.length - ((m : Int) + 1).toNat < g.prods.length - (m : Int).toNat := fun b6 h6 => by
      refine ⟨⟨by omega, by omega⟩, ⟨m + 1, orB g.T ws bs, by simp, by omega, orB_len _ _ _, fun t => ?_, ?_, ?_, gall⟩, msr h2⟩
      · rw [ex_take hp1, fnB_or hws hbs.1, hwf, hbs.2]
        exact or_congr Iff.rfl ⟨fun h => ⟨h3, h⟩, fun h => h.2⟩
      · rw [ex_take hp1, h6, hb5, hb9]
        exact or_congr Iff.rfl ⟨fun h => ⟨h3, h⟩, fun h => h.2⟩
      · rw [both_or bT hws hbs.1]; exact r20
    refine ⟨_, _, _, rfl, br_intro (fun h4 => hst true (by simp [h4])) fun h4 => hst b9 (by simp [h4])⟩
  · have h2 : m = g.prods.length := by have := of_decide_eq_false h2; omega
    subst h2
    rw [List.take_length] at hb5
    simp only [List.take_length] at hwf
    have hsl : bss.length = g.N := hss.1
    obtain ⟨bs, hbs⟩ : ∃ bs, bss[j]? = some bs := ⟨bss[j]'(by omega), List.getElem?_eq_getElem _⟩
    obtain ⟨q1, q2⟩ := hss.2 j bs hbs
    have ew : bs = ws := fnB_inj (q1.trans hws.symm) fun t => by rw [Bool.eq_iff_iff, q2, hwf, Fst_non]
    obtain ⟨ys, ad, vs, hy, hya, hy2, ra, rl, rc, rfl, hrc, hy3⟩ := rs.get h1
    rw [List.getElem?_map, hbs] at hy
    cases hy
    rw [ew] at hy3
    have g36 : Gr w3 w10 := g4.trans (g5.trans (g6.trans g10))
    have g46 : Gr w4 w10 := g5.trans (g6.trans g10)
    refine idx_n hya h1 ⟨_, _, _, hy2.cell0 g36, (r_Ints (hy3.mono g36) hrd (by have := rd_le65 bT hws hy3; omega)).mono ?_⟩
    rintro _ w21 ⟨rfl, e21⟩
    have g21 : Gr w10 w21 := Gr.of_eq e21
    refine ⟨_, rfl, br_intro (fun h => by simp at h) fun _ => ?_⟩
    obtain ⟨b', ad', hb1, hba, hb2⟩ := rn.get1 h1
    refine idx_i hba h1 ⟨b', hb2 _ (g46.trans g21), br_intro (fun h => ?_) fun _ => ⟨⟨by omega, by omega⟩, ⟨j + 1, by simp, by omega, g10.trans g21⟩, msr h1⟩⟩
    have : b = b' := by
      rw [Bool.eq_iff_iff, hb5, ← Nul_non, ← hnn.2, fnB_get hb1]
    subst this
    cases b <;> cases h
end
end Go.Proofs.YtaheggomcnbbiaaDoor
/- What rows begin with (14): each terminal of a set comes by some row of steps. -/
set_option linter.unusedVariables false
namespace Go.V
/- a slice without its first -/
theorem own_tail {w : World} {L : List Asn} {a : Option Addr} {l c : Nat} {v : Value} {vs : List Value} (h : St w (own 1 a (l + 1) c (v :: vs) :: L)) : St w (own 1 (slP a 1 c 1) l (c - 1) vs :: L) := by
  refine h.head fun h' ha => ?_
  rcases ha with ⟨_, _, _, e⟩ | ⟨b, pre, cs, post, rfl, hc, h1, h2, h3⟩
  · cases e
  · simp only [List.length_cons, List.length_append, Nat.mul_one, List.cons_append] at h1 h2
    by_cases h4 : c = 1
    · subst h4
      have e1 : vs = [] := List.eq_nil_of_length_eq_zero (by omega)
      have e2 : cs = [] := List.eq_nil_of_length_eq_zero (by omega)
      have e3 : l = 0 := by omega
      subst e1; subst e2; subst e3
      refine .inr ⟨b, pre, [], v :: post, by unfold slP; rw [if_pos rfl], by simpa using hc, rfl, rfl, by omega⟩
    · refine .inr ⟨b, pre ++ [v], cs, post, ?_, by simpa using hc, by omega, by simp; omega, by omega⟩
      unfold slP
      rw [if_neg h4, Option.map_some, mulS_eq, Nat.one_mul, add_lit]
      simp
/- a step from a symbol to another one -/
def Hop (g : GramT) (s y : Int) : Prop := ∃ p ∈ g.prods, p.left = s ∧ ∃ n : Nat, p.right[n]? = some y ∧ ∀ x ∈ p.right.take n, Nul g x
theorem Fst.hop {g : GramT} {s0 : Int} {ms : List Bool} (h0 : (g.T : Int) ≤ s0) (iG : InG g) (hc : ∀ s y, (s = s0 ∨ (0 ≤ s ∧ fnB ms s.toNat = true)) → Hop g s y → fnB ms y.toNat = true) {s : Int} {t : Nat} (h : Fst g s t) : (s = s0 ∨ (0 ≤ s ∧ fnB ms s.toNat = true)) → fnB ms t = true := by
  induction h with
  | tm t ht =>
    rintro (h | ⟨_, h⟩)
    · omega
    · simpa using h
  | pr p i s' t hp h1 h2 h3 ih =>
    intro hR
    exact ih (.inr ⟨((iG p hp).2 s' (List.mem_of_getElem? h1)).1, hc _ _ hR ⟨p, hp, rfl, i, h1, h2⟩⟩)
structure Srch (g : GramT) (s0 : Int) (ms : List Bool) (xs : List Int) (D : Int → Prop) : Prop where
  ln : ms.length = g.T + g.N
  rg : ∀ y ∈ xs, 0 ≤ y ∧ y < (g.T : Int) + g.N
  cl : ∀ s, (s = s0 ∨ (0 ≤ s ∧ fnB ms s.toNat = true)) → s ∈ xs ∨ D s ∨ ∀ y, Hop g s y → fnB ms y.toNat = true
theorem Srch.pop {g : GramT} {s0 : Int} {ms : List Bool} {xs : List Int} {s1 : Int} (h : Srch g s0 ms (s1 :: xs) fun _ => False) : Srch g s0 ms xs (· = s1) :=
  ⟨h.ln, fun y hy => h.rg y (List.mem_cons_of_mem _ hy), fun s hs => by
    rcases h.cl s hs with h | h | h
    · rcases List.mem_cons.1 h with h | h
      · exact .inr (.inl h)
      · exact .inl h
    · exact absurd h id
    · exact .inr (.inr h)⟩
theorem Srch.push {g : GramT} {s0 : Int} {ms : List Bool} {xs : List Int} {D : Int → Prop} {y : Int} (h : Srch g s0 ms xs D) (hy : 0 ≤ y ∧ y < (g.T : Int) + g.N) : Srch g s0 (ms.set y.toNat true) (xs ++ [y]) D := by
  have hk : y.toNat < ms.length := by rw [h.ln]; omega
  refine ⟨by rw [List.length_set]; exact h.ln, fun z hz => ?_, fun s hs => ?_⟩
  · rcases List.mem_append.1 hz with hz | hz
    · exact h.rg z hz
    · simp at hz; subst hz; exact hy
  · have mono : ∀ k, fnB ms k = true → fnB (ms.set y.toNat true) k = true := fun k hk' => by rw [fnB_setT hk, hk']; rfl
    by_cases e : s = y
    · exact .inl (by simp [e])
    · have : s = s0 ∨ (0 ≤ s ∧ fnB ms s.toNat = true) := by
        rcases hs with hs | ⟨h1, h2⟩
        · exact .inl hs
        · rw [fnB_setT hk, Bool.or_eq_true, beq_iff_eq] at h2
          rcases h2 with h2 | h2
          · exact .inr ⟨h1, h2⟩
          · omega
      rcases h.cl s this with h | h | h
      · exact .inl (List.mem_append.2 (.inl h))
      · exact .inr (.inl h)
      · exact .inr (.inr fun z hz => mono _ (h z hz))
theorem Srch.done {g : GramT} {s0 : Int} {ms : List Bool} {xs : List Int} {s1 : Int} (h : Srch g s0 ms xs (· = s1)) (hd : ∀ y, Hop g s1 y → fnB ms y.toNat = true) : Srch g s0 ms xs fun _ => False :=
  ⟨h.ln, h.rg, fun s hs => by
    rcases h.cl s hs with h | rfl | h
    · exact .inl h
    · exact .inr (.inr hd)
    · exact .inr (.inr h)⟩
/- the steps by the productions so far -/
def Dn (g : GramT) (ms : List Bool) (s : Int) (ps : List ProdT) : Prop := ∀ p ∈ ps, p.left = s → ∀ (n : Nat) y, p.right[n]? = some y → (∀ x ∈ p.right.take n, Nul g x) → fnB ms y.toNat = true
def Di (g : GramT) (ms : List Bool) (s : Int) (p : ProdT) (i : Nat) : Prop := p.left = s → ∀ (n : Nat) y, n < i → p.right[n]? = some y → (∀ x ∈ p.right.take n, Nul g x) → fnB ms y.toNat = true
end Go.V
namespace Go.Proofs.YtaheggomcnbbiaaDoor
open Go.V
section
variable {w : World} {L : List Asn} {g : GramT} {x : GA}
set_option maxHeartbeats 4000000 in
theorem l_FirstLeast (hg : gR (hp w) g x) (hb : okG g) (ht : tabA (hp w)) : Run Tryd.prog n_presagelaw07_FirstLeast [.agg ⟨x.cells⟩] w fun v w' => v = .bool true ∧ Gr w w' := by
  refine run_presagelaw07_FirstLeast _ _ _ _ _ _ _ _ _ _ _ _ _ w _ ?_
  refine gbox hg fun k1 w1 gw hg B => ?_
  have tl : g.T = x.tl := hg.t.1
  have nl : g.N = x.nl := hg.n.1
  have pl := hg.p.1
  refine (l_awake7 (rdV.mono gw ht)).mono ?_
  rintro _ w2 ⟨rfl, g2⟩
  refine ⟨_, rfl, _, _, _, _, _, _, _, _, _, _, _, _, _, B.row g2, (f_Sets1 (x := x) (hg.mono g2) hb (rdV.mono (gw.trans g2) ht)).mono ?_⟩
  rintro _ w3 ⟨o3, n3, c3, e3, rfl, g3, q3⟩
  have s3 : Gr w1 w3 := g2.trans g3
  refine ⟨_, _, _, _, rfl, _, _, _, _, _, _, _, _, _, _, _, _, _, B.row s3, (f_Nullable1 (x := x) (hg.mono s3) hb (rdV.mono (gw.trans s3) ht)).mono ?_⟩
  rintro _ w4 ⟨o4, n4, c4, e4, rfl, g4, q4⟩
  have s4 : Gr w1 w4 := s3.trans g4
  refine ⟨_, _, _, _, rfl, fun b w' => w' = w4 ∧ (b = true ↔ ¬ EitherP g), ?_, ?_⟩
  · rcases q3 with ⟨hn, rfl, _⟩ | ⟨he, rfl, rfl, _⟩
    · exact br_intro (fun _ => ⟨rfl, by simp [hn]⟩) fun h => absurd h (by decide)
    · rcases q4 with ⟨hn, _⟩ | ⟨_, rfl, rfl, _⟩
      · exact absurd he hn
      refine br_intro (fun h => absurd h (by decide)) fun _ => br_intro (fun h => absurd h (by decide)) fun _ => ⟨_, _, _, B.c1 s4, br_intro (fun h => ?_) fun _ => ⟨_, _, _, B.c1 s4, rfl, ?_⟩⟩
      · simp at h; omega
      · simp [he]; omega
  rintro _ b w5 ⟨rfl, hbe⟩
  refine br_intro (fun h1 => ?_) fun h1 => ?_
  · have hn := hbe.1 h1
    rcases q3 with ⟨_, rfl, _⟩ | ⟨h, _⟩
    · rcases q4 with ⟨_, rfl, _⟩ | ⟨h, _⟩
      · exact br_intro (fun _ => br_intro (fun _ => ⟨rfl, gw.trans s4⟩) fun h => absurd h (by decide)) fun h => absurd h (by decide)
      · exact absurd h hn
    · exact absurd h hn
  have he : EitherP g := Classical.byContradiction fun hn => by rw [hbe.2 hn] at h1; cases h1
  rcases q3 with ⟨hn, _⟩ | ⟨_, rfl, rfl, bss, hss, rs⟩
  · exact absurd he hn
  rcases q4 with ⟨hn, _⟩ | ⟨_, rfl, rfl, nn, hnn, rn⟩
  · exact absurd he hn
  obtain ⟨iG, bT, bN, pN, pT, bP⟩ := inG he
  refine ⟨fun n w' => ∃ j : Nat, n = j ∧ j ≤ g.N ∧ Gr w5 w', fun n _ => g.N - n.toNat, ⟨0, rfl, by omega, Gr.refl _⟩, ?_⟩
  rintro _ n w6 ⟨j, rfl, hj, g6⟩
  refine ⟨_, _, _, B.c1 (s4.trans g6), br_intro (fun h1 => ?_) fun h1 => ⟨rfl, gw.trans (s4.trans g6)⟩⟩
  have h1 : j < g.N := by have := of_decide_eq_true h1; omega
  refine ⟨_, _, _, _, _, _, _, _, _, _, _, _, _, B.row (s4.trans g6), (d_Symbols (x := x) (hg.mono (s4.trans g6)) hb).mono ?_⟩
  rintro _ w7 ⟨rfl, g7⟩
  have s7 : Gr w1 w7 := s4.trans (g6.trans g7)
  have eN : (g.T : Int) + (g.N : Int) = ((g.T + g.N : Nat) : Int) := by omega
  rw [eN]
  refine ⟨_, rfl, ⟨by omega, rfl, by omega⟩, ?_⟩
  rw [Int.toNat_natCast, reps_one]
  have h7 := St.all w7
  unfold V.all at h7
  have s57 : sub (hp w5) (hp w7) := g6.trans g7
  have s47 : sub (hp w3) (hp w7) := g4.trans s57
  have s7 : sub (hp w1) (hp w7) := s7
  generalize hH : hp w7 = H at *
  refine newC_i h7 fun k36 w8 h8 => ⟨_, _, _, B.c0 (sub.trans s7 (rdH 1 h8.l)), ⟨by omega, by omega⟩, newC_i h8 fun k39 w9 h9 => ?_⟩
  have ei : (x.tl : Int) + (j : Int) = ((g.T + j : Nat) : Int) := by rw [tl]; omega
  rw [ei] at h9
  have s0ge : (g.T : Int) ≤ ((g.T + j : Nat) : Int) := by omega
  have s0lt : ((g.T + j : Nat) : Int) < (g.T : Int) + g.N := by omega
  generalize hs0 : ((g.T + j : Nat) : Int) = s0 at *
  have bvr : List.replicate (g.T + g.N) (Value.bool false) = bv (List.replicate (g.T + g.N) false) := by simp [bv]
  rw [bvr] at h9
  have h9 : St w9 [cel k36 (bv (List.replicate (g.T + g.N) false)), own 1 (some ⟨k39, 0, none⟩) 1 1 (iv [s0]), has H] := (own_some (cs := []) (vs := iv [s0]) h9 rfl rfl (by omega)).swap
  obtain ⟨Q, hQ⟩ := name_it (fun (o : Option Addr) (l c : Nat) (w : World) (m : Nat) => ∃ (ms : List Bool) (xs : List Int), xs.length = l ∧ Srch g s0 ms xs (fun _ => False) ∧ m = 2 * opn ms + xs.length ∧ m ≤ 2 * (g.T + g.N) + 1 ∧ St w [cel k36 (bv ms), own 1 o l c (iv xs), has H])
  obtain ⟨μ, mu1, mu2⟩ := least_fn (fun (y : Option Addr × Nat × Nat × World) m => Q y.1 y.2.1 y.2.2.1 y.2.2.2 m)
  refine ⟨fun o l c w' => ∃ m, Q o l c w' m, fun o l c w' => μ (o, l, c, w'), ⟨_, by
    rw [hQ]
    refine ⟨List.replicate (g.T + g.N) false, [s0], rfl, ⟨by simp, fun y hy => ?_, fun s hs => ?_⟩, rfl, by unfold opn; simp; omega, h9⟩
    · simp at hy; subst hy; omega
    · rcases hs with rfl | ⟨_, h⟩
      · exact .inl (by simp)
      · rw [fnB_rep] at h; cases h⟩, ?_⟩
  clear h9 h8 h7
  intro _ o l c w10 hP
  have hP := mu2 (o, l, c, w10) hP
  dsimp only at hP
  generalize hμ : μ (o, l, c, w10) = μ0 at *
  rw [hQ] at hP
  obtain ⟨ms0, xs0, hl0, sr0, hmu, hm0, h⟩ := hP
  have hle := own_le h.swap
  refine br_intro (fun hpos => ?_) fun hpos => ?_
  · have hpos : 0 < l := by have := of_decide_eq_true hpos; omega
    obtain ⟨s1, xs1, rfl⟩ : ∃ s1 xs1, xs0 = s1 :: xs1 := by
      match xs0, hl0 with
      | [], h => simp at h; omega
      | s1 :: xs1, _ => exact ⟨s1, xs1, rfl⟩
    obtain ⟨l1, rfl⟩ : ∃ l1, l = l1 + 1 := ⟨l - 1, by omega⟩
    have hl1 : xs1.length = l1 := by simpa using hl0
    have rx : rdS (hp w10) (s1 :: xs1) o (l1 + 1) := own_rdI h.swap
    have h : St w10 [cel k36 (bv ms0), own 1 (slP o 1 c 1) l1 (c - 1) (iv xs1), has H] := (own_tail (v := .int .i64 s1) (vs := iv xs1) h.swap).swap
    obtain ⟨y, ad, hy, hya, hy2⟩ := rx.get1 (i := 0) (by omega)
    cases hy
    have r1 := sr0.rg s1 (by simp)
    refine idx_0 hya (by omega) ⟨s1, hy2 _ (sub.refl _), slc_from (lo := 1) (by omega) hle ⟨_, _, _, B.c0 (sub.trans s7 (rdH 2 h.l)), br_intro (fun h2 => ?_) fun h2 => ?_⟩⟩
    · have h2 := of_decide_eq_true h2
      have key : Q (slP o 1 c 1) l1 (c - 1) w10 (2 * opn ms0 + xs1.length) := by
        rw [hQ]
        refine ⟨ms0, xs1, hl1, sr0.pop.done fun y => ?_, rfl, by simp at hmu; omega, h⟩
        rintro ⟨p, hp, e, _⟩
        have := (iG p hp).1.1
        omega
      refine ⟨⟨_, key⟩, ?_⟩
      have := mu1 (slP o 1 c 1, l1, c - 1, w10) _ key
      dsimp only
      rw [hμ]
      simp at hmu
      have this : μ (slP o 1 c 1, l1 + 1 - 1, c - 1, w10) ≤ _ := this
      omega
    have h2 := of_decide_eq_false h2
    refine ⟨fun o l c n w' => ∃ (m : Nat) (ms : List Bool) (xs : List Int), n = m ∧ m ≤ g.prods.length ∧ xs.length = l ∧ Srch g s0 ms xs (· = s1) ∧ Dn g ms s1 (g.prods.take m) ∧ 2 * opn ms + xs.length < μ0 ∧ St w' [cel k36 (bv ms), own 1 o l c (iv xs), has H], fun _ _ _ n _ => g.prods.length - n.toNat, ⟨0, ms0, xs1, rfl, by omega, hl1, sr0.pop, fun p hp => by simp at hp, by simp at hmu; omega, h⟩, ?_⟩
    clear h
    rintro _ o2 l2 c2 n2 w11 ⟨m, ms, xs, rfl, hm, hl, sr, hdn, hlt, h⟩
    have sH : ∀ {w : World}, sub H (hp w) → sub (hp w1) (hp w) := fun s => sub.trans s7 s
    refine ⟨_, _, _, B.c4 (sH (rdH 2 h.l)), br_intro (fun h3 => ?_) fun h3 => ?_⟩
    rotate_left
    · have h3 : m = g.prods.length := by have := of_decide_eq_false h3; omega
      subst h3
      rw [List.take_length] at hdn
      have key : Q o2 l2 c2 w11 (2 * opn ms + xs.length) := by
        rw [hQ]
        exact ⟨ms, xs, hl, sr.done fun y ⟨p, hp, e, n, hn, hx⟩ => hdn p hp e n y hn hx, rfl, by omega, h⟩
      refine ⟨⟨_, key⟩, ?_⟩
      have := mu1 (o2, l2, c2, w11) _ key
      dsimp only
      rw [hμ]
      omega
    have h3 : m < g.prods.length := by have := of_decide_eq_true h3; omega
    obtain ⟨p, ad, vs, hp1, hpa, hp2, ra, rl, rc, rfl, hrc, hp3⟩ := hg.p.get (i := m) (by omega)
    have hpm := List.mem_of_getElem? hp1
    have b7' := hb.2.2.2.2.2.2 p hpm
    have rl1 := hp3.1
    have et : g.prods.take (m + 1) = g.prods.take m ++ [p] := by rw [List.take_add_one, hp1]; rfl
    refine ⟨_, _, _, B.c4 (sH (rdH 2 h.l)), idx_n hpa (by omega) ⟨_, _, _, hp2.cell (sH (rdH 2 h.l)) (j := 1) rfl, _, _, _, B.c4 (sH (rdH 2 h.l)), idx_n hpa (by omega) ⟨_, hp2.cell0 (sH (rdH 2 h.l)), ?_⟩⟩⟩
    refine ⟨fun o l c b n w' => ∃ (i : Nat) (ms : List Bool) (xs : List Int), n = i ∧ i ≤ rl ∧ xs.length = l ∧ Srch g s0 ms xs (· = s1) ∧ Dn g ms s1 (g.prods.take m) ∧ Di g ms s1 p i ∧ (b = true ↔ p.left = s1 ∧ ∀ x ∈ p.right.take i, Nul g x) ∧ 2 * opn ms + xs.length < μ0 ∧ St w' [cel k36 (bv ms), own 1 o l c (iv xs), has H], fun _ _ _ _ n _ => rl - n.toNat, ⟨0, ms, xs, rfl, by omega, hl, sr, hdn, fun _ n y hn => by omega, by simp, hlt, h⟩, ?_⟩
    clear h hlt hdn sr hl ms xs
    rintro _ o3' l3 c3' b3 n3' w12 ⟨i, ms, xs, rfl, hi, hl, sr, hdn, hdi, hb3, hlt, h⟩
    have ex : (∀ (n : Nat) y, p.left = s1 → i ≤ n → p.right[n]? = some y → (∀ x ∈ p.right.take n, Nul g x) → fnB ms y.toNat = true) → inI ((m : Int) + 1) ∧ (∃ (m' : Nat) (ms : List Bool) (xs : List Int), (m : Int) + 1 = m' ∧ m' ≤ g.prods.length ∧ xs.length = l3 ∧ Srch g s0 ms xs (· = s1) ∧ Dn g ms s1 (g.prods.take m') ∧ 2 * opn ms + xs.length < μ0 ∧ St w12 [cel k36 (bv ms), own 1 o3' l3 c3' (iv xs), has H]) ∧ g.prods.length - ((m : Int) + 1).toNat < g.prods.length - (m : Int).toNat := fun hr => by
      refine ⟨⟨by omega, by omega⟩, ⟨m + 1, ms, xs, by simp, by omega, hl, sr, fun q hq e n y hn hx => ?_, hlt, h⟩, msr h3⟩
      rw [et] at hq
      rcases List.mem_append.1 hq with hq | hq
      · exact hdn q hq e n y hn hx
      · simp at hq; subst hq
        by_cases hni : n < i
        · exact hdi e n y hni hn hx
        · exact hr n y e (by omega) hn hx
    refine br_intro (fun h4 => br_intro (fun h5 => ?_) fun h5 => ex fun n y e hn hy hx => ?_) fun h4 => ex fun n y e hn hy hx => ?_
    rotate_left
    · have : b3 = true := hb3.2 ⟨e, fun x hx' => hx x ?_⟩
      · rw [h5] at this; cases this
      · have e1 : p.right.take i = (p.right.take n).take i := by rw [List.take_take, Nat.min_eq_left hn]
        rw [e1] at hx'; exact List.mem_of_mem_take hx'
    · have h4 : i = rl := by have := of_decide_eq_false h4; omega
      have := (List.getElem?_eq_some_iff.1 hy).1
      omega
    clear ex
    have h4 : i < rl := by have := of_decide_eq_true h4; omega
    obtain ⟨e1, hnu⟩ := hb3.1 h5
    obtain ⟨y, ad2, hy1, hya2, hy3⟩ := hp3.get1 h4
    have yr := (iG p hpm).2 y (List.mem_of_getElem? hy1)
    obtain ⟨u, rfl⟩ : ∃ u : Nat, y = u := ⟨y.toNat, by omega⟩
    have hu : u < g.T + g.N := by omega
    have hum : u < ms.length := by rw [sr.ln]; exact hu
    have ry : ∀ {w : World}, sub H (hp w) → w.cell? (ad2.add i) = some (.int .i64 (u : Int)) := fun s => hy3 _ (sH s)
    have et2 : p.right.take (i + 1) = p.right.take i ++ [(u : Int)] := by rw [List.take_add_one, hy1]; rfl
    have cu : ∀ {w : World} {ms : List Bool}, rowH (hp w) ⟨k36, 0, none⟩ (bv ms) → u < ms.length → w.cell? ((⟨k36, 0, none⟩ : Addr).add u) = some (.bool (fnB ms u)) := fun {w ms} r hu => r.cell (sub.refl _) (j := u) (by
      unfold bv; rw [List.getElem?_map, List.getElem?_eq_getElem hu, fnB_get (List.getElem?_eq_getElem hu)]; rfl)
    refine ⟨fun o l c w' => ∃ (ms : List Bool) (xs : List Int), xs.length = l ∧ Srch g s0 ms xs (· = s1) ∧ Dn g ms s1 (g.prods.take m) ∧ Di g ms s1 p (i + 1) ∧ 2 * opn ms + xs.length < μ0 ∧ St w' [cel k36 (bv ms), own 1 o l c (iv xs), has H], idx_i hya2 h4 ⟨_, ry (rdH 2 h.l), idx_i rfl hu ⟨_, cu (rdCel 0 h.l) hum, br_intro (fun h6 => ?_) fun h6 => ?_⟩⟩, ?_⟩
    · have h6 : fnB ms u = false := by simpa using h6
      have hop := opn_set hum h6
      refine idx_i hya2 h4 ⟨_, ry (rdH 2 h.l), idx_i rfl hu ?_⟩
      rw [add_lit0]
      refine st1_i h (by rw [bv_len]; exact hum) fun w13 h => ?_
      have ebv : (bv ms).set u (.bool true) = bv (ms.set u true) := by simp [bv, List.map_set]
      rw [ebv] at h
      refine idx_i hya2 h4 ⟨_, ry (rdH 2 h.l), newC_i h fun k58 w14 h => ?_⟩
      refine (app_one tyOk (rfl : kdOfT Ty _ = .slice _) (rfl : kdOfT Ty _ = .slice _) rfl rfl rfl (h.pick 4 [0, 2, 1, 3]) rfl (by simp [oneC]) (by show (_ + 1) * 8 ≤ _; omega) (by omega)).mono ?_
      rintro _ w15 ⟨o', c', rfl, h⟩
      have mono : ∀ k, fnB ms k = true → fnB (ms.set u true) k = true := fun k hk => by rw [fnB_setT hum, hk]; rfl
      refine ⟨_, _, _, rfl, ms.set u true, xs ++ [(u : Int)], by simp [hl], ?_, fun q hq e n y hn hx => mono _ (hdn q hq e n y hn hx), fun e n y hn hy hx => ?_, by simp; omega, ?_⟩
      · have := sr.push yr
        simpa using this
      · by_cases hni : n < i
        · exact mono _ (hdi e n y hni hy hx)
        · have : n = i := by omega
          subst this
          rw [hy1] at hy; cases hy
          rw [fnB_setT hum]; simp
      · have e2 : iv xs ++ [Value.int .i64 (u : Int)] = iv (xs ++ [(u : Int)]) := by simp [iv]
        rw [e2] at h
        exact h.pick 4 [2, 0, 3]
    · have h6 : fnB ms u = true := by simpa using h6
      refine ⟨ms, xs, hl, sr, hdn, fun e n y hn hy hx => ?_, hlt, h⟩
      by_cases hni : n < i
      · exact hdi e n y hni hy hx
      · have : n = i := by omega
        subst this
        rw [hy1] at hy; cases hy
        simpa using h6
    clear h hlt hdi hdn sr hl hum ms xs
    rintro _ o5 l5 c5 w16 ⟨ms, xs, hl, sr, hdn, hdi, hlt, h⟩ w17 hd
    have h := h.drawn hd
    refine ⟨fun w => sub H (hp w), rdH 2 h.l, idx_i hya2 h4 ⟨_, fun w s => ry s, _, _, _, fun w s => B.c0 (sH s), br_intro (fun h6 => ?_) fun h6 => ?_⟩⟩
    · have h6 : g.T ≤ u := by have := of_decide_eq_true h6; omega
      have hun : u - g.T < g.N := by omega
      obtain ⟨b5, ad5, hb1, hba, hb2⟩ := rn.get1 hun
      have eu : (u : Int) - (x.tl : Int) = ((u - g.T : Nat) : Int) := by rw [← tl]; omega
      refine idx_i hya2 h4 ⟨_, fun w s => ry s, _, _, _, fun w s => B.c0 (sH s), ⟨by omega, by omega⟩, ?_⟩
      rw [eu]
      refine idx_i hba hun ⟨b5, fun w s => hb2 _ (sub.trans s57 s), ⟨by omega, by omega⟩, ⟨i + 1, ms, xs, by simp, by omega, hl, sr, hdn, hdi, ?_, hlt, h⟩, msr h4⟩
      rw [et2, ← fnB_get hb1, hnn.2, show ((g.T + (u - g.T) : Nat) : Int) = (u : Int) from by omega]
      constructor
      · intro hN
        refine ⟨e1, fun x hx => ?_⟩
        rcases List.mem_append.1 hx with hx | hx
        · exact hnu x hx
        · simp at hx; subst hx; exact hN
      · exact fun hN => hN.2 _ (by simp)
    · have h6 : u < g.T := by have := of_decide_eq_false h6; omega
      refine ⟨⟨by omega, by omega⟩, ⟨i + 1, ms, xs, by simp, by omega, hl, sr, hdn, hdi, ?_, hlt, h⟩, msr h4⟩
      rw [et2]
      refine ⟨fun h => absurd h (by decide), fun hN => ?_⟩
      have := (hN.2 (u : Int) (by simp)).left iG
      omega
  have hpos : l = 0 := by have := of_decide_eq_false hpos; omega
  subst hpos
  have hx0 : xs0 = [] := List.eq_nil_of_length_eq_zero hl0
  subst hx0
  have hcl : ∀ {t : Nat}, Fst g s0 t → fnB ms0 t = true := fun hf => hf.hop s0ge iG (fun s y hR hH => by
    rcases sr0.cl s hR with h | h | h
    · simp at h
    · exact absurd h id
    · exact h y hH) (.inl rfl)
  have hsl : bss.length = g.N := hss.1
  obtain ⟨bs, hbs⟩ : ∃ bs, bss[j]? = some bs := ⟨bss[j]'(by omega), List.getElem?_eq_getElem _⟩
  obtain ⟨q1, q2⟩ := hss.2 j bs hbs
  obtain ⟨ys, ad, vs, hy, hya, hy2, ra, rl, rc, rfl, hrc, hy3⟩ := rs.get h1
  rw [List.getElem?_map, hbs] at hy
  cases hy
  have l9 := rd_le65 bT q1 hy3
  have sH : sub H (hp w10) := rdH 2 h.l
  have g56 : Gr w5 w10 := sub.trans s57 sH
  have rk : rowH (hp w10) ⟨k36, 0, none⟩ (bv ms0) := rdCel 0 h.l
  have s3' : ∀ {w : World}, sub (hp w10) (hp w) → sub (hp w3) (hp w) := fun s => sub.trans s47 (sub.trans sH s)
  refine ⟨fun n w' => ∃ k : Nat, n = k ∧ k ≤ rl ∧ Gr w10 w', fun n _ => rl - n.toNat, ⟨0, rfl, by omega, Gr.refl _⟩, ?_⟩
  rintro _ n w23 ⟨k, rfl, hk, g23⟩
  refine idx_n hya h1 ⟨_, _, _, hy2.cell0 (s3' g23), br_intro (fun h2 => ?_) fun h2 => ⟨⟨by omega, by omega⟩, ⟨j + 1, by simp, by omega, g56.trans g23⟩, msr h1⟩⟩
  have h2 : k < rl := by have := of_decide_eq_true h2; omega
  intro w24 hd
  have g24 : Gr w10 w24 := g23.trans (Gr.drawn hd)
  obtain ⟨y, ad3, hz1, hza, hz2⟩ := hy3.get1 h2
  obtain ⟨t, ht1, rfl⟩ : ∃ t : Nat, fnB bs t = true ∧ y = t := by
    have hm := List.mem_of_getElem? hz1
    obtain ⟨t, _, e⟩ := List.mem_map.1 hm
    exact ⟨t, mem_mbI_nat.1 (e ▸ hm), e.symm⟩
  have htT := fnB_lt ht1
  have hmt : fnB ms0 t = true := hcl (by have := (q2 t).1 ht1; rwa [hs0] at this)
  have hmtl : t < ms0.length := fnB_lt hmt
  have hml := sr0.ln
  have rd1 : ∀ (w : World), sub (hp w10) (hp w) → w.cell? (ad.add (mulS j 1)) = some (.slice ra rl rc) := fun w s => hy2.cell0 (s3' s)
  have rd2 : ∀ (w : World), sub (hp w10) (hp w) → w.cell? (ad3.add k) = some (.int .i64 (t : Int)) := fun w s => hz2 _ (s3' s)
  refine ⟨fun w' => sub (hp w10) (hp w'), g24, idx_n hya h1 ⟨_, _, _, rd1, idx_i hza h2 ⟨_, rd2, br_intro (fun h => absurd (of_decide_eq_true h) (by omega)) fun _ => idx_n hya h1 ⟨_, _, _, rd1, idx_i hza h2 ⟨_, rd2, _, _, _, fun w s => B.c0 (sub.trans s7 (sub.trans sH s)), br_intro (fun h => absurd (of_decide_eq_true h) (by omega)) fun _ => idx_n hya h1 ⟨_, _, _, rd1, idx_i hza h2 ⟨_, rd2, idx_i rfl (by omega) ⟨true, fun w s => rk.cell s (j := t) ?_, br_intro (fun h => absurd h (by decide)) fun _ => ⟨⟨by omega, by omega⟩, ⟨k + 1, by simp, by omega, g24⟩, msr h2⟩⟩⟩⟩⟩⟩⟩⟩⟩
  unfold bv
  rw [List.getElem?_map, List.getElem?_eq_getElem hmtl]
  rw [fnB_get (List.getElem?_eq_getElem hmtl)] at hmt
  rw [hmt]; rfl
end
end Go.Proofs.YtaheggomcnbbiaaDoor
/- The document's grammars (5): a copy. -/
set_option linter.unusedVariables false
namespace Go.V
theorem name_it0 {α : Sort _} (a : α) : ∃ q, q = a := ⟨a, rfl⟩
theorem rowH_app {h : Hp} {a : Addr} {us vs : List Value} (h1 : rowH h a us) (h2 : rowH h (a.add us.length) vs) : rowH h a (us ++ vs) := fun j v hj => by
  by_cases hl : j < us.length
  · rw [List.getElem?_append_left hl] at hj; exact h1 j v hj
  · rw [List.getElem?_append_right (by omega)] at hj
    have := h2 _ v hj
    rw [add_add, show us.length + (j - us.length) = j from by omega] at this
    exact this
theorem rowH_flat {α : Type} {h : Hp} {n : Nat} {f : α → List Value} (hf : ∀ x, (f x).length = n) : ∀ (ts : List α) (ad : Addr), (∀ (i : Nat) x, ts[i]? = some x → rowH h (ad.add (mulS i n)) (f x)) → rowH h ad (ts.flatMap f)
  | [], ad, _ => fun j v hj => by simp at hj
  | t :: ts, ad, hh => by
    rw [List.flatMap_cons]
    refine rowH_app ?_ ?_
    · have := hh 0 t rfl
      rwa [mulS_eq, Nat.zero_mul, show ad.add 0 = ad from by simp [Addr.add]] at this
    · rw [hf]
      refine rowH_flat hf ts _ fun i x hx => ?_
      have := hh (i + 1) x hx
      rw [add_add, mulS_eq]
      rwa [mulS_eq, Nat.succ_mul, Nat.add_comm] at this
theorem rowH_unflat {α : Type} {h : Hp} {n : Nat} {f : α → List Value} (hf : ∀ x, (f x).length = n) : ∀ (ts : List α) (ad : Addr), rowH h ad (ts.flatMap f) → ∀ (i : Nat) x, ts[i]? = some x → rowH h (ad.add (mulS i n)) (f x)
  | [], ad, _, i, x, hx => by simp at hx
  | t :: ts, ad, hh, i, x, hx => by
    rw [List.flatMap_cons] at hh
    match i, hx with
    | 0, hx =>
      cases hx
      rw [mulS_eq, Nat.zero_mul, show ad.add 0 = ad from by simp [Addr.add]]
      exact hh.take
    | i + 1, hx =>
      have := rowH_unflat hf ts _ hh.drop i x hx
      rw [hf, add_add, mulS_eq] at this
      rwa [mulS_eq, Nat.succ_mul, Nat.add_comm]
def termV (t : TermT) : List Value := [.string t.name, .int .i64 t.level]
def termsV (ts : List TermT) : List Value := ts.flatMap termV
def prodV (p : (Option Addr × Nat) × ProdT) : List Value := [.int .i64 p.2.left, .slice p.1.1 p.2.right.length p.1.2, .int .i64 p.2.level]
def prodsV (os : List (Option Addr × Nat)) (ps : List ProdT) : List Value := (os.zip ps).flatMap prodV
def rightsA (os : List (Option Addr × Nat)) (ps : List ProdT) : List Asn := List.zipWith (fun o p => own 1 o.1 p.right.length o.2 (iv p.right)) os ps
theorem termsV_len (ts : List TermT) : (termsV ts).length = ts.length * 2 := by
  induction ts with
  | nil => rfl
  | cons t ts ih => simp only [termsV, List.flatMap_cons, List.length_append, List.length_cons, termV, List.length_nil] at ih ⊢; omega
theorem rdT_row {h : Hp} {ts : List TermT} {ad : Addr} {l : Nat} (r : rdS h ts (some ad) l) : rowH h ad (termsV ts) :=
  rowH_flat (f := termV) (n := 2) (fun _ => rfl) ts ad fun i x hx => by
    obtain ⟨ad', vs, e, h1, h2⟩ := r.2 i x hx
    cases e
    have h2 : vs = termV x := h2
    rw [← h2]; exact h1
theorem rdT_own {h : Hp} {ts : List TermT} {a : Option Addr} {l c : Nat} (hl : ts.length = l) (r : own 2 a l c (termsV ts) h) : rdS h ts a l := by
  refine ⟨hl, fun i x hx => ?_⟩
  rcases own_rdVh r with e | ⟨ad, rfl, hc⟩
  · have := termsV_len ts
    rw [e] at this
    have h0 := (List.getElem?_eq_some_iff.1 hx).1
    simp at this; omega
  · exact ⟨ad, termV x, rfl, rowH_unflat (f := termV) (n := 2) (fun _ => rfl) ts ad hc i x hx, rfl⟩
theorem prodsV_row {os : List (Option Addr × Nat)} {ps : List ProdT} {h : Hp} {ad : Addr} (hr : rowH h ad (prodsV os ps)) {i : Nat} {o : Option Addr × Nat} {p : ProdT} (ho : os[i]? = some o) (hp : ps[i]? = some p) : rowH h (ad.add (mulS i 3)) [.int .i64 p.left, .slice o.1 p.right.length o.2, .int .i64 p.level] :=
  rowH_unflat (f := prodV) (n := 3) (fun _ => rfl) (os.zip ps) ad hr i (o, p) (by rw [List.getElem?_zip_eq_some]; exact ⟨ho, hp⟩)
theorem prodsV_len {os : List (Option Addr × Nat)} {ps : List ProdT} (h : os.length = ps.length) : (prodsV os ps).length = ps.length * 3 := by
  have : ∀ zs : List ((Option Addr × Nat) × ProdT), (zs.flatMap prodV).length = zs.length * 3 := fun zs => by
    induction zs with
    | nil => rfl
    | cons t ts ih => simp only [List.flatMap_cons, List.length_append, List.length_cons, prodV, List.length_nil] at ih ⊢; omega
  unfold prodsV; rw [this, List.length_zip, h, Nat.min_self]
theorem prodsV_snoc {os : List (Option Addr × Nat)} {ps : List ProdT} (h : os.length = ps.length) (o : Option Addr × Nat) (p : ProdT) : prodsV (os ++ [o]) (ps ++ [p]) = prodsV os ps ++ prodV (o, p) := by
  unfold prodsV; rw [List.zip_append h]; simp
theorem rightsA_snoc {os : List (Option Addr × Nat)} {ps : List ProdT} (h : os.length = ps.length) (o : Option Addr × Nat) (p : ProdT) : rightsA (os ++ [o]) (ps ++ [p]) = rightsA os ps ++ [own 1 o.1 p.right.length o.2 (iv p.right)] := by
  unfold rightsA; rw [List.zipWith_append h]; rfl
/- a grammar in memory of its own -/
def ownG (g : GramT) (x : GA) (os : List (Option Addr × Nat)) : List Asn := [own 3 x.pa g.prods.length x.pc (prodsV os g.prods), sta (rightsA os g.prods), own 2 x.ta g.terms.length x.tc (termsV g.terms), own 1 x.na g.nons.length x.nc (g.nons.map fun s => Value.string s), own 1 x.la g.levels.length x.lc (iv g.levels)]
structure ownX (g : GramT) (x : GA) : Prop where
  t : x.tl = g.terms.length
  n : x.nl = g.nons.length
  l : x.ll = g.levels.length
  s : x.s = g.start
  p : x.pl = g.prods.length
theorem rdRight {L : List Asn} {h : Hp} {os : List (Option Addr × Nat)} {ps : List ProdT} {k : Nat} {o : Option Addr × Nat} {p : ProdT} (i : Nat) (hl : starL L h) (ho : os[k]? = some o) (hp : ps[k]? = some p) (e : nthA L i = sta (rightsA os ps) := by rfl) (hi : Nat.blt i (lenA L) = true := by rfl) : rdS h p.right o.1 p.right.length ∧ p.right.length ≤ o.2 := by
  obtain ⟨h1, s, ha⟩ := starL_nth i (by simpa [lenA_eq] using hi) hl
  rw [e] at ha
  obtain ⟨h2, s2, hb⟩ := starL_in (A := own 1 o.1 p.right.length o.2 (iv p.right)) (List.mem_of_getElem? (i := k) (by unfold rightsA; rw [List.getElem?_zipWith, ho, hp])) ha
  refine ⟨(rdI_of rfl (own_rdVh hb)).mono (s2.trans s), ?_⟩
  rcases hb with ⟨_, h, h', _⟩ | ⟨_, _, _, _, _, _, _, _, h⟩ <;> omega
theorem rdA {L : List Asn} {h : Hp} {A : Asn} (i : Nat) (hl : starL L h) (e : nthA L i = A := by rfl) (hi : Nat.blt i (lenA L) = true := by rfl) : ∃ h1, sub h1 h ∧ A h1 := by
  obtain ⟨h1, s, ha⟩ := starL_nth i (by simpa [lenA_eq] using hi) hl
  exact ⟨h1, s, e ▸ ha⟩
theorem ownH_le' {sz l c : Nat} {a : Option Addr} {vs : List Value} {h : Hp} (ha : own sz a l c vs h) : l ≤ c := by
  rcases ha with ⟨_, rfl, rfl, _⟩ | ⟨_, _, _, _, _, _, _, _, h⟩
  · exact Nat.le_refl _
  · exact h
theorem ownG_gR {g : GramT} {x : GA} {os : List (Option Addr × Nat)} {L : List Asn} {h : Hp} (hx : ownX g x) (ho : os.length = g.prods.length) (hs : starL (ownG g x os ++ L) h) : gR h g x := by
  obtain ⟨h1, s1, a1⟩ := rdA (A := own 3 x.pa g.prods.length x.pc (prodsV os g.prods)) 0 hs
  obtain ⟨h2, s2, a2⟩ := rdA (A := own 2 x.ta g.terms.length x.tc (termsV g.terms)) 2 hs
  obtain ⟨h3, s3, a3⟩ := rdA (A := own 1 x.na g.nons.length x.nc (g.nons.map fun s => Value.string s)) 3 hs
  obtain ⟨h4, s4, a4⟩ := rdA (A := own 1 x.la g.levels.length x.lc (iv g.levels)) 4 hs
  obtain ⟨q1, q2, q3, q4, q5⟩ := hx
  refine ⟨?_, ?_, ?_, q4, ?_, ?_, ?_, ?_, ?_⟩
  · rw [q1]; exact (rdT_own rfl a2).mono s2
  · rw [q2]; exact (rdS_of_row rfl (own_rdVh a3)).mono s3
  · rw [q3]; exact (rdI_of rfl (own_rdVh a4)).mono s4
  · rw [q5]
    refine ⟨rfl, fun i p hp => ?_⟩
    have hi := (List.getElem?_eq_some_iff.1 hp).1
    obtain ⟨o, hoi⟩ : ∃ o, os[i]? = some o := ⟨os[i]'(by omega), List.getElem?_eq_getElem _⟩
    rcases own_rdVh a1 with e | ⟨ad, e, hc⟩
    · have := prodsV_len ho
      rw [e] at this; simp at this; omega
    · obtain ⟨r1, r2⟩ := rdRight (k := i) (o := o) (p := p) 1 hs hoi hp
      exact ⟨ad, _, e, (prodsV_row hc hoi hp).mono s1, o.1, _, o.2, rfl, r2, r1⟩
  · rw [q1]; exact ownH_le' a2
  · rw [q2]; exact ownH_le' a3
  · rw [q3]; exact ownH_le' a4
  · rw [q5]; exact ownH_le' a1
end Go.V
namespace Go.Proofs.YtaheggomcnbbiaaDoor
open Go.V
section
variable {w : World} {L : List Asn} {g : GramT} {x : GA}
set_option maxHeartbeats 4000000 in
theorem d_Copy (hg : gR (hp w) g x) (hb : okG g) (hbT : g.terms.length * 24 ≤ 140737488355328) (hbN : g.nons.length * 16 ≤ 140737488355328) : Run Tryd.prog n_presageref02_Copy [.agg ⟨x.cells⟩] w fun v w' => ∃ (x' : GA) (os : List (Option Addr × Nat)), v = .agg ⟨x'.cells⟩ ∧ ownX g x' ∧ os.length = g.prods.length ∧ St w' (ownG g x' os ++ all w) := by
  refine run_presageref02_Copy _ _ _ _ _ _ _ _ _ _ _ _ _ w _ ?_
  refine gbox hg fun k1 w1 gw hg B => ?_
  have tl := hg.t.1
  have nl := hg.n.1
  have ll := hg.l.1
  have pl := hg.p.1
  have hst := hg.s
  obtain ⟨b1, b2, b3, b4, b5, b6, b7⟩ := hb
  have gs : sub (hp w) (hp w1) := gw
  have h1 := St.all w1
  unfold V.all at h1
  generalize hH : hp w1 = H at *
  refine newC_i h1 fun k2 w2 h => ⟨_, B.c3 (rdH 1 h.l), newC_i h fun k3 w3 h => stR_i h rfl (by intro v hv; simp at hv; rcases hv with rfl | rfl | rfl | rfl | rfl <;> rfl) fun w4 h => ?_⟩
  refine ⟨_, _, _, h.cell 0, _, _, _, B.c0 (rdH 2 h.l), ?_⟩
  refine (app_own' tyOk (rfl : kdOfT Ty _ = .slice _) rfl rfl rfl (own_nil 2 h) (src_slice (news := termsV g.terms) tyOk (rfl : kdOfT Ty _ = .slice _) (n := x.tl) (by rw [termsV_len, tl]) ?_ (by
      intro u hu
      obtain ⟨t, _, ht⟩ := List.mem_flatMap.1 hu
      simp [termV] at ht; rcases ht with rfl | rfl <;> rfl)) (by show (0 + x.tl) * 24 ≤ _; omega) (by omega)).mono ?_
  · by_cases h0 : x.tl = 0
    · exact .inl h0
    · obtain ⟨t, ad, vs, _, ha, _⟩ := hg.t.get (i := 0) (by omega)
      have ht := hg.t
      rw [ha] at ht
      exact .inr ⟨ad, ha, fun j u hj => (rdT_row ht).cell (rdH 2 h.l) hj⟩
  rintro _ w5 ⟨ta, tc, rfl, h⟩
  rw [Nat.zero_add, ← tl] at h ⊢
  rw [List.nil_append] at h
  refine ⟨_, _, _, rfl, st1_i (h.pick 4 [1, 0, 2, 3]) (by simp) fun w6 h => ?_⟩
  refine ⟨_, _, _, h.cell 1, _, _, _, B.c1 (rdH 3 h.l), ?_⟩
  refine (app_own' tyOk (rfl : kdOfT Ty _ = .slice _) rfl rfl rfl (own_nil 1 h) (src_slice (news := g.nons.map fun s => Value.string s) tyOk (rfl : kdOfT Ty _ = .slice _) (n := x.nl) (by rw [List.length_map, nl, Nat.mul_one]) ?_ (by
      intro u hu
      obtain ⟨t, _, rfl⟩ := List.mem_map.1 hu
      rfl)) (by show (0 + x.nl) * 16 ≤ _; omega) (by omega)).mono ?_
  · rcases (hg.n.mono (rdH 3 h.l)).row with h0 | ⟨ad, ha, hc⟩
    · exact .inl (by have := congrArg List.length h0; rw [List.length_map, nl] at this; exact this)
    · exact .inr ⟨ad, ha, fun j u hj => cellH_w (hc j u hj)⟩
  rintro _ w7 ⟨na, nc, rfl, h⟩
  rw [Nat.zero_add, ← nl] at h ⊢
  rw [List.nil_append] at h
  refine ⟨_, _, _, rfl, ?_⟩
  rw [add_lit0]
  refine st1_i (h.pick 5 [1, 0, 2, 3, 4]) (by simp) fun w8 h => ?_
  refine ⟨_, _, _, h.cell 2, _, _, _, B.c2 (rdH 4 h.l), ?_⟩
  refine (app_own' tyOk (rfl : kdOfT Ty _ = .slice _) rfl rfl rfl (own_nil 1 h) (src_slice (news := iv g.levels) tyOk (rfl : kdOfT Ty _ = .slice _) (n := x.ll) (by rw [iv_len, ll, Nat.mul_one]) ?_ (by
      intro u hu
      obtain ⟨t, _, rfl⟩ := List.mem_map.1 hu
      rfl)) (by show (0 + x.ll) * 8 ≤ _; omega) (by omega)).mono ?_
  · rcases (hg.l.mono (rdH 4 h.l)).iv with h0 | ⟨ad, ha, hc⟩
    · exact .inl (by have := congrArg List.length h0; rw [iv_len, ll] at this; exact this)
    · exact .inr ⟨ad, ha, fun j u hj => cellH_w (hc j u hj)⟩
  rintro _ w9 ⟨la, lc, rfl, h⟩
  rw [Nat.zero_add, ← ll] at h ⊢
  rw [List.nil_append] at h
  refine ⟨_, _, _, rfl, ?_⟩
  rw [add_lit0]
  refine st1_i (h.pick 6 [1, 0, 2, 3, 4, 5]) (by simp) fun w10 h => ?_
  obtain ⟨K, hK⟩ := name_it0 (fun (pa : Option Addr) (j pc : Nat) => [Value.slice ta g.terms.length tc, .slice na g.nons.length nc, .slice la g.levels.length lc, .int .i64 x.s, .slice pa j pc])
  refine ⟨fun n w' => ∃ (j : Nat) (pa : Option Addr) (pc : Nat) (os : List (Option Addr × Nat)), n = j ∧ j ≤ g.prods.length ∧ os.length = j ∧ St w' [cel k3 (K pa j pc), own 3 pa j pc (prodsV os (g.prods.take j)), sta (rightsA os (g.prods.take j)), own 1 la g.levels.length lc (iv g.levels), own 1 na g.nons.length nc (g.nons.map fun s => Value.string s), own 2 ta g.terms.length tc (termsV g.terms), cel k2 [.slice none 0 0, .slice none 0 0, .slice none 0 0, .int .i64 0, .slice none 0 0], has H], fun n _ => g.prods.length - n.toNat, ⟨0, none, 0, [], rfl, by omega, rfl, ?_⟩, ?_⟩
  · have h : St w10 (sta (rightsA [] (g.prods.take 0)) :: _) := St.flat.2 (show St w10 ([] ++ _) from own_nil 3 h)
    rw [hK]
    exact h.pick 8 [2, 1, 0, 3, 4, 5, 6, 7]
  clear h
  rintro _ n w11 ⟨j, pa, pc, os, rfl, hj, hos, h⟩
  have hrl : (g.prods.take j).length = j := by rw [List.length_take]; omega
  refine ⟨_, _, _, B.c4 (rdH 7 h.l), br_intro (fun h2 => ?_) fun h2 => ?_⟩
  · have h2 : j < g.prods.length := by have := of_decide_eq_true h2; omega
    obtain ⟨p, ad, vs, hp1, hpa, hp2, ra, rl, rc, rfl, hrc, hp3⟩ := hg.p.get (i := j) (by omega)
    have hpm := List.mem_of_getElem? hp1
    have b7' := b7 p hpm
    have rl1 := hp3.1
    have et : g.prods.take (j + 1) = g.prods.take j ++ [p] := by rw [List.take_add_one, hp1]; rfl
    intro w12 hd
    have h := h.drawn hd
    refine ⟨fun w => sub H (hp w), rdH 7 h.l, _, _, _, fun w s => B.c4 s, idx_n hpa (by omega) ⟨_, fun w s => hp2.cell0 s, _, _, _, fun w s => B.c4 s, idx_n hpa (by omega) ⟨_, fun w s => hp2.cell s (j := 2) rfl, newC_i h fun k28 w17 h => ⟨rdH 8 h.l, stR_i h rfl (by intro v hv; simp at hv; rcases hv with rfl | rfl | rfl <;> rfl) fun w18 h => ?_⟩⟩⟩⟩
    intro w19 hd
    have h := h.drawn hd
    refine ⟨fun w => rowH (hp w) ⟨k28, 0, none⟩ [.int .i64 p.left, .slice none 0 0, .int .i64 p.level] ∧ sub H (hp w), ⟨rdCel 0 h.l, rdH 8 h.l⟩, _, _, _, fun w s => s.1.cell (sub.refl _) (j := 1) rfl, _, _, _, fun w s => B.c4 s.2, idx_n hpa (by omega) ⟨_, _, _, fun w s => hp2.cell s.2 (j := 1) rfl, ?_⟩⟩
    refine (app_own' tyOk (rfl : kdOfT Ty _ = .slice _) rfl rfl rfl (own_nil 1 h) (src_slice (news := iv p.right) tyOk (rfl : kdOfT Ty _ = .slice _) (n := rl) (by rw [iv_len, rl1, Nat.mul_one]) ?_ (by
      intro u hu
      obtain ⟨t, _, rfl⟩ := List.mem_map.1 hu
      rfl)) (by show (0 + rl) * 8 ≤ _; omega) (by omega)).mono ?_
    · rcases (hp3.mono (rdH 8 h.l)).iv with h0 | ⟨ad, ha, hc⟩
      · exact .inl (by have := congrArg List.length h0; rw [iv_len, rl1] at this; exact this)
      · exact .inr ⟨ad, ha, fun j u hj => cellH_w (hc j u hj)⟩
    rintro _ w23 ⟨qa, qc, rfl, h⟩
    rw [Nat.zero_add, ← rl1] at h ⊢
    rw [List.nil_append] at h
    refine ⟨_, _, _, rfl, ⟨rdCel 1 h.l, rdH 9 h.l⟩, ?_⟩
    rw [add_lit0]
    refine st1_i (h.pick 10 [1, 0, 2, 3, 4, 5, 6, 7, 8, 9]) (by simp) fun w24 h => ?_
    have ck : w24.cell? ((⟨k3, 0, none⟩ : Addr).add 4) = some (.slice pa j pc) := by
      have r : rowH (hp w24) ⟨k3, 0, none⟩ (K pa j pc) := rdCel 2 h.l
      rw [hK] at r
      exact r.cell (sub.refl _) (j := 4) rfl
    refine ⟨_, _, _, ck, _, _, _, _, _, h.row.at (sub.refl _) rfl, newC_i h fun k41 w25 h => ?_⟩
    have h : St w25 [cel k41 (prodV ((qa, qc), p)), cel k28 _, own 1 qa p.right.length qc (iv p.right), cel k3 (K pa j pc), own 3 pa j pc (prodsV os (g.prods.take j)), sta (rightsA os (g.prods.take j)), own 1 la g.levels.length lc (iv g.levels), own 1 na g.nons.length nc (g.nons.map fun s => Value.string s), own 2 ta g.terms.length tc (termsV g.terms), cel k2 [.slice none 0 0, .slice none 0 0, .slice none 0 0, .int .i64 0, .slice none 0 0], has H] := h
    refine (app_one tyOk (rfl : kdOfT Ty _ = .slice _) (rfl : kdOfT Ty _ = .slice _) rfl rfl rfl (h.pick 11 [0, 4, 2, 3, 5, 6, 7, 8, 9, 10]) rfl (by simp [oneC, prodV]) (by show (_ + 1) * 40 ≤ _; omega) (by omega)).mono ?_
    rintro _ w26 ⟨pa', pc', rfl, h⟩
    refine ⟨_, _, _, rfl, ?_⟩
    rw [add_lit0]
    refine st1_i (h.pick 10 [3, 0, 2, 4, 5, 6, 7, 8, 9]) (by rw [hK]; simp) fun w27 h => ?_
    have eK : (K pa j pc).set 4 (.slice pa' (j + 1) pc') = K pa' (j + 1) pc' := by rw [hK]; rfl
    rw [eK] at h
    have h := St.snoc (A := own 1 qa p.right.length qc (iv p.right)) (M := rightsA os (g.prods.take j)) (h.pick 9 [2, 3, 0, 1, 4, 5, 6, 7, 8])
    have e1 := rightsA_snoc (hos.trans hrl.symm) (qa, qc) p
    have e2 := prodsV_snoc (hos.trans hrl.symm) (qa, qc) p
    dsimp only at e1
    rw [← e1, ← et] at h
    refine ⟨⟨by omega, by omega⟩, ⟨j + 1, pa', pc', os ++ [(qa, qc)], by simp, by omega, by simp [hos], ?_⟩, msr h2⟩
    rw [et] at h ⊢
    rw [e2]
    exact h.pick 8 [1, 2, 0, 3, 4, 5, 6, 7]
  · have h2 : j = g.prods.length := by have := of_decide_eq_false h2; omega
    subst h2
    rw [List.take_length] at h
    have r : rowH (hp w11) ⟨k3, 0, none⟩ (K pa g.prods.length pc) := rdCel 0 h.l
    rw [hK] at r
    refine ⟨_, _, _, _, _, _, _, _, _, _, _, _, _, r.at (sub.refl _) rfl, stR_i (h.pick 8 [6, 1, 2, 3, 4, 5, 7]) rfl (by intro v hv; simp at hv; rcases hv with rfl | rfl | rfl | rfl | rfl <;> rfl) fun w28 h => ?_⟩
    refine ⟨_, _, _, _, _, _, _, _, _, _, _, _, _, h.row.at (sub.refl _) rfl, ⟨ta, g.terms.length, tc, na, g.nons.length, nc, la, g.levels.length, lc, x.s, pa, g.prods.length, pc⟩, os, rfl, ⟨rfl, rfl, rfl, hst, rfl⟩, hos, ?_⟩
    exact St.on (N := [_, _, _, _, _]) (h.pick 7 [1, 2, 5, 4, 3, 6]) (has_i gs)
end
end Go.Proofs.YtaheggomcnbbiaaDoor
/- What rows begin with (15): a production more takes nothing away. -/
set_option linter.unusedVariables false
namespace Go.V
theorem rdP_of {os : List (Option Addr × Nat)} {ps : List ProdT} {a : Option Addr} {n c : Nat} {h : Hp} (hn : ps.length = n) (ho : os.length = ps.length) (ha : ∃ h1, sub h1 h ∧ own 3 a n c (prodsV os ps) h1) (hr : ∀ (i : Nat) o p, os[i]? = some o → ps[i]? = some p → rdS h p.right o.1 p.right.length ∧ p.right.length ≤ o.2) : rdS h ps a n := by
  refine ⟨hn, fun i p hp => ?_⟩
  have hi := (List.getElem?_eq_some_iff.1 hp).1
  obtain ⟨o, hoi⟩ : ∃ o, os[i]? = some o := ⟨os[i]'(by omega), List.getElem?_eq_getElem _⟩
  obtain ⟨h1, s1, a1⟩ := ha
  rcases own_rdVh a1 with e | ⟨ad, e, hc⟩
  · have := prodsV_len ho
    rw [e] at this; simp at this; omega
  · obtain ⟨r1, r2⟩ := hr i o p hoi hp
    exact ⟨ad, _, e, (prodsV_row hc hoi hp).mono s1, o.1, _, o.2, rfl, r2, r1⟩
/- a production more -/
def GramT.more (g : GramT) (q : ProdT) : GramT := { g with prods := g.prods ++ [q] }
theorem Nul.more {g : GramT} {q : ProdT} {s : Int} (h : Nul g s) : Nul (g.more q) s := by
  induction h with
  | mk p hp _ ih => exact .mk p (List.mem_append.2 (.inl hp)) ih
theorem Fst.more {g : GramT} {q : ProdT} {s : Int} {t : Nat} (h : Fst g s t) : Fst (g.more q) s t := by
  induction h with
  | tm t ht => exact .tm t ht
  | pr p i s t hp h1 h2 _ ih => exact .pr p i s t (List.mem_append.2 (.inl hp)) h1 (fun x hx => (h2 x hx).more) ih
theorem valid_sizes {g : GramT} (h : ValidP g) : g.terms.length ≤ 65 ∧ g.nons.length ≤ 64 ∧ g.prods.length ≤ 97 ∧ ¬ g.nons[0]? = some .empty := by
  obtain ⟨iG, bT, bN, pN, pT, bP⟩ := inG (.inl h)
  refine ⟨bT, h.1.2.2.2.1, bP, fun he => ?_⟩
  have := h.1.2.2.2.2.2.2.2.2.2 _ (List.mem_of_getElem? (i := 0) (by simpa using he))
  simp [isNameS] at this
end Go.V
namespace Go.Proofs.YtaheggomcnbbiaaDoor
open Go.V
section
variable {w : World} {L : List Asn} {g : GramT} {x : GA}
set_option maxHeartbeats 4000000 in
theorem l_FirstGrows {left : Int} {right : List Int} {ra : Option Addr} {rl rc : Nat} (hg : gR (hp w) g x) (hb : okG g) (ht : tabA (hp w)) (hr : rdS (hp w) right ra rl) (hrc : rl ≤ rc) (hrb : rl ≤ 17592186043904) : Run Tryd.prog n_presagelaw07_FirstGrows [.agg ⟨x.cells⟩, .int .i64 left, .slice ra rl rc] w fun v w' => v = .bool true ∧ Gr w w' := by
  refine run_presagelaw07_FirstGrows _ _ _ _ _ _ _ _ _ _ _ _ _ _ _ _ _ w _ ?_
  refine gbox hg fun k1 w1 gw hg B => ?_
  have tl : g.T = x.tl := hg.t.1
  have nl : g.N = x.nl := hg.n.1
  have pl := hg.p.1
  refine (l_awake7 (rdV.mono gw ht)).mono ?_
  rintro _ w2 ⟨rfl, g2⟩
  refine ⟨_, rfl, _, _, _, _, _, _, _, _, _, _, _, _, _, B.row g2, (d_Valid (x := x) (hg.mono g2) hb).mono ?_⟩
  rintro _ w3 ⟨⟨r1, rfl, e1⟩, g3⟩
  have s3 : Gr w1 w3 := g2.trans g3
  refine ⟨_, rfl, br_intro (fun h1 => ⟨rfl, gw.trans s3⟩) fun h1 => ?_⟩
  have hv : ValidP g := e1.1 (by simpa using h1)
  have he : EitherP g := .inl hv
  obtain ⟨z1, z2, z3, z4⟩ := valid_sizes hv
  obtain ⟨iG, bT, bN, pN, pT, bP⟩ := inG he
  refine ⟨_, _, _, _, _, _, _, _, _, _, _, _, _, B.row s3, (d_Copy (x := x) (hg.mono s3) hb (by omega) (by omega)).mono ?_⟩
  rintro _ w4 ⟨x', os, rfl, hx', hos, h⟩
  obtain ⟨ta, tl', tc, na, nl', nc, la, ll', lc, st', pa, pl', pc⟩ := x'
  obtain ⟨q1, q2, q3, q4, q5⟩ := hx'
  dsimp only at q1 q2 q3 q4 q5
  subst q1; subst q2; subst q3; subst q4; subst q5
  have h3 := St.all w3
  unfold V.all at h h3
  have s3' : sub (hp w1) (hp w3) := s3
  have gw3 : sub (hp w) (hp w3) := gw.trans s3
  have hgR := ownG_gR (x := ⟨ta, g.terms.length, tc, na, g.nons.length, nc, la, g.levels.length, lc, g.start, pa, g.prods.length, pc⟩) ⟨rfl, rfl, rfl, rfl, rfl⟩ hos h
  refine ⟨_, _, _, _, _, _, _, _, _, _, _, _, _, rfl, newC_i h fun k26 w5 h => stR_i h rfl (by intro v hv; simp at hv; rcases hv with rfl | rfl | rfl | rfl | rfl <;> rfl) fun w6 h => ?_⟩
  refine ⟨_, _, _, h.cell 4, newC_i h fun k29 w7 h => ?_⟩
  have hrl := hr.1
  have h : St w7 [cel k29 (prodV ((ra, rc), ⟨left, right, 0⟩)), cel k26 [.slice ta g.terms.length tc, .slice na g.nons.length nc, .slice la g.levels.length lc, .int .i64 g.start, .slice pa g.prods.length pc], own 3 pa g.prods.length pc (prodsV os g.prods), sta (rightsA os g.prods), own 2 ta g.terms.length tc (termsV g.terms), own 1 na g.nons.length nc (g.nons.map fun s => Value.string s), own 1 la g.levels.length lc (iv g.levels), has (hp w3)] := by
    unfold prodV; dsimp only; rw [hrl]; exact h
  refine (app_one tyOk (rfl : kdOfT Ty _ = .slice _) (rfl : kdOfT Ty _ = .slice _) rfl rfl rfl (h.pick 8 [0, 2, 1, 3, 4, 5, 6, 7]) rfl (by simp [oneC, prodV]) (by show (g.prods.length + 1) * 40 ≤ _; omega) (by show g.prods.length < _; omega)).mono ?_
  rintro _ w8 ⟨pa', pc', rfl, h⟩
  refine ⟨_, _, _, rfl, ?_⟩
  rw [add_lit0]
  refine st1_i (h.pick 8 [2, 0, 3, 4, 5, 6, 7]) (by simp) fun w9 h => ?_
  rw [← prodsV_snoc hos] at h
  obtain ⟨q, hq⟩ : ∃ q : ProdT, q = ⟨left, right, 0⟩ := ⟨_, rfl⟩
  rw [← hq] at h
  have h : St w9 [cel k26 (GA.cells ⟨ta, g.terms.length, tc, na, g.nons.length, nc, la, g.levels.length, lc, g.start, pa', g.prods.length + 1, pc'⟩), own 3 pa' (g.prods.length + 1) pc' (prodsV (os ++ [(ra, rc)]) (g.prods ++ [q])), sta (rightsA os g.prods), own 2 ta g.terms.length tc (termsV g.terms), own 1 na g.nons.length nc (g.nons.map fun s => Value.string s), own 1 la g.levels.length lc (iv g.levels), has (hp w3)] := h
  generalize hx2 : (⟨ta, g.terms.length, tc, na, g.nons.length, nc, la, g.levels.length, lc, g.start, pa', g.prods.length + 1, pc'⟩ : GA) = x2 at *
  have g9 : Gr w3 w9 := rdH 6 h.l
  have s9 : Gr w1 w9 := s3.trans g9
  have B2 : GB (hp w9) k26 x2 := gb_of h.row
  have hg2 : gR (hp w9) (g.more q) x2 := by
    obtain ⟨h2, s2, a2⟩ := rdA (A := own 2 ta g.terms.length tc (termsV g.terms)) 3 h.l
    obtain ⟨h3, s3, a3⟩ := rdA (A := own 1 na g.nons.length nc (g.nons.map fun s => Value.string s)) 4 h.l
    obtain ⟨h4, s4, a4⟩ := rdA (A := own 1 la g.levels.length lc (iv g.levels)) 5 h.l
    have a1 := rdA (A := own 3 pa' (g.prods.length + 1) pc' (prodsV (os ++ [(ra, rc)]) (g.prods ++ [q]))) 1 h.l
    have hr9 : rdS (hp w9) right ra rl := hr.mono (gw3.trans g9)
    rw [← hx2]
    refine ⟨(rdT_own rfl a2).mono s2, (rdS_of_row rfl (own_rdVh a3)).mono s3, (rdI_of rfl (own_rdVh a4)).mono s4, rfl, rdP_of (by show (g.prods ++ [q]).length = g.prods.length + 1; simp) (by show (os ++ [(ra, rc)]).length = (g.prods ++ [q]).length; simp [hos]) a1 fun i o p hoi hpi => ?_, ownH_le' a2, ownH_le' a3, ownH_le' a4, ?_⟩
    · have hpi : (g.prods ++ [q])[i]? = some p := hpi
      by_cases hi : i < g.prods.length
      · rw [List.getElem?_append_left (by omega)] at hoi hpi
        exact rdRight (k := i) (o := o) (p := p) 2 h.l hoi hpi
      · have hl := (List.getElem?_eq_some_iff.1 hpi).1
        simp at hl
        have e : i = g.prods.length := by omega
        subst e
        rw [List.getElem?_append_right (by omega)] at hoi hpi
        rw [Nat.sub_self] at hpi
        rw [hos, Nat.sub_self] at hoi
        cases hoi; cases hpi
        rw [hq]
        dsimp only
        rw [hrl]
        exact ⟨hr9, hrc⟩
    · obtain ⟨h1, _, a1⟩ := a1
      exact ownH_le' a1
  have hb2 : okG (g.more q) := by
    obtain ⟨b1, b2, b3, b4, b5, b6, b7⟩ := hb
    refine ⟨b1, b2, b3, by show (g.prods ++ [q]).length * 40 ≤ _; simp; omega, b5, b6, fun p hp => ?_⟩
    rcases List.mem_append.1 hp with hp | hp
    · exact b7 p hp
    · simp at hp; subst hp; rw [hq]; dsimp only; omega
  have ht9 : tabA (hp w9) := rdV.mono (gw3.trans g9) ht
  have gw9 : Gr w w9 := gw3.trans g9
  clear h
  refine ⟨_, _, _, _, _, _, _, _, _, _, _, _, _, B2.row (sub.refl _), (d_Valid (x := x2) hg2 hb2).mono ?_⟩
  rintro _ w10 ⟨⟨r2, rfl, e2⟩, g10⟩
  refine ⟨_, rfl, br_intro (fun h2 => ?_) fun h2 => ?_⟩
  · refine ⟨_, _, _, _, _, _, _, _, _, _, _, _, _, B2.row g10, (f_Sets1 (x := x2) (hg2.mono g10) hb2 (rdV.mono g10 ht9)).mono ?_⟩
    rintro _ w11 ⟨o, n, c, e, rfl, g11, q11⟩
    rcases q11 with ⟨_, rfl, _⟩ | ⟨h, _⟩
    · exact ⟨_, _, _, _, rfl, br_intro (fun _ => ⟨rfl, gw9.trans (g10.trans g11)⟩) fun h => absurd h (by decide)⟩
    · rcases h with h | h
      · rw [e2.2 h] at h2; cases h2
      · exact absurd h.1 z4
  have hv2 : ValidP (g.more q) := e2.1 (by simpa using h2)
  have he2 : EitherP (g.more q) := .inl hv2
  have s10 : Gr w1 w10 := s9.trans g10
  have gw10 : Gr w w10 := gw9.trans g10
  have B10 : ∀ {w : World}, sub (hp w10) (hp w) → V.rowAt w ⟨k1, 0, none⟩ 0 5 = some x.cells := fun s => B.row (sub.trans s10 s)
  have B210 : ∀ {w : World}, sub (hp w10) (hp w) → V.rowAt w ⟨k26, 0, none⟩ 0 5 = some x2.cells := fun s => B2.row (sub.trans g10 s)
  refine ⟨_, _, _, _, _, _, _, _, _, _, _, _, _, B10 (sub.refl _), (f_Nullable1 (x := x) (hg.mono s10) hb (rdV.mono g10 ht9)).mono ?_⟩
  rintro _ w12 ⟨o12, n12, c12, e12, rfl, g12, q12⟩
  rcases q12 with ⟨hn, _⟩ | ⟨_, rfl, rfl, nn, hnn, rn⟩
  · exact absurd he hn
  refine ⟨_, _, _, _, rfl, _, _, _, _, _, _, _, _, _, _, _, _, _, B210 g12, (f_Nullable1 (x := x2) ((hg2.mono g10).mono g12) hb2 (rdV.mono (g10.trans g12) ht9)).mono ?_⟩
  rintro _ w13 ⟨o13, n13, c13, e13, rfl, g13, q13⟩
  rcases q13 with ⟨hn, _⟩ | ⟨_, rfl, rfl, mm, hmm, rm⟩
  · exact absurd he2 hn
  have g13' : Gr w10 w13 := g12.trans g13
  refine ⟨_, _, _, _, rfl, _, _, _, _, _, _, _, _, _, _, _, _, _, B10 g13', (f_Sets1 (x := x) ((hg.mono s10).mono g13') hb (rdV.mono (g10.trans g13') ht9)).mono ?_⟩
  rintro _ w14 ⟨o14, n14, c14, e14, rfl, g14, q14⟩
  rcases q14 with ⟨hn, _⟩ | ⟨_, rfl, rfl, bss, hss, rs⟩
  · exact absurd he hn
  have g14' : Gr w10 w14 := g13'.trans g14
  refine ⟨_, _, _, _, rfl, _, _, _, _, _, _, _, _, _, _, _, _, _, B210 g14', (f_Sets1 (x := x2) ((hg2.mono g10).mono g14') hb2 (rdV.mono (g10.trans g14') ht9)).mono ?_⟩
  rintro _ w15 ⟨o15, n15, c15, e15, rfl, g15, q15⟩
  rcases q15 with ⟨hn, _⟩ | ⟨_, rfl, rfl, css, hcs, rt⟩
  · exact absurd he2 hn
  have eN : (g.more q).N = g.N := rfl
  have eT : (g.more q).T = g.T := rfl
  have gw15 : Gr w w15 := gw10.trans (g14'.trans g15)
  refine ⟨_, _, _, _, rfl, fun b w' => b = false ∧ w' = w15, br_intro (fun h => absurd h (by decide)) fun _ => br_intro (fun h => absurd h (by decide)) fun _ => br_intro (fun h => absurd h (by decide)) fun _ => br_intro (fun h => absurd h (by decide)) fun _ => br_intro (fun h => ?_) fun _ => br_intro (fun h => ?_) fun _ => ⟨?_, rfl⟩, ?_⟩
  · simp [eN] at h
  · simp [eN] at h
  · simp
  rintro _ _ w16 ⟨rfl, rfl⟩
  refine br_intro (fun h => absurd h (by decide)) fun _ => ?_
  refine ⟨fun n w' => ∃ j : Nat, n = j ∧ j ≤ g.N ∧ Gr w16 w', fun n _ => g.N - n.toNat, ⟨0, rfl, by omega, Gr.refl _⟩, ?_⟩
  rintro _ n w17 ⟨j, rfl, hj, g17⟩
  refine br_intro (fun h1 => ?_) fun h1 => ⟨rfl, gw15.trans g17⟩
  have h1 : j < g.N := by have := of_decide_eq_true h1; omega
  intro w18 hd
  have g18 : Gr w16 w18 := g17.trans (Gr.drawn hd)
  have hsl : bss.length = g.N := hss.1
  have hcl : css.length = g.N := hcs.1
  obtain ⟨bs, hbs⟩ : ∃ bs, bss[j]? = some bs := ⟨bss[j]'(by omega), List.getElem?_eq_getElem _⟩
  obtain ⟨cs, hcs'⟩ : ∃ cs, css[j]? = some cs := ⟨css[j]'(by omega), List.getElem?_eq_getElem _⟩
  obtain ⟨u1, u2⟩ := hss.2 j bs hbs
  obtain ⟨v1, v2⟩ := hcs.2 j cs hcs'
  obtain ⟨ys, ad, vs, hy, hya, hy2, sa, sl, sc, rfl, hsc, hy3⟩ := rs.get h1
  rw [List.getElem?_map, hbs] at hy
  cases hy
  obtain ⟨zs, ad', vs, hz, hza, hz2, sa', sl', sc', rfl, hsc', hz3⟩ := rt.get (i := j) h1
  rw [List.getElem?_map, hcs'] at hz
  cases hz
  have l1 := rd_le65 bT u1 hy3
  have l2 := rd_le65 (g := g) bT v1 hz3
  have t14 : ∀ {w : World}, sub (hp w18) (hp w) → sub (hp w14) (hp w) := fun s => sub.trans g15 (sub.trans g18 s)
  have t15 : ∀ {w : World}, sub (hp w18) (hp w) → sub (hp w16) (hp w) := fun s => sub.trans g18 s
  refine ⟨fun w' => Gr w18 w', Gr.refl _, idx_n hya h1 ⟨_, _, _, fun w s => hy2.cell0 (t14 s), idx_n hza h1 ⟨_, _, _, fun w s => hz2.cell0 (t15 s), idx_n hza h1 ⟨_, _, _, fun w s => hz2.cell0 (t15 s), (l_both (hy3.mono (t14 (sub.refl _))) (hz3.mono (t15 (sub.refl _))) (by omega) (by omega)).mono ?_⟩⟩⟩⟩
  rintro _ w22 ⟨o22, c22, rfl, h22⟩
  have g22 : Gr w18 w22 := h22.gone1
  have r22 := own_rdI h22
  have hbc : bothL (mbI bs) (mbI cs) 65 = mbI cs := bothL_mbI (by rw [v1]; exact bT) fun k _ => by
    rw [mem_mbI_nat, mem_mbI_nat]
    exact ⟨.inr, fun h => h.elim (fun h => (v2 k).2 ((u2 k).1 h).more) id⟩
  have hle := bothL_len (mbI bs) (mbI cs) 65
  refine ⟨_, _, _, rfl, g22, (r_Ints r22 (hz3.mono (t15 g22)) (by omega)).mono ?_⟩
  rintro _ w23 ⟨rfl, e23⟩
  have g23 : Gr w18 w23 := g22.trans (Gr.of_eq e23)
  refine ⟨_, rfl, g23, br_intro (fun h => by rw [hbc] at h; simp at h) fun _ => ?_⟩
  obtain ⟨b6, ad6, n61, n62, n63⟩ := rn.get1 h1
  obtain ⟨b7, ad7, n71, n72, n73⟩ := rm.get1 (i := j) h1
  have t12 : sub (hp w12) (hp w23) := sub.trans (g13.trans g14) (t14 g23)
  have t13 : sub (hp w13) (hp w23) := sub.trans g14 (t14 g23)
  have nx : inI ((j : Int) + 1) ∧ (∃ j' : Nat, (j : Int) + 1 = j' ∧ j' ≤ g.N ∧ Gr w16 w23) ∧ g.N - ((j : Int) + 1).toNat < g.N - (j : Int).toNat := ⟨⟨by omega, by omega⟩, ⟨j + 1, by simp, by omega, g18.trans g23⟩, msr h1⟩
  refine idx_i n62 h1 ⟨b6, n63 _ t12, br_intro (fun h6 => idx_i n72 h1 ⟨b7, n73 _ t13, br_intro (fun h7 => ?_) fun _ => nx⟩) fun _ => nx⟩
  have k1 := (hnn.2 j).1 (by rw [fnB_get n61]; exact h6)
  have k2 := (hmm.2 j).2 k1.more
  rw [fnB_get n71] at k2
  rw [k2] at h7; cases h7
end
end Go.Proofs.YtaheggomcnbbiaaDoor
/- What rows begin with, the document's (1): what vanishes. -/
set_option linter.unusedVariables false
namespace Go.V
theorem bv_get {ms : List Bool} {u : Nat} (h : u < ms.length) : (bv ms)[u]? = some (.bool (fnB ms u)) := by
  unfold bv; rw [List.getElem?_map, List.getElem?_eq_getElem h, fnB_get (List.getElem?_eq_getElem h)]; rfl
theorem cel_bit {w : World} {k u : Nat} {ms : List Bool} (r : rowH (hp w) ⟨k, 0, none⟩ (bv ms)) (h : u < ms.length) : w.cell? ((⟨k, 0, none⟩ : Addr).add u) = some (.bool (fnB ms u)) := r.cell (sub.refl _) (j := u) (bv_get h)
theorem bv_setL (ms : List Bool) (u : Nat) (b : Bool) : (bv ms).set u (.bool b) = bv (ms.set u b) := by simp [bv, List.map_set]
theorem rep_bv (n : Nat) : List.replicate n (Value.bool false) = bv (List.replicate n false) := by simp [bv]
/- a row vanishes by marks of nonterminals -/
def VanP (g : GramT) (nn : List Bool) (row : List Int) : Prop := ∀ s ∈ row, (g.T : Int) ≤ s ∧ fnB nn (s.toNat - g.T) = true
def ClN (g : GramT) (nn : List Bool) (p : ProdT) : Prop := VanP g nn p.right → fnB nn (p.left.toNat - g.T) = true
theorem NnP.van {g : GramT} {nn : List Bool} (h : NnP g nn) (iG : InG g) {row : List Int} : VanP g nn row ↔ NulR g row := by
  refine forall_congr' fun s => imp_congr Iff.rfl ?_
  constructor
  · rintro ⟨h1, h2⟩
    have := (h.2 _).1 h2
    rwa [show ((g.T + (s.toNat - g.T) : Nat) : Int) = s from by omega] at this
  · intro hN
    have hl := hN.left iG
    refine ⟨hl.1, (h.2 _).2 ?_⟩
    rwa [show ((g.T + (s.toNat - g.T) : Nat) : Int) = s from by omega]
theorem nnP_of {g : GramT} {nn : List Bool} (iG : InG g) (hl : nn.length = g.N) (hs : ∀ i, fnB nn i = true → Nul g ((g.T + i : Nat) : Int)) (hc : ∀ p ∈ g.prods, ClN g nn p) : NnP g nn := by
  refine ⟨hl, fun i => ⟨hs i, fun h => ?_⟩⟩
  have key : ∀ s, Nul g s → fnB nn (s.toNat - g.T) = true := fun s h => by
    induction h with
    | mk p hp h1 ih => exact hc p hp fun s hs => ⟨(h1 s hs |>.left iG).1, ih s hs⟩
  have := key _ h
  rwa [show ((g.T + i : Nat) : Int).toNat - g.T = i from by omega] at this
end Go.V
namespace Go.Proofs.YtaheggomcnbbiaaDoor
open Go.V
section
variable {w : World} {L : List Asn} {g : GramT} {x : GA} {a an : Option Addr} {l c nl cn : Nat} {row : List Int} {nn : List Bool}
set_option maxHeartbeats 1000000 in
theorem d_vanishes (hg : gR (hp w) g x) (hn : rdS (hp w) nn an nl) (hnl : nn.length = g.N) (hr : rdS (hp w) row a l) (hs : SyP g row) (hb : l ≤ 4611686018427387904) (hT : g.T ≤ 65) (hN : g.N ≤ 65) : Run Tryd.prog n_presageref07_vanishes [.agg ⟨x.cells⟩, .slice an nl cn, .slice a l c] w fun v w' => (∃ r : Bool, v = .bool r ∧ (r = true ↔ VanP g nn row)) ∧ Gr w w' := by
  refine run_presageref07_vanishes _ _ _ _ _ _ _ _ _ _ _ _ _ _ _ _ _ _ _ w _ ?_
  refine gbox hg fun k1 w1 gw hg B => ?_
  have tl : g.T = x.tl := hg.t.1
  have hn := hn.mono gw
  have hr := hr.mono gw
  have hn1 := hn.1
  refine ⟨fun n w' => ∃ j : Nat, n = j ∧ j ≤ l ∧ VanP g nn (row.take j) ∧ Gr w1 w', fun n _ => l - n.toNat, ⟨0, rfl, by omega, fun s hs => by simp at hs, Gr.refl _⟩, ?_⟩
  rintro _ n w2 ⟨j, rfl, hj, hv, g2⟩
  refine br_intro (fun h1 => ?_) fun h1 => ?_
  · have h1 : j < l := by have := of_decide_eq_true h1; omega
    obtain ⟨y, ad, hy1, hya, hy2⟩ := hr.get1 h1
    have hym := List.mem_of_getElem? hy1
    have hys := hs y hym
    intro w3 hd
    have g3 : Gr w1 w3 := g2.trans (Gr.drawn hd)
    have no : ¬ ((g.T : Int) ≤ y ∧ fnB nn (y.toNat - g.T) = true) → (∃ r : Bool, Value.bool false = .bool r ∧ (r = true ↔ VanP g nn row)) ∧ Gr w w3 := fun hn => ⟨⟨false, rfl, ⟨fun h => absurd h (by decide), fun h => absurd (h y hym) hn⟩⟩, gw.trans g3⟩
    refine ⟨fun w => Gr w1 w, g3, idx_i hya h1 ⟨y, fun w s => hy2 _ s, _, _, _, fun w s => B.c0 s, br_intro (fun h2 => no ?_) fun h2 => ?_⟩⟩
    · have h2 := of_decide_eq_true h2; omega
    have h2 := of_decide_eq_false h2
    have hun : y.toNat - g.T < nl := by omega
    obtain ⟨b, ad2, hb1, hba, hb2⟩ := hn.get1 hun
    have eu : y - (x.tl : Int) = ((y.toNat - g.T : Nat) : Int) := by rw [← tl]; omega
    refine idx_i hya h1 ⟨y, fun w s => hy2 _ s, _, _, _, fun w s => B.c0 s, ⟨by omega, by omega⟩, ?_⟩
    rw [eu]
    refine idx_i hba hun ⟨b, fun w s => hb2 _ s, br_intro (fun h3 => no ?_) fun h3 => ?_⟩
    · rw [fnB_get hb1]
      cases b
      · simp
      · cases h3
    · refine ⟨⟨by omega, by omega⟩, ⟨j + 1, by simp, by omega, fun s hs => ?_, g3⟩, msr h1⟩
      rw [take_succ_get hy1] at hs
      rcases List.mem_append.1 hs with hs | hs
      · exact hv s hs
      · simp at hs; subst hs
        exact ⟨by omega, by rw [fnB_get hb1]; simpa using h3⟩
  · have h1 : j = l := by have := of_decide_eq_false h1; omega
    subst h1
    rw [List.take_of_length_le (by have := hr.1; omega)] at hv
    exact ⟨⟨true, rfl, by simp [hv]⟩, gw.trans g2⟩
set_option maxHeartbeats 2000000 in
theorem d_Null (hg : gR (hp w) g x) (hb : okG g) (he : EitherP g) : Run Tryd.prog n_presageref07_Null [.agg ⟨x.cells⟩] w fun v w' => ∃ (k : Nat) (nn : List Bool), v = .slice (some ⟨k, 0, none⟩) g.N g.N ∧ NnP g nn ∧ St w' (cel k (bv nn) :: all w) := by
  refine run_presageref07_Null _ _ _ _ _ _ _ _ _ _ _ _ _ w _ ?_
  refine gbox hg fun k1 w1 gw hg B => ?_
  obtain ⟨iG, bT, bN, pN, pT, bP⟩ := inG he
  have tl : g.T = x.tl := hg.t.1
  have nl : g.N = x.nl := hg.n.1
  have pl := hg.p.1
  have gs : sub (hp w) (hp w1) := gw
  have h1 := St.all w1
  unfold V.all at h1
  generalize hH : hp w1 = H at *
  refine ⟨_, _, _, B.c1 (rdH 0 h1.l), ?_⟩
  rw [← nl]
  refine ⟨⟨by omega, rfl, by omega⟩, ?_⟩
  rw [Int.toNat_natCast, reps_one, rep_bv]
  refine newC_i h1 fun k4 w2 h2 => ?_
  obtain ⟨Q, hQ⟩ := name_it (fun (b : Bool) (w : World) (m : Nat) => ∃ nn : List Bool, nn.length = g.N ∧ (∀ i, fnB nn i = true → Nul g ((g.T + i : Nat) : Int)) ∧ m = opn nn + (if b then 1 else 0) ∧ (b = false → ∀ p ∈ g.prods, ClN g nn p) ∧ St w [cel k4 (bv nn), has H])
  obtain ⟨μ, mu1, mu2⟩ := least_fn (fun (y : Bool × World) m => Q y.1 y.2 m)
  refine ⟨fun b w' => ∃ m, Q b w' m, fun b w => μ (b, w), ⟨opn (List.replicate g.N false) + 1, ?_⟩, ?_⟩
  · rw [hQ]
    exact ⟨List.replicate g.N false, by simp, fun i h => (by rw [fnB_rep] at h; exact absurd h (by decide)), rfl, fun h => absurd h (by decide), h2⟩
  clear h2
  intro _ b w3 hP
  have hP := mu2 (b, w3) hP
  dsimp only at hP
  generalize hμ : μ (b, w3) = μ0 at *
  rw [hQ] at hP
  obtain ⟨nn0, hl0, hs0, hmu, hc0, h⟩ := hP
  refine br_intro (fun hb1 => ?_) fun hb1 => ?_
  rotate_left
  · exact ⟨k4, nn0, rfl, nnP_of iG hl0 hs0 (hc0 hb1), h.on1 (has_i gs)⟩
  subst hb1
  rw [if_pos rfl] at hmu
  refine ⟨fun b n w' => ∃ (j : Nat) (nn : List Bool), n = j ∧ j ≤ g.prods.length ∧ nn.length = g.N ∧ (∀ i, fnB nn i = true → Nul g ((g.T + i : Nat) : Int)) ∧ opn nn + (if b then 1 else 0) ≤ opn nn0 ∧ (b = false → ∀ p ∈ g.prods.take j, ClN g nn p) ∧ St w' [cel k4 (bv nn), has H], fun _ n _ => g.prods.length - n.toNat, ⟨0, nn0, rfl, by omega, hl0, hs0, by simp, by simp, h⟩, ?_⟩
  clear h hc0
  rintro _ b n w4 ⟨j, nn, rfl, hj, hl, hs, hm, hc, h⟩
  refine ⟨_, _, _, B.c4 (rdH 1 h.l), br_intro (fun h3 => ?_) fun h3 => ?_⟩
  rotate_left
  · have h3 : j = g.prods.length := by have := of_decide_eq_false h3; omega
    subst h3
    rw [List.take_length] at hc
    have key : Q b w4 (opn nn + (if b then 1 else 0)) := by
      rw [hQ]; exact ⟨nn, hl, hs, rfl, hc, h⟩
    refine ⟨⟨_, key⟩, ?_⟩
    have := mu1 (b, w4) _ key
    dsimp only
    rw [hμ]
    omega
  have h3 : j < g.prods.length := by have := of_decide_eq_true h3; omega
  obtain ⟨p, ad, vs, hp1, hpa, hp2, ra, rl, rc, rfl, hrc, hp3⟩ := hg.p.get (i := j) (by omega)
  have hpm := List.mem_of_getElem? hp1
  obtain ⟨hpl, hpr⟩ := iG p hpm
  have b7' := hb.2.2.2.2.2.2 p hpm
  have rl1 := hp3.1
  have et : g.prods.take (j + 1) = g.prods.take j ++ [p] := by rw [List.take_add_one, hp1]; rfl
  intro w5 hd
  have h := h.drawn hd
  have hun : p.left.toNat - g.T < g.N := by omega
  have eu : p.left - (x.tl : Int) = ((p.left.toNat - g.T : Nat) : Int) := by rw [← tl]; omega
  refine ⟨fun w => sub H (hp w), rdH 1 h.l, _, _, _, fun w s => B.c4 s, idx_n hpa (by omega) ⟨_, fun w s => hp2.cell0 s, _, _, _, fun w s => B.c0 s, ⟨by omega, by omega⟩, ?_⟩⟩
  rw [eu]
  have nx : ∀ {w' : World} {nn' : List Bool} {b' : Bool}, nn'.length = g.N → (∀ i, fnB nn' i = true → Nul g ((g.T + i : Nat) : Int)) → opn nn' + (if b' then 1 else 0) ≤ opn nn0 → (b' = false → (∀ p ∈ g.prods.take j, ClN g nn' p) ∧ ClN g nn' p) → St w' [cel k4 (bv nn'), has H] → inI ((j : Int) + 1) ∧ (∃ (j' : Nat) (nn : List Bool), (j : Int) + 1 = j' ∧ j' ≤ g.prods.length ∧ nn.length = g.N ∧ (∀ i, fnB nn i = true → Nul g ((g.T + i : Nat) : Int)) ∧ opn nn + (if b' then 1 else 0) ≤ opn nn0 ∧ (b' = false → ∀ p ∈ g.prods.take j', ClN g nn p) ∧ St w' [cel k4 (bv nn), has H]) ∧ g.prods.length - ((j : Int) + 1).toNat < g.prods.length - (j : Int).toNat := fun {w' nn' b'} a1 a2 a3 a4 a5 => by
    refine ⟨⟨by omega, by omega⟩, ⟨j + 1, nn', by simp, by omega, a1, a2, a3, fun hb' q hq => ?_, a5⟩, msr h3⟩
    rw [et] at hq
    rcases List.mem_append.1 hq with hq | hq
    · exact (a4 hb').1 q hq
    · simp at hq; subst hq; exact (a4 hb').2
  refine idx_i rfl hun ⟨_, cel_bit (rdCel 0 h.l) (by omega), br_intro (fun h4 => nx hl hs hm (fun hb' => ⟨hc hb', fun _ => h4⟩) h) fun h4 => ?_⟩
  intro w9 hd2
  have h := h.drawn hd2
  refine ⟨fun w => sub H (hp w), rdH 1 h.l, _, _, _, _, _, _, _, _, _, _, _, _, _, fun w s => B.row s, _, _, _, fun w s => B.c4 s, idx_n hpa (by omega) ⟨_, _, _, fun w s => hp2.cell s (j := 1) rfl, ?_⟩⟩
  have rn : rdS (hp w9) nn (some ⟨k4, 0, none⟩) g.N := rdB_of hl (.inr ⟨_, rfl, rdCel 0 h.l⟩)
  refine (d_vanishes (x := x) (hg.mono (rdH 1 h.l)) rn hl (hp3.mono (rdH 1 h.l)) (fun s hs => ⟨(hpr s hs).1, (hpr s hs).2⟩) (by omega) bT bN).mono ?_
  rintro _ w13 ⟨⟨r, rfl, hr⟩, g13⟩
  have h := h.gr g13
  refine ⟨_, rfl, br_intro (fun h5 => ?_) fun h5 => nx hl hs hm (fun hb' => ⟨hc hb', fun hv => ?_⟩) h⟩
  · have hun' : p.left.toNat - g.T < nn.length := by omega
    refine idx_i rfl hun ?_
    rw [add_lit0]
    refine st1_i h (by rw [bv_len]; exact hun') fun w14 h => ?_
    rw [bv_setL] at h
    have hop := opn_set hun' h4
    refine nx (by rw [List.length_set]; exact hl) (fun i hi => ?_) ?_ (fun hb' => absurd hb' (by decide)) h
    · rw [fnB_setT hun', Bool.or_eq_true, beq_iff_eq] at hi
      rcases hi with hi | rfl
      · exact hs i hi
      · rw [show ((g.T + (p.left.toNat - g.T) : Nat) : Int) = p.left from by omega]
        refine .mk p hpm fun s hs' => ?_
        obtain ⟨v1, v2⟩ := hr.1 h5 s hs'
        have := hs _ v2
        rwa [show ((g.T + (s.toNat - g.T) : Nat) : Int) = s from by omega] at this
    · have := hm
      rw [if_pos rfl]
      split at this <;> omega
  · rw [hr.2 hv] at h5; cases h5
end
end Go.Proofs.YtaheggomcnbbiaaDoor
/- What rows begin with, the document's (2): a row's sets laid down. -/
set_option linter.unusedVariables false
namespace Go.V
/- marks of nonterminals as marks of symbols -/
def symN (T : Nat) (nn : List Bool) : List Bool := List.replicate T false ++ nn
theorem fnB_symN {T : Nat} {nn : List Bool} (i : Nat) : fnB (symN T nn) i = (decide (T ≤ i) && fnB nn (i - T)) := by
  unfold symN fnB
  rw [List.getD_eq_getElem?_getD, List.getD_eq_getElem?_getD]
  by_cases h : T ≤ i
  · rw [List.getElem?_append_right (by simpa using h), List.length_replicate]; simp [h]
  · rw [List.getElem?_append_left (by simp; omega), List.getElem?_replicate, if_pos (by omega)]
    simp [h]
def slT (T p : Nat) : Value := .slice (some ⟨p, 0, none⟩) T T
/- the program's l laid to U, as far as t -/
def lay1 (U v V : List Bool) (t : Nat) : Prop := V.length = U.length ∧ ∀ k, fnB V k = (fnB U k || (decide (k < t) && fnB v k))
theorem rowB_sup (nl : List Bool) (vs : List (List Bool)) : ∀ (row : List Int) (bs : List Bool) (k : Nat), fnB bs k = true → fnB (rowB nl vs bs row) k = true := fun row bs k h => (fnB_rowB nl vs row bs k).2 (.inl h)
end Go.V
namespace Go.Proofs.YtaheggomcnbbiaaDoor
open Go.V
section
variable {w : World} {L : List Asn} {T ks q : Nat} {x : GA} {a an ao : Option Addr} {l c nl cn ol co : Nat} {row : List Int} {nn bs : List Bool} {ps : List Nat} {vs : List (List Bool)}
set_option maxHeartbeats 2000000 in
theorem d_lay (hT : T = x.tl) (h : St w (cel q (bv bs) :: L)) (hs : ∀ h, starL L h → rowH h ⟨ks, 0, none⟩ (x.cells ++ [.slice an nl cn, .slice ao ol co])) (hn : ∀ h, starL L h → rdS h nn an nl) (ho : ∀ h, starL L h → ∃ ad, ao = some ad ∧ rowH h ad (ps.map (slT T))) (hol : ps.length = ol) (hv : vs.length = ol) (hnl : ol = T + nl)
    (hle : ∀ v ∈ vs, v.length = T) (hbl : bs.length = T) (hq : ∀ h, starL L h → ∀ (i : Nat) p v, ps[i]? = some p → vs[i]? = some v → rowH h ⟨p, 0, none⟩ (bv v) ∨ (p = q ∧ v = bs))
    (hr : ∀ h, starL L h → rdS h row a l) (hin : ∀ s ∈ row, 0 ≤ s ∧ s.toNat < ol) (hb : l ≤ 4611686018427387904) (hb2 : ol ≤ 4611686018427387904) :
    Run Tryd.prog n_presageref07_Begin_lay [.pointer (some ⟨ks, 0, none⟩), .slice a l c, .slice (some ⟨q, 0, none⟩) T T] w fun v w' => v = .bool (decide (rowB (symN T nn) vs bs row ≠ bs)) ∧ St w' (cel q (bv (rowB (symN T nn) vs bs row)) :: L) := by
  subst hT
  obtain ⟨h0, hl, _, h1⟩ := h.freeze
  have hs := hs h0 hl
  have hn := hn h0 hl
  obtain ⟨ad0, rfl, ho'⟩ := ho h0 hl
  have hq := hq h0 hl
  have hr := hr h0 hl
  have hn1 := hn.1
  have hr1 := hr.1
  have done : ∀ w' b, St w' (cel q b :: [has h0]) → St w' (cel q b :: L) := fun w' b h => h.on1 hl
  clear h hl
  have c0 : ∀ w', sub h0 (hp w') → w'.cell? (⟨ks, 0, none⟩ : Addr) = some (.slice x.ta x.tl x.tc) := fun w' s => hs.cell0 s
  have c5 : ∀ w', sub h0 (hp w') → w'.cell? ((⟨ks, 0, none⟩ : Addr).add 5) = some (.slice an nl cn) := fun w' s => hs.cell s (j := 5) rfl
  have c6 : ∀ w', sub h0 (hp w') → w'.cell? ((⟨ks, 0, none⟩ : Addr).add 6) = some (.slice (some ad0) ol co) := fun w' s => hs.cell s (j := 6) rfl
  refine run_presageref07_Begin_lay _ _ _ _ _ _ _ w _ ?_
  refine ⟨fun b n w' => ∃ (j : Nat) (U : List Bool), n = j ∧ j ≤ l ∧ U.length = bs.length ∧ (∀ k, fnB bs k = true → fnB U k = true) ∧ (b = true ↔ U ≠ bs) ∧ rowB (symN x.tl nn) vs bs row = rowB (symN x.tl nn) vs U (row.drop j) ∧ St w' [cel q (bv U), has h0], fun _ n _ => l - n.toNat, ⟨0, bs, rfl, by omega, rfl, fun _ h => h, by simp, by simp, h1⟩, ?_⟩
  clear h1
  rintro _ b n w1 ⟨j, U, rfl, hj, hU, hsub, hb1, e1, h⟩
  have fin : ∀ {w' : World} {V : List Bool} {b : Bool}, (b = true ↔ V ≠ bs) → rowB (symN x.tl nn) vs bs row = V → St w' [cel q (bv V), has h0] → Value.bool b = .bool (decide (rowB (symN x.tl nn) vs bs row ≠ bs)) ∧ St w' (cel q (bv (rowB (symN x.tl nn) vs bs row)) :: L) := fun {w' V b} h1 h2 h3 => by
    rw [h2]
    refine ⟨?_, done _ _ h3⟩
    congr 1
    rw [Bool.eq_iff_iff, h1, decide_eq_true_eq]
  refine br_intro (fun hlt => ?_) fun hlt => ?_
  rotate_left
  · have hlt : j = l := by have := of_decide_eq_false hlt; omega
    subst hlt
    rw [List.drop_of_length_le (by omega), rowB_nil] at e1
    exact fin hb1 e1 h
  have hlt : j < l := by have := of_decide_eq_true hlt; omega
  obtain ⟨y, ad, hy1, hya, hy2⟩ := hr.get1 hlt
  obtain ⟨y0, yl⟩ := hin y (List.mem_of_getElem? hy1)
  obtain ⟨u, rfl⟩ : ∃ u : Nat, y = u := ⟨y.toNat, by omega⟩
  rw [Int.toNat_natCast] at yl
  obtain ⟨p, hpp⟩ : ∃ p, ps[u]? = some p := ⟨ps[u]'(by omega), List.getElem?_eq_getElem _⟩
  obtain ⟨v, hv1⟩ : ∃ v, vs[u]? = some v := ⟨vs[u]'(by omega), List.getElem?_eq_getElem _⟩
  have hvl := hle v (List.mem_of_getElem? hv1)
  have hvd : vs.getD u [] = v := by simp [List.getD, hv1]
  have hpq := hq u p v hpp hv1
  have ed : row.drop j = (u : Int) :: row.drop (j + 1) := by
    have := List.drop_eq_getElem_cons (l := row) (i := j) (by rw [hr.1]; exact hlt)
    rw [this]; congr 1
    have := List.getElem?_eq_some_iff.1 hy1; exact this.2
  rw [ed, rowB_cons, Int.toNat_natCast, hvd, fnB_symN] at e1
  intro w2 hd
  have h := h.drawn hd
  have cp : ∀ w', sub h0 (hp w') → w'.cell? (ad0.add u) = some (slT x.tl p) := fun w' s => ho'.cell s (j := u) (by rw [List.getElem?_map, hpp]; rfl)
  refine ⟨fun w => sub h0 (hp w), rdH 1 h.l, _, _, _, fun w s => c6 w s, idx_i hya hlt ⟨_, fun w s => hy2 _ s, idx_i rfl (by omega) ⟨_, _, _, fun w s => cp w s, ?_⟩⟩⟩
  refine ⟨fun b n w' => ∃ (t : Nat) (V : List Bool), n = t ∧ t ≤ x.tl ∧ V.length = bs.length ∧ (∀ k, fnB V k = (fnB U k || (decide (k < t) && fnB v k))) ∧ (b = true ↔ V ≠ bs) ∧ St w' [cel q (bv V), has h0], fun _ n _ => x.tl - n.toNat, ⟨0, U, rfl, by omega, hU, fun k => by simp, hb1, h⟩, ?_⟩
  clear h
  rintro _ b n3 w6 ⟨t, V, rfl, ht, hV, hVf, hb3, h⟩
  refine br_intro (fun hlt2 => ?_) fun hlt2 => ?_
  · have hlt2 : t < x.tl := by have := of_decide_eq_true hlt2; omega
    have htV : t < V.length := by omega
    have nx : ∀ {w' : World} {V' : List Bool} {b' : Bool}, V'.length = bs.length → (∀ k, fnB V' k = (fnB U k || (decide (k < t + 1) && fnB v k))) → (b' = true ↔ V' ≠ bs) → St w' [cel q (bv V'), has h0] → inI ((t : Int) + 1) ∧ (∃ (t' : Nat) (V : List Bool), (t : Int) + 1 = t' ∧ t' ≤ x.tl ∧ V.length = bs.length ∧ (∀ k, fnB V k = (fnB U k || (decide (k < t') && fnB v k))) ∧ (b' = true ↔ V ≠ bs) ∧ St w' [cel q (bv V), has h0]) ∧ x.tl - ((t : Int) + 1).toNat < x.tl - (t : Int).toNat := fun {w' V' b'} a1 a2 a3 a4 =>
      ⟨⟨by omega, by omega⟩, ⟨t + 1, V', by simp, by omega, a1, a2, a3, a4⟩, msr hlt2⟩
    have hVt : fnB V t = fnB U t := by rw [hVf]; simp
    have step : ∀ k, k ≠ t → (fnB U k || (decide (k < t + 1) && fnB v k)) = fnB V k := fun k hk => by
      rw [hVf]
      by_cases h1 : k < t
      · simp [h1, show k < t + 1 by omega]
      · simp [h1, show ¬ k < t + 1 by omega]
    obtain ⟨lt, hlt3, hlt4⟩ : ∃ lt : Bool, w6.cell? ((⟨p, 0, none⟩ : Addr).add t) = some (.bool lt) ∧ (lt = fnB v t ∨ (lt = fnB V t ∧ (fnB v t = true → fnB V t = true))) := by
      rcases hpq with hr' | ⟨rfl, rfl⟩
      · exact ⟨_, cel_bit (hr'.mono (rdH 1 h.l)) (by omega), .inl rfl⟩
      · refine ⟨_, cel_bit (rdCel 0 h.l) htV, .inr ⟨rfl, fun hb' => ?_⟩⟩
        rw [hVt]; exact hsub t hb'
    refine idx_i rfl hlt2 ⟨lt, hlt3, br_intro (fun h4 => ?_) fun h4 => ?_⟩
    · refine idx_i rfl hlt2 ⟨_, cel_bit (rdCel 0 h.l) htV, br_intro (fun h5 => ?_) fun h5 => ?_⟩
      · have h5 : fnB V t = false := by simpa using h5
        have hvt : fnB v t = true := by
          rcases hlt4 with e | ⟨e, _⟩
          · rw [← e]; exact h4
          · rw [h5] at e; rw [e] at h4; cases h4
        refine idx_i rfl hlt2 ?_
        rw [add_lit0]
        refine st1_i h (by rw [bv_len]; exact htV) fun w7 h => ?_
        rw [bv_setL] at h
        refine nx (by rw [List.length_set]; exact hV) (fun k => ?_) ⟨fun _ he => ?_, fun _ => rfl⟩ h
        · rw [fnB_setT htV]
          by_cases hk : k = t
          · subst hk; rw [hvt]; simp
          · rw [step k hk]; simp [hk]
        · have := hVt ▸ h5
          have hbt : fnB bs t = true := by rw [← he, fnB_setT htV]; simp
          rw [hsub t hbt] at this; cases this
      · have h5 : fnB V t = true := by simpa using h5
        refine nx hV (fun k => ?_) hb3 h
        by_cases hk : k = t
        · subst hk; rw [h5, ← hVt, h5]; rfl
        · exact (step k hk).symm
    · refine nx hV (fun k => ?_) hb3 h
      by_cases hk : k = t
      · subst hk
        have : fnB v k = true → fnB V k = true := fun hv' => by
          rcases hlt4 with e | ⟨_, e⟩
          · rw [e, hv'] at h4; cases h4
          · exact e hv'
        rw [← hVt]
        cases hv' : fnB v k
        · simp
        · rw [this hv']; rfl
      · exact (step k hk).symm
  have hlt2 : t = x.tl := by have := of_decide_eq_false hlt2; omega
  subst hlt2
  have eV : V = addB U (mbI v) := fnB_inj (by rw [addB_len, hV, hU]) fun k => by
    rw [hVf, fnB_add_mb, hU, hbl]
  have hsub2 : ∀ k, fnB bs k = true → fnB V k = true := fun k hk => by rw [hVf, hsub k hk]; rfl
  rw [← eV] at e1
  intro w8 hd8
  have h := h.drawn hd8
  refine ⟨fun w => sub h0 (hp w), rdH 1 h.l, idx_i hya hlt ⟨_, fun w s => hy2 _ s, _, _, _, fun w s => c0 w s, br_intro (fun h4 => ?_) fun h4 => ?_⟩⟩
  · have h4 : u < x.tl := by have := of_decide_eq_true h4; omega
    rw [decide_eq_false (by omega), Bool.false_and, if_neg (by decide)] at e1
    exact fin hb3 e1 h
  have h4 : x.tl ≤ u := by have := of_decide_eq_false h4; omega
  have hun : u - x.tl < nl := by omega
  obtain ⟨b5, ad5, hb51, hba, hb52⟩ := hn.get1 hun
  have eu : (u : Int) - (x.tl : Int) = ((u - x.tl : Nat) : Int) := by omega
  refine ⟨_, _, _, fun w s => c5 w s, idx_i hya hlt ⟨_, fun w s => hy2 _ s, _, _, _, fun w s => c0 w s, ⟨by omega, by omega⟩, ?_⟩⟩
  rw [eu]
  rw [decide_eq_true h4, Bool.true_and, fnB_get hb51] at e1
  refine idx_i hba hun ⟨b5, fun w s => hb52 _ s, br_intro (fun h5 => ?_) fun h5 => ?_⟩
  · have h5 : b5 = false := by simpa using h5
    rw [h5, if_neg (by decide)] at e1
    exact fin hb3 e1 h
  · have h5 : b5 = true := by simpa using h5
    rw [h5, if_pos rfl] at e1
    exact ⟨⟨by omega, by omega⟩, ⟨j + 1, V, by simp, by omega, hV, hsub2, hb3, e1, h⟩, msr hlt⟩
theorem d_List (hr : rdS (hp w) bs a l) (hb : l ≤ 4611686018427387904) (hb8 : l * 8 ≤ 140737488355328) : Run Tryd.prog n_presageref07_List [.slice a l c] w fun v w' => ∃ o c', v = .slice o (cntB bs) c' ∧ St w' (own 1 o (cntB bs) c' (iv (mbI bs)) :: all w) := by
  refine run_presageref07_List _ _ _ w _ ?_
  have h0 := St.all w
  unfold V.all at *
  have hr1 := hr.1
  generalize hp w = H at *
  have key : ∀ j, mbI (bs.take j) = ((List.range j).filter fun k => fnB (bs.take j) k).map fun (k : Nat) => (k : Int) := fun j => mbI_range (by simp; omega)
  refine ⟨fun o l' c' n w' => ∃ j : Nat, n = j ∧ j ≤ l ∧ l' = cntB (bs.take j) ∧ St w' [own 1 o l' c' (iv (mbI (bs.take j))), has H], fun _ _ _ n _ => l - n.toNat, ⟨0, rfl, by omega, by simp [cntB, cnt], ?_⟩, ?_⟩
  · have : mbI (bs.take 0) = [] := by simp [mbI, mb, membs]
    rw [this]; exact own_nil 1 h0
  rintro _ o l' c' n w1 ⟨j, rfl, hj, rfl, h⟩
  have s1 : sub H (hp w1) := rdH 1 h.l
  have hcl := cntB_le (bs.take j)
  refine br_intro (fun hlt => ?_) fun hlt => ?_
  rotate_left
  · have hlt : j = l := by have := of_decide_eq_false hlt; omega
    subst hlt
    rw [List.take_of_length_le (by omega)] at h ⊢
    exact ⟨o, c', rfl, h⟩
  have hlt : j < l := by have := of_decide_eq_true hlt; omega
  obtain ⟨b, ad, hb1, hba, hb2⟩ := hr.get1 hlt
  have et : bs.take (j + 1) = bs.take j ++ [b] := by rw [List.take_add_one, hb1]; rfl
  have lt : (bs.take j).length = j := by rw [List.length_take]; omega
  have em : mbI (bs.take (j + 1)) = mbI (bs.take j) ++ (if b then [(j : Int)] else []) := by
    rw [mbI_range (n := j + 1) (by simp; omega), List.range_succ, List.filter_append, List.map_append]
    have e1 : ((List.range j).filter fun k => fnB (bs.take (j + 1)) k) = (List.range j).filter fun k => fnB (bs.take j) k := List.filter_congr fun k hk => by
      have hk : k < j := by simpa using hk
      unfold fnB
      rw [List.getD_eq_getElem?_getD, List.getD_eq_getElem?_getD, et, List.getElem?_append_left (by omega)]
    rw [e1, ← mbI_range (n := j) (by omega)]
    have e2 : fnB (bs.take (j + 1)) j = b := by
      rw [et]; exact fnB_get (by rw [List.getElem?_append_right (by omega), lt, Nat.sub_self]; rfl)
    simp only [List.filter_cons, e2, List.filter_nil]
    cases b <;> rfl
  have ec : cntB (bs.take (j + 1)) = cntB (bs.take j) + (if b then 1 else 0) := by
    rw [← mbI_len, em, List.length_append, mbI_len]
    cases b <;> rfl
  refine idx_i hba hlt ⟨b, hb2 _ s1, br_intro (fun h3 => ?_) fun h3 => ?_⟩
  · subst h3
    refine newC_i h fun k3 w2 h => ?_
    refine (app_one tyOk (rfl : kdOfT Ty _ = .slice _) (rfl : kdOfT Ty _ = .slice _) rfl rfl rfl h rfl (by simp [oneC]) (by show (_ + 1) * 8 ≤ _; omega) (by omega)).mono ?_
    rintro _ w3 ⟨o2, c2, rfl, h⟩
    refine ⟨_, _, _, rfl, ⟨by omega, by omega⟩, ⟨j + 1, by simp, by omega, ec.symm, ?_⟩, msr hlt⟩
    have e2 : iv (mbI (bs.take j)) ++ [Value.int .i64 (j : Int)] = iv (mbI (bs.take (j + 1))) := by rw [em]; simp [iv]
    rw [e2] at h
    exact h.pick 3 [0, 2]
  · subst h3
    refine ⟨⟨by omega, by omega⟩, ⟨j + 1, by simp, by omega, by rw [ec]; rfl, ?_⟩, msr hlt⟩
    rw [em, if_neg (by decide), List.append_nil]
    exact h
end
end Go.Proofs.YtaheggomcnbbiaaDoor
/- What rows begin with, the document's (3): the table. -/
set_option linter.unusedVariables false
namespace Go.V
def celsA (ps : List Nat) (vs : List (List Bool)) : List Asn := List.zipWith (fun p v => cel p (bv v)) ps vs
theorem rdCC {L : List Asn} {h : Hp} {ps : List Nat} {vs : List (List Bool)} {k p : Nat} {v : List Bool} (i : Nat) (hl : starL L h) (hp : ps[k]? = some p) (hv : vs[k]? = some v) (e : nthA L i = sta (celsA ps vs) := by rfl) (hi : Nat.blt i (lenA L) = true := by rfl) : rowH h ⟨p, 0, none⟩ (bv v) := by
  obtain ⟨h1, s, ha⟩ := starL_nth i (by simpa [lenA_eq] using hi) hl
  rw [e] at ha
  obtain ⟨h2, s2, hb⟩ := starL_in (A := cel p (bv v)) (List.mem_of_getElem? (i := k) (by unfold celsA; rw [List.getElem?_zipWith, hp, hv])) ha
  exact (cel_row hb).mono (s2.trans s)
theorem rdCE {L : List Asn} {h : Hp} {ps : List Nat} {vs : List (List Bool)} {k m p : Nat} {v : List Bool} (i : Nat) (hl : starL L h) (hp : ps[k]? = some p) (hv : vs[k]? = some v) (hk : k ≠ m) (e : nthA L i = sta ((celsA ps vs).eraseIdx m) := by rfl) (hi : Nat.blt i (lenA L) = true := by rfl) : rowH h ⟨p, 0, none⟩ (bv v) := by
  obtain ⟨h1, s, ha⟩ := starL_nth i (by simpa [lenA_eq] using hi) hl
  rw [e] at ha
  obtain ⟨h2, s2, hb⟩ := starL_in (A := cel p (bv v)) (List.mem_eraseIdx_iff_getElem?.2 ⟨k, hk, by unfold celsA; rw [List.getElem?_zipWith, hp, hv]⟩) ha
  exact (cel_row hb).mono (s2.trans s)
theorem rdOwn {L : List Asn} {h : Hp} {a : Option Addr} {sz l c : Nat} {vs : List Value} (i : Nat) (hl : starL L h) (e : nthA L i = own sz a l c vs := by rfl) (hi : Nat.blt i (lenA L) = true := by rfl) : rdV a vs h := by
  obtain ⟨h1, s, ha⟩ := starL_nth i (by simpa [lenA_eq] using hi) hl
  rw [e] at ha
  exact rdV.mono s (own_rdVh ha)
def initB1 (T i : Nat) : List Bool := if i < T then (List.replicate T false).set i true else List.replicate T false
def initB (T j : Nat) : List (List Bool) := (List.range j).map (initB1 T)
theorem initB_succ (T j : Nat) : initB T (j + 1) = initB T j ++ [initB1 T j] := by simp [initB, List.range_succ]
theorem initB_len (T j : Nat) : (initB T j).length = j := by simp [initB]
theorem initB1_fn (T i : Nat) : (initB1 T i).length = T ∧ ∀ t, fnB (initB1 T i) t = true ↔ t = i ∧ t < T := by
  unfold initB1
  by_cases h : i < T
  · rw [if_pos h]
    refine ⟨by simp, fun t => ?_⟩
    rw [fnB_setT (by simpa using h), fnB_rep]
    simp; omega
  · rw [if_neg h]
    refine ⟨by simp, fun t => ?_⟩
    rw [fnB_rep]; simp; omega
theorem NnP.sym {g : GramT} {nn : List Bool} (h : NnP g nn) (iG : InG g) (i : Nat) : fnB (symN g.T nn) i = true ↔ Nul g (i : Int) := by
  rw [fnB_symN, Bool.and_eq_true, decide_eq_true_eq]
  constructor
  · rintro ⟨h1, h2⟩
    have := (h.2 _).1 h2
    rwa [show ((g.T + (i - g.T) : Nat) : Int) = i from by omega] at this
  · intro hN
    have hl := hN.left iG
    refine ⟨by omega, (h.2 _).2 ?_⟩
    rwa [show ((g.T + (i - g.T) : Nat) : Int) = i from by omega]
theorem initB_mk {g : GramT} {nn : List Bool} (iG : InG g) (hn : NnP g nn) : MkF g (symN g.T nn) (initB g.T (g.T + g.N)) := by
  have hget : ∀ i, (initB g.T (g.T + g.N)).getD i [] = if i < g.T + g.N then initB1 g.T i else [] := fun i => by
    unfold initB
    rw [List.getD_eq_getElem?_getD, List.getElem?_map]
    by_cases h : i < g.T + g.N
    · rw [List.getElem?_range h, if_pos h]; rfl
    · rw [List.getElem?_eq_none (by simp; omega), if_neg h]; rfl
  refine ⟨by unfold symN; simp [hn.1], initB_len _ _, fun v hv => ?_, fun i h => (hn.sym iG i).1 h, fun i t h => ?_, fun t ht => ?_⟩
  · obtain ⟨i, _, rfl⟩ := List.mem_map.1 hv
    exact (initB1_fn _ _).1
  · rw [hget] at h
    split at h
    · obtain ⟨rfl, h'⟩ := ((initB1_fn g.T i).2 t).1 h
      exact .tm t h'
    · simp [fnB] at h
  · rw [hget, if_pos (by omega)]
    exact ((initB1_fn _ _).2 _).2 ⟨rfl, ht⟩
theorem NnP.rowN {g : GramT} {nn : List Bool} (h : NnP g nn) (iG : InG g) {p : ProdT} (hp : p ∈ g.prods) : rowN (symN g.T nn) p.right = true → fnB (symN g.T nn) p.left.toNat = true := fun hr => by
  obtain ⟨h1, h2⟩ := iG p hp
  rw [h.sym iG, toNat_back (by omega)]
  refine .mk p hp fun s hs => ?_
  have := (h.sym iG _).1 (rowN_iff.1 hr s hs)
  rwa [toNat_back (h2 s hs).1] at this
theorem set_same {α : Type} {l : List α} {k : Nat} {v : α} (h : l[k]? = some v) : l.set k v = l := by
  apply List.ext_getElem?
  intro i
  rw [List.getElem?_set]
  split
  · rename_i e; subst e; rw [h]; simp; exact (List.getElem?_eq_some_iff.1 h).1
  · rfl
end Go.V
namespace Go.Proofs.YtaheggomcnbbiaaDoor
open Go.V
section
variable {w : World} {L : List Asn} {g : GramT} {x : GA}
set_option maxHeartbeats 4000000 in
theorem d_Table (hg : gR (hp w) g x) (hb : okG g) (he : EitherP g) : Run Tryd.prog n_presageref07_Table [.agg ⟨x.cells⟩] w fun v w' => ∃ (b k4 : Nat) (o : Option Addr) (c : Nat) (nn : List Bool) (ps : List Nat) (vs : List (List Bool)), v = .pointer (some ⟨b, 0, none⟩) ∧ NnP g nn ∧ AllF g (symN g.T nn) vs ∧ ps.length = vs.length ∧
    St w' (cel b (FC x k4 g.N o (g.T + g.N) c) :: cel k4 (bv nn) :: own 1 o (g.T + g.N) c (ps.map (slT g.T)) :: sta (celsA ps vs) :: all w) := by
  refine run_presageref07_Table _ _ _ _ _ _ _ _ _ _ _ _ _ w _ ?_
  refine gbox hg fun k1 w1 gw hg B => ?_
  obtain ⟨iG, bT, bN, pN, pT, bP⟩ := inG he
  have tl : g.T = x.tl := hg.t.1
  have nl : g.N = x.nl := hg.n.1
  have pl := hg.p.1
  intro w2 hd
  have e2 : hp w2 = hp w1 := hp_drawn hd
  have gs : sub (hp w) (hp w1) := gw
  have hg2 : gR (hp w2) g x := hg.mono (e2 ▸ sub.refl _)
  have h2 := St.all w2
  unfold V.all at h2
  rw [e2] at h2
  generalize hH : hp w1 = H at *
  refine ⟨fun w => sub H (hp w), e2 ▸ sub.refl _, _, _, _, _, _, _, _, _, _, _, _, _, _, fun w s => B.row s, _, _, _, _, _, _, _, _, _, _, _, _, _, fun w s => B.row s, (d_Null (x := x) hg2 hb he).mono ?_⟩
  rintro _ w5 ⟨k4, nn, rfl, hnn, h5⟩
  have h5 := h5.on1 h2
  refine ⟨_, _, _, rfl, rdH 1 h5.l, newC_i h5 fun k20 w6 h => ⟨rdH 2 h.l, ?_⟩⟩
  have h : St w6 [cel k20 (FC x k4 g.N none 0 0), cel k4 (bv nn), has H] := h
  refine ⟨fun n w' => ∃ (j : Nat) (o : Option Addr) (c : Nat) (ps : List Nat), n = j ∧ j ≤ g.T + g.N ∧ ps.length = j ∧ St w' [cel k20 (FC x k4 g.N o j c), cel k4 (bv nn), own 1 o j c (ps.map (slT g.T)), sta (celsA ps (initB g.T j)), has H], fun n _ => g.T + g.N - n.toNat, ⟨0, none, 0, [], rfl, by omega, rfl, ?_⟩, ?_⟩
  · have h7 : St w6 (sta (celsA [] (initB g.T 0)) :: _) := St.flat.2 (show St w6 ([] ++ _) from own_nil 1 h)
    exact h7.pick 5 [2, 3, 1, 0, 4]
  clear h h5 h2
  rintro _ n w7 ⟨j, o, c, ps, rfl, hj, hps, h⟩
  refine ⟨_, _, _, _, _, _, _, _, _, _, _, _, _, B.row (rdH 4 h.l), (d_Symbols (x := x) (hg.mono (rdH 4 h.l)) hb).mono ?_⟩
  rintro _ w8 ⟨rfl, g8⟩
  have h := h.gr g8
  refine ⟨_, rfl, br_intro (fun hlt => ?_) fun hlt => ?_⟩
  · have hlt : j < g.T + g.N := by have := of_decide_eq_true hlt; omega
    refine ⟨_, _, _, B.c0 (rdH 4 h.l), ?_⟩
    rw [← tl]
    refine ⟨⟨by omega, rfl, by omega⟩, ?_⟩
    rw [Int.toNat_natCast, reps_one, rep_bv]
    refine newC_i h fun k31 w9 h => ⟨_, _, _, B.c0 (rdH 5 h.l), ?_⟩
    have fin : ∀ {w' : World} {o' : Option Addr} {c' : Nat}, St w' [cel k20 (FC x k4 g.N o' (j + 1) c'), own 1 o' (j + 1) c' (ps.map (slT g.T) ++ [slT g.T k31]), cel k31 (bv (initB1 g.T j)), cel k4 (bv nn), sta (celsA ps (initB g.T j)), has H] → inI ((j : Int) + 1) ∧ (∃ (j' : Nat) (o : Option Addr) (c : Nat) (ps : List Nat), (j : Int) + 1 = j' ∧ j' ≤ g.T + g.N ∧ ps.length = j' ∧ St w' [cel k20 (FC x k4 g.N o j' c), cel k4 (bv nn), own 1 o j' c (ps.map (slT g.T)), sta (celsA ps (initB g.T j')), has H]) ∧ g.T + g.N - ((j : Int) + 1).toNat < g.T + g.N - (j : Int).toNat := fun {w' o' c'} h => by
      refine ⟨⟨by omega, by omega⟩, ⟨j + 1, o', c', ps ++ [k31], by simp, by omega, by simp [hps], ?_⟩, msr hlt⟩
      have h := St.snoc (A := cel k31 (bv (initB1 g.T j))) (M := celsA ps (initB g.T j)) (h.pick 6 [2, 4, 0, 1, 3, 5])
      have lSv : (celsA ps (initB g.T j) ++ [cel k31 (bv (initB1 g.T j))]) = celsA (ps ++ [k31]) (initB g.T (j + 1)) := by
        rw [initB_succ]; unfold celsA; rw [List.zipWith_append (by rw [initB_len]; exact hps)]; rfl
      have e1 : ps.map (slT g.T) ++ [slT g.T k31] = (ps ++ [k31]).map (slT g.T) := by simp
      rw [lSv, e1] at h
      exact h.pick 5 [1, 3, 2, 0, 4]
    refine br_intro (fun hT => ?_) fun hT => ?_
    · have hT : j < g.T := by have := of_decide_eq_true hT; omega
      refine idx_i rfl hT ?_
      rw [add_lit0]
      refine st1_i h (by rw [bv_len]; simpa using hT) fun w10 h => ?_
      rw [bv_setL] at h
      have ei : (List.replicate g.T false).set j true = initB1 g.T j := by unfold initB1; rw [if_pos hT]
      rw [ei] at h
      have r20 : rowH (hp w10) ⟨k20, 0, none⟩ (FC x k4 g.N o j c) := rdCel 1 h.l
      refine ⟨_, _, _, r20.cell (sub.refl _) (j := 6) rfl, newC_i h fun k36 w11 h => ?_⟩
      refine (app_one tyOk (rfl : kdOfT Ty _ = .slice _) (rfl : kdOfT Ty _ = .slice _) rfl rfl rfl (h.pick 7 [0, 4, 2, 1, 3, 5, 6]) rfl (by simp [oneC]) (by show (j + 1) * 24 ≤ _; omega) (by omega)).mono ?_
      rintro _ w12 ⟨o', c', rfl, h⟩
      refine ⟨_, _, _, rfl, ?_⟩
      rw [add_lit0]
      refine st1_i (h.pick 7 [2, 0, 3, 4, 5, 6]) (by simp [FC]) fun w13 h => fin h
    · have hT : ¬ j < g.T := by have := of_decide_eq_false hT; omega
      have ei : List.replicate g.T false = initB1 g.T j := by unfold initB1; rw [if_neg hT]
      rw [ei] at h
      have r20 : rowH (hp w9) ⟨k20, 0, none⟩ (FC x k4 g.N o j c) := rdCel 1 h.l
      refine ⟨_, _, _, r20.cell (sub.refl _) (j := 6) rfl, newC_i h fun k36 w11 h => ?_⟩
      refine (app_one tyOk (rfl : kdOfT Ty _ = .slice _) (rfl : kdOfT Ty _ = .slice _) rfl rfl rfl (h.pick 7 [0, 4, 2, 1, 3, 5, 6]) rfl (by simp [oneC]) (by show (j + 1) * 24 ≤ _; omega) (by omega)).mono ?_
      rintro _ w12 ⟨o', c', rfl, h⟩
      refine ⟨_, _, _, rfl, ?_⟩
      rw [add_lit0]
      refine st1_i (h.pick 7 [2, 0, 3, 4, 5, 6]) (by simp [FC]) fun w13 h => fin h
  have hlt : j = g.T + g.N := by have := of_decide_eq_false hlt; omega
  subst hlt
  obtain ⟨N0, hN0⟩ := name_it (symN g.T nn)
  obtain ⟨Q, hQ⟩ := name_it (fun (b : Bool) (w : World) (m : Nat) => ∃ (vs : List (List Bool)), MkF g N0 vs ∧ m = meas N0 vs + (if b then 1 else 0) ∧ (b = false → ∀ p ∈ g.prods, ClP N0 vs p) ∧ St w [cel k20 (FC x k4 g.N o (g.T + g.N) c), cel k4 (bv nn), own 1 o (g.T + g.N) c (ps.map (slT g.T)), sta (celsA ps vs), has H])
  obtain ⟨μ, mu1, mu2⟩ := least_fn (fun (y : Bool × World) m => Q y.1 y.2 m)
  refine ⟨fun b w' => ∃ m, Q b w' m, fun b w => μ (b, w), ⟨meas N0 (initB g.T (g.T + g.N)) + 1, ?_⟩, ?_⟩
  · rw [hQ]
    exact ⟨_, hN0 ▸ initB_mk iG hnn, by simp, fun h => absurd h (by decide), h⟩
  clear h
  intro _ b3 w17 hP
  have hP := mu2 (b3, w17) hP
  dsimp only at hP
  generalize hμ : μ (b3, w17) = μ0 at *
  rw [hQ] at hP
  obtain ⟨vs0, mk0, hmu, hcl, h⟩ := hP
  refine br_intro (fun hb1 => ?_) fun hb1 => ?_
  rotate_left
  · refine ⟨k20, k4, o, c, nn, ps, vs0, rfl, hnn, hN0 ▸ mk0.all iG (hcl hb1), by rw [hps, mk0.lv], ?_⟩
    exact St.on (N := [_, _, _, _]) h (has_i gs)
  subst hb1
  rw [if_pos rfl] at hmu
  refine ⟨fun b n w' => ∃ (j : Nat) (vs : List (List Bool)), n = j ∧ j ≤ g.prods.length ∧ meas N0 vs + (if b then 1 else 0) ≤ meas N0 vs0 ∧ MkF g N0 vs ∧ (b = false → ∀ p ∈ g.prods.take j, ClP N0 vs p) ∧ St w' [cel k20 (FC x k4 g.N o (g.T + g.N) c), cel k4 (bv nn), own 1 o (g.T + g.N) c (ps.map (slT g.T)), sta (celsA ps vs), has H], fun _ n _ => g.prods.length - n.toNat, ⟨0, vs0, rfl, by omega, by simp, mk0, by simp, h⟩, ?_⟩
  clear h
  rintro _ b2 n6 w18 ⟨j, vs, rfl, hj, hm4, mk, hcl4, h⟩
  refine ⟨_, _, _, B.c4 (rdH 4 h.l), br_intro (fun hlt => ?_) fun hlt => ?_⟩
  rotate_left
  · have hlt : j = g.prods.length := by have := of_decide_eq_false hlt; omega
    subst hlt
    rw [List.take_length] at hcl4
    have key : Q b2 w18 (meas N0 vs + (if b2 then 1 else 0)) := by
      rw [hQ]; exact ⟨vs, mk, rfl, hcl4, h⟩
    refine ⟨⟨_, key⟩, ?_⟩
    have := mu1 (b2, w18) _ key
    dsimp only
    rw [hμ]
    omega
  have hlt : j < g.prods.length := by have := of_decide_eq_true hlt; omega
  obtain ⟨p, ad, pvs, hp1, hpa, hp2, ra, rl, rc, rfl, hrc, hp3⟩ := hg.p.get (i := j) (by omega)
  have hpm := List.mem_of_getElem? hp1
  obtain ⟨hpl, hpr⟩ := iG p hpm
  have rl1 := hp3.1
  have b7' := hb.2.2.2.2.2.2 p hpm
  have et : g.prods.take (j + 1) = g.prods.take j ++ [p] := by rw [List.take_add_one, hp1]; rfl
  obtain ⟨k, hk⟩ : ∃ k : Nat, p.left = k := ⟨p.left.toNat, by omega⟩
  have hkt : p.left.toNat = k := by omega
  have hkN : k < g.T + g.N := by omega
  obtain ⟨px, hpx⟩ : ∃ px, ps[k]? = some px := ⟨ps[k]'(by omega), List.getElem?_eq_getElem _⟩
  obtain ⟨v, hv⟩ : ∃ v, vs[k]? = some v := ⟨vs[k]'(by rw [mk.lv]; exact hkN), List.getElem?_eq_getElem _⟩
  have hvd : vs.getD k [] = v := by rw [List.getD_eq_getElem?_getD, hv]; rfl
  intro w19 hd
  have h := h.drawn hd
  have ro : ∃ ad, o = some ad ∧ rowH (hp w19) ad (ps.map (slT g.T)) := by
    rcases rdOwn 2 h.l with e | ⟨ad, e, hc⟩
    · have := congrArg List.length e
      rw [List.length_map, List.length_nil] at this; omega
    · exact ⟨ad, e, hc⟩
  obtain ⟨ado, hado, rop⟩ := ro
  have r20 : rowH (hp w19) ⟨k20, 0, none⟩ (FC x k4 g.N o (g.T + g.N) c) := rdCel 0 h.l
  have rH : sub H (hp w19) := rdH 4 h.l
  have gS : (celsA ps vs)[k]? = some (cel px (bv v)) := by unfold celsA; rw [List.getElem?_zipWith, hpx, hv]
  have setS : ∀ v', (celsA ps vs).set k (cel px (bv v')) = celsA ps (vs.set k v') := fun v' => zip_set (fun p v => cel p (bv v)) hpx
  refine ⟨fun w => rowH (hp w) ⟨k20, 0, none⟩ (FC x k4 g.N o (g.T + g.N) c) ∧ rowH (hp w) ado (ps.map (slT g.T)) ∧ sub H (hp w), ⟨r20, rop, rH⟩, _, _, _, fun w s => B.c4 s.2.2, idx_n hpa (by omega) ⟨_, _, _, fun w s => hp2.cell s.2.2 (j := 1) rfl, _, _, _, fun w s => s.1.cell (sub.refl _) (j := 6) rfl, _, _, _, fun w s => B.c4 s.2.2, idx_n hpa (by omega) ⟨_, fun w s => hp2.cell0 s.2.2, ?_⟩⟩⟩
  rw [hk]
  refine idx_i hado hkN ⟨_, _, _, fun w s => s.2.1.cell (sub.refl _) (j := k) (by rw [List.getElem?_map, hpx]; rfl), ?_⟩
  have h := St.out (h.pick 5 [3, 0, 1, 2, 4]) gS
  refine (d_lay (T := g.T) (x := x) (ks := k20) (nn := nn) (vs := vs) (ps := ps) (row := p.right) (an := some ⟨k4, 0, none⟩) (nl := g.N) (cn := g.N) (ao := o) (ol := g.T + g.N) (co := c) tl h (fun h hh => rdCel 1 hh) (fun h hh => rdB_of hnn.1 (.inr ⟨_, rfl, rdCel 2 hh⟩)) (fun h hh => ?_) hps mk.lv rfl mk.le (mk.le v (List.mem_of_getElem? hv)) (fun h hh i q v' hi hv' => ?_) (fun h hh => hp3.mono (rdH 4 hh)) (fun s hs => ⟨(hpr s hs).1, by have := (hpr s hs).2; omega⟩) (by omega) (by omega)).mono ?_
  · rcases rdOwn 3 hh with e | ⟨ad, e, hc⟩
    · have := congrArg List.length e
      rw [List.length_map, List.length_nil] at this; omega
    · exact ⟨ad, e, hc⟩
  · by_cases ek : i = k
    · subst ek
      rw [hpx] at hi; cases hi
      rw [hv] at hv'; cases hv'
      exact .inr ⟨rfl, rfl⟩
    · exact .inl (rdCE 0 hh hi hv' ek)
  rintro _ w26 ⟨rfl, h⟩
  rw [← hN0] at h ⊢
  have mk' := mk.lay iG hpm
  rw [hkt, hvd] at mk'
  have hv'l : (rowB N0 vs v p.right).length = v.length := rowB_len _ _ _ _
  have hcv := cntB_rowB N0 vs p.right v
  have hms := meas_set (nl := N0) hv hv'l hcv
  have hsb := fnB_rowB_sub N0 vs p.right v
  have h := St.back h gS
  rw [setS] at h
  refine ⟨_, rfl, ⟨rdCel 1 h.l, ?_, rdH 4 h.l⟩, ?_⟩
  · rcases rdOwn 3 h.l with e | ⟨ad, e, hc⟩
    · have := congrArg List.length e
      rw [List.length_map, List.length_nil] at this; omega
    · rw [hado] at e; cases e; exact hc
  have nx : ∀ {b' : Bool}, (b' = true ↔ b2 = true ∨ rowB N0 vs v p.right ≠ v) → inI ((j : Int) + 1) ∧ (∃ (j' : Nat) (vs : List (List Bool)), (j : Int) + 1 = j' ∧ j' ≤ g.prods.length ∧ meas N0 vs + (if b' then 1 else 0) ≤ meas N0 vs0 ∧ MkF g N0 vs ∧ (b' = false → ∀ p ∈ g.prods.take j', ClP N0 vs p) ∧ St w26 [cel k20 (FC x k4 g.N o (g.T + g.N) c), cel k4 (bv nn), own 1 o (g.T + g.N) c (ps.map (slT g.T)), sta (celsA ps vs), has H]) ∧ g.prods.length - ((j : Int) + 1).toNat < g.prods.length - (j : Int).toNat := fun {b'} hb' => by
    refine ⟨⟨by omega, by omega⟩, ⟨j + 1, vs.set k (rowB N0 vs v p.right), by simp, by omega, ?_, mk', fun hf q hq => ?_, h.pick 5 [1, 2, 3, 0, 4]⟩, msr hlt⟩
    · by_cases h0 : rowB N0 vs v p.right = v
      · rw [h0, set_same hv]
        have : b' = b2 := by rw [Bool.eq_iff_iff, hb']; simp [h0]
        rw [this]; exact hm4
      · have hlt' : cntB v < cntB (rowB N0 vs v p.right) := Nat.lt_of_le_of_ne hcv fun e => h0 (cntB_inj hv'l hsb e.symm)
        have := cntB_le (rowB N0 vs v p.right)
        split at hm4 <;> split <;> omega
    · have h0 : rowB N0 vs v p.right = v := Classical.byContradiction fun hn => by
        have := hb'.2 (.inr hn)
        rw [hf] at this; cases this
      have hb2 : b2 = false := by
        cases hbb : b2
        · rfl
        · have := hb'.2 (.inl hbb)
          rw [hf] at this; cases this
      rw [h0, set_same hv]
      rw [et] at hq
      rcases List.mem_append.1 hq with hq | hq
      · exact hcl4 hb2 q hq
      · simp at hq; subst hq
        refine ⟨hN0 ▸ hnn.rowN iG hpm, ?_⟩
        rw [hkt, hvd]; exact h0
  exact br_intro (fun hb => nx (by simp [hb])) fun hb => nx (by simp [hb])
end
end Go.Proofs.YtaheggomcnbbiaaDoor
/- What rows begin with, the document's (4): its answers. -/
set_option linter.unusedVariables false
namespace Go.V
structure TabR (h : Hp) (g : GramT) (x : GA) (b k4 : Nat) (o : Option Addr) (c : Nat) (nn : List Bool) (ps : List Nat) (vs : List (List Bool)) : Prop where
  f : rowH h ⟨b, 0, none⟩ (FC x k4 g.N o (g.T + g.N) c)
  n : rowH h ⟨k4, 0, none⟩ (bv nn)
  p : ∃ ad, o = some ad ∧ rowH h ad (ps.map (slT g.T))
  v : ∀ (i : Nat) p v, ps[i]? = some p → vs[i]? = some v → rowH h ⟨p, 0, none⟩ (bv v)
theorem TabR.mono {h h' : Hp} {g : GramT} {x : GA} {b k4 : Nat} {o : Option Addr} {c : Nat} {nn : List Bool} {ps : List Nat} {vs : List (List Bool)} (s : sub h h') (t : TabR h g x b k4 o c nn ps vs) : TabR h' g x b k4 o c nn ps vs :=
  ⟨t.f.mono s, t.n.mono s, by obtain ⟨ad, e, r⟩ := t.p; exact ⟨ad, e, r.mono s⟩, fun i p v h1 h2 => (t.v i p v h1 h2).mono s⟩
theorem tabR_of {L : List Asn} {h : Hp} {g : GramT} {x : GA} {b k4 : Nat} {o : Option Addr} {c : Nat} {nn : List Bool} {ps : List Nat} {vs : List (List Bool)} (hl : ps.length = g.T + g.N) (hN : 0 < g.N) (hs : starL (cel b (FC x k4 g.N o (g.T + g.N) c) :: cel k4 (bv nn) :: own 1 o (g.T + g.N) c (ps.map (slT g.T)) :: sta (celsA ps vs) :: L) h) : TabR h g x b k4 o c nn ps vs := by
  refine ⟨rdCel 0 hs, rdCel 1 hs, ?_, fun i p v hp hv => rdCC 3 hs hp hv⟩
  rcases rdOwn (sz := 1) (l := g.T + g.N) (c := c) 2 hs with e | ⟨ad, e, hc⟩
  · have := congrArg List.length e
    rw [List.length_map, List.length_nil] at this; omega
  · exact ⟨ad, e, hc⟩
end Go.V
namespace Go.Proofs.YtaheggomcnbbiaaDoor
open Go.V
section
variable {w : World} {L : List Asn} {g : GramT} {x : GA} {b k4 : Nat} {o a : Option Addr} {c l cl : Nat} {nn : List Bool} {ps : List Nat} {vs : List (List Bool)} {row : List Int}
set_option maxHeartbeats 1000000 in
theorem d_Of (hg : gR (hp w) g x) (he : EitherP g) (t : TabR (hp w) g x b k4 o c nn ps vs) (hn : NnP g nn) (al : AllF g (symN g.T nn) vs) (hps : ps.length = vs.length) (hr : rdS (hp w) row a l) (hs : SyP g row) (hb : l ≤ 4611686018427387904) : Run Tryd.prog n_presageref07_Begin_Of [.pointer (some ⟨b, 0, none⟩), .slice a l cl] w fun v w' => ∃ (k3 : Nat) (bs : List Bool) (r : Bool), v = .tuple #[.slice (some ⟨k3, 0, none⟩) g.T g.T, .bool r] ∧ BsP g row bs ∧ (r = true ↔ NulR g row) ∧ St w' (cel k3 (bv bs) :: all w) := by
  refine run_presageref07_Begin_Of _ _ _ _ w _ ?_
  obtain ⟨iG, bT, bN, pN, pT, bP⟩ := inG he
  have tl : g.T = x.tl := hg.t.1
  have h0 := St.all w
  unfold V.all at h0
  have hlv := al.lv
  refine ⟨_, _, _, t.f.cell0 (sub.refl _), ?_⟩
  rw [← tl]
  refine ⟨⟨by omega, rfl, by omega⟩, ?_⟩
  rw [Int.toNat_natCast, reps_one, rep_bv]
  refine newC_i h0 fun k3 w1 h => ?_
  have H1 : ∀ {h : Hp}, starL [has (hp w)] h → sub (hp w) h := fun hh => rdH 0 hh
  refine (d_lay (T := g.T) (x := x) (ks := b) (nn := nn) (vs := vs) (ps := ps) (row := row) (an := some ⟨k4, 0, none⟩) (nl := g.N) (cn := g.N) (ao := o) (ol := g.T + g.N) (co := c) tl h (fun h hh => t.f.mono (H1 hh)) (fun h hh => rdB_of hn.1 (.inr ⟨_, rfl, t.n.mono (H1 hh)⟩)) (fun h hh => (t.mono (H1 hh)).p) (by omega) hlv rfl al.le (by simp) (fun h hh i q v' hi hv' => .inl ((t.mono (H1 hh)).v i q v' hi hv')) (fun h hh => hr.mono (H1 hh)) (fun s hs' => ⟨(hs s hs').1, by have := (hs s hs').2; omega⟩) hb (by omega)).mono ?_
  rintro _ w2 ⟨rfl, h⟩
  refine ⟨_, rfl, fun w3 hd => ?_⟩
  have h := h.drawn hd
  have s3 : sub (hp w) (hp w3) := rdH 1 h.l
  have t3 := t.mono s3
  have rg : rowH (hp w3) ⟨b, 0, none⟩ x.cells := rowH.take (vs := [.slice (some ⟨k4, 0, none⟩) g.N g.N, .slice o (g.T + g.N) c]) t3.f
  have rn : rdS (hp w3) nn (some ⟨k4, 0, none⟩) g.N := rdB_of hn.1 (.inr ⟨_, rfl, t3.n⟩)
  refine ⟨fun w => sub (hp w3) (hp w), sub.refl _, _, _, _, _, _, _, _, _, _, _, _, _, _, fun w s => rg.at s rfl, _, _, _, fun w s => t3.f.cell s (j := 5) rfl, (d_vanishes (x := x) (hg.mono s3) rn hn.1 (hr.mono s3) hs hb bT bN).mono ?_⟩
  rintro _ w6 ⟨⟨r, rfl, hr'⟩, g6⟩
  obtain ⟨a1, a2⟩ := al.row hs
  refine ⟨_, rfl, g6, k3, _, r, rfl, ⟨by rw [rowB_len]; simp, fun t => ?_⟩, by rw [hr', hn.van iG], h.gr g6⟩
  rw [a2, fnB_rep]
  simp only [List.length_replicate, Bool.false_eq_true, false_or]
  refine ⟨fun h => h.2, fun h => ⟨?_, h⟩⟩
  obtain ⟨_, _, _, _, h⟩ := h
  exact h.lt
theorem d_Nullable1 (hg : gR (hp w) g x) (hb : okG g) : Run Tryd.prog n_presageref07_Nullable [.agg ⟨x.cells⟩] w fun v w' => ∃ (o : Option Addr) (n c : Nat) (e : Int), v = .tuple #[.slice o n c, .int .i64 e] ∧ Gr w w' ∧ ((¬ EitherP g ∧ e = 1 ∧ n = 0) ∨ (EitherP g ∧ e = 0 ∧ n = g.N ∧ ∃ nn, NnP g nn ∧ rdS (hp w') nn o n)) := by
  refine run_presageref07_Nullable _ _ _ _ _ _ _ _ _ _ _ _ _ w _ ?_
  refine gbox hg fun k1 w1 gw hg B => ?_
  refine ⟨_, _, _, _, _, _, _, _, _, _, _, _, _, B.row (sub.refl _), (d_Either (x := x) hg hb).mono ?_⟩
  rintro _ w2 ⟨⟨r, rfl, e⟩, g2⟩
  refine ⟨_, rfl, br_intro (fun h1 => ⟨_, _, _, _, rfl, gw.trans g2, .inl ⟨fun he => ?_, rfl, rfl⟩⟩) fun h1 => ?_⟩
  · rw [e.2 he] at h1; cases h1
  have he := e.1 (by simpa using h1)
  refine ⟨_, _, _, _, _, _, _, _, _, _, _, _, _, B.row g2, (d_Null (x := x) (hg.mono g2) hb he).mono ?_⟩
  rintro _ w3 ⟨k, nn, rfl, hn, h⟩
  exact ⟨_, _, _, rfl, _, _, _, _, rfl, (gw.trans g2).trans h.gone1, .inr ⟨he, rfl, rfl, nn, hn, rdB_of hn.1 (.inr ⟨_, rfl, h.row⟩)⟩⟩
set_option maxHeartbeats 1000000 in
theorem d_Sets1 (hg : gR (hp w) g x) (hb : okG g) : Run Tryd.prog n_presageref07_Sets [.agg ⟨x.cells⟩] w fun v w' => ∃ (o : Option Addr) (n c : Nat) (e : Int), v = .tuple #[.slice o n c, .int .i64 e] ∧ Gr w w' ∧ ((¬ EitherP g ∧ e = 1 ∧ n = 0) ∨ (EitherP g ∧ e = 0 ∧ n = g.N ∧ ∃ bss, SsP g bss ∧ rdS (hp w') (bss.map mbI) o n)) := by
  refine run_presageref07_Sets _ _ _ _ _ _ _ _ _ _ _ _ _ w _ ?_
  refine gbox hg fun k1 w1 gw hg B => ?_
  refine ⟨_, _, _, _, _, _, _, _, _, _, _, _, _, B.row (sub.refl _), (d_Either (x := x) hg hb).mono ?_⟩
  rintro _ w2 ⟨⟨r, rfl, e⟩, g2⟩
  refine ⟨_, rfl, br_intro (fun h1 => ⟨_, _, _, _, rfl, gw.trans g2, .inl ⟨fun he => ?_, rfl, rfl⟩⟩) fun h1 => ?_⟩
  · rw [e.2 he] at h1; cases h1
  have he := e.1 (by simpa using h1)
  obtain ⟨iG, bT, bN, pN, pT, bP⟩ := inG he
  have tl : g.T = x.tl := hg.t.1
  refine ⟨_, _, _, _, _, _, _, _, _, _, _, _, _, B.row g2, (d_Table (x := x) (hg.mono g2) hb he).mono ?_⟩
  rintro _ w3 ⟨b, k4, o, c, nn, ps, vs, rfl, hn, al, hps, h⟩
  have hlv := al.lv
  have t : TabR (hp w3) g x b k4 o c nn ps vs := tabR_of (by omega) pN h.l
  have g3 : Gr w2 w3 := rdH 4 h.l
  have s3 : Gr w1 w3 := g2.trans g3
  have gw3 : Gr w w3 := gw.trans s3
  clear h
  obtain ⟨ad, ho, hps'⟩ := t.p
  have h0 := St.all w3
  unfold V.all at h0
  have s3' : sub (hp w1) (hp w3) := s3
  have gw3 : sub (hp w) (hp w3) := gw3
  refine ⟨_, rfl, _, _, _, B.c0 s3, ?_⟩
  generalize hH : hp w3 = H at *
  refine ⟨fun a l c n w' => ∃ (j : Nat) (os : List (Option Addr × Nat)), n = ((g.T + j : Nat) : Int) ∧ l = j ∧ j ≤ g.N ∧ os.length = j ∧ St w' [own 1 a j c (slvB os ((vs.drop g.T).take j)), sta (rowsA os ((vs.drop g.T).take j)), has H], fun _ _ _ n _ => g.T + g.N - n.toNat, ⟨0, [], by rw [tl]; simp, rfl, by omega, rfl, ?_⟩, ?_⟩
  · have h6 : St w3 (sta (rowsA [] ((vs.drop g.T).take 0)) :: [has H]) := St.flat.2 (show St w3 ([] ++ _) from h0)
    exact own_nil 1 h6
  rintro _ a j c1 n w4 ⟨_, os, rfl, rfl, hj, hos, h⟩
  refine ⟨_, _, _, t.f.cell (rdH 2 h.l) (j := 6) rfl, br_intro (fun hlt => ?_) fun hlt => ?_⟩
  · have hlt : g.T + j < g.T + g.N := by have := of_decide_eq_true hlt; omega
    obtain ⟨p, hp1⟩ : ∃ p, ps[g.T + j]? = some p := ⟨ps[g.T + j]'(by omega), List.getElem?_eq_getElem _⟩
    obtain ⟨v, hv⟩ : ∃ v, vs[g.T + j]? = some v := ⟨vs[g.T + j]'(by omega), List.getElem?_eq_getElem _⟩
    have hvl := al.le v (List.mem_of_getElem? hv)
    have rv : rdS (hp w4) v (some ⟨p, 0, none⟩) g.T := rdB_of hvl (.inr ⟨_, rfl, (t.v _ p v hp1 hv).mono (rdH 2 h.l)⟩)
    refine ⟨_, _, _, t.f.cell (rdH 2 h.l) (j := 6) rfl, idx_i ho hlt ⟨_, _, _, hps'.cell (rdH 2 h.l) (j := g.T + j) (by rw [List.getElem?_map, hp1]; rfl), (d_List rv (by omega) (by omega)).mono ?_⟩⟩
    rintro _ w9 ⟨o2, c2, rfl, h9⟩
    have h := h9.on1 h
    refine ⟨_, _, _, rfl, newC_i h fun k28 w10 h => ?_⟩
    refine (app_one tyOk (rfl : kdOfT Ty _ = .slice _) (rfl : kdOfT Ty _ = .slice _) rfl rfl rfl (h.pick 5 [0, 2, 1, 3, 4]) rfl (by simp [oneC]) (by show (_ + 1) * 24 ≤ _; omega) (by omega)).mono ?_
    rintro _ w11 ⟨a', c', rfl, h⟩
    have hd1 : (vs.drop g.T)[j]? = some v := by rw [List.getElem?_drop]; exact hv
    have et : (vs.drop g.T).take (j + 1) = (vs.drop g.T).take j ++ [v] := by rw [List.take_add_one, hd1]; rfl
    have hll : ((vs.drop g.T).take j).length = j := by rw [List.length_take, List.length_drop, al.lv]; omega
    refine ⟨_, _, _, rfl, ⟨by omega, by omega⟩, ⟨j + 1, os ++ [(o2, c2)], by omega, rfl, by omega, by simp [hos], ?_⟩, by dsimp only; omega⟩
    have h := St.snoc (A := own 1 o2 (cntB v) c2 (iv (mbI v))) (M := rowsA os ((vs.drop g.T).take j)) (h.pick 5 [2, 3, 0, 4])
    have e1 : slvB (os ++ [(o2, c2)]) ((vs.drop g.T).take (j + 1)) = slvB os ((vs.drop g.T).take j) ++ [.slice o2 (cntB v) c2] := by
      rw [et]; unfold slvB; rw [List.zipWith_append (by rw [hll, hos])]; rfl
    have e2 : rowsA (os ++ [(o2, c2)]) ((vs.drop g.T).take (j + 1)) = rowsA os ((vs.drop g.T).take j) ++ [own 1 o2 (cntB v) c2 (iv (mbI v))] := by
      rw [et]; unfold rowsA; rw [List.zipWith_append (by rw [hll, hos])]; rfl
    rw [e1, e2]
    exact h.pick 3 [1, 0, 2]
  · have hlt : j = g.N := by have := of_decide_eq_false hlt; omega
    subst hlt
    have hl : (vs.drop g.T).length = g.N := by rw [List.length_drop, al.lv]; omega
    rw [List.take_of_length_le (by omega)] at h
    have gw4 : Gr w w4 := sub.trans gw3 (rdH 2 h.l)
    refine ⟨_, _, _, _, rfl, gw4, .inr ⟨he, rfl, rfl, vs.drop g.T, ⟨hl, fun i bs hi => ?_⟩, rdSts h hos hl⟩⟩
    rw [List.getElem?_drop] at hi
    refine ⟨al.le _ (List.mem_of_getElem? hi), fun t => ?_⟩
    have := al.nv (g.T + i) t
    rw [List.getD_eq_getElem?_getD, hi] at this
    exact this
set_option maxHeartbeats 1000000 in
theorem d_Row1 (hg : gR (hp w) g x) (hb : okG g) (hr : rdS (hp w) row a l) (hl : l ≤ 4611686018427387904) : Run Tryd.prog n_presageref07_Row [.agg ⟨x.cells⟩, .slice a l cl] w fun v w' => ∃ (o : Option Addr) (n c : Nat) (b : Bool) (e : Int), v = .tuple #[.slice o n c, .bool b, .int .i64 e] ∧ Gr w w' ∧ ((¬ (EitherP g ∧ SyP g row) ∧ e = 1 ∧ n = 0 ∧ b = false) ∨ ((EitherP g ∧ SyP g row) ∧ e = 0 ∧ (b = true ↔ NulR g row) ∧ ∃ bs, BsP g row bs ∧ rdS (hp w') (mbI bs) o n)) := by
  refine run_presageref07_Row _ _ _ _ _ _ _ _ _ _ _ _ _ _ _ _ w _ ?_
  refine gbox hg fun k1 w1 gw hg B => ?_
  have tl : g.T = x.tl := hg.t.1
  have hr1 := hr.mono gw
  have hrl := hr.1
  refine ⟨_, _, _, _, _, _, _, _, _, _, _, _, _, B.row (sub.refl _), (d_Either (x := x) hg hb).mono ?_⟩
  rintro _ w2 ⟨⟨r, rfl, e⟩, g2⟩
  refine ⟨_, rfl, fun b n w' => ∃ j : Nat, n = j ∧ j ≤ l ∧ (b = true ↔ EitherP g ∧ SyP g (row.take j)) ∧ Gr w1 w', fun _ n _ => l - n.toNat, ⟨0, rfl, by omega, by rw [e]; simp [SyP], g2⟩, ?_⟩
  rintro _ b n w3 ⟨j, rfl, hj, hbj, g3⟩
  have bad : ¬ (EitherP g ∧ SyP g row) → ∃ (o : Option Addr) (n c : Nat) (b : Bool) (e : Int), (Value.tuple #[.slice none 0 0, .bool false, .int .i64 1]) = .tuple #[.slice o n c, .bool b, .int .i64 e] ∧ Gr w w3 ∧ ((¬ (EitherP g ∧ SyP g row) ∧ e = 1 ∧ n = 0 ∧ b = false) ∨ ((EitherP g ∧ SyP g row) ∧ e = 0 ∧ (b = true ↔ NulR g row) ∧ ∃ bs, BsP g row bs ∧ rdS (hp w3) (mbI bs) o n)) := fun hn => ⟨_, _, _, _, _, rfl, gw.trans g3, .inl ⟨hn, rfl, rfl, rfl⟩⟩
  have mono : EitherP g ∧ SyP g row → EitherP g ∧ SyP g (row.take j) := fun h => ⟨h.1, fun s hs => h.2 s (List.mem_of_mem_take hs)⟩
  refine br_intro (fun hlt => br_intro (fun h1 => ?_) fun h1 => br_intro (fun _ => bad fun h => by rw [hbj.2 (mono h)] at h1; cases h1) fun h => by rw [h1] at h; cases h) fun hlt => br_intro (fun h1 => bad fun h => by rw [hbj.2 (mono h)] at h1; cases h1) fun h1 => ?_
  · have hlt : j < l := by have := of_decide_eq_true hlt; omega
    obtain ⟨he, hsy⟩ := hbj.1 h1
    obtain ⟨iG, bT, bN, pN, pT, bP⟩ := inG he
    intro w4 hd
    have g4 : Gr w1 w4 := g3.trans (Gr.drawn hd)
    obtain ⟨y, ad, hy1, hya, hy2⟩ := hr1.get1 hlt
    have et : row.take (j + 1) = row.take j ++ [y] := take_succ_get hy1
    have hsn : SyP g (row.take (j + 1)) ↔ (0 ≤ y ∧ y < (g.T : Int) + g.N) := by
      rw [et, SyP_app]
      refine ⟨fun h => h.2 y (by simp), fun h => ⟨hsy, fun s hs => ?_⟩⟩
      simp at hs; subst hs; exact h
    refine ⟨fun w => Gr w1 w, g4, idx_i hya hlt ⟨_, fun w s => hy2 _ s, br_intro (fun h2 => ?_) fun h2 => ⟨⟨by omega, by omega⟩, ⟨j + 1, by simp, by omega, ⟨fun h => absurd h (by decide), fun h => ?_⟩, g4⟩, msr hlt⟩⟩⟩
    · have h2 := of_decide_eq_true h2
      refine idx_i hya hlt ⟨_, fun w s => hy2 _ s, _, _, _, _, _, _, _, _, _, _, _, _, _, fun w s => B.row s, (d_Symbols (x := x) (hg.mono g4) hb).mono ?_⟩
      rintro _ w8 ⟨rfl, g8⟩
      refine ⟨_, rfl, g4.trans g8, ⟨by omega, by omega⟩, ⟨j + 1, by simp, by omega, ?_, g4.trans g8⟩, msr hlt⟩
      rw [decide_eq_true_eq, hsn]
      exact ⟨fun h => ⟨he, h2, h⟩, fun h => h.2.2⟩
    · have h2 := of_decide_eq_false h2
      have := hsn.1 h.2
      omega
  · have hlt : j = l := by have := of_decide_eq_false hlt; omega
    subst hlt
    rw [List.take_of_length_le (by omega)] at hbj
    obtain ⟨he, hsy⟩ := hbj.1 (by simpa using h1)
    obtain ⟨iG, bT, bN, pN, pT, bP⟩ := inG he
    refine ⟨_, _, _, _, _, _, _, _, _, _, _, _, _, B.row g3, (d_Table (x := x) (hg.mono g3) hb he).mono ?_⟩
    rintro _ w9 ⟨b9, k4, o, c, nn, ps, vs, rfl, hn, al, hps, h⟩
    have hlv := al.lv
    have t : TabR (hp w9) g x b9 k4 o c nn ps vs := tabR_of (by omega) pN h.l
    have g9 : Gr w1 w9 := g3.trans (rdH 4 h.l)
    clear h
    refine ⟨_, rfl, (d_Of (x := x) (hg.mono g9) he t hn al hps (hr1.mono g9) hsy hl).mono ?_⟩
    rintro _ w10 ⟨k3, bs, r3, rfl, hbs, hr3, h⟩
    have g10 : Gr w9 w10 := h.gone1
    have rv : rdS (hp w10) bs (some ⟨k3, 0, none⟩) g.T := rdB_of hbs.1 (.inr ⟨_, rfl, h.row⟩)
    refine ⟨_, _, _, _, rfl, (d_List rv (by omega) (by omega)).mono ?_⟩
    rintro _ w11 ⟨o2, c2, rfl, h11⟩
    exact ⟨_, _, _, rfl, _, _, _, _, _, rfl, (gw.trans g9).trans (g10.trans h11.gone1), .inr ⟨⟨he, hsy⟩, rfl, hr3, bs, hbs, own_rdI h11⟩⟩
end
end Go.Proofs.YtaheggomcnbbiaaDoor
/- The document's grammars (6): what reads alike is the same. -/
set_option linter.unusedVariables false
namespace Go.Proofs.YtaheggomcnbbiaaDoor
open Go.V
section
variable {w : World} {L : List Asn} {g : GramT} {x y : GA} {a a2 : Option Addr} {l l2 c c2 : Nat} {xs ys : List Int} {bs : List Bool} {xss : List (List Int)}
theorem d_SameInts (hx : rdS (hp w) xs a l) (hy : rdS (hp w) xs a2 l2) (hb : l ≤ 4611686018427387904) : Run Tryd.prog n_presageref02_SameInts [.slice a l c, .slice a2 l2 c2] w fun v w' => v = .bool true ∧ hp w' = hp w := by
  refine run_presageref02_SameInts _ _ _ _ _ _ w _ ?_
  have hl := hx.1
  have hl2 := hy.1
  refine br_intro (fun h0 => ?_) fun h0 => ?_
  · simp at h0; omega
  refine ⟨fun n w' => ∃ j : Nat, n = j ∧ j ≤ l ∧ hp w' = hp w, fun n _ => l - n.toNat, ⟨0, rfl, by omega, rfl⟩, ?_⟩
  rintro _ n w1 ⟨j, rfl, hj, e⟩
  refine br_intro (fun h1 => ?_) fun _ => ⟨rfl, e⟩
  have h1 : j < l := by have := of_decide_eq_true h1; omega
  intro w2 hd
  have e2 : hp w2 = hp w := (hp_drawn hd).trans e
  obtain ⟨u, ad, hu, hua, hu2⟩ := hx.get1 h1
  obtain ⟨v, ad2, hv, hva, hv2⟩ := hy.get1 (i := j) (by omega)
  rw [hu] at hv; cases hv
  refine ⟨fun w' => sub (hp w) (hp w'), hp_sub e2, idx_i hua h1 ⟨_, fun w s => hu2 _ s, idx_i hva (by omega) ⟨_, fun w s => hv2 _ s, br_intro (fun h => by simp at h) fun _ => ⟨⟨by omega, by omega⟩, ⟨j + 1, by simp, by omega, e2⟩, msr h1⟩⟩⟩⟩
theorem r_Lists (hx : rdS (hp w) xss a l) (hy : rdS (hp w) xss a2 l2) (hb : l ≤ 4611686018427387904) (hbs : ∀ xs ∈ xss, xs.length ≤ 4611686018427387904) : Run Tryd.prog n_presageref01_Lists [.slice a l c, .slice a2 l2 c2] w fun v w' => v = .bool true ∧ hp w' = hp w := by
  refine run_presageref01_Lists _ _ _ _ _ _ w _ ?_
  have hl := hx.1
  have hl2 := hy.1
  refine br_intro (fun h0 => ?_) fun h0 => ?_
  · simp at h0; omega
  refine ⟨fun n w' => ∃ j : Nat, n = j ∧ j ≤ l ∧ hp w' = hp w, fun n _ => l - n.toNat, ⟨0, rfl, by omega, rfl⟩, ?_⟩
  rintro _ n w1 ⟨j, rfl, hj, e⟩
  refine br_intro (fun h1 => ?_) fun _ => ⟨rfl, e⟩
  have h1 : j < l := by have := of_decide_eq_true h1; omega
  intro w2 hd
  have e2 : hp w2 = hp w := (hp_drawn hd).trans e
  obtain ⟨u, ad, vs, hu, hua, hu2, ra, rl, rc, rfl, hrc, hu3⟩ := hx.get h1
  obtain ⟨v, ad2, vs, hv, hva, hv2, sa, sl, sc, rfl, hsc, hv3⟩ := hy.get (i := j) (by omega)
  rw [hu] at hv; cases hv
  have hul := hbs u (List.mem_of_getElem? hu)
  have hur := hu3.1
  refine ⟨fun w' => sub (hp w) (hp w'), hp_sub e2, idx_n hua h1 ⟨_, _, _, fun w s => hu2.cell0 s, idx_n hva (by omega) ⟨_, _, _, fun w s => hv2.cell0 s, (r_Ints (e2 ▸ hu3) (e2 ▸ hv3) (by omega)).mono ?_⟩⟩⟩
  rintro _ w5 ⟨rfl, e5⟩
  refine ⟨_, rfl, hp_sub (e5.trans e2), br_intro (fun h => by simp at h) fun _ => ⟨⟨by omega, by omega⟩, ⟨j + 1, by simp, by omega, e5.trans e2⟩, msr h1⟩⟩
set_option maxHeartbeats 2000000 in
theorem d_Same (hg : gR (hp w) g x) (hk : gR (hp w) g y) (hb : okG g) : Run Tryd.prog n_presageref02_Same [.agg ⟨x.cells⟩, .agg ⟨y.cells⟩] w fun v w' => v = .bool true ∧ Gr w w' := by
  refine run_presageref02_Same _ _ _ _ _ _ _ _ _ _ _ _ _ _ _ _ _ _ _ _ _ _ _ _ _ _ w _ ?_
  refine gbox hg fun k1 w1 gw hg B => gbox (hk.mono gw) fun k2 w2 g2 hk C => ?_
  have hg := hg.mono g2
  have B : GB (hp w2) k1 x := ⟨fun s => B.c0 (sub.trans g2 s), fun s => B.c1 (sub.trans g2 s), fun s => B.c2 (sub.trans g2 s), fun s => B.c3 (sub.trans g2 s), fun s => B.c4 (sub.trans g2 s), fun s => B.row (sub.trans g2 s)⟩
  have gw2 : Gr w w2 := gw.trans g2
  clear g2 gw
  obtain ⟨b1, b2, b3, b4, b5, b6, b7⟩ := hb
  have t1 := hg.t.1; have t2 := hk.t.1
  have n1 := hg.n.1; have n2 := hk.n.1
  have l1 := hg.l.1; have l2 := hk.l.1
  have p1 := hg.p.1; have p2 := hk.p.1
  have s1 := hg.s; have s2 := hk.s
  refine ⟨_, _, _, B.c2 (sub.refl _), _, _, _, C.c2 (sub.refl _), (d_SameInts hg.l hk.l (by omega)).mono ?_⟩
  rintro _ w3 ⟨rfl, e3⟩
  have g3 : Gr w2 w3 := Gr.of_eq e3
  refine ⟨_, rfl, fun b w' => b = false ∧ w' = w3, br_intro (fun h => absurd h (by decide)) fun _ => ⟨_, B.c3 g3, _, C.c3 g3, br_intro (fun h => ?_) fun _ => ⟨_, _, _, B.c0 g3, _, _, _, C.c0 g3, br_intro (fun h => ?_) fun _ => ⟨_, _, _, B.c1 g3, _, _, _, C.c1 g3, br_intro (fun h => ?_) fun _ => ⟨_, _, _, B.c4 g3, _, _, _, C.c4 g3, ?_, rfl⟩⟩⟩⟩, ?_⟩
  · rw [s1, s2] at h; simp at h
  · simp at h; omega
  · simp at h; omega
  · simp; omega
  rintro _ _ w4 ⟨rfl, rfl⟩
  refine br_intro (fun h => absurd h (by decide)) fun _ => ?_
  refine ⟨fun n w' => ∃ j : Nat, n = j ∧ j ≤ x.tl ∧ Gr w2 w', fun n _ => x.tl - n.toNat, ⟨0, rfl, by omega, g3⟩, ?_⟩
  rintro _ n w5 ⟨j, rfl, hj, g5⟩
  refine ⟨_, _, _, B.c0 g5, br_intro (fun h => ?_) fun _ => ?_⟩
  · have h : j < x.tl := by have := of_decide_eq_true h; omega
    intro w6 hd
    have g6 : Gr w2 w6 := g5.trans (Gr.drawn hd)
    obtain ⟨u, ad, vs, hu, hua, hu2, hu3⟩ := hg.t.get h
    obtain ⟨v, ad2, vs', hv, hva, hv2, hv3⟩ := hk.t.get (i := j) (by omega)
    rw [hu] at hv; cases hv
    have hu3 : vs = [.string u.name, .int .i64 u.level] := hu3
    have hv3 : vs' = [.string u.name, .int .i64 u.level] := hv3
    subst hu3; subst hv3
    refine ⟨fun w' => sub (hp w2) (hp w'), g6, _, _, _, fun w s => B.c0 s, idx_n hua h ⟨_, _, fun w s => hu2.at s rfl, _, _, _, fun w s => C.c0 s, idx_n hva (by omega) ⟨_, _, fun w s => hv2.at s rfl, _, fun w s => cmpTerm w _ _ _ _ _ _, _, rfl, br_intro (fun h => by simp at h) fun _ => ⟨⟨by omega, by omega⟩, ⟨j + 1, by simp, by omega, g6⟩, msr h⟩⟩⟩⟩
  refine ⟨fun n w' => ∃ j : Nat, n = j ∧ j ≤ x.nl ∧ Gr w2 w', fun n _ => x.nl - n.toNat, ⟨0, rfl, by omega, g5⟩, ?_⟩
  rintro _ n w12 ⟨j, rfl, hj, g5⟩
  refine ⟨_, _, _, B.c1 g5, br_intro (fun h => ?_) fun _ => ?_⟩
  · have h : j < x.nl := by have := of_decide_eq_true h; omega
    intro w6 hd
    have g6 : Gr w2 w6 := g5.trans (Gr.drawn hd)
    obtain ⟨u, ad, hu, hua, hu2⟩ := hg.n.get1 h
    obtain ⟨v, ad2, hv, hva, hv2⟩ := hk.n.get1 (i := j) (by omega)
    rw [hu] at hv; cases hv
    refine ⟨fun w' => sub (hp w2) (hp w'), g6, _, _, _, fun w s => B.c1 s, idx_i hua h ⟨u, fun w s => hu2 _ s, _, _, _, fun w s => C.c1 s, idx_i hva (by omega) ⟨u, fun w s => hv2 _ s, br_intro (fun h => by simp at h) fun _ => ⟨⟨by omega, by omega⟩, ⟨j + 1, by simp, by omega, g6⟩, msr h⟩⟩⟩⟩
  refine ⟨fun n w' => ∃ j : Nat, n = j ∧ j ≤ x.pl ∧ Gr w2 w', fun n _ => x.pl - n.toNat, ⟨0, rfl, by omega, g5⟩, ?_⟩
  rintro _ n w18 ⟨j, rfl, hj, g5⟩
  refine ⟨_, _, _, B.c4 g5, br_intro (fun h => ?_) fun _ => ⟨rfl, gw2.trans g5⟩⟩
  have h : j < x.pl := by have := of_decide_eq_true h; omega
  obtain ⟨u, ad, vs, hu, hua, hu2, ra, rl, rc, rfl, hrc, hu3⟩ := hg.p.get h
  obtain ⟨v, ad2, vs', hv, hva, hv2, sa, sl, sc, rfl, hsc, hv3⟩ := hk.p.get (i := j) (by omega)
  rw [hu] at hv; cases hv
  have b7' := b7 u (List.mem_of_getElem? hu)
  have u1 := hu3.1
  refine ⟨_, _, _, B.c4 g5, idx_n hua h ⟨_, _, _, _, _, hu2.at g5 rfl, newC_i (St.all w18) fun k37 w19 h1 => stR_i h1 rfl (by simp [oneC]) fun w20 h1 => ?_⟩⟩
  have g20 : Gr w18 w20 := h1.gone1
  refine ⟨_, _, _, C.c4 (sub.trans g5 g20), idx_n hva (by omega) ⟨_, _, _, _, _, hv2.at (sub.trans g5 g20) rfl, newC_i h1 fun k42 w21 h1 => stR_i h1 rfl (by simp [oneC]) fun w22 h1 => ?_⟩⟩
  have r37 : rowH (hp w22) ⟨k37, 0, none⟩ [.int .i64 u.left, .slice ra rl rc, .int .i64 u.level] := rdCel 1 h1.l
  have r42 : rowH (hp w22) ⟨k42, 0, none⟩ [.int .i64 u.left, .slice sa sl sc, .int .i64 u.level] := rdCel 0 h1.l
  have g22 : Gr w2 w22 := sub.trans g5 (rdH 2 h1.l)
  refine ⟨_, _, _, r37.cell (sub.refl _) (j := 1) rfl, _, _, _, r42.cell (sub.refl _) (j := 1) rfl, (d_SameInts (hu3.mono g22) (hv3.mono g22) (by omega)).mono ?_⟩
  rintro _ w23 ⟨rfl, e23⟩
  have s23 := hp_sub e23
  refine ⟨_, rfl, br_intro (fun h => absurd h (by decide)) fun _ => ⟨_, r37.cell0 s23, _, r42.cell0 s23, br_intro (fun h => by simp at h) fun _ => ⟨_, r37.cell s23 (j := 2) rfl, _, r42.cell s23 (j := 2) rfl, br_intro (fun h => by simp at h) fun _ => ⟨⟨by omega, by omega⟩, ⟨j + 1, by simp, by omega, g22.trans s23⟩, msr h⟩⟩⟩⟩
end
end Go.Proofs.YtaheggomcnbbiaaDoor
/- What rows begin with (16): against the document's answer. -/
set_option linter.unusedVariables false
namespace Go.V
/- what the answers are -/
def NulRes (g : GramT) (e : Int) (nn : List Bool) : Prop := (¬ EitherP g ∧ e = 1 ∧ nn = []) ∨ (EitherP g ∧ e = 0 ∧ NnP g nn)
def SetRes (g : GramT) (e : Int) (bss : List (List Bool)) : Prop := (¬ EitherP g ∧ e = 1 ∧ bss = []) ∨ (EitherP g ∧ e = 0 ∧ SsP g bss)
def RowRes (g : GramT) (row : List Int) (e : Int) (b : Bool) (xs : List Int) : Prop := (¬ (EitherP g ∧ SyP g row) ∧ e = 1 ∧ b = false ∧ xs = []) ∨ ((EitherP g ∧ SyP g row) ∧ e = 0 ∧ (b = true ↔ NulR g row) ∧ ∃ bs, BsP g row bs ∧ xs = mbI bs)
theorem NulRes.inj {g : GramT} {e e' : Int} {nn nn' : List Bool} (h : NulRes g e nn) (k : NulRes g e' nn') : e = e' ∧ nn = nn' := by
  rcases h with ⟨h1, rfl, rfl⟩ | ⟨h1, rfl, h2⟩ <;> rcases k with ⟨k1, rfl, rfl⟩ | ⟨k1, rfl, k2⟩
  · exact ⟨rfl, rfl⟩
  · exact absurd k1 h1
  · exact absurd h1 k1
  · exact ⟨rfl, h2.inj k2⟩
theorem SetRes.inj {g : GramT} {e e' : Int} {nn nn' : List (List Bool)} (h : SetRes g e nn) (k : SetRes g e' nn') : e = e' ∧ nn = nn' := by
  rcases h with ⟨h1, rfl, rfl⟩ | ⟨h1, rfl, h2⟩ <;> rcases k with ⟨k1, rfl, rfl⟩ | ⟨k1, rfl, k2⟩
  · exact ⟨rfl, rfl⟩
  · exact absurd k1 h1
  · exact absurd h1 k1
  · exact ⟨rfl, h2.inj k2⟩
theorem RowRes.inj {g : GramT} {row : List Int} {e e' : Int} {b b' : Bool} {xs xs' : List Int} (h : RowRes g row e b xs) (k : RowRes g row e' b' xs') : e = e' ∧ b = b' ∧ xs = xs' := by
  rcases h with ⟨h1, rfl, rfl, rfl⟩ | ⟨h1, rfl, h2, bs, h3, rfl⟩ <;> rcases k with ⟨k1, rfl, rfl, rfl⟩ | ⟨k1, rfl, k2, bs', k3, rfl⟩
  · exact ⟨rfl, rfl, rfl⟩
  · exact absurd k1 h1
  · exact absurd h1 k1
  · exact ⟨rfl, by rw [Bool.eq_iff_iff, h2, k2], by rw [h3.inj k3]⟩
theorem SetRes.le {g : GramT} {e : Int} {bss : List (List Bool)} (h : SetRes g e bss) : bss.length ≤ 65 ∧ ∀ bs ∈ bss, bs.length ≤ 65 := by
  rcases h with ⟨_, _, rfl⟩ | ⟨he, _, h1, h2⟩
  · simp
  · obtain ⟨iG, bT, bN, pN, pT, bP⟩ := inG he
    refine ⟨by omega, fun bs hb => ?_⟩
    obtain ⟨i, hi, e⟩ := List.mem_iff_getElem.1 hb
    have := (h2 i bs (by rw [← e]; exact List.getElem?_eq_getElem hi)).1
    omega
theorem RowRes.le {g : GramT} {row : List Int} {e : Int} {b : Bool} {xs : List Int} (h : RowRes g row e b xs) : xs.length ≤ 65 := by
  rcases h with ⟨_, _, _, rfl⟩ | ⟨he, _, _, bs, h1, rfl⟩
  · simp
  · obtain ⟨iG, bT, bN, pN, pT, bP⟩ := inG he.1
    have := cntB_le bs
    rw [mbI_len, ]
    have := h1.1
    omega
theorem NulRes.le {g : GramT} {e : Int} {nn : List Bool} (h : NulRes g e nn) : nn.length ≤ 65 := by
  rcases h with ⟨_, _, rfl⟩ | ⟨he, _, h1, h2⟩
  · simp
  · obtain ⟨iG, bT, bN, pN, pT, bP⟩ := inG he
    omega
/- rows of an owner -/
abbrev RowO := Option Addr × Nat × Nat × List Value
def rsV (rs : List RowO) : List Value := rs.map fun r => .slice r.1 r.2.1 r.2.2.1
def rsA (rs : List RowO) : List Asn := rs.map fun r => own 1 r.1 r.2.1 r.2.2.1 r.2.2.2
def rsOf (os : List (Option Addr × Nat)) (bss : List (List Bool)) : List RowO := List.zipWith (fun o bs => (o.1, cntB bs, o.2, iv (mbI bs))) os bss
theorem rsOf_V (os : List (Option Addr × Nat)) (bss : List (List Bool)) : slvB os bss = rsV (rsOf os bss) := by
  unfold slvB rsV rsOf; rw [List.map_zipWith]
theorem rsOf_A (os : List (Option Addr × Nat)) (bss : List (List Bool)) : rowsA os bss = rsA (rsOf os bss) := by
  unfold rowsA rsA rsOf; rw [List.map_zipWith]
end Go.V
namespace Go.Proofs.YtaheggomcnbbiaaDoor
open Go.V
section
variable {w : World} {L : List Asn} {g : GramT} {x : GA} {a a2 : Option Addr} {l l2 c c2 : Nat} {bs : List Bool} {row : List Int}
theorem l_sameBools (hx : rdS (hp w) bs a l) (hy : rdS (hp w) bs a2 l2) (hb : l ≤ 4611686018427387904) : Run Tryd.prog n_presagelaw07_sameBools [.slice a l c, .slice a2 l2 c2] w fun v w' => v = .bool true ∧ hp w' = hp w := by
  refine run_presagelaw07_sameBools _ _ _ _ _ _ w _ ?_
  have hl := hx.1
  have hl2 := hy.1
  refine br_intro (fun h0 => ?_) fun h0 => ?_
  · simp at h0; omega
  refine ⟨fun n w' => ∃ j : Nat, n = j ∧ j ≤ l ∧ hp w' = hp w, fun n _ => l - n.toNat, ⟨0, rfl, by omega, rfl⟩, ?_⟩
  rintro _ n w1 ⟨j, rfl, hj, e⟩
  refine br_intro (fun h1 => ?_) fun _ => ⟨rfl, e⟩
  have h1 : j < l := by have := of_decide_eq_true h1; omega
  intro w2 hd
  have e2 : hp w2 = hp w := (hp_drawn hd).trans e
  obtain ⟨u, ad, hu, hua, hu2⟩ := hx.get1 h1
  obtain ⟨v, ad2, hv, hva, hv2⟩ := hy.get1 (i := j) (by omega)
  rw [hu] at hv; cases hv
  refine ⟨fun w' => sub (hp w) (hp w'), hp_sub e2, idx_i hua h1 ⟨_, fun w s => hu2 _ s, idx_i hva (by omega) ⟨_, fun w s => hv2 _ s, br_intro (fun h => by simp at h) fun _ => ⟨⟨by omega, by omega⟩, ⟨j + 1, by simp, by omega, e2⟩, msr h1⟩⟩⟩⟩
theorem f_Nullable2 (hg : gR (hp w) g x) (hb : okG g) (ht : tabA (hp w)) : Run Tryd.prog n_first_Nullable [.agg ⟨x.cells⟩] w fun v w' => ∃ (o : Option Addr) (n c : Nat) (e : Int) (nn : List Bool), v = .tuple #[.slice o n c, .int .i64 e] ∧ nn.length = n ∧ NulRes g e nn ∧ St w' (own 1 o n c (bv nn) :: all w) := by
  refine (f_Nullable hg hb ht).mono ?_
  rintro _ w' (⟨h1, rfl, h2⟩ | ⟨h1, k, nl, nn, h2, h3, rfl, h4⟩)
  · exact ⟨_, _, _, _, [], rfl, rfl, .inl ⟨h1, rfl, rfl⟩, own_nil 1 (has_i h2)⟩
  · refine ⟨_, _, _, _, nn, rfl, h3.1, .inr ⟨h1, rfl, h3⟩, ?_⟩
    have e : bv (nl ++ nn) = bv nl ++ (bv nn ++ ([] ++ [])) := by simp [bv]
    rw [e] at h4
    have := own_some' (pre := bv nl) (vs := bv nn) (cs := []) (post := []) (l := g.N) (c := g.N) (sz := 1) h4 (by rw [bv_len, h3.1, Nat.mul_one]) (by rw [List.append_nil, bv_len, h3.1, Nat.mul_one]) (Nat.le_refl _)
    rw [bv_len, h2] at this
    exact this
theorem f_Sets2 (hg : gR (hp w) g x) (hb : okG g) (ht : tabA (hp w)) : Run Tryd.prog n_first_Sets [.agg ⟨x.cells⟩] w fun v w' => ∃ (o : Option Addr) (n c : Nat) (e : Int) (os : List (Option Addr × Nat)) (bss : List (List Bool)), v = .tuple #[.slice o n c, .int .i64 e] ∧ os.length = n ∧ bss.length = n ∧ SetRes g e bss ∧ St w' (own 1 o n c (slvB os bss) :: sta (rowsA os bss) :: all w) := by
  refine (f_Sets hg hb ht).mono ?_
  rintro _ w' (⟨h1, rfl, h2⟩ | ⟨h1, a, c, os, bss, h2, h3, rfl, h4⟩)
  · have h6 : St w' (sta (rowsA [] []) :: all w) := St.flat.2 (show St w' ([] ++ _) from has_i h2)
    exact ⟨_, _, _, _, [], [], rfl, rfl, rfl, .inl ⟨h1, rfl, rfl⟩, own_nil 1 h6⟩
  · exact ⟨_, _, _, _, os, bss, rfl, h2, h3.1, .inr ⟨h1, rfl, h3⟩, h4⟩
theorem f_Row2 (hg : gR (hp w) g x) (hb : okG g) (ht : tabA (hp w)) (hr : rdS (hp w) row a l) (hl : l ≤ 4611686018427387904) : Run Tryd.prog n_first_Row [.agg ⟨x.cells⟩, .slice a l c] w fun v w' => ∃ (o : Option Addr) (n c : Nat) (b : Bool) (e : Int) (xs : List Int), v = .tuple #[.slice o n c, .bool b, .int .i64 e] ∧ xs.length = n ∧ RowRes g row e b xs ∧ St w' (own 1 o n c (iv xs) :: all w) := by
  refine (f_Row hg hb ht hr hl).mono ?_
  rintro _ w' (⟨h1, rfl, h2⟩ | ⟨h1, o, c, bs, b, h2, h3, rfl, h4⟩)
  · exact ⟨_, _, _, _, _, [], rfl, rfl, .inl ⟨h1, rfl, rfl, rfl⟩, own_nil 1 (has_i h2)⟩
  · exact ⟨_, _, _, _, _, mbI bs, rfl, mbI_len _, .inr ⟨h1, rfl, h3, bs, h2, rfl⟩, h4⟩
theorem d_Nullable2 (hg : gR (hp w) g x) (hb : okG g) : Run Tryd.prog n_presageref07_Nullable [.agg ⟨x.cells⟩] w fun v w' => ∃ (o : Option Addr) (n c : Nat) (e : Int) (nn : List Bool), v = .tuple #[.slice o n c, .int .i64 e] ∧ NulRes g e nn ∧ rdS (hp w') nn o n ∧ Gr w w' := by
  refine (d_Nullable1 hg hb).mono ?_
  rintro _ w' ⟨o, n, c, e, rfl, g1, ⟨h1, rfl, rfl⟩ | ⟨h1, rfl, rfl, nn, h2, h3⟩⟩
  · exact ⟨_, _, _, _, [], rfl, .inl ⟨h1, rfl, rfl⟩, rdS.nil, g1⟩
  · exact ⟨_, _, _, _, nn, rfl, .inr ⟨h1, rfl, h2⟩, h3, g1⟩
theorem d_Sets2 (hg : gR (hp w) g x) (hb : okG g) : Run Tryd.prog n_presageref07_Sets [.agg ⟨x.cells⟩] w fun v w' => ∃ (o : Option Addr) (n c : Nat) (e : Int) (bss : List (List Bool)), v = .tuple #[.slice o n c, .int .i64 e] ∧ SetRes g e bss ∧ rdS (hp w') (bss.map mbI) o n ∧ Gr w w' := by
  refine (d_Sets1 hg hb).mono ?_
  rintro _ w' ⟨o, n, c, e, rfl, g1, ⟨h1, rfl, rfl⟩ | ⟨h1, rfl, rfl, nn, h2, h3⟩⟩
  · exact ⟨_, _, _, _, [], rfl, .inl ⟨h1, rfl, rfl⟩, rdS.nil, g1⟩
  · exact ⟨_, _, _, _, nn, rfl, .inr ⟨h1, rfl, h2⟩, h3, g1⟩
theorem d_Row2 (hg : gR (hp w) g x) (hb : okG g) (hr : rdS (hp w) row a l) (hl : l ≤ 4611686018427387904) : Run Tryd.prog n_presageref07_Row [.agg ⟨x.cells⟩, .slice a l c] w fun v w' => ∃ (o : Option Addr) (n c : Nat) (b : Bool) (e : Int) (xs : List Int), v = .tuple #[.slice o n c, .bool b, .int .i64 e] ∧ RowRes g row e b xs ∧ rdS (hp w') xs o n ∧ Gr w w' := by
  refine (d_Row1 hg hb hr hl).mono ?_
  rintro _ w' ⟨o, n, c, b, e, rfl, g1, ⟨h1, rfl, rfl, rfl⟩ | ⟨h1, rfl, h2, bs, h3, h4⟩⟩
  · exact ⟨_, _, _, _, _, [], rfl, .inl ⟨h1, rfl, rfl, rfl⟩, rdS.nil, g1⟩
  · exact ⟨_, _, _, _, _, mbI bs, rfl, .inr ⟨h1, rfl, h2, bs, h3, rfl⟩, h4, g1⟩
end
end Go.Proofs.YtaheggomcnbbiaaDoor
/- What rows begin with (17): the law against the document's answer. -/
set_option linter.unusedVariables false
namespace Go.V
theorem rsOf_le {os : List (Option Addr × Nat)} {bss : List (List Bool)} {k : Nat} {r : RowO} (hb : ∀ bs ∈ bss, bs.length ≤ 65) (h : (rsOf os bss)[k]? = some r) : r.2.1 ≤ 65 := by
  unfold rsOf at h
  rw [List.getElem?_zipWith] at h
  cases h1 : os[k]? with
  | none => rw [h1] at h; cases h
  | some o =>
    cases h2 : bss[k]? with
    | none => rw [h1, h2] at h; cases h
    | some bs =>
      rw [h1, h2] at h; cases h
      have h3 := cntB_le bs
      have h4 := hb bs (List.mem_of_getElem? h2)
      show cntB bs ≤ 65
      omega
end Go.V
namespace Go.Proofs.YtaheggomcnbbiaaDoor
open Go.V
section
variable {w : World} {L : List Asn} {g : GramT} {x : GA} {a a2 : Option Addr} {l l2 c c2 : Nat} {row : List Int}
set_option maxHeartbeats 4000000 in
theorem l_FirstExact {ra : Option Addr} {rl rc : Nat} (hg : gR (hp w) g x) (hb : okG g) (hbT : g.terms.length * 24 ≤ 140737488355328) (hbN : g.nons.length * 16 ≤ 140737488355328) (ht : tabA (hp w)) (hr : rdS (hp w) row ra rl) (hrb : rl * 8 ≤ 140737488355264) : Run Tryd.prog n_presagelaw07_FirstExact [.agg ⟨x.cells⟩, .slice ra rl rc] w fun v w' => v = .bool true ∧ Gr w w' := by
  refine run_presagelaw07_FirstExact _ _ _ _ _ _ _ _ _ _ _ _ _ _ _ _ w _ ?_
  refine gbox hg fun k1 w1 gw hg B => ?_
  refine (l_awake7 (rdV.mono gw ht)).mono ?_
  rintro _ w2 ⟨rfl, g2⟩
  refine ⟨_, rfl, _, _, _, _, _, _, _, _, _, _, _, _, _, B.row g2, (d_Copy (x := x) (hg.mono g2) hb hbT hbN).mono ?_⟩
  rintro _ w3 ⟨y, os, rfl, hy, hos, h3⟩
  have hk3 : gR (hp w3) g y := ownG_gR hy hos h3
  have g3 : Gr w2 w3 := rdH 5 h3.l
  refine ⟨_, _, _, _, _, _, _, _, _, _, _, _, _, rfl, newC_i (St.all w3) fun k18 w4 h4 => stR_i h4 rfl (by intro v hv; simp at hv; rcases hv with rfl | rfl | rfl | rfl | rfl <;> rfl) fun w5 h5 => ?_⟩
  have C : GB (hp w5) k18 y := gb_of h5.row
  have g5 : Gr w3 w5 := h5.gone1
  have s5 : Gr w1 w5 := (g2.trans g3).trans g5
  have hk5 : gR (hp w5) g y := hk3.mono g5
  have hg5 : gR (hp w5) g x := hg.mono s5
  have gw5 : Gr w w5 := gw.trans s5
  have ht5 : tabA (hp w5) := rdV.mono gw5 ht
  have hr5 : rdS (hp w5) row ra rl := hr.mono gw5
  have B5 : ∀ {w : World}, sub (hp w5) (hp w) → V.rowAt w ⟨k1, 0, none⟩ 0 5 = some x.cells := fun s => B.row (sub.trans s5 s)
  clear h3 h4 h5
  refine ⟨fun n w' => ∃ j : Nat, n = j ∧ j ≤ 2 ∧ Gr w5 w', fun n _ => 2 - n.toNat, ⟨0, rfl, by omega, Gr.refl _⟩, ?_⟩
  rintro _ n w6 ⟨j, rfl, hj, g6⟩
  refine br_intro (fun hlt => ?_) fun _ => ?_
  rotate_left
  · refine ⟨_, _, _, _, _, _, _, _, _, _, _, _, _, B5 g6, _, _, _, _, _, _, _, _, _, _, _, _, _, C.row g6, (d_Same (x := x) (y := y) (hg5.mono g6) (hk5.mono g6) hb).mono ?_⟩
    rintro _ w29 ⟨rfl, g29⟩
    exact ⟨_, rfl, br_intro (fun _ => ⟨rfl, gw5.trans (g6.trans g29)⟩) fun h => absurd h (by decide)⟩
  have hlt : j < 2 := by have := of_decide_eq_true hlt; omega
  have g6' : sub (hp w5) (hp w6) := g6
  obtain ⟨H, hH⟩ := name_it (hp w6)
  have gH : sub (hp w5) H := hH ▸ g6'
  have hl : rl ≤ 4611686018427387904 := by omega
  refine ⟨_, _, _, _, _, _, _, _, _, _, _, _, _, B5 g6, (f_Nullable2 (x := x) (hg5.mono g6) hb (rdV.mono g6 ht5)).mono ?_⟩
  rintro _ w7 ⟨oa, na, ca, ea, nn, rfl, hnl, rN, h⟩
  have h : St w7 [own 1 oa na ca (bv nn), has H] := by have := h; unfold V.all at this; rwa [← hH] at this
  have s7 : sub (hp w5) (hp w7) := sub.trans gH (rdH 1 h.l)
  refine ⟨_, _, _, _, rfl, _, _, _, _, _, _, _, _, _, _, _, _, _, C.row s7, (d_Nullable2 (x := y) (hk5.mono s7) hb).mono ?_⟩
  rintro _ w8 ⟨ob, nb, cb, eb, mm, rfl, rM, rdM, g8⟩
  obtain ⟨rfl, rfl⟩ := rN.inj rM
  have h := h.gr g8
  have rdN : rdS (hp w8) nn oa na := rdB_of hnl (rdOwn 0 h.l)
  have nle := rN.le
  refine ⟨_, _, _, _, rfl, (l_sameBools rdN rdM (by omega)).mono ?_⟩
  rintro _ w9 ⟨rfl, e9⟩
  have h := h.gr (Gr.of_eq e9)
  have s9 : sub (hp w5) (hp w9) := sub.trans gH (rdH 1 h.l)
  refine ⟨_, rfl, _, _, _, _, _, _, _, _, _, _, _, _, _, B5 s9, (f_Sets2 (x := x) (hg5.mono s9) hb (rdV.mono s9 ht5)).mono ?_⟩
  rintro _ w10 ⟨oc, nc, cc, ec, os2, bss, rfl, hos2, hbl, rS, h10⟩
  have h : St w10 [own 1 oc nc cc (slvB os2 bss), sta (rowsA os2 bss), own 1 oa na ca (bv nn), has H] := St.on (N := [_, _]) h10 h.l
  have s10 : sub (hp w5) (hp w10) := sub.trans gH (rdH 3 h.l)
  refine ⟨_, _, _, _, rfl, _, _, _, _, _, _, _, _, _, _, _, _, _, C.row s10, (d_Sets2 (x := y) (hk5.mono s10) hb).mono ?_⟩
  rintro _ w11 ⟨od, nd, cd, ed, dss, rfl, rD, rdD, g11⟩
  obtain ⟨rfl, rfl⟩ := rS.inj rD
  have h := h.gr g11
  have rdC : rdS (hp w11) (bss.map mbI) oc nc := rdSts h hos2 hbl
  obtain ⟨sle, sle2⟩ := rS.le
  refine ⟨_, _, _, _, rfl, (r_Lists rdC rdD (by omega) (fun xs hx => by
    obtain ⟨bs, hbs, rfl⟩ := List.mem_map.1 hx
    have := sle2 bs hbs
    have := cntB_le bs
    rw [mbI_len]; omega)).mono ?_⟩
  rintro _ w12 ⟨rfl, e12⟩
  have h := h.gr (Gr.of_eq e12)
  have s12 : sub (hp w5) (hp w12) := sub.trans gH (rdH 3 h.l)
  refine ⟨_, rfl, (r_Lent (hr5.mono s12) hrb).mono ?_⟩
  rintro _ w13 ⟨kl, cl, hcl, rfl, h13⟩
  have h : St w13 [own 1 (some ⟨kl, 0, none⟩) (rl + 8) (rl + 8) (iv (lentL row)), own 1 oc nc cc (slvB os2 bss), sta (rowsA os2 bss), own 1 oa na ca (bv nn), has H] := St.on (N := [_]) h13 h.l
  have s13 : sub (hp w5) (hp w13) := sub.trans gH (rdH 4 h.l)
  have hrl := hr.1
  have rdL : ∀ {w : World}, rdV (some ⟨kl, 0, none⟩) (iv (lentL row)) (hp w) → rdS (hp w) row (some ⟨kl, 0, none⟩) rl := fun r => lent_take hrl (rdI_of (by rw [lentL_len, hrl]) r)
  refine ⟨_, _, _, _, _, _, rfl, _, _, _, _, _, _, _, _, _, _, _, _, _, B5 s13, (f_Row2 (x := x) (hg5.mono s13) hb (rdV.mono s13 ht5) (rdL (rdOwn 0 h.l)) hl).mono ?_⟩
  rintro _ w14 ⟨ox, nx, cx, bx, ex, xs, rfl, hxl, rX, h14⟩
  have h : St w14 [own 1 ox nx cx (iv xs), own 1 (some ⟨kl, 0, none⟩) (rl + 8) (rl + 8) (iv (lentL row)), own 1 oc nc cc (slvB os2 bss), sta (rowsA os2 bss), own 1 oa na ca (bv nn), has H] := St.on (N := [_]) h14 h.l
  have s14 : sub (hp w5) (hp w14) := sub.trans gH (rdH 5 h.l)
  refine ⟨_, _, _, _, _, rfl, _, _, _, _, _, _, _, _, _, _, _, _, _, C.row s14, (d_Row2 (x := y) (hk5.mono s14) hb (hr5.mono s14) hl).mono ?_⟩
  rintro _ w15 ⟨oy, ny, cy, bY, ey, ys, rfl, rY, rdY, g15⟩
  obtain ⟨rfl, rfl, rfl⟩ := rX.inj rY
  have h := h.gr g15
  have rdX : rdS (hp w15) xs ox nx := rdI_of hxl (rdOwn 0 h.l)
  have xle := rX.le
  refine ⟨_, _, _, _, _, rfl, (r_Ints rdX rdY (by omega)).mono ?_⟩
  rintro _ w16 ⟨rfl, e16⟩
  have h := h.gr (Gr.of_eq e16)
  have s16 : sub (hp w5) (hp w16) := sub.trans gH (rdH 5 h.l)
  refine ⟨_, rfl, (r_Whole (rdI_of (by rw [lentL_len, hrl]) (rdOwn 1 h.l)) (hr5.mono s16) hl).mono ?_⟩
  rintro _ w17 ⟨rfl, e17⟩
  have h := h.gr (Gr.of_eq e17)
  refine ⟨_, rfl, fun b w' => b = false ∧ w' = w17, br_intro (fun h => absurd h (by decide)) fun _ => br_intro (fun h => absurd h (by decide)) fun _ => br_intro (fun h => by simp at h) fun _ => br_intro (fun h => absurd h (by decide)) fun _ => br_intro (fun h => by simp at h) fun _ => br_intro (fun h => by simp at h) fun _ => br_intro (fun h => by simp at h) fun _ => ⟨by simp, rfl⟩, ?_⟩
  rintro _ _ w18 ⟨rfl, rfl⟩
  refine br_intro (fun h => absurd h (by decide)) fun _ => ?_
  rw [rsOf_V, rsOf_A] at h
  have hrs0 : (rsOf os2 bss).length = nc := by unfold rsOf; rw [List.length_zipWith]; omega
  have hrs1 : ∀ r ∈ rsOf os2 bss, r.2.1 ≤ 66 := fun r hr => by
    obtain ⟨i, hi, e⟩ := List.mem_iff_getElem.1 hr
    have := rsOf_le sle2 (k := i) (r := r) (by rw [← e]; exact List.getElem?_eq_getElem hi)
    omega
  refine ⟨fun n w' => ∃ (i : Nat) (rs : List RowO), n = i ∧ i ≤ nc ∧ rs.length = nc ∧ (∀ r ∈ rs, r.2.1 ≤ 66) ∧ (∀ k r, i ≤ k → rs[k]? = some r → r.2.1 ≤ 65) ∧ St w' [own 1 oc nc cc (rsV rs), sta (rsA rs), own 1 oa na ca (bv nn), own 1 ox nx cx (iv xs), has H], fun n _ => nc - n.toNat, ⟨0, rsOf os2 bss, rfl, by omega, hrs0, hrs1, ?_, h.pick 6 [2, 3, 4, 0, 5]⟩, ?_⟩
  · exact fun k r _ hk => rsOf_le sle2 hk
  clear h
  rintro _ n w19 ⟨i, rs, rfl, hi, hrl1, hr66, hr65, h⟩
  refine br_intro (fun h1 => ?_) fun _ => ?_
  · have h1 : i < nc := by have := of_decide_eq_true h1; omega
    obtain ⟨r0, hr0⟩ : ∃ r, rs[i]? = some r := ⟨rs[i]'(by omega), List.getElem?_eq_getElem _⟩
    have hl65 := hr65 i r0 (Nat.le_refl _) hr0
    refine ⟨fun n w' => ∃ (t : Nat) (rs' : List RowO) (r : RowO), n = t ∧ t ≤ r0.2.1 ∧ rs'.length = nc ∧ (∀ r ∈ rs', r.2.1 ≤ 66) ∧ (∀ k r, i < k → rs'[k]? = some r → r.2.1 ≤ 65) ∧ rs'[i]? = some r ∧ r.2.1 = r0.2.1 ∧ St w' [own 1 oc nc cc (rsV rs'), sta (rsA rs'), own 1 oa na ca (bv nn), own 1 ox nx cx (iv xs), has H], fun n _ => r0.2.1 - n.toNat, ⟨0, rs, r0, rfl, by omega, hrl1, hr66, fun k r hk => hr65 k r (by omega), hr0, rfl, h⟩, ?_⟩
    clear h hr66 hr65 hrl1
    rintro _ n w20 ⟨t, rs', r, rfl, ht', hrl1, hr66, hr65, hri, hre, h⟩
    have hVi : (rsV rs')[i]? = some (.slice r.1 r.2.1 r.2.2.1) := by unfold rsV; rw [List.getElem?_map, hri]; rfl
    have hAi : (rsA rs')[i]? = some (own 1 r.1 r.2.1 r.2.2.1 r.2.2.2) := by unfold rsA; rw [List.getElem?_map, hri]; rfl
    obtain ⟨ado, hado, hco⟩ := own_cell h hVi
    have hVl : (rsV rs').length = nc := by unfold rsV; rw [List.length_map]; exact hrl1
    have sA : ∀ r', (rsA rs').set i (own 1 r'.1 r'.2.1 r'.2.2.1 r'.2.2.2) = rsA (rs'.set i r') := fun r' => by unfold rsA; rw [List.map_set]
    have sV : ∀ r', (rsV rs').set i (.slice r'.1 r'.2.1 r'.2.2.1) = rsV (rs'.set i r') := fun r' => by unfold rsV; rw [List.map_set]
    have h := St.out (h.pick 5 [1, 0, 2, 3, 4]) hAi
    have hol := own_len h
    rw [Nat.mul_one] at hol
    refine idx_i hado h1 ⟨_, _, _, hco, br_intro (fun h2 => ?_) fun h2 => ?_⟩
    · have h2 : t < r.2.1 := by have := of_decide_eq_true h2; omega
      obtain ⟨adr, hadr⟩ := own_addr h (by omega)
      refine idx_i hado h1 ⟨_, _, _, hco, idx_i hadr h2 (own_st1 h hadr (by omega) fun w21 h => ⟨⟨by omega, by omega⟩, ⟨t + 1, rs'.set i (r.1, r.2.1, r.2.2.1, r.2.2.2.set t (.int .i64 99)), (r.1, r.2.1, r.2.2.1, r.2.2.2.set t (.int .i64 99)), by simp, by omega, by rw [List.length_set]; exact hrl1, fun q hq => ?_, fun k q hk hq => ?_, ?_, hre, ?_⟩, by dsimp only; omega⟩)⟩
      · rcases List.mem_or_eq_of_mem_set hq with hq | rfl
        · exact hr66 q hq
        · exact hr66 r (List.mem_of_getElem? hri)
      · rw [List.getElem?_set_ne (by omega)] at hq
        exact hr65 k q hk hq
      · rw [List.getElem?_set_self (by omega)]
      · have h := St.back h hAi
        have e1 := sA (r.1, r.2.1, r.2.2.1, r.2.2.2.set t (.int .i64 99))
        have e2 := sV (r.1, r.2.1, r.2.2.1, r.2.2.2.set t (.int .i64 99))
        dsimp only at e1 e2
        rw [e1] at h
        rw [← e2]
        have e3 : (rsV rs').set i (.slice r.1 r.2.1 r.2.2.1) = rsV rs' := set_same hVi
        rw [e3]
        exact h.pick 5 [1, 0, 2, 3, 4]
    · have h2 : t = r.2.1 := by have := of_decide_eq_false h2; omega
      refine idx_i hado h1 ⟨_, _, _, hco, newC_i h fun k89 w22 h => ?_⟩
      refine (app_one tyOk (rfl : kdOfT Ty _ = .slice _) (rfl : kdOfT Ty _ = .slice _) rfl rfl rfl h rfl (by simp [oneC]) (by show (_ + 1) * 8 ≤ _; omega) (by omega)).mono ?_
      rintro _ w23 ⟨o', c', rfl, h⟩
      have h := h.pick 7 [3, 0, 2, 4, 5, 6]
      refine ⟨_, _, _, rfl, idx_i hado h1 (own_st1 h hado (by omega) fun w24 h => ⟨⟨by omega, by omega⟩, ⟨i + 1, rs'.set i (o', r.2.1 + 1, c', r.2.2.2 ++ [.int .i64 98]), by simp, by omega, by rw [List.length_set]; exact hrl1, fun q hq => ?_, fun k q hk hq => ?_, ?_⟩, msr h1⟩)⟩
      · rcases List.mem_or_eq_of_mem_set hq with hq | rfl
        · exact hr66 q hq
        · show r.2.1 + 1 ≤ 66
          omega
      · rw [List.getElem?_set_ne (by omega)] at hq
        exact hr65 k q (by omega) hq
      · have h := St.back (h.pick 6 [1, 2, 0, 3, 4, 5]) hAi
        have e1 := sA (o', r.2.1 + 1, c', r.2.2.2 ++ [.int .i64 98])
        have e2 := sV (o', r.2.1 + 1, c', r.2.2.2 ++ [.int .i64 98])
        dsimp only at e1 e2
        have h : St w24 (sta ((rsA rs').set i (own 1 o' (r.2.1 + 1) c' (r.2.2.2 ++ [.int .i64 98]))) :: _) := h
        rw [e1] at h
        rw [← e2]
        exact h.pick 5 [1, 0, 2, 3, 4]
  have h : St w19 [own 1 oa na ca (bv nn), own 1 ox nx cx (iv xs), has H] := h.pick 5 [2, 3, 4]
  refine ⟨fun n w' => ∃ (t : Nat) (ms : List Bool), n = t ∧ t ≤ na ∧ ms.length = na ∧ St w' [own 1 oa na ca (bv ms), own 1 ox nx cx (iv xs), has H], fun n _ => na - n.toNat, ⟨0, nn, rfl, by omega, hnl, h⟩, ?_⟩
  clear h
  rintro _ n w25 ⟨t, ms, rfl, ht', hml, h⟩
  refine br_intro (fun h1 => ?_) fun _ => ?_
  · have h1 : t < na := by have := of_decide_eq_true h1; omega
    obtain ⟨ad, had, hcell⟩ := own_cell h (bv_get (ms := ms) (u := t) (by omega))
    refine idx_i had h1 ⟨_, hcell, idx_i had h1 (own_st1 h had (by rw [bv_len]; omega) fun w26 h => ⟨⟨by omega, by omega⟩, ⟨t + 1, ms.set t (!fnB ms t), by simp, by omega, by rw [List.length_set]; exact hml, ?_⟩, msr h1⟩)⟩
    rw [bv_setL] at h
    exact h
  have h : St w25 [own 1 ox nx cx (iv xs), has H] := h.pick 3 [1, 2]
  refine ⟨fun n w' => ∃ (t : Nat) (zs : List Value), n = t ∧ t ≤ nx ∧ zs.length = nx ∧ St w' [own 1 ox nx cx zs, has H], fun n _ => nx - n.toNat, ⟨0, iv xs, rfl, by omega, by rw [iv_len]; exact hxl, h⟩, ?_⟩
  clear h
  rintro _ n w27 ⟨u, zs, rfl, hu, hzl, h⟩
  refine br_intro (fun h1 => ?_) fun _ => ⟨⟨by omega, by omega⟩, ⟨j + 1, by simp, by omega, sub.trans gH (rdH 1 h.l)⟩, msr hlt⟩
  have h1 : u < nx := by have := of_decide_eq_true h1; omega
  obtain ⟨ad, had⟩ := own_addr h (by omega)
  exact idx_i had h1 (own_st1 h had (by omega) fun w28 h => ⟨⟨by omega, by omega⟩, ⟨u + 1, zs.set u (.int .i64 99), by simp, by omega, by rw [List.length_set]; exact hzl, h⟩, msr h1⟩)
end
end Go.Proofs.YtaheggomcnbbiaaDoor
/- A law's row out of its contract: what the arguments read as; what is left behind. -/
set_option linter.unusedVariables false
namespace Go.V
open Go.RowKit Go.WideShapes Go.ChangeShapes
theorem cellH_of {w : World} {a : Addr} {v : Value} (h : w.cell? a = some v) : cellH (hp w) a = some v := by
  unfold World.cell? at h
  unfold cellH hp
  cases ho : w.heap[a.block]? with
  | none => rw [ho] at h; cases h
  | some o => rw [ho] at h; cases o <;> first | exact h | cases h
theorem mapM_get' {α β : Type} {f : α → Option β} : ∀ {l : List α} {r : List β}, l.mapM f = some r → r.length = l.length ∧ ∀ (i : Nat) (a : α) (b : β), l[i]? = some a → r[i]? = some b → f a = some b
  | [], r, h => by
    simp at h; subst h; exact ⟨rfl, fun i a b ha => by simp at ha⟩
  | x :: l, r, h => by
    simp only [List.mapM_cons, Option.bind_eq_bind, Option.bind_eq_some_iff, Option.pure_def, Option.some.injEq] at h
    obtain ⟨b, hb, r', hr', rfl⟩ := h
    obtain ⟨h1, h2⟩ := mapM_get' hr'
    refine ⟨by simp [h1], fun i a b' ha hb' => ?_⟩
    cases i with
    | zero => simp at ha hb'; subst ha; subst hb'; exact hb
    | succ i => exact h2 i a b' (by simpa using ha) (by simpa using hb')
theorem cells_row {w : World} {base n : Nat} {a : Addr} {vs : List Value} (h : w.cells? base a n = some vs) : rowH (hp w) a vs := by
  unfold World.cells? at h
  split at h
  · obtain ⟨h1, h2⟩ := mapM_get' h
    intro j v hj
    have hlt := (List.getElem?_eq_some_iff.1 hj).1
    rw [h1, List.length_range] at hlt
    exact cellH_of (h2 j j v (by simp [hlt]) hj)
  · cases h
theorem weightsAll_get {H : Type} {P : Program} {e : TypeId} {N : Nat} : ∀ {l : List (DataW H)}, (DataW.weightsAll P e l).all (· ≤ N) = true → ∀ d ∈ l, (d.weights P e).all (· ≤ N) = true
  | [], _, d, hd => by simp at hd
  | x :: l, h, d, hd => by
    rw [DataW.weightsAll, List.all_append, Bool.and_eq_true] at h
    rcases List.mem_cons.1 hd with rfl | hd
    · exact h.1
    · exact weightsAll_get h.2 d hd
theorem weightsEach_get {H : Type} {P : Program} {N : Nat} : ∀ {ts : List TypeId} {l : List (DataW H)}, (DataW.weightsEach P ts l).all (· ≤ N) = true → ∀ (i : Nat) t d, ts[i]? = some t → l[i]? = some d → (d.weights P t).all (· ≤ N) = true
  | [], l, _, i, t, d, ht, _ => by simp at ht
  | _ :: _, [], _, i, t, d, _, hd => by simp at hd
  | t0 :: ts, x :: l, h, i, t, d, ht, hd => by
    rw [DataW.weightsEach, List.all_append, Bool.and_eq_true] at h
    cases i with
    | zero => simp at ht hd; subst ht; subst hd; exact h.1
    | succ i => exact weightsEach_get h.2 i t d (by simpa using ht) (by simpa using hd)
/- what reads as data reads as a value of that kind; bd: what its sizes are bound by -/
def Opn (P : Program) (α : Type) [Rep α] (bd : α → Prop) (t : TypeId) : Prop :=
  ∀ {H : Type} (enc : TypeId × Value → H) (W : World) (n : Nat) (cs : List Value) (x : DataW H × List MemPlace), DataW.trod enc P W 0 (fun _ => true) true n t cs = some x → (x.1.weights P t).all (· ≤ reachBytes) = true → ∃ y : α, rd (hp W) y cs ∧ bd y
def anyB : Bool → Prop := fun _ => True
def anyS : ByteArray → Prop := fun s => s.size ≤ reachBytes
def anyL {α : Type} (bytes : Nat) (bd : α → Prop) : List α → Prop := fun xs => xs.length * bytes ≤ reachBytes ∧ ∀ x ∈ xs, bd x
section
variable {P : Program} {t e : TypeId}
theorem opn_int (ht : P.underlying t = some (.int .i64)) : Opn P Int anyI t := by
  intro H enc W n cs x h hw
  obtain ⟨z, rfl, _, hwf⟩ := DataW.trod_int ht h
  refine ⟨z, rfl, ?_⟩
  have : IntKind.i64.min ≤ z ∧ z ≤ IntKind.i64.max := by simpa [Lit.wf] using hwf
  exact this
theorem opn_bool (ht : P.underlying t = some .bool) : Opn P Bool anyB t := by
  intro H enc W n cs x h hw
  obtain ⟨z, rfl, _⟩ := DataW.trod_bool ht h
  exact ⟨z, rfl, trivial⟩
theorem opn_str (ht : P.underlying t = some .string) : Opn P ByteArray anyS t := by
  intro H enc W n cs x h hw
  obtain ⟨z, rfl, rfl, _⟩ := DataW.trod_string ht h
  refine ⟨z, rfl, ?_⟩
  simpa [DataW.weights, anyS] using hw
theorem opn_slice {α : Type} [Rep α] {bd : α → Prop} {bb : Nat} (ht : P.underlying t = some (.slice e)) (hc : P.cellsOf e = Rep.n α) (hb : P.bytesOf e = bb) (he : Opn P α bd e) : Opn P (List α) (anyL bb bd) t := by
  intro H enc W n cs x h hw
  rcases DataW.trod_slice ht h with ⟨rfl, rfl⟩ | ⟨a, len, cap, elems, rest, m, rfl, rfl, rfl, _, hlc, hcm, hel, hg, _, _⟩
  · exact ⟨[], ⟨none, 0, 0, rfl, Nat.le_refl _, rdS.nil⟩, by simp [reachBytes], fun x hx => by simp at hx⟩
  · simp only [DataW.weights, ht, List.all_cons, List.all_append, Bool.and_eq_true, decide_eq_true_eq, List.length_map] at hw
    obtain ⟨hw1, hw2, _⟩ := hw
    have key : ∀ k, k ≤ len → ∃ ys : List α, ys.length = k ∧ (∀ i y, ys[i]? = some y → ∃ vs, rowH (hp W) (a.add (mulS i (Rep.n α))) vs ∧ rd (hp W) y vs) ∧ ∀ y ∈ ys, bd y := by
      intro k
      induction k with
      | zero => exact fun _ => ⟨[], rfl, fun i y hy => by simp at hy, fun y hy => by simp at hy⟩
      | succ k ih =>
        intro hk
        obtain ⟨ys, h1, h2, h3⟩ := ih (by omega)
        have hgk := hg k (by omega)
        obtain ⟨d, hd⟩ : ∃ d, elems[k]? = some d := ⟨elems[k]'(by omega), List.getElem?_eq_getElem _⟩
        rw [hd, Option.bind_eq_some_iff] at hgk
        obtain ⟨vs, hv1, hv2⟩ := hgk
        obtain ⟨y, hy1, hy2⟩ := he enc W m vs d hv2 (weightsAll_get hw2 _ (by
          have := List.mem_of_getElem? hd
          exact List.mem_map_of_mem this))
        refine ⟨ys ++ [y], by simp [h1], fun i z hz => ?_, fun z hz => ?_⟩
        · by_cases hi : i < k
          · rw [List.getElem?_append_left (by omega)] at hz
            exact h2 i z hz
          · have : i = k := by
              have := (List.getElem?_eq_some_iff.1 hz).1
              simp at this; omega
            subst this
            rw [List.getElem?_append_right (by omega), h1, Nat.sub_self] at hz
            cases hz
            refine ⟨vs, ?_, hy1⟩
            rw [mulS_eq, ← hc]
            exact cells_row hv1
        · rcases List.mem_append.1 hz with hz | hz
          · exact h3 z hz
          · simp at hz; subst hz; exact hy2
    obtain ⟨ys, h1, h2, h3⟩ := key len (Nat.le_refl _)
    refine ⟨ys, ⟨some a, len, cap, rfl, hlc, h1, fun i y hy => ?_⟩, ?_, h3⟩
    · obtain ⟨vs, h4, h5⟩ := h2 i y hy
      exact ⟨a, vs, rfl, h4, h5⟩
    · rw [h1, ← hb, ← hel]
      exact Nat.le_trans (Nat.mul_le_mul_right _ (Nat.le_add_right _ _)) hw1
theorem opn_struct {fs : Array Field} (ht : P.underlying t = some (.struct fs)) {H : Type} {enc : TypeId × Value → H} {W : World} {n : Nat} {cs : List Value} {x : DataW H × List MemPlace} (h : DataW.trod enc P W 0 (fun _ => true) true n t cs = some x) (hw : (x.1.weights P t).all (· ≤ reachBytes) = true) :
    cs.length = P.cellsOf t ∧ ∀ (i : Nat) (f : Field) (ty k o : Nat), fs[i]? = some f → P.cellsOf ty = k → f.type = ty → f.offset = o → ∃ (m : Nat) (d : DataW H × List MemPlace), DataW.trod enc P W 0 (fun _ => true) true m ty ((cs.drop o).take k) = some d ∧ (d.1.weights P ty).all (· ≤ reachBytes) = true := by
  obtain ⟨xs, m, rfl, rfl, hl, hxs, hf⟩ := DataW.trod_struct ht h
  refine ⟨hl, ?_⟩
  rintro i f _ _ _ hi rfl rfl rfl
  have hlt := (Array.getElem?_eq_some_iff.1 hi).1
  obtain ⟨d, hd⟩ : ∃ d, xs[i]? = some d := ⟨xs[i]'(by omega), List.getElem?_eq_getElem _⟩
  refine ⟨m, d, by rw [hf i f hi, hd], ?_⟩
  simp only [DataW.weights, ht] at hw
  exact weightsEach_get hw i f.type d.1 (by simp [hi]) (by simp [hd])
/- the arguments, one by one -/
theorem opn_arg {α : Type} [Rep α] {bd : α → Prop} (ho : Opn P α bd t) {H : Type} {enc : TypeId × Value → H} {W : World} {v : Value} {d : DataW H} {ps : List MemPlace} (h : DataW.Trod enc P W 0 (fun _ => true) true t v d ps)
    (hw : (d.weights P t).all (· ≤ reachBytes) = true) : ∃ y : α, rd (hp W) y v.cells.toList ∧ bd y := by
  obtain ⟨n, h⟩ := h
  exact ho enc W n _ _ h hw
theorem arg_int {H : Type} {enc : TypeId × Value → H} {W : World} {b : Nat} {v : Value} {d : DataW H} {ps : List MemPlace} (ht : P.underlying t = some (.int .i64)) (hval : Value.okWide P W .any b t v) (h : DataW.Trod enc P W 0 (fun _ => true) true t v d ps) : ∃ x : Int, v = .int .i64 x ∧ anyI x := by
  obtain ⟨n, rfl, _, _, hwf⟩ := open_int ht hval h
  refine ⟨n, rfl, ?_⟩
  have : IntKind.i64.min ≤ n ∧ n ≤ IntKind.i64.max := by simpa [Lit.wf] using hwf
  exact this
theorem arg_slice {α : Type} [Rep α] {bd : α → Prop} {bb : Nat} (ho : Opn P (List α) (anyL bb bd) t) (ht : P.underlying t = some (.slice e)) {H : Type} {enc : TypeId × Value → H} {W : World} {b : Nat} {v : Value} {d : DataW H} {ps : List MemPlace}
    (hval : Value.okWide P W .any b t v) (h : DataW.Trod enc P W 0 (fun _ => true) true t v d ps) (hw : (d.weights P t).all (· ≤ reachBytes) = true) : ∃ (xs : List α) (a : Option Addr) (l c : Nat), v = .slice a l c ∧ l ≤ c ∧ rdS (hp W) xs a l ∧ anyL bb bd xs := by
  obtain ⟨xs, ⟨a, l, c, hv, hlc, hr⟩, hb⟩ := opn_arg ho h hw
  refine ⟨xs, a, l, c, ?_, hlc, hr, hb⟩
  cases v <;> first | (simp [Value.okWide, ht, Cell.okWide, Cell.ok] at hval; done) | simpa [Value.cells] using hv
theorem arg_struct {α : Type} [Rep α] {bd : α → Prop} {fs : Array Field} (ho : Opn P α bd t) (ht : P.underlying t = some (.struct fs)) {H : Type} {enc : TypeId × Value → H} {W : World} {b : Nat} {v : Value} {d : DataW H} {ps : List MemPlace}
    (hval : Value.okWide P W .any b t v) (h : DataW.Trod enc P W 0 (fun _ => true) true t v d ps) (hw : (d.weights P t).all (· ≤ reachBytes) = true) : ∃ (x : α) (cs : List Value), v = .agg ⟨cs⟩ ∧ rd (hp W) x cs ∧ bd x := by
  obtain ⟨x, hr, hb⟩ := opn_arg ho h hw
  simp only [Value.okWide, ht] at hval
  obtain ⟨cs, rfl, _⟩ := hval
  exact ⟨x, cs.toList, rfl, hr, hb⟩
theorem below_of {w w' : World} (h : Ev w w') (g : Gr w w') : Below w.heap.size w w' := by
  refine ⟨h.os, h.tape, h.output, h.size, fun k hk => ?_⟩
  cases ho : w.heap[k]? with
  | none => rw [Array.getElem?_eq_none_iff] at ho; omega
  | some o =>
    by_cases hd : notD o = true
    · have : hp w k = some o := by unfold hp; rw [ho, hidD_not hd]
      exact hidD_some (g k o this)
    · cases o <;> first | exact absurd rfl hd | exact h.dfr _ _ ho
theorem trodAll_below (hl : laidOutB P = true) {H : Type} {enc : TypeId × Value → H} {W W' : World} (hb : Below W.heap.size W W') {sp : Nat → Bool} : ∀ {ts : List TypeId} {vs : List Value} {ds : List (DataW H)} {ps : List MemPlace},
    (ts.all fun t => P.readableRec t && decide (t < P.types.size)) = true → DataW.TrodAll enc P W 0 (fun _ => true) true ts vs ds ps → (∀ x ∈ ps, x.block < W.heap.size) → (∀ x ∈ ps, sp x.block = true) →
    DataW.TrodAll enc P W' 0 sp true ts vs ds ps
  | [], [], [], ps, _, h, _, _ => h
  | [], _ :: _, _, _, _, h, _, _ => h.elim
  | [], [], _ :: _, _, _, h, _, _ => h.elim
  | _ :: _, [], _, _, _, h, _, _ => h.elim
  | _ :: _, _ :: _, [], _, _, h, _, _ => h.elim
  | t :: ts, v :: vs, d :: ds, ps, ht, h, hlt, hsp => by
    obtain ⟨p, q, h1, h2, rfl⟩ := h
    rw [List.all_cons, Bool.and_eq_true, Bool.and_eq_true, decide_eq_true_eq] at ht
    exact ⟨p, q, WideElems.Trod_stays hl ht.1.1 ht.1.2 h1 (fun x hx => hb.same (hlt x (by simp [hx]))) (fun x hx => hsp x (by simp [hx])), trodAll_below hl hb ht.2 h2 (fun x hx => hlt x (by simp [hx])) (fun x hx => hsp x (by simp [hx])), rfl⟩
theorem law_post {H : Type} {enc : TypeId × Value → H} {s : ChangeSpec} {f : Func} {W W' : World} {args : Array Value} {ds gs : List (DataW H)} {before : List MemPlace} {tb : TypeId} (hv : s.vars = []) (hrt : f.resultTypes = #[tb]) (htb : P.underlying tb = some .bool)
    (hsp : s.fn H (ds ++ gs) = { results := [.lit (.bool true)], args := ds }) (hl : laidOutB P = true) (hrd : (f.params.toList.all fun t => P.readableRec t && decide (t < P.types.size)) = true)
    (hW : DataW.Whole enc P f.params.toList s.vars false W args.toList ds gs before) (hE : Ev W W') (hg : Gr W W') : s.post enc P f false true false false W args (.bool true) W' := by
  have hb := below_of hE hg
  have hlt : ∀ p ∈ before, p.block < W.heap.size := fun p hp => hW.lt p hp
  have hold : ∀ p ∈ before, (fun b => decide (b < W.heap.size)) p.block = true := fun p hp => by simpa using hlt p hp
  have hW' := hW
  obtain ⟨p, q, h1, h2, rfl, h3, h4⟩ := hW
  have hq : q = [] := by
    rw [hv] at h2
    cases gs with
    | nil => exact h2
    | cons _ _ => exact h2.elim
  subst hq
  rw [List.append_nil] at *
  have hargs : ∀ sp : Nat → Bool, (∀ x ∈ p, sp x.block = true) → DataW.TrodAll enc P W' 0 sp true f.params.toList args.toList (s.fn H (ds ++ gs)).args p := fun sp hs => by
    rw [hsp]; exact trodAll_below hl hb hrd h1 hlt hs
  have hvars : ∀ sp : Nat → Bool, DataW.TrodVars enc P W' sp s.vars (s.fn H (ds ++ gs)).vars [] := fun sp => by
    rw [hsp, hv]; exact rfl
  have hres : ∀ (b : Nat) (sp : Nat → Bool) (hd : Bool), DataW.TrodAll enc P W' b sp hd f.resultTypes.toList ((Value.bool true).resultList f.resultTypes.size) (s.fn H (ds ++ gs)).results [] := fun b sp hd => by
    rw [hsp, hrt]; exact trodAll_cons_mk (shut_bool htb _) trodAll_mk0
  have hok : ∀ (j : Nat) (t : TypeId) (r : Value), f.resultTypes[j]? = some t → ((Value.bool true).resultList f.resultTypes.size)[j]? = some r → Value.okWide P W' .any 0 t r := ok_one hrt rfl (okWide_bool_mk htb _)
  refine ⟨ds, gs, p, [], p, [], hW', hres _ _ _, hargs _ hold, hvars _, World.keptBut_mono (fun x hx => ⟨hx, ?_⟩) (hb.frame (· ∈ p)), fun _ => ?_⟩
  · exact Or.inr (by simpa using hx)
  · refine ⟨hok, _, _, ([] ++ p) ++ [], ⟨[] ++ p, [], trodAll_append (hargs _ (fun _ _ => rfl)) (hres _ _ _), hvars _, rfl, ?_, ?_⟩, ?_⟩
    · intro b off hp
      have hin : MemPlace.cell b off ∈ p := by simpa using hp
      rw [hb.frozen (hlt _ hin)]
      exact h3 b off hin
    · intro ha; cases ha
    · intro x hx _
      simpa using hx
end
end Go.V
/- What the arguments of the laws read as. -/
set_option linter.unusedVariables false
namespace Go.Proofs.YtaheggomcnbbiaaDoor
open Go.V Go.RowKit Go.WideShapes Go.ChangeShapes Go.ChangeAt
theorem ownK : ownKnob Tryd.prog.godebug = none := by kernel_rfl
theorem laidO : laidOutB Tryd.prog = true := by kernel_rfl
theorem cellsI : Tryd.prog.cellsOf 3 = 1 := by kernel_rfl
theorem bytesI : Tryd.prog.bytesOf 3 = 8 := by kernel_rfl
theorem cellsStr : Tryd.prog.cellsOf 9 = 1 := by kernel_rfl
theorem bytesStr : Tryd.prog.bytesOf 9 = 16 := by kernel_rfl
theorem cellsS24 : Tryd.prog.cellsOf 24 = 1 := by kernel_rfl
theorem cellsS22 : Tryd.prog.cellsOf 22 = 1 := by kernel_rfl
theorem cellsS23 : Tryd.prog.cellsOf 23 = 1 := by kernel_rfl
theorem cellsS25 : Tryd.prog.cellsOf 25 = 1 := by kernel_rfl
theorem cellsT : Tryd.prog.cellsOf 81 = 2 := by kernel_rfl
theorem bytesT : Tryd.prog.bytesOf 81 = 24 := by kernel_rfl
theorem cellsP : Tryd.prog.cellsOf 51 = 3 := by kernel_rfl
theorem bytesP : Tryd.prog.bytesOf 51 = 40 := by kernel_rfl
theorem cellsG : Tryd.prog.cellsOf 27 = 5 := by kernel_rfl
theorem oInt : Opn Tryd.prog Int anyI 3 := opn_int Tryd.underlying3
theorem oInts : Opn Tryd.prog (List Int) (anyL 8 anyI) 24 := opn_slice Tryd.underlying24 cellsI bytesI oInt
theorem oStr : Opn Tryd.prog ByteArray anyS 9 := opn_str Tryd.underlying9
theorem oStrs : Opn Tryd.prog (List ByteArray) (anyL 16 anyS) 23 := opn_slice Tryd.underlying23 cellsStr bytesStr oStr
theorem oTerm : Opn Tryd.prog TermT (fun t => anyS t.name ∧ anyI t.level) 81 := by
  intro H enc W n cs x h hw
  obtain ⟨hl, hf⟩ := opn_struct Tryd.underlying81 h hw
  rw [cellsT] at hl
  obtain ⟨_, _, t0, w0⟩ := hf 0 _ 9 1 0 rfl cellsStr rfl rfl
  obtain ⟨_, _, t1, w1⟩ := hf 1 _ 3 1 1 rfl cellsI rfl rfl
  obtain ⟨y0, r0, b0⟩ := oStr enc W _ _ _ t0 w0
  obtain ⟨y1, r1, b1⟩ := oInt enc W _ _ _ t1 w1
  match cs, hl with
  | [c0, c1], _ =>
    have e0 : [c0] = [.string y0] := r0
    have e1 : [c1] = [.int .i64 y1] := r1
    cases e0; cases e1
    exact ⟨⟨y0, y1⟩, rfl, b0, b1⟩
theorem oTerms : Opn Tryd.prog (List TermT) (anyL 24 fun t => anyS t.name ∧ anyI t.level) 22 := opn_slice Tryd.underlying22 cellsT bytesT oTerm
theorem oProd : Opn Tryd.prog ProdT (fun p => anyI p.left ∧ anyL 8 anyI p.right ∧ anyI p.level) 51 := by
  intro H enc W n cs x h hw
  obtain ⟨hl, hf⟩ := opn_struct Tryd.underlying51 h hw
  rw [cellsP] at hl
  obtain ⟨_, _, t0, w0⟩ := hf 0 _ 3 1 0 rfl cellsI rfl rfl
  obtain ⟨_, _, t1, w1⟩ := hf 1 _ 24 1 1 rfl cellsS24 rfl rfl
  obtain ⟨_, _, t2, w2⟩ := hf 2 _ 3 1 2 rfl cellsI rfl rfl
  obtain ⟨y0, r0, b0⟩ := oInt enc W _ _ _ t0 w0
  obtain ⟨y1, ⟨a, l, c, r1, hlc, r1'⟩, b1⟩ := oInts enc W _ _ _ t1 w1
  obtain ⟨y2, r2, b2⟩ := oInt enc W _ _ _ t2 w2
  match cs, hl with
  | [c0, c1, c2], _ =>
    have e0 : [c0] = [.int .i64 y0] := r0
    have e1 : [c1] = [.slice a l c] := r1
    have e2 : [c2] = [.int .i64 y2] := r2
    cases e0; cases e1; cases e2
    exact ⟨⟨y0, y1, y2⟩, ⟨a, l, c, rfl, hlc, r1'⟩, b0, b1, b2⟩
theorem oProds : Opn Tryd.prog (List ProdT) (anyL 40 fun p => anyI p.left ∧ anyL 8 anyI p.right ∧ anyI p.level) 25 := opn_slice Tryd.underlying25 cellsP bytesP oProd
def okG2 (g : GramT) : Prop := okG g ∧ g.terms.length * 24 ≤ 140737488355328 ∧ g.nons.length * 16 ≤ 140737488355328
theorem oGram : Opn Tryd.prog GramT okG2 27 := by
  intro H enc W n cs x h hw
  obtain ⟨hl, hf⟩ := opn_struct Tryd.underlying27 h hw
  rw [cellsG] at hl
  obtain ⟨_, _, t0, w0⟩ := hf 0 _ 22 1 0 rfl cellsS22 rfl rfl
  obtain ⟨_, _, t1, w1⟩ := hf 1 _ 23 1 1 rfl cellsS23 rfl rfl
  obtain ⟨_, _, t2, w2⟩ := hf 2 _ 24 1 2 rfl cellsS24 rfl rfl
  obtain ⟨_, _, t3, w3⟩ := hf 3 _ 3 1 3 rfl cellsI rfl rfl
  obtain ⟨_, _, t4, w4⟩ := hf 4 _ 25 1 4 rfl cellsS25 rfl rfl
  obtain ⟨y0, ⟨a0, l0, c0', r0, k0, q0⟩, b0⟩ := oTerms enc W _ _ _ t0 w0
  obtain ⟨y1, ⟨a1, l1, c1', r1, k1, q1⟩, b1⟩ := oStrs enc W _ _ _ t1 w1
  obtain ⟨y2, ⟨a2, l2, c2', r2, k2, q2⟩, b2⟩ := oInts enc W _ _ _ t2 w2
  obtain ⟨y3, r3, b3⟩ := oInt enc W _ _ _ t3 w3
  obtain ⟨y4, ⟨a4, l4, c4', r4, k4, q4⟩, b4⟩ := oProds enc W _ _ _ t4 w4
  match cs, hl with
  | [c0, c1, c2, c3, c4], _ =>
    have e0 : [c0] = [.slice a0 l0 c0'] := r0
    have e1 : [c1] = [.slice a1 l1 c1'] := r1
    have e2 : [c2] = [.slice a2 l2 c2'] := r2
    have e3 : [c3] = [.int .i64 y3] := r3
    have e4 : [c4] = [.slice a4 l4 c4'] := r4
    cases e0; cases e1; cases e2; cases e3; cases e4
    refine ⟨⟨y0, y1, y2, y3, y4⟩, ⟨⟨a0, l0, c0', a1, l1, c1', a2, l2, c2', y3, a4, l4, c4'⟩, rfl, q0, q1, q2, rfl, q4, k0, k1, k2, k4⟩, ?_⟩
    have z0 := b0.1
    have z1 := b1.1
    have z2 := b2.1
    have z4 := b4.1
    unfold reachBytes at z0 z1 z2 z4
    refine ⟨⟨by show y0.length ≤ _; omega, by show y1.length ≤ _; omega, by show y2.length ≤ _; omega, by show y4.length * 40 ≤ _; omega, fun t ht => ⟨?_, (b0.2 t ht).2⟩, fun s hs => ?_, fun p hp => ?_⟩, by show y0.length * 24 ≤ _; omega, by show y1.length * 16 ≤ _; omega⟩
    · have := (b0.2 t ht).1; unfold anyS reachBytes at this; omega
    · have := b1.2 s hs; unfold anyS reachBytes at this; omega
    · have := (b4.2 p hp).2.1.1; unfold reachBytes at this; omega
theorem bulk_len {H : Type} : ∀ l : List (DataW H), l.length ≤ Rows.uptoBulkAll l
  | [] => Nat.zero_le _
  | d :: r => by
    have h := bulk_len r
    have h1 : 1 ≤ Rows.uptoBulk d := by
      cases d with
      | lit q => cases q <;> simp [Rows.uptoBulk]
      | _ => simp [Rows.uptoBulk]
    simp only [List.length_cons, Rows.uptoBulkAll]
    omega
theorem slice_bulk {P : Program} {t e : TypeId} (ht : P.underlying t = some (.slice e)) {H : Type} {enc : TypeId × Value → H} {W : World} {a : Option Addr} {l c : Nat} {d : DataW H} {ps : List MemPlace} (h : DataW.Trod enc P W 0 (fun _ => true) true t (.slice a l c) d ps) : l ≤ Rows.uptoBulk d := by
  obtain ⟨n, h⟩ := h
  rcases DataW.trod_slice ht h with ⟨h1, h2⟩ | ⟨a', len, cap, elems, rest, m, _, h1, h2, _, _, _, hel, _⟩
  · have h1 : [Value.slice a l c] = [.slice none 0 0] := h1
    cases h1; exact Nat.zero_le _
  · have h1 : [Value.slice a l c] = [.slice (some a') len cap] := h1
    cases h1
    have h3 := congrArg Prod.fst h2
    have h3 : d = .slice (elems.map (·.1)) (rest.map (·.1)) := h3
    rw [h3]
    have h4 := bulk_len (elems.map (·.1))
    rw [List.length_map] at h4
    simp only [Rows.uptoBulk]
    omega

theorem gTab : Tryd.prog.globalNamed "math/bits.deBruijn64tab" = some 0 := by kernel_rfl
theorem gTabType : (Tryd.prog.globals[0]?).map (·.type) = some 133 := by kernel_rfl
theorem cellsTab : Tryd.prog.cellsOf 133 = 64 := by kernel_rfl
theorem cellsTabE : Tryd.prog.cellsOf 5 = 1 := by kernel_rfl
theorem table {W : World} (h : laidMetH Tryd.prog [("math/bits.deBruijn64tab", Rows.laid_math_bits_deBruijn64tab)] W) : tabA (hp W) := by
  have ht : Lib.TabIs Tryd.prog W "math/bits.deBruijn64tab" .u8 (Lib.deBruijn64tab.map fun (k : Nat) => (k : Int)) :=
    Lib.tabIs_of_head (rest := []) gTab gTabType Tryd.underlying133 Tryd.underlying5 cellsTabE cellsTab h
  refine .inr ⟨_, rfl, fun j v hj => ?_⟩
  have hlt := (List.getElem?_eq_some_iff.1 hj).1
  have hc := ht.cell gTab j (by simpa [tabV] using hlt)
  rw [add_lit0]
  refine cellH_of (hc.trans ?_)
  rw [← hj]
  simp only [tabV, List.getElem?_map, List.length_map] at hj hlt ⊢
  rw [List.getElem?_eq_getElem hlt]
  simp [hlt]
noncomputable def laidWorld (os : Os) : World :=
  { World.holding Tryd.prog os ⟨#[], #[], []⟩ with heap := (World.holding Tryd.prog os ⟨#[], #[], []⟩).heap.modify 0 fun
      | .cells _ t frozen => .cells ⟨tabV⟩ t frozen
      | o => o }
end Go.Proofs.YtaheggomcnbbiaaDoor
