/- Sets of small numbers: contracts (5): going over the members. -/
import Derived.Test.YtcipljcagejjaaaDoorVBits4
set_option linter.unusedVariables false
namespace Go.V
def membs (n : Nat) (m : Nat → Bool) : List Nat := (List.range n).filter m
theorem membs_len (n : Nat) (m : Nat → Bool) : (membs n m).length = cnt n m := rfl
theorem membs_at {n k : Nat} {m : Nat → Bool} (hk : k < n) (hm : m k = true) : (membs n m)[cnt k m]? = some k := by
  have e : n = k + (n - k - 1 + 1) := by omega
  unfold membs
  rw [e, List.range_add, List.filter_append, List.getElem?_append_right (by simp [cnt])]
  have : cnt k m - (List.filter m (List.range k)).length = 0 := by simp [cnt]
  rw [this, List.range_succ_eq_map, List.map_cons, List.filter_cons]
  simp [hm]
/- the lowest bit -/
theorem low_spec {x : Nat} (h0 : x ≠ 0) (hx : x < 2 ^ 64) : Lib.ctz 64 x < 64 ∧ x.testBit (Lib.ctz 64 x) = true ∧ (∀ k, k < Lib.ctz 64 x → x.testBit k = false) ∧ ∀ k, (x &&& (x - 1)).testBit k = (x.testBit k && !(k == Lib.ctz 64 x)) := by
  have e : Lib.ctz 64 x = Lib.ctzFrom 64 x := by unfold Lib.ctz; rw [if_neg h0]
  obtain ⟨q, hq, hc⟩ := Lib.ctzFrom_spec 64 x (by omega) hx
  rw [e]
  generalize Lib.ctzFrom 64 x = c at *
  have hp : 0 < 2 ^ c := Nat.two_pow_pos c
  have hx1 : x - 1 = 2 ^ c * (2 * q) + (2 ^ c - 1) := by
    rw [hq, Nat.mul_add, Nat.mul_one]; omega
  have t1 : ∀ k, x.testBit k = if k < c then false else (2 * q + 1).testBit (k - c) := fun k => by
    rw [hq]
    have := Nat.testBit_two_pow_mul_add (2 * q + 1) (b := 0) (i := c) hp k
    rw [Nat.add_zero] at this
    rw [this]; simp
  have t2 : ∀ k, (x - 1).testBit k = if k < c then true else (2 * q).testBit (k - c) := fun k => by
    rw [hx1, Nat.testBit_two_pow_mul_add _ (by omega)]
    split
    · rename_i h; rw [Nat.testBit_two_pow_sub_one]; simp [h]
    · rfl
  refine ⟨hc, ?_, fun k hk => ?_, fun k => ?_⟩
  · rw [t1, if_neg (by omega)]; simp
  · rw [t1, if_pos hk]
  · rw [Nat.testBit_and, t2, t1]
    by_cases hk : k < c
    · simp [hk]
    · rw [if_neg hk, if_neg hk]
      by_cases hkc : k = c
      · subst hkc; simp
      · have e3 : k - c = (k - c - 1) + 1 := by omega
        have : (k == c) = false := by simp [hkc]
        rw [this, e3, Nat.testBit_add_one, Nat.testBit_add_one]
        have e4 : (2 * q + 1) / 2 = q := by omega
        have e5 : 2 * q / 2 = q := by omega
        rw [e4, e5]; simp
def ivm (l : List Nat) : List (List Value) := l.map fun (k : Nat) => [Value.int .i64 (k : Int)]
theorem cnt_mono_none {a b : Nat} {m : Nat → Bool} (h : a ≤ b) (hf : ∀ k, a ≤ k → k < b → m k = false) : cnt b m = cnt a m := by
  have e : b = a + (b - a) := by omega
  rw [e, cnt_split, cnt_zero (a := b - a) fun k hk => hf _ (by omega) (by omega)]; omega
def tabV : List Value := Lib.deBruijn64tab.map fun (k : Nat) => Value.int .u8 (k : Int)
/- the library's table -/
def tabA : Asn := rdV (some ⟨0, 0, none⟩) tabV
theorem st_of' {A : Asn} {w : World} (h : A (hp w)) : St w [A] := ⟨hp w, fun _ => none, fun _ => .inr rfl, sub.refl _, fun _ _ h => (nomatch h), h, trivial⟩
end Go.V
namespace Go.Proofs.YtcipljcagejjaaaDoor
open Go.V
section
variable {w : World} {L : List Asn} {b : Nat} {n : Nat} {m : Nat → Bool}
theorem c_All_itr : Itr Tryd.prog n_bits_Set_All_S1 [] [.pointer (some ⟨b, 0, none⟩)] (itD b n m) tabA (ivm (membs n m)) := by
  intro l E hE J Jx L w0 h0 hQ hy
  have h0' : ∃ a c ws, Inv n ws m ∧ St w0 (J 0 :: cel b [.slice a ws.length c] :: own 1 a ws.length c (cw ws) :: L) := by
    obtain ⟨a, c, ws, hi, h2⟩ := itD_open.1 h0.swap
    exact ⟨a, c, ws, hi, h2.rot3⟩
  obtain ⟨a, c, ws, hi, hs0⟩ := h0'
  have back : ∀ (A : Asn) w', St w' (A :: cel b [.slice a ws.length c] :: own 1 a ws.length c (cw ws) :: L) → St w' (A :: itD b n m :: L) := by
    intro A w' h
    exact (itD_open.2 ⟨a, c, ws, hi, h.perm ((List.Perm.swap _ _ _).trans (List.Perm.cons _ (List.Perm.swap _ _ _)))⟩).swap
  have tab2 : ∀ {A B C : Asn} {w'}, St w' (A :: B :: C :: L) → St w' [tabA] := fun {A B C w'} h => st_of' (hQ _ (starL_tail (starL_tail (starL_tail h))))
  refine run_bits_Set_All_S1_Y E l ⟨b, 0, none⟩ hE w0 _ ?_
  refine ⟨a, ws.length, c, by rw [hs0.swap.cell]; rfl, ?_⟩
  refine ⟨fun n1 w => ∃ j : Nat, n1 = j ∧ j ≤ ws.length ∧ St w (J (cnt (64 * j) m) :: cel b [.slice a ws.length c] :: own 1 a ws.length c (cw ws) :: L), fun n1 _ => ws.length - n1.toNat,
    ⟨0, rfl, by omega, by simpa [cnt] using hs0⟩, ?_⟩
  rintro _ n1 w1 ⟨j, rfl, hj, hs⟩
  have hlen := hi.len
  have hn := hi.le
  refine br_intro (fun h1 => ?_) fun h1 => ?_
  · have h1 : j < ws.length := by have := of_decide_eq_true h1; omega
    obtain ⟨ad, rfl⟩ := own_addr hs.rot3 (by simp [cw]; omega)
    have hg := own_get hs.rot3 rfl (cw_get h1)
    refine idx_i rfl h1 ⟨_, hg, ?_⟩
    have hw64 := getD_lt hi.lt j
    have hmem : ∀ k, k < 64 → m (64 * j + k) = (ws.getD j 0).testBit k := fun k hk => by
      rw [hi.mm]; unfold mem
      rw [show (64 * j + k) / 64 = j by omega, show (64 * j + k) % 64 = k by omega]
    generalize ws.getD j 0 = W at hg hw64 hmem ⊢
    refine ⟨fun n3 w => ∃ (r s : Nat), n3 = r ∧ r < 2 ^ 64 ∧ s ≤ 64 ∧ (∀ k, r.testBit k = (decide (s ≤ k) && W.testBit k)) ∧ St w (J (cnt (64 * j + s) m) :: cel b [.slice (some ad) ws.length c] :: own 1 (some ad) ws.length c (cw ws) :: L), fun n3 _ => n3.toNat,
      ⟨W, 0, rfl, hw64, by omega, by simp, by simpa using hs⟩, ?_⟩
    rintro _ n3 w2 ⟨r, s, rfl, hr, hs64, hbits, hs2⟩
    refine br_intro (fun h2 => ?_) fun h2 => ?_
    · have h2 : r ≠ 0 := by simpa using h2
      obtain ⟨k1, k2, k3, k4⟩ := low_spec h2 hr
      have hinj : inI (64 * (j : Int)) := ⟨by omega, by omega⟩
      refine ⟨hinj, ?_⟩
      refine ((c_TrailingZeros64 hr w2 (tab2 hs2)).toE hE).mono ?_
      rintro _ _ ⟨rfl, rfl⟩
      generalize Lib.ctz 64 r = k at k1 k2 k3 k4 ⊢
      refine ⟨_, rfl, ⟨by omega, by omega⟩, ?_⟩
      have hsk : s ≤ k ∧ W.testBit k = true := by
        rw [hbits] at k2; simpa using k2
      have hmk : m (64 * j + k) = true := by rw [hmem k k1]; exact hsk.2
      have hkn : 64 * j + k < n := Nat.lt_of_not_le fun hle => by rw [hi.out _ hle] at hmk; cases hmk
      have hpos : cnt (64 * j + k) m = cnt (64 * j + s) m := cnt_mono_none (by omega) fun q hq1 hq2 => by
        have h3 := k3 (q - 64 * j) (by omega)
        rw [hbits] at h3
        have : s ≤ q - 64 * j := by omega
        have h4 := hmem (q - 64 * j) (by omega)
        rw [show 64 * j + (q - 64 * j) = q by omega] at h4
        rw [h4]; simpa [this] using h3
      have hxs : (ivm (membs n m))[cnt (64 * j + s) m]? = some [.int .i64 ((64 * j + k : Nat) : Int)] := by
        unfold ivm
        rw [List.getElem?_map, ← hpos, membs_at hkn hmk]; rfl
      have e64 : (64 * (j : Int) + (k : Int)) = ((64 * j + k : Nat) : Int) := by omega
      rw [e64]
      obtain ⟨f', tmps, asg, body, y1, y2⟩ := hy _ _ hxs _ _ (fun h hh => starL_tail (starL_tail hh)) hs2
      refine ⟨f', tmps, asg, body, y1, RoundIn.mono y2 ?_⟩
      rintro e w4 ⟨v, rfl, hE4, hv⟩
      refine ⟨v, rfl, hE4, ?_⟩
      have hone : cnt (64 * j + (k + 1)) m = cnt (64 * j + s) m + 1 := by
        rw [show 64 * j + (k + 1) = 64 * j + k + 1 by omega, cnt_succ, hmk, hpos]; rfl
      rcases hv with ⟨rfl, hs4⟩ | ⟨rfl, hs4⟩
      · refine ⟨true, rfl, ?_⟩
        have e1 : IntKind.u64.wrap ((r : Int) - 1) = ((r - 1 : Nat) : Int) := by
          have := wrap_u64 (r - 1) (by omega)
          rw [← this]; congr 1; omega
        have e2 := bitI_and (a := r) (b := r - 1) hr (by omega)
        show (∃ r' s' : Nat, _ ∧ _) ∧ _
        rw [e1, e2]
        refine ⟨⟨r &&& (r - 1), k + 1, rfl, Nat.and_lt_two_pow _ (by omega), by omega, fun q => ?_, ?_⟩, ?_⟩
        · rw [k4, hbits]
          by_cases hq : q < k
          · have h3 := k3 q hq
            rw [hbits] at h3
            rw [h3]
            have : ¬ k + 1 ≤ q := by omega
            simp [this]
          · by_cases hqk : q = k
            · subst hqk
              have : ¬ q + 1 ≤ q := by omega
              simp [this]
            · have h5 : (q == k) = false := by simp [hqk]
              have h6 : s ≤ q := by omega
              have h7 : k + 1 ≤ q := by omega
              simp [h5, h6, h7]
        · rw [hone]; exact hs4
        · show (((r &&& (r - 1) : Nat) : Int)).toNat < ((r : Nat) : Int).toNat
          have : r &&& (r - 1) ≤ r - 1 := Nat.and_le_right
          simp only [Int.toNat_natCast]
          omega
      · refine ⟨false, rfl, ?_⟩
        exact .inr (back _ _ hs4)
    · have h2 : r = 0 := by simpa using h2
      subst h2
      refine ⟨⟨by omega, by omega⟩, ⟨j + 1, by simp, by omega, ?_⟩, msr h1⟩
      have : cnt (64 * (j + 1)) m = cnt (64 * j + s) m := cnt_mono_none (by omega) fun q hq1 hq2 => by
        have h3 := hbits (q - 64 * j)
        have h4 := hmem (q - 64 * j) (by omega)
        rw [show 64 * j + (q - 64 * j) = q by omega] at h4
        rw [h4]
        have : s ≤ q - 64 * j := by omega
        simpa [this] using h3.symm
      rw [this]; exact hs2
  · have h1 : j = ws.length := by have := of_decide_eq_false h1; omega
    subst h1
    rw [cnt_all hi, ← membs_len] at hs
    refine .inl ?_
    have : (ivm (membs n m)).length = (membs n m).length := by simp [ivm]
    rw [this]
    exact back _ _ hs
end
end Go.Proofs.YtcipljcagejjaaaDoor
