/- How many bits a word has: the sum over its halves, quarters and so on. Plain numbers. -/
import Derived.Test.YtcipljcagejjaaaDoorVNum
set_option linter.unusedVariables false
namespace Go.V
def M (c : Nat) : Nat → Nat
  | 0 => 0
  | n + 1 => 256 * M c n + c
theorem M_succ (c n : Nat) : M c (n + 1) = 256 * M c n + c := rfl
def pc (n x : Nat) : Nat := ((List.range n).filter x.testBit).length
theorem and_split (h l mh ml : Nat) (hl : l < 256) (hm : ml < 256) : (256 * h + l) &&& (256 * mh + ml) = 256 * (h &&& mh) + (l &&& ml) := by
  apply Nat.eq_of_testBit_eq
  intro j
  have e : (256 : Nat) = 2 ^ 8 := rfl
  have hlm : l &&& ml < 2 ^ 8 := Nat.and_lt_two_pow _ hm
  rw [Nat.testBit_and, e, Nat.testBit_two_pow_mul_add _ hl, Nat.testBit_two_pow_mul_add _ hm, Nat.testBit_two_pow_mul_add _ hlm]
  by_cases hj : j < 8 <;> simp [hj]
theorem shr_and_split (k h l mh ml : Nat) (hk : k ≤ 8) (hl : l < 256) (hm : ml < 2 ^ (8 - k)) : ((256 * h + l) / 2 ^ k) &&& (256 * mh + ml) = 256 * ((h / 2 ^ k) &&& mh) + ((l / 2 ^ k) &&& ml) := by
  apply Nat.eq_of_testBit_eq
  intro j
  have e : (256 : Nat) = 2 ^ 8 := rfl
  have hm8 : ml < 2 ^ 8 := Nat.lt_of_lt_of_le hm (Nat.pow_le_pow_right (by omega) (by omega))
  have hlm : l / 2 ^ k &&& ml < 2 ^ 8 := Nat.and_lt_two_pow _ hm8
  rw [Nat.testBit_and, e, Nat.testBit_div_two_pow, Nat.testBit_two_pow_mul_add _ hl, Nat.testBit_two_pow_mul_add _ hm8, Nat.testBit_two_pow_mul_add _ hlm]
  by_cases hj : j < 8
  · by_cases hjk : j + k < 8
    · simp [hj, hjk, Nat.testBit_div_two_pow]
    · have h0 : ml.testBit j = false := Nat.testBit_lt_two_pow (Nat.lt_of_lt_of_le hm (Nat.pow_le_pow_right (by omega) (by omega)))
      simp [hj, hjk, h0]
  · have : ¬ j + k < 8 := by omega
    have e2 : j + k - 8 = j - 8 + k := by omega
    simp [hj, this, Nat.testBit_div_two_pow, e2]
def A1 (n x : Nat) : Nat := ((x / 2 ^ 1) &&& M 85 n) + (x &&& M 85 n)
def A2 (n x : Nat) : Nat := ((x / 2 ^ 2) &&& M 51 n) + (x &&& M 51 n)
def A3 (n x : Nat) : Nat := (x / 2 ^ 4 + x) &&& M 15 n
def a1 (l : Nat) : Nat := ((l / 2 ^ 1) &&& 85) + (l &&& 85)
def a2 (l : Nat) : Nat := ((l / 2 ^ 2) &&& 51) + (l &&& 51)
theorem tab1 : ∀ l, l < 256 → a1 l < 256 ∧ a2 (a1 l) < 256 ∧ a2 (a1 l) % 16 ≤ 4 ∧ a2 (a1 l) / 16 ≤ 4 ∧ (a2 (a1 l) / 16 + a2 (a1 l)) % 16 = pc 8 l := by decide +kernel
theorem A1_step (n h l : Nat) (hl : l < 256) : A1 (n + 1) (256 * h + l) = 256 * A1 n h + a1 l := by
  unfold A1 a1
  rw [M_succ]
  rw [shr_and_split 1 h l _ _ (by omega) hl (by decide), and_split _ _ _ _ hl (by decide)]
  omega
theorem A2_step (n h l : Nat) (hl : l < 256) : A2 (n + 1) (256 * h + l) = 256 * A2 n h + a2 l := by
  unfold A2 a2
  rw [M_succ]
  rw [shr_and_split 2 h l _ _ (by omega) hl (by decide), and_split _ _ _ _ hl (by decide)]
  omega
theorem A21_nib : ∀ (n x : Nat), A2 n (A1 n x) % 16 ≤ 4
  | 0, x => by simp [A2, M]
  | n + 1, x => by
    have hx : x = 256 * (x / 256) + x % 256 := by omega
    have hl : x % 256 < 256 := Nat.mod_lt _ (by omega)
    obtain ⟨h1, h2, h3, h4, h5⟩ := tab1 _ hl
    rw [hx, A1_step _ _ _ hl, A2_step _ _ _ h1]
    omega
def sumB : Nat → Nat → Nat
  | 0, _ => 0
  | n + 1, x => 256 * sumB n (x / 256) + pc 8 (x % 256)
theorem A321 : ∀ (n x : Nat), A3 n (A2 n (A1 n x)) = sumB n x
  | 0, x => by simp [A3, M, sumB]
  | n + 1, x => by
    have hx : x = 256 * (x / 256) + x % 256 := by omega
    have hl : x % 256 < 256 := Nat.mod_lt _ (by omega)
    obtain ⟨h1, h2, h3, h4, h5⟩ := tab1 _ hl
    have ih := A321 n (x / 256)
    have hn := A21_nib n (x / 256)
    show A3 (n + 1) (A2 (n + 1) (A1 (n + 1) x)) = 256 * sumB n (x / 256) + pc 8 (x % 256)
    conv => lhs; rw [hx]
    rw [A1_step _ _ _ hl, A2_step _ _ _ h1, ← ih, ← h5]
    generalize A2 n (A1 n (x / 256)) = H at *
    generalize a2 (a1 (x % 256)) = l at *
    unfold A3
    rw [M_succ]
    have e : (256 * H + l) / 2 ^ 4 + (256 * H + l) = 256 * (H / 2 ^ 4 + H) + (16 * (H % 16) + l / 16 + l) := by omega
    rw [e, and_split _ _ _ _ (by omega) (by decide)]
    congr 1
    have e15 : ∀ y : Nat, y &&& 15 = y % 16 := fun y => Nat.and_two_pow_sub_one_eq_mod y 4
    rw [e15]; omega
theorem pc_le (n x : Nat) : pc n x ≤ n := by unfold pc; exact Nat.le_trans (List.length_filter_le _ _) (by simp)
theorem pc_add (a b x : Nat) : pc (a + b) x = pc a x + pc b (x / 2 ^ a) := by
  unfold pc
  rw [List.range_add, List.filter_append, List.length_append, List.filter_map, List.length_map]
  congr 2
  apply List.filter_congr
  intro k _
  simp [Nat.testBit_div_two_pow, Nat.add_comm]
theorem pc_mod (n x : Nat) : pc n (x % 2 ^ n) = pc n x := by
  unfold pc; congr 1
  apply List.filter_congr
  intro k hk
  simp only [List.mem_range] at hk
  simp [Nat.testBit_mod_two_pow, hk]
theorem pc64 (x : Nat) : ∃ p0 p1 p2 p3 p4 p5 p6 p7 : Nat, p0 ≤ 8 ∧ p1 ≤ 8 ∧ p2 ≤ 8 ∧ p3 ≤ 8 ∧ p4 ≤ 8 ∧ p5 ≤ 8 ∧ p6 ≤ 8 ∧ p7 ≤ 8 ∧ pc 64 x = p0 + p1 + p2 + p3 + p4 + p5 + p6 + p7 ∧
    sumB 8 x = p0 + 256 * (p1 + 256 * (p2 + 256 * (p3 + 256 * (p4 + 256 * (p5 + 256 * (p6 + 256 * p7)))))) := by
  have hp : ∀ y, pc 8 (y % 256) = pc 8 y := fun y => pc_mod 8 y
  refine ⟨pc 8 x, pc 8 (x / 256), pc 8 (x / 256 / 256), pc 8 (x / 256 / 256 / 256), pc 8 (x / 256 / 256 / 256 / 256), pc 8 (x / 256 / 256 / 256 / 256 / 256), pc 8 (x / 256 / 256 / 256 / 256 / 256 / 256), pc 8 (x / 256 / 256 / 256 / 256 / 256 / 256 / 256),
    pc_le _ _, pc_le _ _, pc_le _ _, pc_le _ _, pc_le _ _, pc_le _ _, pc_le _ _, pc_le _ _, ?_, ?_⟩
  · rw [show (64 : Nat) = 8 + (8 + (8 + (8 + (8 + (8 + (8 + 8)))))) from rfl]
    simp only [pc_add]
    have : (2 : Nat) ^ 8 = 256 := rfl
    simp only [this]
    omega
  · simp only [sumB, hp]
    omega
end Go.V
