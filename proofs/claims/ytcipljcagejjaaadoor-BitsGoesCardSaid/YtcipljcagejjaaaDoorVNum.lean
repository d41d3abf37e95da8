/- Numbers of sixty-four bits. -/
import Derived.Test.YtcipljcagejjaaaDoorVStep
set_option linter.unusedVariables false
namespace Go.V
theorem wrap_u64 (n : Nat) (h : n < 2 ^ 64) : IntKind.u64.wrap (n : Int) = n := by
  have : (n : Int) % (18446744073709551616 : Int) = n := Int.emod_eq_of_lt (by omega) (by omega)
  simp [IntKind.wrap, IntKind.signed, IntKind.bits, this]
theorem bv_ofInt (n : Nat) : BitVec.ofInt 64 (n : Int) = BitVec.ofNat 64 n := by
  apply BitVec.eq_of_toNat_eq; simp
theorem bitI_and {a b : Nat} (ha : a < 2 ^ 64) (hb : b < 2 ^ 64) : bitI .and .u64 (a : Int) (b : Int) = ((a &&& b : Nat) : Int) := by
  show IntKind.u64.wrap (((BitVec.ofInt 64 (a : Int)) &&& (BitVec.ofInt 64 (b : Int))).toNat : Int) = _
  rw [bv_ofInt, bv_ofInt, BitVec.toNat_and, BitVec.toNat_ofNat, BitVec.toNat_ofNat, Nat.mod_eq_of_lt ha, Nat.mod_eq_of_lt hb]
  exact wrap_u64 _ (Nat.and_lt_two_pow _ hb)
theorem bitI_or {a b : Nat} (ha : a < 2 ^ 64) (hb : b < 2 ^ 64) : bitI .or .u64 (a : Int) (b : Int) = ((a ||| b : Nat) : Int) := by
  show IntKind.u64.wrap (((BitVec.ofInt 64 (a : Int)) ||| (BitVec.ofInt 64 (b : Int))).toNat : Int) = _
  rw [bv_ofInt, bv_ofInt, BitVec.toNat_or, BitVec.toNat_ofNat, BitVec.toNat_ofNat, Nat.mod_eq_of_lt ha, Nat.mod_eq_of_lt hb]
  exact wrap_u64 _ (Nat.or_lt_two_pow ha hb)
theorem bitI_andNot {a b : Nat} (ha : a < 2 ^ 64) (hb : b < 2 ^ 64) : ∃ r : Nat, bitI .andNot .u64 (a : Int) (b : Int) = (r : Int) ∧ r < 2 ^ 64 ∧ ∀ i, r.testBit i = (a.testBit i && !b.testBit i) := by
  refine ⟨(BitVec.ofNat 64 a &&& ~~~(BitVec.ofNat 64 b)).toNat, ?_, (BitVec.isLt _), fun i => ?_⟩
  · show IntKind.u64.wrap (((BitVec.ofInt 64 (a : Int)) &&& ~~~(BitVec.ofInt 64 (b : Int))).toNat : Int) = _
    rw [bv_ofInt, bv_ofInt]
    exact wrap_u64 _ (BitVec.isLt _)
  · rw [← BitVec.getLsbD, BitVec.getLsbD_and, BitVec.getLsbD_not, BitVec.getLsbD_ofNat, BitVec.getLsbD_ofNat]
    by_cases hi : i < 64
    · simp [hi]
    · have h1 : a.testBit i = false := Nat.testBit_lt_two_pow (Nat.lt_of_lt_of_le ha (Nat.pow_le_pow_right (by omega) (by omega)))
      simp [hi, h1]
theorem shlI_one {s : Nat} (h : s < 64) : shlI .u64 1 (s : Int) = ((2 ^ s : Nat) : Int) := by
  simp only [shlI, IntKind.bits, Int.toNat_natCast, Int.one_mul]
  rw [Nat.min_eq_left (by omega)]
  have h1 : ((2 : Int) ^ s) = ((2 ^ s : Nat) : Int) := by simp
  rw [h1, wrap_u64 _ (Nat.pow_lt_pow_right (by omega) h)]
theorem shrI_nat {n s : Nat} (h : s < 64) : shrI .u64 (n : Int) (s : Int) = ((n / 2 ^ s : Nat) : Int) := by
  simp only [shrI, IntKind.bits, Int.toNat_natCast]
  rw [Nat.min_eq_left (by omega)]
  have h1 : ((2 : Int) ^ s) = ((2 ^ s : Nat) : Int) := by simp
  rw [h1, Int.fdiv_eq_ediv_of_nonneg _ (Int.natCast_nonneg _)]
  simp
theorem tdiv64 (k : Nat) : Int.tdiv (k : Int) 64 = ((k / 64 : Nat) : Int) := by
  rw [Int.tdiv_eq_ediv_of_nonneg (by omega)]; simp
theorem tmod64 (k : Nat) : Int.tmod (k : Int) 64 = ((k % 64 : Nat) : Int) := by
  rw [Int.tmod_eq_emod_of_nonneg (by omega)]; simp
theorem bit_test {n s : Nat} (hn : n < 2 ^ 64) (h : s < 64) : (bitI .and .u64 (shrI .u64 (n : Int) (s : Int)) 1 == 1) = n.testBit s := by
  rw [shrI_nat h]
  have : (1 : Int) = ((1 : Nat) : Int) := rfl
  rw [this, bitI_and (Nat.lt_of_le_of_lt (Nat.div_le_self _ _) hn) (by omega)]
  rw [Nat.testBit_eq_decide_div_mod_eq, Nat.and_one_is_mod]
  by_cases hh : n / 2 ^ s % 2 = 1
  · simp [hh]
  · have h0 : n / 2 ^ s % 2 = 0 := by omega
    simp [h0]
end Go.V
