/- Sets of small numbers: contracts (7): equal, a copy. -/
import Derived.Test.YtcipljcagejjaaaDoorVBits6
set_option linter.unusedVariables false
namespace Go.V
theorem natNe {a b : Nat} (h : ((a : Int) != b) = true) : a ≠ b := by
  have : (a : Int) ≠ b := by simpa using h
  omega
theorem natEq' {a b : Nat} (h : ((a : Int) != b) = false) : a = b := by
  have : (a : Int) = b := by simpa using h
  omega
theorem natEq {a b : Nat} (h : ((a : Int) == b) = true) : a = b := by
  have : (a : Int) = b := by simpa using h
  omega
theorem natNe' {a b : Nat} (h : ((a : Int) == b) = false) : a ≠ b := by
  have : (a : Int) ≠ b := by simpa using h
  omega
theorem ivn_get {ks : List Nat} {j k : Nat} (h : ks[j]? = some k) : (ivn ks)[j]? = some (.int .i64 (k : Int)) := by simp [ivn, h]
theorem ivn_iv (ks : List Nat) : ivn ks = iv (ks.map fun (k : Nat) => (k : Int)) := by simp [ivn, iv]
theorem addS_members {n : Nat} {m : Nat → Bool} (h : ∀ k, n ≤ k → m k = false) : addS n (fun _ => false) ((membs n m).map fun (k : Nat) => (k : Int)) = m := by
  funext k
  unfold addS membs
  by_cases hk : k < n
  · simp only [Bool.false_or, hk, decide_true, Bool.true_and]
    rw [Bool.eq_iff_iff]
    simp only [List.contains_iff_mem, List.mem_map, List.mem_filter, List.mem_range]
    constructor
    · rintro ⟨x, ⟨h1, h2⟩, h3⟩
      have : x = k := by omega
      rw [← this]; exact h2
    · intro h1; exact ⟨k, ⟨hk, h1⟩, rfl⟩
  · rw [h k (by omega)]; simp [hk]
end Go.V
