/- Sets of small numbers: contracts (3): a new set; how many members. -/
import Derived.Test.YtcipljcagejjaaaDoorVPop2
set_option linter.unusedVariables false
namespace Go.V
theorem cnt_split (a b : Nat) (m : Nat → Bool) : cnt (a + b) m = cnt a m + cnt b (fun k => m (a + k)) := by
  unfold cnt
  rw [List.range_add, List.filter_append, List.length_append, List.filter_map, List.length_map]
  rfl
theorem cnt_zero {a : Nat} {m : Nat → Bool} (h : ∀ k, k < a → m k = false) : cnt a m = 0 := by
  unfold cnt
  rw [List.filter_eq_nil_iff.2 fun k hk => by simp [h k (by simpa using hk)]]; rfl
theorem cnt_word {ws : List Nat} {m : Nat → Bool} (hm : ∀ k, m k = mem ws k) (j : Nat) : cnt (64 * (j + 1)) m = cnt (64 * j) m + pc 64 (ws.getD j 0) := by
  rw [show 64 * (j + 1) = 64 * j + 64 by omega, cnt_split]
  congr 1
  unfold cnt pc
  congr 1
  apply List.filter_congr
  intro k hk
  have hk : k < 64 := by simpa using hk
  rw [hm]
  unfold mem
  rw [show (64 * j + k) / 64 = j by omega, show (64 * j + k) % 64 = k by omega]
theorem cnt_all {n : Nat} {ws : List Nat} {m : Nat → Bool} (hi : Inv n ws m) : cnt (64 * ws.length) m = cnt n m := by
  have h : 64 * ws.length = n + (64 * ws.length - n) := by rw [hi.len]; omega
  rw [h, cnt_split, cnt_zero (a := 64 * ws.length - n) fun k _ => hi.out _ (by omega)]; omega
def ofN (s : Int) : Nat := (if 1024 < if s < 0 then 0 else s then 1024 else if s < 0 then 0 else s).toNat
theorem ofN_eq (s : Int) : (if 1024 < if s < 0 then 0 else s then (1024 : Int) else if s < 0 then 0 else s) = (ofN s : Int) := by
  unfold ofN
  split <;> split <;> omega
theorem ofN_le (s : Int) : ofN s ≤ 1024 := by
  unfold ofN; split
  · decide
  · split <;> omega
theorem ofN_nat {n : Nat} (h : n ≤ 1024) : ofN (n : Int) = n := by
  unfold ofN
  rw [if_neg (by rw [if_neg (by omega)]; omega), if_neg (by omega)]; simp
theorem reps_one (v : Value) : ∀ n, reps n [v] = List.replicate n v
  | 0 => rfl
  | n + 1 => by simp [reps, reps_one v n, List.replicate_succ]
theorem cw_zero (n : Nat) : cw (List.replicate n 0) = List.replicate n (.int .u64 0) := by simp [cw]
theorem mem_zero (n k : Nat) : mem (List.replicate n 0) k = false := by
  unfold mem
  rw [List.getD_eq_getElem?_getD, List.getElem?_replicate]
  split <;> simp
theorem inv_zero {n : Nat} (h : n ≤ 1024) : Inv n (List.replicate ((n + 63) / 64) 0) (fun _ => false) :=
  ⟨by simp, h, fun x hx => by rw [List.mem_replicate] at hx; rw [hx.2]; decide, fun k => (mem_zero _ k).symm, fun _ _ => rfl⟩
end Go.V
namespace Go.Proofs.YtcipljcagejjaaaDoor
open Go.V
section
variable {w : World} {L : List Asn} {a : Option Addr} {l c : Nat} {p : Option Addr} {n : Nat} {m : Nat → Bool} {xs : List Int}
theorem c_Of (size : Int) {D : Asn} (hD : ∀ h, D h → rdV a (iv xs) h) (h : St w (D :: L)) (hl : xs.length = l) (hb : l ≤ 4611686018427387904) :
    Run Tryd.prog n_bits_Of [.int .i64 size, .slice a l c] w fun v w' => ∃ b, v = .pointer (some ⟨b, 0, none⟩) ∧ St w' (setM (some ⟨b, 0, none⟩) (ofN size) (addS (ofN size) (fun _ => false) xs) :: D :: L) := by
  refine run_bits_Of _ _ _ _ w _ ?_
  unfold vc_bits_Of
  rw [ofN_eq]
  have hle := ofN_le size
  generalize ofN size = N at *
  have e0 : ((N : Int) + 63) = ((N + 63 : Nat) : Int) := by omega
  rw [e0, tdiv64, Int.toNat_natCast]
  refine ⟨inI_nat (by omega), nz64, inI_nat (by omega), ⟨by omega, rfl, by omega⟩, ?_⟩
  rw [reps_one]
  refine newC_i h fun b1 w1 h1 => newC_i h1 fun b2 w2 h2 => ?_
  have h3 : St w2 (setM (some ⟨b2, 0, none⟩) N (fun _ => false) :: D :: L) := by
    refine setM_mk (a := some ⟨b1, 0, none⟩) (c := (N + 63) / 64) (inv_zero hle) ?_
    have hlen : (List.replicate ((N + 63) / 64) 0 : List Nat).length = (N + 63) / 64 := by simp
    rw [hlen]
    refine St.swap (own_some (cs := []) ?_ ?_ ?_ (Nat.le_refl _))
    · rw [List.append_nil, cw_zero]; exact h2.swap
    · simp [cw]
    · simp [cw]
  refine (c_Add hD h3 hl hb).mono ?_
  rintro _ w3 ⟨rfl, h4⟩
  exact ⟨_, rfl, b2, rfl, h4⟩
theorem c_Count (h : St w (setM p n m :: L)) : Run Tryd.prog n_bits_Set_Count [.pointer p] w fun v w' => v = .int .i64 (cnt n m : Int) ∧ w' = w := by
  refine run_bits_Set_Count _ w _ ?_
  rcases setM_cases h with ⟨rfl, rfl, rfl, _⟩ | ⟨b, a, c, ws, rfl, hi, hs⟩
  · exact ⟨by simp [cnt], rfl⟩
  · refine ⟨a, ws.length, c, by rw [hs.cell]; rfl, ?_⟩
    refine ⟨fun n1 n2 w' => ∃ j : Nat, n2 = j ∧ j ≤ ws.length ∧ n1 = (cnt (64 * j) m : Int) ∧ w' = w, fun _ n2 _ => ws.length - n2.toNat, ⟨0, rfl, by omega, by simp [cnt], rfl⟩, ?_⟩
    rintro _ n1 n2 _ ⟨j, rfl, hj, rfl, rfl⟩
    have hlen := hi.len
    have hn := hi.le
    refine br_intro (fun h0 => ?_) fun h0 => ?_
    · have h0 : j < ws.length := by have := of_decide_eq_true h0; omega
      obtain ⟨ad, rfl⟩ := own_addr hs.swap (by simp [cw]; omega)
      have hg := own_get hs.swap rfl (cw_get h0)
      refine idx_i rfl h0 ⟨_, hg, ?_⟩
      refine (c_OnesCount64 (getD_lt hi.lt j) _).mono ?_
      rintro _ _ ⟨rfl, rfl⟩
      have h1 := cnt_le (64 * j) m
      have h2 := pc_le 64 (ws.getD j 0)
      refine ⟨_, rfl, ⟨by omega, by omega⟩, ⟨by omega, by omega⟩, ⟨j + 1, by simp, by omega, ?_, rfl⟩, msr h0⟩
      rw [cnt_word hi.mm]; omega
    · have h0 : j = ws.length := by have := of_decide_eq_false h0; omega
      subst h0
      rw [cnt_all hi]
      exact ⟨rfl, rfl⟩
end
end Go.Proofs.YtcipljcagejjaaaDoor
