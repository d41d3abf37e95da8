/- How many bits a word has; where its lowest one stands: contracts. -/
import Derived.Test.YtcipljcagejjaaaDoorVPop
import Derived.Test.YtcipljcagejjaaaDoorVBits2
import Derived.Lib.TrailingZeros
set_option linter.unusedVariables false
namespace Go.V
theorem wrap_i64n (n : Nat) (h : n < 2 ^ 63) : IntKind.i64.wrap (n : Int) = n := wrap_in ⟨by omega, by omega⟩
theorem bitI_and63 {a b : Nat} (ha : a < 2 ^ 63) (hb : b < 2 ^ 63) : bitI .and .i64 (a : Int) (b : Int) = ((a &&& b : Nat) : Int) := by
  show IntKind.i64.wrap (((BitVec.ofInt 64 (a : Int)) &&& (BitVec.ofInt 64 (b : Int))).toNat : Int) = _
  rw [bv_ofInt, bv_ofInt, BitVec.toNat_and, BitVec.toNat_ofNat, BitVec.toNat_ofNat, Nat.mod_eq_of_lt (by omega), Nat.mod_eq_of_lt (by omega)]
  exact wrap_i64n _ (Nat.and_lt_two_pow _ hb)
theorem oc1 {x : Nat} (hx : x < 2 ^ 64) : IntKind.u64.wrap (bitI .and .u64 (shrI .u64 (x : Int) 1) 6148914691236517205 + bitI .and .u64 (x : Int) 6148914691236517205) = ((A1 8 x : Nat) : Int) ∧ A1 8 x ≤ 12297829382473034410 := by
  have hm : M 85 8 = 6148914691236517205 := by decide +kernel
  have h1 : x / 2 ^ 1 < 2 ^ 64 := Nat.lt_of_le_of_lt (Nat.div_le_self _ _) hx
  have e1 := shrI_nat (n := x) (s := 1) (by omega)
  have e2 := bitI_and (a := x / 2 ^ 1) (b := 6148914691236517205) h1 (by decide)
  have e3 := bitI_and (a := x) (b := 6148914691236517205) hx (by decide)
  have b1 : (x / 2 ^ 1) &&& 6148914691236517205 ≤ 6148914691236517205 := Nat.and_le_right
  have b2 : x &&& 6148914691236517205 ≤ 6148914691236517205 := Nat.and_le_right
  have eA : A1 8 x = ((x / 2 ^ 1) &&& 6148914691236517205) + (x &&& 6148914691236517205) := by unfold A1; rw [hm]
  refine ⟨?_, by rw [eA]; omega⟩
  have e4 := wrap_u64 (((x / 2 ^ 1) &&& 6148914691236517205) + (x &&& 6148914691236517205)) (by omega)
  rw [eA, ← e4, Int.natCast_add, ← e2, ← e3, ← e1]; rfl
theorem oc2 {x : Nat} (hx : x < 2 ^ 64) : IntKind.u64.wrap (bitI .and .u64 (shrI .u64 (x : Int) 2) 3689348814741910323 + bitI .and .u64 (x : Int) 3689348814741910323) = ((A2 8 x : Nat) : Int) ∧ A2 8 x ≤ 7378697629483820646 := by
  have hm : M 51 8 = 3689348814741910323 := by decide +kernel
  have h1 : x / 2 ^ 2 < 2 ^ 64 := Nat.lt_of_le_of_lt (Nat.div_le_self _ _) hx
  have e1 := shrI_nat (n := x) (s := 2) (by omega)
  have e2 := bitI_and (a := x / 2 ^ 2) (b := 3689348814741910323) h1 (by decide)
  have e3 := bitI_and (a := x) (b := 3689348814741910323) hx (by decide)
  have b1 : (x / 2 ^ 2) &&& 3689348814741910323 ≤ 3689348814741910323 := Nat.and_le_right
  have b2 : x &&& 3689348814741910323 ≤ 3689348814741910323 := Nat.and_le_right
  have eA : A2 8 x = ((x / 2 ^ 2) &&& 3689348814741910323) + (x &&& 3689348814741910323) := by unfold A2; rw [hm]
  refine ⟨?_, by rw [eA]; omega⟩
  have e4 := wrap_u64 (((x / 2 ^ 2) &&& 3689348814741910323) + (x &&& 3689348814741910323)) (by omega)
  rw [eA, ← e4, Int.natCast_add, ← e2, ← e3, ← e1]; rfl
theorem oc3 {x : Nat} (hx : x ≤ 7378697629483820646) : bitI .and .u64 (IntKind.u64.wrap (shrI .u64 (x : Int) 4 + (x : Int))) 1085102592571150095 = ((A3 8 x : Nat) : Int) := by
  have hm : M 15 8 = 1085102592571150095 := by decide +kernel
  have e1 := shrI_nat (n := x) (s := 4) (by omega)
  have hb : x / 2 ^ 4 + x < 2 ^ 64 := by omega
  have e4 := wrap_u64 (x / 2 ^ 4 + x) hb
  have e2 := bitI_and (a := x / 2 ^ 4 + x) (b := 1085102592571150095) hb (by decide)
  unfold A3
  rw [hm, ← e2, ← e4, Int.natCast_add, ← e1]; rfl
theorem oc4 {x s : Nat} (hs : s < 64) (hx : x < 2 ^ 63) : IntKind.u64.wrap ((x : Int) + shrI .u64 (x : Int) (s : Int)) = ((x + x / 2 ^ s : Nat) : Int) := by
  have e1 := shrI_nat (n := x) (s := s) hs
  have : x / 2 ^ s ≤ x := Nat.div_le_self _ _
  rw [e1, ← Int.natCast_add]
  exact wrap_u64 _ (by omega)
def val : List Nat → Nat
  | [] => 0
  | p :: l => p + 256 * val l
theorem val_div (p : Nat) (l : List Nat) (h : p < 256) : val (p :: l) / 256 = val l := by simp only [val]; omega
theorem div2 (x : Nat) : x / 2 ^ 16 = x / 256 / 256 := by rw [Nat.div_div_eq_div_mul]
theorem div4 (x : Nat) : x / 2 ^ 32 = x / 256 / 256 / 256 / 256 := by rw [Nat.div_div_eq_div_mul, Nat.div_div_eq_div_mul, Nat.div_div_eq_div_mul]
theorem val_cons_add (p q : Nat) (l m : List Nat) : val (p :: l) + val (q :: m) = p + q + 256 * (val l + val m) := by simp only [val]; omega
theorem val_mod (p : Nat) (l : List Nat) (h : p < 128) : val (p :: l) % 128 = p := by simp only [val]; omega
theorem val8 {p0 p1 p2 p3 p4 p5 p6 p7 : Nat} (h0 : p0 ≤ 8) (h1 : p1 ≤ 8) (h2 : p2 ≤ 8) (h3 : p3 ≤ 8) (h4 : p4 ≤ 8) (h5 : p5 ≤ 8) (h6 : p6 ≤ 8) (h7 : p7 ≤ 8) {S : Nat} (hS : S = val [p0, p1, p2, p3, p4, p5, p6, p7]) :
    (S + S / 2 ^ 8 + (S + S / 2 ^ 8) / 2 ^ 16 + (S + S / 2 ^ 8 + (S + S / 2 ^ 8) / 2 ^ 16) / 2 ^ 32) % 128 = p0 + p1 + p2 + p3 + p4 + p5 + p6 + p7 := by
  have e1 : S + S / 2 ^ 8 = val [p0 + p1, p1 + p2, p2 + p3, p3 + p4, p4 + p5, p5 + p6, p6 + p7, p7] := by
    rw [hS, show (2 : Nat) ^ 8 = 256 from rfl, val_div _ _ (by omega)]
    simp only [val]; omega
  have e2 : S + S / 2 ^ 8 + (S + S / 2 ^ 8) / 2 ^ 16 = val [p0 + p1 + (p2 + p3), p1 + p2 + (p3 + p4), p2 + p3 + (p4 + p5), p3 + p4 + (p5 + p6), p4 + p5 + (p6 + p7), p5 + p6 + p7, p6 + p7, p7] := by
    rw [e1, div2, val_div _ _ (by omega), val_div _ _ (by omega)]
    simp only [val]; omega
  rw [e2, div4, val_div _ _ (by omega), val_div _ _ (by omega), val_div _ _ (by omega), val_div _ _ (by omega)]
  rw [val_cons_add]
  generalize val _ + val _ = t
  omega
theorem oc5 {S : Nat} (hb : S < 2 ^ 60) : S + S / 2 ^ 8 < 2 ^ 61 ∧ S + S / 2 ^ 8 + (S + S / 2 ^ 8) / 2 ^ 16 < 2 ^ 62 ∧ S + S / 2 ^ 8 + (S + S / 2 ^ 8) / 2 ^ 16 + (S + S / 2 ^ 8 + (S + S / 2 ^ 8) / 2 ^ 16) / 2 ^ 32 < 2 ^ 63 := by
  have h1 : S / 2 ^ 8 ≤ S := Nat.div_le_self _ _
  have h2 : (S + S / 2 ^ 8) / 2 ^ 16 ≤ S + S / 2 ^ 8 := Nat.div_le_self _ _
  have h3 : (S + S / 2 ^ 8 + (S + S / 2 ^ 8) / 2 ^ 16) / 2 ^ 32 ≤ S + S / 2 ^ 8 + (S + S / 2 ^ 8) / 2 ^ 16 := Nat.div_le_self _ _
  generalize (S + S / 2 ^ 8 + (S + S / 2 ^ 8) / 2 ^ 16) / 2 ^ 32 = c at *
  generalize (S + S / 2 ^ 8) / 2 ^ 16 = b at *
  generalize S / 2 ^ 8 = a at *
  omega
theorem val_lt {p0 p1 p2 p3 p4 p5 p6 p7 : Nat} (h0 : p0 ≤ 8) (h1 : p1 ≤ 8) (h2 : p2 ≤ 8) (h3 : p3 ≤ 8) (h4 : p4 ≤ 8) (h5 : p5 ≤ 8) (h6 : p6 ≤ 8) (h7 : p7 ≤ 8) : val [p0, p1, p2, p3, p4, p5, p6, p7] < 2 ^ 60 := by
  simp only [val]; omega
theorem wrap_u64_mod (n : Nat) : IntKind.u64.wrap (n : Int) = ((n % 18446744073709551616 : Nat) : Int) := by
  simp only [IntKind.wrap, IntKind.signed, IntKind.bits]
  simp
theorem wrap_u64_neg {x : Nat} (h0 : x ≠ 0) (hx : x < 2 ^ 64) : IntKind.u64.wrap (0 - (x : Int)) = ((18446744073709551616 - x : Nat) : Int) := by
  have : (0 - (x : Int)) % (18446744073709551616 : Int) = ((18446744073709551616 - x : Nat) : Int) := by omega
  simpa [IntKind.wrap, IntKind.signed, IntKind.bits] using this
theorem map_getD {T : List Nat} {i k : Nat} {f : Nat → Value} (h : T.getD i 0 = k) (hi : i < T.length) : (T.map f)[i]? = some (f k) := by
  rw [List.getD_eq_getElem?_getD, List.getElem?_eq_getElem hi] at h
  rw [List.getElem?_map, List.getElem?_eq_getElem hi]
  simp only [Option.getD_some] at h
  rw [h]; rfl
theorem tz_idx {x a : Nat} (h0 : x ≠ 0) (hx : x < 2 ^ 64) (ha : x &&& (18446744073709551616 - x) = a) :
    shrI .u64 (IntKind.u64.wrap (bitI .and .u64 (x : Int) (IntKind.u64.wrap (0 - (x : Int))) * 285870213051353865)) 58 = ((a * 285870213051353865 % 18446744073709551616 / 2 ^ 58 : Nat) : Int) := by
  have e2 := bitI_and (a := x) (b := 18446744073709551616 - x) hx (by omega)
  rw [wrap_u64_neg h0 hx, e2, ha]
  have e3 := wrap_u64_mod (a * 285870213051353865)
  rw [Int.natCast_mul] at e3
  have e5 : ((285870213051353865 : Nat) : Int) = 285870213051353865 := rfl
  rw [e5] at e3
  rw [e3]
  exact shrI_nat (s := 58) (by omega)
/- the sum's last steps -/
theorem oc6 {x : Nat} : ∃ V : Nat, V < 2 ^ 63 ∧ V % 128 = pc 64 x ∧ ∀ Y : Int, Y = ((sumB 8 x : Nat) : Int) →
    IntKind.u64.wrap (IntKind.u64.wrap (IntKind.u64.wrap (Y + shrI .u64 Y 8) + shrI .u64 (IntKind.u64.wrap (Y + shrI .u64 Y 8)) 16) + shrI .u64 (IntKind.u64.wrap (IntKind.u64.wrap (Y + shrI .u64 Y 8) + shrI .u64 (IntKind.u64.wrap (Y + shrI .u64 Y 8)) 16)) 32) = (V : Int) := by
  obtain ⟨p0, p1, p2, p3, p4, p5, p6, p7, q0, q1, q2, q3, q4, q5, q6, q7, hp, hs⟩ := pc64 x
  have hs' : sumB 8 x = val [p0, p1, p2, p3, p4, p5, p6, p7] := hs
  have hb : sumB 8 x < 2 ^ 60 := by rw [hs']; exact val_lt q0 q1 q2 q3 q4 q5 q6 q7
  have hfin := val8 q0 q1 q2 q3 q4 q5 q6 q7 hs'
  rw [← hp] at hfin
  obtain ⟨b1, b2, b3⟩ := oc5 hb
  refine ⟨_, b3, hfin, ?_⟩
  rintro _ rfl
  generalize sumB 8 x = S at *
  have e8 := oc4 (x := S) (s := 8) (by omega) (Nat.lt_trans hb (by decide))
  have e16 := oc4 (x := S + S / 2 ^ 8) (s := 16) (by omega) (Nat.lt_trans b1 (by decide))
  have e32 := oc4 (x := S + S / 2 ^ 8 + (S + S / 2 ^ 8) / 2 ^ 16) (s := 32) (by omega) (Nat.lt_trans b2 (by decide))
  have c8 : ((8 : Nat) : Int) = 8 := rfl
  have c16 : ((16 : Nat) : Int) = 16 := rfl
  have c32 : ((32 : Nat) : Int) = 32 := rfl
  rw [c8] at e8; rw [c16] at e16; rw [c32] at e32
  rw [e8, e16, e32]
end Go.V
namespace Go.Proofs.YtcipljcagejjaaaDoor
open Go.V
theorem c_OnesCount64 {x : Nat} (hx : x < 2 ^ 64) (w : World) : Run Tryd.prog n_math_bits_OnesCount64 [.int .u64 (x : Int)] w fun v w' => v = .int .i64 ((pc 64 x : Nat) : Int) ∧ w' = w := by
  refine run_math_bits_OnesCount64 _ w _ ?_
  obtain ⟨h1, b1⟩ := oc1 hx
  obtain ⟨h2, b2⟩ := oc2 (x := A1 8 x) (Nat.lt_of_le_of_lt b1 (by decide))
  have h3 := oc3 b2
  rw [A321] at h3
  obtain ⟨V, hV, hm, h4⟩ := oc6 (x := x)
  have e127 := bitI_and63 (a := V) (b := 127) hV (by decide)
  have hns : ∀ k : Nat, ns (k : Int) := fun k => Int.natCast_nonneg k
  have hin : inI (V : Int) := ⟨by omega, by omega⟩
  have hR : (fun (v : Value) (w' : World) => v = .int .i64 ((pc 64 x : Nat) : Int) ∧ w' = w) (Value.int IntKind.i64 (bitI BinOp.and IntKind.i64 (V : Int) 127)) w := by
    refine ⟨?_, rfl⟩
    rw [← hm]
    have c127 : ((127 : Nat) : Int) = 127 := rfl
    rw [c127] at e127
    rw [e127, show (127 : Nat) = 2 ^ 7 - 1 from rfl, Nat.and_two_pow_sub_one_eq_mod]
  unfold vc_math_bits_OnesCount64
  rw [h1, h2, h3, h4 _ rfl]
  exact ⟨hns 1, hns 2, hns 4, hns 8, hns 16, hns 32, hin, hR⟩
theorem c_TrailingZeros64 {x : Nat} (hx : x < 2 ^ 64) (w : World) {L : List Asn} (h : St w (rdV (some ⟨0, 0, none⟩) (Lib.deBruijn64tab.map fun (k : Nat) => Value.int .u8 (k : Int)) :: L)) : Run Tryd.prog n_math_bits_TrailingZeros64 [.int .u64 (x : Int)] w fun v w' => v = .int .i64 ((Lib.ctz 64 x : Nat) : Int) ∧ w' = w := by
  refine run_math_bits_TrailingZeros64 _ w _ ?_
  refine br_intro (fun h0 => ?_) fun h0 => ?_
  · have : x = 0 := by simpa using h0
    subst this
    exact ⟨rfl, rfl⟩
  · have h0 : x ≠ 0 := by simpa using h0
    obtain ⟨hlow, hk⟩ := Lib.lowest_bit 64 x h0 hx
    obtain ⟨hi, htab⟩ := Lib.deBruijn64_at _ hk
    rw [tz_idx h0 hx hlow]
    generalize Lib.ctz 64 x = k at hk hi htab ⊢
    have e58 : (2 : Nat) ^ 58 = 288230376151711744 := by decide
    rw [e58]
    generalize 2 ^ k * 285870213051353865 % 18446744073709551616 / 288230376151711744 = i at hi htab ⊢
    refine ⟨show (0 : Int) ≤ 58 by decide, idx_i rfl hi ⟨(k : Int), ?_, ⟨by omega, by omega⟩, rfl, rfl⟩⟩
    have hg := map_getD (f := fun (k : Nat) => Value.int .u8 (k : Int)) htab hi
    obtain ⟨ad, e, hc⟩ := rdV_get h hg
    cases e
    exact hc
end Go.Proofs.YtcipljcagejjaaaDoor
