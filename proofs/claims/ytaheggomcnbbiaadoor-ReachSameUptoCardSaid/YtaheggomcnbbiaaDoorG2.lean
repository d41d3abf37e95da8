/- Texts of this claim, one behind the other. -/
import Derived.Test.YtaheggomcnbbiaaDoorG1
import Derived.Lib.TrailingZeros
import Derived.Laws.IdiomCopy
import Derived.MapKept
import Derived.Laws.RangeAny
import Derived.Laws.Strings
import Derived.Lib.OthersKept
import Derived.Laws.StructEq
set_option linter.unusedVariables false
namespace Go.Proofs.YtaheggomcnbbiaaDoor
open Go.V
abbrev n_bits_Of : FuncId := 55
def ann_bits_Of : Ann := { rngs := [], loops := [], joins := [], blocks := [] }
set_option maxRecDepth 100000 in
def vc_bits_Of (p0size : Int) (p1membersa : Option Addr) (p1membersl : Nat) (p1membersc : Nat) (w : World) (R : Value → World → Prop) : Prop :=
  inI ((if 1024 < if p0size < 0 then 0 else p0size then 1024 else if p0size < 0 then 0 else p0size) + 63) ∧
  nz 64 ∧
  inI (Int.tdiv ((if 1024 < if p0size < 0 then 0 else p0size then 1024 else if p0size < 0 then 0 else p0size) + 63) 64) ∧
  mkOk (Int.tdiv ((if 1024 < if p0size < 0 then 0 else p0size then 1024 else if p0size < 0 then 0 else p0size) + 63) 64)
  (Int.tdiv ((if 1024 < if p0size < 0 then 0 else p0size then 1024 else if p0size < 0 then 0 else p0size) + 63) 64) 8 ∧
  new w
  (Obj.cells
  (Array.mk
  (reps (Int.toNat (Int.tdiv ((if 1024 < if p0size < 0 then 0 else p0size then 1024 else if p0size < 0 then 0 else p0size) + 63) 64)) [Value.int IntKind.u64 0]))
  121)
  fun (k1 : Nat) (w1 : World) =>
  new w1
  (Obj.cells
  (Array.mk
  [Value.slice (some (Addr.mk k1 0 none))
  (Int.toNat (Int.tdiv ((if 1024 < if p0size < 0 then 0 else p0size then 1024 else if p0size < 0 then 0 else p0size) + 63) 64))
  (Int.toNat (Int.tdiv ((if 1024 < if p0size < 0 then 0 else p0size then 1024 else if p0size < 0 then 0 else p0size) + 63) 64)),
  Value.int IntKind.i64 (if 1024 < if p0size < 0 then 0 else p0size then 1024 else if p0size < 0 then 0 else p0size)])
  112)
  fun (k2 : Nat) (w2 : World) =>
  RunE Proofs.Tryd.prog Ev 77 [Value.pointer (some (Addr.mk k2 0 none)), Value.slice p1membersa p1membersl p1membersc] w2 fun (v1 : Value) (w3 : World) =>
  ∃ (n1 : Int), v1 = Value.int IntKind.i64 n1 ∧ R (Value.pointer (some (Addr.mk k2 0 none))) w3
set_option maxRecDepth 100000 in
theorem run_bits_Of (p0size : Int) (p1membersa : Option Addr) (p1membersl : Nat) (p1membersc : Nat) (w : World) (R : Value → World → Prop) (h : vc_bits_Of p0size p1membersa p1membersl p1membersc w R) : Run Tryd.prog 55 [(.int .i64 p0size), (.slice p1membersa p1membersl p1membersc)] w R :=
  run_ev tyOk fnOk mixed Tryd.func55 ann_bits_Of ((by kernel_rfl : fnV Tryd.prog Ty Fn Ev ann_bits_Of Tryd.f55 [(.int .i64 p0size), (.slice p1membersa p1membersl p1membersc)] w R = vc_bits_Of p0size p1membersa p1membersl p1membersc w R) ▸ h)

abbrev n_bits_Set_Size : FuncId := 67
def ann_bits_Set_Size : Ann := { rngs := [], loops := [], joins := [], blocks := [] }
set_option maxRecDepth 100000 in
def vc_bits_Set_Size (p0s : Option Addr) (w : World) (R : Value → World → Prop) : Prop :=
  br (Option.isNone p0s) (R (Value.int IntKind.i64 0) w)
  (nn p0s fun (a1 : Addr) => ∃ (n1 : Int), World.cell? w (Addr.add a1 1) = some (Value.int IntKind.i64 n1) ∧ R (Value.int IntKind.i64 n1) w)
set_option maxRecDepth 100000 in
theorem run_bits_Set_Size (p0s : Option Addr) (w : World) (R : Value → World → Prop) (h : vc_bits_Set_Size p0s w R) : Run Tryd.prog 67 [(.pointer p0s)] w R :=
  run_ev tyOk fnOk mixed Tryd.func67 ann_bits_Set_Size ((by kernel_rfl : fnV Tryd.prog Ty Fn Ev ann_bits_Set_Size Tryd.f67 [(.pointer p0s)] w R = vc_bits_Set_Size p0s w R) ▸ h)

abbrev n_bits_Set_Has : FuncId := 63
def ann_bits_Set_Has : Ann := { rngs := [], loops := [], joins := [], blocks := [] }
set_option maxRecDepth 100000 in
def vc_bits_Set_Has (p0s : Option Addr) (p1n : Int) (w : World) (R : Value → World → Prop) : Prop :=
  br (decide (0 ≤ p1n))
  (RunE Proofs.Tryd.prog Ev 67 [Value.pointer p0s] w fun (v1 : Value) (w1 : World) =>
  ∃ (n1 : Int),
  v1 = Value.int IntKind.i64 n1 ∧
  br (decide (p1n < n1))
  (nn p0s fun (a1 : Addr) =>
  ∃ (o1 : Option Addr),
  ∃ (k1 : Nat),
  ∃ (k2 : Nat),
  World.cell? w1 a1 = some (Value.slice o1 k1 k2) ∧
  RunE Proofs.Tryd.prog Ev 89 [Value.slice o1 k1 k2, Value.int IntKind.i64 p1n] w1 fun (v2 : Value) (w2 : World) =>
  ∃ (b1 : Bool), v2 = Value.bool b1 ∧ R (Value.bool b1) w2)
  (R (Value.bool false) w1))
  (R (Value.bool false) w)
set_option maxRecDepth 100000 in
theorem run_bits_Set_Has (p0s : Option Addr) (p1n : Int) (w : World) (R : Value → World → Prop) (h : vc_bits_Set_Has p0s p1n w R) : Run Tryd.prog 63 [(.pointer p0s), (.int .i64 p1n)] w R :=
  run_ev tyOk fnOk mixed Tryd.func63 ann_bits_Set_Has ((by kernel_rfl : fnV Tryd.prog Ty Fn Ev ann_bits_Set_Has Tryd.f63 [(.pointer p0s), (.int .i64 p1n)] w R = vc_bits_Set_Has p0s p1n w R) ▸ h)

abbrev n_bits_Set_Add : FuncId := 77
def ann_bits_Set_Add : Ann := { rngs := [], loops := [(3, [(5, (.one (.int .i64))), (10, (.one (.int .i64)))])], joins := [], blocks := [] }
set_option maxRecDepth 100000 in
def vc_bits_Set_Add (p0s : Option Addr) (p1membersa : Option Addr) (p1membersl : Nat) (p1membersc : Nat) (w : World) (R : Value → World → Prop) : Prop :=
  ∃ (x1 : arrS (shs [(5, S1.one (Cs.int IntKind.i64)), (10, S1.one (Cs.int IntKind.i64))]) (World → Prop)),
  ∃ (x2 : arrS (shs [(5, S1.one (Cs.int IntKind.i64)), (10, S1.one (Cs.int IntKind.i64))]) (World → Nat)),
  x1 0 0 w ∧
  ∀ (I1 : Nat → Value) (n1 n2 : Int) (w1 : World),
  x1 n1 n2 w1 →
  br (decide (n2 < (↑p1membersl : Int)))
  (idx p1membersa p1membersl n2 1 fun (a1 : Addr) =>
  ∃ (n3 : Int),
  World.cell? w1 a1 = some (Value.int IntKind.i64 n3) ∧
  br (decide (0 ≤ n3))
  (RunE Proofs.Tryd.prog Ev 67 [Value.pointer p0s] w1 fun (v1 : Value) (w2 : World) =>
  ∃ (n4 : Int),
  v1 = Value.int IntKind.i64 n4 ∧
  br (decide (n3 < n4))
  (nn p0s fun (a2 : Addr) =>
  ∃ (o1 : Option Addr),
  ∃ (k1 : Nat),
  ∃ (k2 : Nat),
  World.cell? w2 a2 = some (Value.slice o1 k1 k2) ∧
  RunE Proofs.Tryd.prog Ev 89 [Value.slice o1 k1 k2, Value.int IntKind.i64 n3] w2 fun (v2 : Value) (w3 : World) =>
  ∃ (b1 : Bool),
  v2 = Value.bool b1 ∧
  br (!b1)
  (nn p0s fun (a3 : Addr) =>
  ∃ (o2 : Option Addr),
  ∃ (k3 : Nat),
  ∃ (k4 : Nat),
  World.cell? w3 a3 = some (Value.slice o2 k3 k4) ∧
  RunE Proofs.Tryd.prog Ev 99 [Value.slice o2 k3 k4, Value.int IntKind.i64 n3] w3 fun (v3 : Value) (w4 : World) =>
  v3 = Value.tuple (Array.mk []) ∧
  inI (n1 + 1) ∧ inI (n2 + 1) ∧ x1 (n1 + 1) (n2 + 1) w4 ∧ x2 (n1 + 1) (n2 + 1) w4 < x2 n1 n2 w1)
  (inI (n2 + 1) ∧ x1 n1 (n2 + 1) w3 ∧ x2 n1 (n2 + 1) w3 < x2 n1 n2 w1))
  (inI (n2 + 1) ∧ x1 n1 (n2 + 1) w2 ∧ x2 n1 (n2 + 1) w2 < x2 n1 n2 w1))
  (inI (n2 + 1) ∧ x1 n1 (n2 + 1) w1 ∧ x2 n1 (n2 + 1) w1 < x2 n1 n2 w1))
  (R (Value.int IntKind.i64 n1) w1)
set_option maxRecDepth 100000 in
theorem run_bits_Set_Add (p0s : Option Addr) (p1membersa : Option Addr) (p1membersl : Nat) (p1membersc : Nat) (w : World) (R : Value → World → Prop) (h : vc_bits_Set_Add p0s p1membersa p1membersl p1membersc w R) : Run Tryd.prog 77 [(.pointer p0s), (.slice p1membersa p1membersl p1membersc)] w R :=
  run_ev tyOk fnOk mixed Tryd.func77 ann_bits_Set_Add ((by kernel_rfl : fnV Tryd.prog Ty Fn Ev ann_bits_Set_Add Tryd.f77 [(.pointer p0s), (.slice p1membersa p1membersl p1membersc)] w R = vc_bits_Set_Add p0s p1membersa p1membersl p1membersc w R) ▸ h)

abbrev n_bits_Set_All : FuncId := 68
def ann_bits_Set_All : Ann := { rngs := [], loops := [], joins := [], blocks := [] }
set_option maxRecDepth 100000 in
def vc_bits_Set_All (p0s : Option Addr) (w : World) (R : Value → World → Prop) : Prop :=
  new w (Obj.cells (Array.mk [Value.slice none 0 0]) 110) fun (k1 : Nat) (w1 : World) =>
  br (!Option.isNone p0s)
  (nn p0s fun (a1 : Addr) =>
  ∃ (o1 : Option Addr),
  ∃ (k2 : Nat),
  ∃ (k3 : Nat),
  World.cell? w1 a1 = some (Value.slice o1 k2 k3) ∧
  RunE Proofs.Tryd.prog Ev 91 [Value.slice o1 k2 k3] w1 fun (v1 : Value) (w2 : World) =>
  ∃ (o2 : Option Addr),
  ∃ (k4 : Nat),
  ∃ (k5 : Nat),
  v1 = Value.slice o2 k4 k5 ∧
  st1 w2 (Addr.mk k1 0 none) (Value.slice o2 k4 k5) fun (w3 : World) =>
  R (Value.func (Fn.func 92) (Array.mk []) (Array.mk [Value.pointer (some (Addr.mk k1 0 none))])) w3)
  (R (Value.func (Fn.func 92) (Array.mk []) (Array.mk [Value.pointer (some (Addr.mk k1 0 none))])) w1)
set_option maxRecDepth 100000 in
theorem run_bits_Set_All (p0s : Option Addr) (w : World) (R : Value → World → Prop) (h : vc_bits_Set_All p0s w R) : Run Tryd.prog 68 [(.pointer p0s)] w R :=
  run_ev tyOk fnOk mixed Tryd.func68 ann_bits_Set_All ((by kernel_rfl : fnV Tryd.prog Ty Fn Ev ann_bits_Set_All Tryd.f68 [(.pointer p0s)] w R = vc_bits_Set_All p0s w R) ▸ h)

abbrev n_bits_Set_All_S1 : FuncId := 92
def ann_bits_Set_All_S1 : Ann := { rngs := [], loops := [(1, [(7, (.one (.int .i64)))]), (3, [(4, (.one (.int .u64)))])], joins := [], blocks := [] }
set_option maxRecDepth 100000 in
def vc_bits_Set_All_S1_Y (E : World → World → Prop) (p0yield : Nat) (c0 : Addr) (w : World) (R : Value → World → Prop) : Prop :=
  ∃ (o1 : Option Addr),
  ∃ (k1 : Nat),
  ∃ (k2 : Nat),
  World.cell? w c0 = some (Value.slice o1 k1 k2) ∧
  ∃ (x1 : arrS (shs [(7, S1.one (Cs.int IntKind.i64))]) (World → Prop)),
  ∃ (x2 : arrS (shs [(7, S1.one (Cs.int IntKind.i64))]) (World → Nat)),
  x1 0 w ∧
  ∀ (I1 : Nat → Value) (n1 : Int) (w1 : World),
  x1 n1 w1 →
  br (decide (n1 < (↑k1 : Int)))
  (idx o1 k1 n1 1 fun (a1 : Addr) =>
  ∃ (n2 : Int),
  World.cell? w1 a1 = some (Value.int IntKind.u64 n2) ∧
  ∃ (x3 : arrS (shs [(4, S1.one (Cs.int IntKind.u64))]) (World → Prop)),
  ∃ (x4 : arrS (shs [(4, S1.one (Cs.int IntKind.u64))]) (World → Nat)),
  x3 n2 w1 ∧
  ∀ (I2 : Nat → Value) (n3 : Int) (w2 : World),
  x3 n3 w2 →
  br (n3 != 0)
  (inI (64 * n1) ∧
  RunE Proofs.Tryd.prog E 93 [Value.int IntKind.u64 n3] w2 fun (v1 : Value) (w3 : World) =>
  ∃ (n4 : Int),
  v1 = Value.int IntKind.i64 n4 ∧
  inI (64 * n1 + n4) ∧
  yld Proofs.Tryd.prog E p0yield [Value.int IntKind.i64 (64 * n1 + n4)] w3 fun (v2 : Value) (w4 : World) =>
  ∃ (b1 : Bool),
  v2 = Value.bool b1 ∧
  br (!b1) (R (Value.tuple (Array.mk [])) w4)
  (x3 (bitI BinOp.and IntKind.u64 n3 (IntKind.wrap IntKind.u64 (n3 - 1))) w4 ∧
  x4 (bitI BinOp.and IntKind.u64 n3 (IntKind.wrap IntKind.u64 (n3 - 1))) w4 < x4 n3 w2))
  (inI (n1 + 1) ∧ x1 (n1 + 1) w2 ∧ x2 (n1 + 1) w2 < x2 n1 w1))
  (R (Value.tuple (Array.mk [])) w1)
set_option maxRecDepth 100000 in
theorem run_bits_Set_All_S1_Y (E : World → World → Prop) (p0yield : Nat) (c0 : Addr) (hE : EOk E) (w : World) (R : Value → World → Prop) (h : vc_bits_Set_All_S1_Y E p0yield c0 w R) : RunE Tryd.prog E 92 [(.func (.yield p0yield) #[] #[]), (.pointer (some c0))] w R :=
  run_gen tyOk fnOk mixed Tryd.func92 ann_bits_Set_All_S1 hE (by kernel_rfl) ((by kernel_rfl : fnV Tryd.prog Ty Fn E ann_bits_Set_All_S1 Tryd.f92 [(.func (.yield p0yield) #[] #[]), (.pointer (some c0))] w R = vc_bits_Set_All_S1_Y E p0yield c0 w R) ▸ h)

abbrev n_bits_words_has : FuncId := 89
def ann_bits_words_has : Ann := { rngs := [], loops := [], joins := [], blocks := [] }
set_option maxRecDepth 100000 in
def vc_bits_words_has (p0wa : Option Addr) (p0wl : Nat) (p0wc : Nat) (p1n : Int) (w : World) (R : Value → World → Prop) : Prop :=
  nz 64 ∧
  inI (Int.tdiv p1n 64) ∧
  idx p0wa p0wl (Int.tdiv p1n 64) 1 fun (a1 : Addr) =>
  ∃ (n1 : Int),
  World.cell? w a1 = some (Value.int IntKind.u64 n1) ∧
  nz 64 ∧ ns (Int.tmod p1n 64) ∧ R (Value.bool (bitI BinOp.and IntKind.u64 (shrI IntKind.u64 n1 (Int.tmod p1n 64)) 1 == 1)) w
set_option maxRecDepth 100000 in
theorem run_bits_words_has (p0wa : Option Addr) (p0wl : Nat) (p0wc : Nat) (p1n : Int) (w : World) (R : Value → World → Prop) (h : vc_bits_words_has p0wa p0wl p0wc p1n w R) : Run Tryd.prog 89 [(.slice p0wa p0wl p0wc), (.int .i64 p1n)] w R :=
  run_ev tyOk fnOk mixed Tryd.func89 ann_bits_words_has ((by kernel_rfl : fnV Tryd.prog Ty Fn Ev ann_bits_words_has Tryd.f89 [(.slice p0wa p0wl p0wc), (.int .i64 p1n)] w R = vc_bits_words_has p0wa p0wl p0wc p1n w R) ▸ h)

abbrev n_bits_words_put : FuncId := 99
def ann_bits_words_put : Ann := { rngs := [], loops := [], joins := [], blocks := [] }
set_option maxRecDepth 100000 in
def vc_bits_words_put (p0wa : Option Addr) (p0wl : Nat) (p0wc : Nat) (p1n : Int) (w : World) (R : Value → World → Prop) : Prop :=
  ∀ (w1 : World),
  drawn w w1 →
  ∃ (I1 : World → Prop),
  I1 w1 ∧
  nz 64 ∧
  inI (Int.tdiv p1n 64) ∧
  idx p0wa p0wl (Int.tdiv p1n 64) 1 fun (a1 : Addr) =>
  ∃ (n1 : Int),
  (∀ (w2 : World), I1 w2 → World.cell? w2 a1 = some (Value.int IntKind.u64 n1)) ∧
  nz 64 ∧
  ns (Int.tmod p1n 64) ∧
  idx p0wa p0wl (Int.tdiv p1n 64) 1 fun (a2 : Addr) =>
  st1 w1 a2 (Value.int IntKind.u64 (bitI BinOp.or IntKind.u64 n1 (shlI IntKind.u64 1 (Int.tmod p1n 64)))) fun (w3 : World) => R (Value.tuple (Array.mk [])) w3
set_option maxRecDepth 100000 in
theorem run_bits_words_put (p0wa : Option Addr) (p0wl : Nat) (p0wc : Nat) (p1n : Int) (w : World) (R : Value → World → Prop) (h : vc_bits_words_put p0wa p0wl p0wc p1n w R) : Run Tryd.prog 99 [(.slice p0wa p0wl p0wc), (.int .i64 p1n)] w R :=
  run_ev tyOk fnOk mixed Tryd.func99 ann_bits_words_put ((by kernel_rfl : fnV Tryd.prog Ty Fn Ev ann_bits_words_put Tryd.f99 [(.slice p0wa p0wl p0wc), (.int .i64 p1n)] w R = vc_bits_words_put p0wa p0wl p0wc p1n w R) ▸ h)

abbrev n_slices_Clone_bits_words_uint64_ : FuncId := 91
def ann_slices_Clone_bits_words_uint64_ : Ann := { rngs := [], loops := [], joins := [], blocks := [] }
set_option maxRecDepth 100000 in
def vc_slices_Clone_bits_words_uint64_ (p0sa : Option Addr) (p0sl : Nat) (p0sc : Nat) (w : World) (R : Value → World → Prop) : Prop :=
  br (Option.isNone p0sa) (R (Value.slice none 0 0) w)
  (new w (Obj.cells (Array.mk []) 121) fun (k1 : Nat) (w1 : World) =>
  RunS Proofs.Tryd.prog (Builtin.append_ (Array.mk [110, 110]) 110 (Array.mk [Value.slice (some (Addr.mk k1 0 none)) 0 0, Value.slice p0sa p0sl p0sc])) w1
  fun (v1 : Value) (w2 : World) => ∃ (o1 : Option Addr), ∃ (k2 : Nat), ∃ (k3 : Nat), v1 = Value.slice o1 k2 k3 ∧ R (Value.slice o1 k2 k3) w2)
set_option maxRecDepth 100000 in
theorem run_slices_Clone_bits_words_uint64_ (p0sa : Option Addr) (p0sl : Nat) (p0sc : Nat) (w : World) (R : Value → World → Prop) (h : vc_slices_Clone_bits_words_uint64_ p0sa p0sl p0sc w R) : Run Tryd.prog 91 [(.slice p0sa p0sl p0sc)] w R :=
  run_ev tyOk fnOk mixed Tryd.func91 ann_slices_Clone_bits_words_uint64_ ((by kernel_rfl : fnV Tryd.prog Ty Fn Ev ann_slices_Clone_bits_words_uint64_ Tryd.f91 [(.slice p0sa p0sl p0sc)] w R = vc_slices_Clone_bits_words_uint64_ p0sa p0sl p0sc w R) ▸ h)

abbrev n_math_bits_TrailingZeros64 : FuncId := 93
def ann_math_bits_TrailingZeros64 : Ann := { rngs := [], loops := [], joins := [], blocks := [] }
set_option maxRecDepth 100000 in
def vc_math_bits_TrailingZeros64 (p0x : Int) (w : World) (R : Value → World → Prop) : Prop :=
  br (p0x == 0) (R (Value.int IntKind.i64 64) w)
  (ns 58 ∧
  idx (some (Addr.mk 0 0 none)) 64 (shrI IntKind.u64 (IntKind.wrap IntKind.u64 (bitI BinOp.and IntKind.u64 p0x (IntKind.wrap IntKind.u64 (0 - p0x)) * 285870213051353865)) 58) 1
  fun (a1 : Addr) => ∃ (n1 : Int), World.cell? w a1 = some (Value.int IntKind.u8 n1) ∧ inI n1 ∧ R (Value.int IntKind.i64 n1) w)
set_option maxRecDepth 100000 in
theorem run_math_bits_TrailingZeros64 (p0x : Int) (w : World) (R : Value → World → Prop) (h : vc_math_bits_TrailingZeros64 p0x w R) : Run Tryd.prog 93 [(.int .u64 p0x)] w R :=
  run_ev tyOk fnOk mixed Tryd.func93 ann_math_bits_TrailingZeros64 ((by kernel_rfl : fnV Tryd.prog Ty Fn Ev ann_math_bits_TrailingZeros64 Tryd.f93 [(.int .u64 p0x)] w R = vc_math_bits_TrailingZeros64 p0x w R) ▸ h)

abbrev n_gram_Valid : FuncId := 61
def ann_gram_Valid : Ann := { rngs := [], loops := [], joins := [], blocks := [] }
set_option maxRecDepth 100000 in
def vc_gram_Valid (p0g_0a : Option Addr) (p0g_0l : Nat) (p0g_0c : Nat) (p0g_1a : Option Addr) (p0g_1l : Nat) (p0g_1c : Nat) (p0g_2a : Option Addr) (p0g_2l : Nat) (p0g_2c : Nat) (p0g_3 : Int) (p0g_4a : Option Addr) (p0g_4l : Nat) (p0g_4c : Nat) (w : World) (R : Value → World → Prop) : Prop :=
  new w
  (Obj.cells
  (Array.mk [Value.slice p0g_0a p0g_0l p0g_0c, Value.slice p0g_1a p0g_1l p0g_1c, Value.slice p0g_2a p0g_2l p0g_2c, Value.int IntKind.i64 p0g_3, Value.slice p0g_4a p0g_4l p0g_4c])
  27)
  fun (k1 : Nat) (w1 : World) =>
  ∃ (o1 : Option Addr),
  ∃ (k2 : Nat),
  ∃ (k3 : Nat),
  ∃ (o2 : Option Addr),
  ∃ (k4 : Nat),
  ∃ (k5 : Nat),
  ∃ (o3 : Option Addr),
  ∃ (k6 : Nat),
  ∃ (k7 : Nat),
  ∃ (n1 : Int),
  ∃ (o4 : Option Addr),
  ∃ (k8 : Nat),
  ∃ (k9 : Nat),
  V.rowAt w1 (Addr.mk k1 0 none) 0 5 =
  some [Value.slice o1 k2 k3, Value.slice o2 k4 k5, Value.slice o3 k6 k7, Value.int IntKind.i64 n1, Value.slice o4 k8 k9] ∧
  RunE Proofs.Tryd.prog Ev 83
  [Value.agg (Array.mk [Value.slice o1 k2 k3, Value.slice o2 k4 k5, Value.slice o3 k6 k7, Value.int IntKind.i64 n1, Value.slice o4 k8 k9]),
  Value.int IntKind.i64 0]
  w1 fun (v1 : Value) (w2 : World) =>
  ∃ (b1 : Bool),
  v1 = Value.bool b1 ∧
  br (!b1) (R (Value.bool false) w2)
  (∃ (o5 : Option Addr),
  ∃ (k10 : Nat),
  ∃ (k11 : Nat),
  ∃ (o6 : Option Addr),
  ∃ (k12 : Nat),
  ∃ (k13 : Nat),
  ∃ (o7 : Option Addr),
  ∃ (k14 : Nat),
  ∃ (k15 : Nat),
  ∃ (n2 : Int),
  ∃ (o8 : Option Addr),
  ∃ (k16 : Nat),
  ∃ (k17 : Nat),
  V.rowAt w2 (Addr.mk k1 0 none) 0 5 =
  some
  [Value.slice o5 k10 k11, Value.slice o6 k12 k13, Value.slice o7 k14 k15, Value.int IntKind.i64 n2,
  Value.slice o8 k16 k17] ∧
  RunE Proofs.Tryd.prog Ev 84
  [Value.agg
  (Array.mk
  [Value.slice o5 k10 k11, Value.slice o6 k12 k13, Value.slice o7 k14 k15, Value.int IntKind.i64 n2,
  Value.slice o8 k16 k17]),
  Value.int IntKind.i64 0]
  w2 fun (v2 : Value) (w3 : World) =>
  ∃ (o9 : Option Addr),
  ∃ (k18 : Nat),
  ∃ (k19 : Nat),
  ∃ (b2 : Bool),
  v2 = Value.tuple (Array.mk [Value.slice o9 k18 k19, Value.bool b2]) ∧
  br b2
  (RunE Proofs.Tryd.prog Ev 85 [Value.slice o9 k18 k19] w3 fun (v3 : Value) (w4 : World) =>
  ∃ (b3 : Bool), v3 = Value.bool b3 ∧ R (Value.bool b3) w4)
  (R (Value.bool false) w3))
set_option maxRecDepth 100000 in
theorem run_gram_Valid (p0g_0a : Option Addr) (p0g_0l : Nat) (p0g_0c : Nat) (p0g_1a : Option Addr) (p0g_1l : Nat) (p0g_1c : Nat) (p0g_2a : Option Addr) (p0g_2l : Nat) (p0g_2c : Nat) (p0g_3 : Int) (p0g_4a : Option Addr) (p0g_4l : Nat) (p0g_4c : Nat) (w : World) (R : Value → World → Prop) (h : vc_gram_Valid p0g_0a p0g_0l p0g_0c p0g_1a p0g_1l p0g_1c p0g_2a p0g_2l p0g_2c p0g_3 p0g_4a p0g_4l p0g_4c w R) : Run Tryd.prog 61 [(.agg #[(.slice p0g_0a p0g_0l p0g_0c), (.slice p0g_1a p0g_1l p0g_1c), (.slice p0g_2a p0g_2l p0g_2c), (.int .i64 p0g_3), (.slice p0g_4a p0g_4l p0g_4c)])] w R :=
  run_ev tyOk fnOk mixed Tryd.func61 ann_gram_Valid ((by kernel_rfl : fnV Tryd.prog Ty Fn Ev ann_gram_Valid Tryd.f61 [(.agg #[(.slice p0g_0a p0g_0l p0g_0c), (.slice p0g_1a p0g_1l p0g_1c), (.slice p0g_2a p0g_2l p0g_2c), (.int .i64 p0g_3), (.slice p0g_4a p0g_4l p0g_4c)])] w R = vc_gram_Valid p0g_0a p0g_0l p0g_0c p0g_1a p0g_1l p0g_1c p0g_2a p0g_2l p0g_2c p0g_3 p0g_4a p0g_4l p0g_4c w R) ▸ h)

abbrev n_gram_Closed : FuncId := 72
def ann_gram_Closed : Ann := { rngs := [], loops := [], joins := [(2, [(21, (.one .bool))])], blocks := [] }
set_option maxRecDepth 100000 in
def vc_gram_Closed (p0g_0a : Option Addr) (p0g_0l : Nat) (p0g_0c : Nat) (p0g_1a : Option Addr) (p0g_1l : Nat) (p0g_1c : Nat) (p0g_2a : Option Addr) (p0g_2l : Nat) (p0g_2c : Nat) (p0g_3 : Int) (p0g_4a : Option Addr) (p0g_4l : Nat) (p0g_4c : Nat) (w : World) (R : Value → World → Prop) : Prop :=
  new w
  (Obj.cells
  (Array.mk [Value.slice p0g_0a p0g_0l p0g_0c, Value.slice p0g_1a p0g_1l p0g_1c, Value.slice p0g_2a p0g_2l p0g_2c, Value.int IntKind.i64 p0g_3, Value.slice p0g_4a p0g_4l p0g_4c])
  27)
  fun (k1 : Nat) (w1 : World) =>
  ∃ (x1 : arrS (shs [(21, S1.one Cs.bool)]) (World → Prop)),
  (∃ (o1 : Option Addr),
  ∃ (k2 : Nat),
  ∃ (k3 : Nat),
  World.cell? w1 (Addr.add (Addr.mk k1 0 none) 1) = some (Value.slice o1 k2 k3) ∧
  br ((↑k2 : Int) == 0) (x1 true w1)
  (∃ (o2 : Option Addr),
  ∃ (k4 : Nat),
  ∃ (k5 : Nat),
  World.cell? w1 (Addr.add (Addr.mk k1 0 none) 1) = some (Value.slice o2 k4 k5) ∧
  idx o2 k4 0 1 fun (a1 : Addr) =>
  ∃ (s1 : ByteArray),
  World.cell? w1 a1 = some (Value.string s1) ∧
  br (!ByteArray.toList s1 == ByteArray.toList (ByteArray.mk (Array.mk []))) (x1 true w1)
  (∃ (o3 : Option Addr),
  ∃ (k6 : Nat),
  ∃ (k7 : Nat),
  ∃ (o4 : Option Addr),
  ∃ (k8 : Nat),
  ∃ (k9 : Nat),
  ∃ (o5 : Option Addr),
  ∃ (k10 : Nat),
  ∃ (k11 : Nat),
  ∃ (n1 : Int),
  ∃ (o6 : Option Addr),
  ∃ (k12 : Nat),
  ∃ (k13 : Nat),
  V.rowAt w1 (Addr.mk k1 0 none) 0 5 =
  some
  [Value.slice o3 k6 k7, Value.slice o4 k8 k9, Value.slice o5 k10 k11, Value.int IntKind.i64 n1,
  Value.slice o6 k12 k13] ∧
  RunE Proofs.Tryd.prog Ev 83
  [Value.agg
  (Array.mk
  [Value.slice o3 k6 k7, Value.slice o4 k8 k9, Value.slice o5 k10 k11, Value.int IntKind.i64 n1,
  Value.slice o6 k12 k13]),
  Value.int IntKind.i64 1]
  w1 fun (v1 : Value) (w2 : World) => ∃ (b1 : Bool), v1 = Value.bool b1 ∧ x1 (!b1) w2))) ∧
  ∀ (I1 : Nat → Value) (b2 : Bool) (w3 : World),
  x1 b2 w3 →
  br b2 (R (Value.bool false) w3)
  (∃ (o7 : Option Addr),
  ∃ (k14 : Nat),
  ∃ (k15 : Nat),
  ∃ (o8 : Option Addr),
  ∃ (k16 : Nat),
  ∃ (k17 : Nat),
  ∃ (o9 : Option Addr),
  ∃ (k18 : Nat),
  ∃ (k19 : Nat),
  ∃ (n2 : Int),
  ∃ (o10 : Option Addr),
  ∃ (k20 : Nat),
  ∃ (k21 : Nat),
  V.rowAt w3 (Addr.mk k1 0 none) 0 5 =
  some [Value.slice o7 k14 k15, Value.slice o8 k16 k17, Value.slice o9 k18 k19, Value.int IntKind.i64 n2, Value.slice o10 k20 k21] ∧
  RunE Proofs.Tryd.prog Ev 84
  [Value.agg
  (Array.mk
  [Value.slice o7 k14 k15, Value.slice o8 k16 k17, Value.slice o9 k18 k19, Value.int IntKind.i64 n2, Value.slice o10 k20 k21]),
  Value.int IntKind.i64 1]
  w3 fun (v2 : Value) (w4 : World) =>
  ∃ (o11 : Option Addr),
  ∃ (k22 : Nat),
  ∃ (k23 : Nat),
  ∃ (b3 : Bool),
  v2 = Value.tuple (Array.mk [Value.slice o11 k22 k23, Value.bool b3]) ∧
  ∃ (o12 : Option Addr),
  ∃ (k24 : Nat),
  ∃ (k25 : Nat),
  World.cell? w4 (Addr.add (Addr.mk k1 0 none) 4) = some (Value.slice o12 k24 k25) ∧
  ∀ (w5 : World),
  drawn w4 w5 →
  ∃ (I2 : World → Prop),
  I2 w5 ∧
  br b3
  (idx o12 k24 0 3 fun (a2 : Addr) =>
  ∃ (n3 : Int),
  (∀ (w6 : World), I2 w6 → World.cell? w6 a2 = some (Value.int IntKind.i64 n3)) ∧
  ∃ (o13 : Option Addr),
  ∃ (k26 : Nat),
  ∃ (k27 : Nat),
  (∀ (w7 : World), I2 w7 → World.cell? w7 (Addr.mk k1 0 none) = some (Value.slice o13 k26 k27)) ∧
  br (n3 == (↑k26 : Int))
  (idx o12 k24 0 3 fun (a3 : Addr) =>
  ∃ (o14 : Option Addr),
  ∃ (k28 : Nat),
  ∃ (k29 : Nat),
  (∀ (w8 : World),
  I2 w8 → World.cell? w8 (Addr.add a3 1) = some (Value.slice o14 k28 k29)) ∧
  br ((↑k28 : Int) == 1)
  (idx o12 k24 0 3 fun (a4 : Addr) =>
  ∃ (o15 : Option Addr),
  ∃ (k30 : Nat),
  ∃ (k31 : Nat),
  (∀ (w9 : World),
  I2 w9 →
  World.cell? w9 (Addr.add a4 1) = some (Value.slice o15 k30 k31)) ∧
  idx o15 k30 0 1 fun (a5 : Addr) =>
  ∃ (n4 : Int),
  (∀ (w10 : World),
  I2 w10 → World.cell? w10 a5 = some (Value.int IntKind.i64 n4)) ∧
  ∃ (n5 : Int),
  (∀ (w11 : World),
  I2 w11 →
  World.cell? w11 (Addr.add (Addr.mk k1 0 none) 3) =
  some (Value.int IntKind.i64 n5)) ∧
  br (n4 == n5)
  (idx o12 k24 0 3 fun (a6 : Addr) =>
  ∃ (n6 : Int),
  (∀ (w12 : World),
  I2 w12 →
  World.cell? w12 (Addr.add a6 2) =
  some (Value.int IntKind.i64 n6)) ∧
  R (Value.bool (n6 == 0)) w5)
  (R (Value.bool false) w5))
  (R (Value.bool false) w5))
  (R (Value.bool false) w5))
  (R (Value.bool false) w5))
set_option maxRecDepth 100000 in
theorem run_gram_Closed (p0g_0a : Option Addr) (p0g_0l : Nat) (p0g_0c : Nat) (p0g_1a : Option Addr) (p0g_1l : Nat) (p0g_1c : Nat) (p0g_2a : Option Addr) (p0g_2l : Nat) (p0g_2c : Nat) (p0g_3 : Int) (p0g_4a : Option Addr) (p0g_4l : Nat) (p0g_4c : Nat) (w : World) (R : Value → World → Prop) (h : vc_gram_Closed p0g_0a p0g_0l p0g_0c p0g_1a p0g_1l p0g_1c p0g_2a p0g_2l p0g_2c p0g_3 p0g_4a p0g_4l p0g_4c w R) : Run Tryd.prog 72 [(.agg #[(.slice p0g_0a p0g_0l p0g_0c), (.slice p0g_1a p0g_1l p0g_1c), (.slice p0g_2a p0g_2l p0g_2c), (.int .i64 p0g_3), (.slice p0g_4a p0g_4l p0g_4c)])] w R :=
  run_ev tyOk fnOk mixed Tryd.func72 ann_gram_Closed ((by kernel_rfl : fnV Tryd.prog Ty Fn Ev ann_gram_Closed Tryd.f72 [(.agg #[(.slice p0g_0a p0g_0l p0g_0c), (.slice p0g_1a p0g_1l p0g_1c), (.slice p0g_2a p0g_2l p0g_2c), (.int .i64 p0g_3), (.slice p0g_4a p0g_4l p0g_4c)])] w R = vc_gram_Closed p0g_0a p0g_0l p0g_0c p0g_1a p0g_1l p0g_1c p0g_2a p0g_2l p0g_2c p0g_3 p0g_4a p0g_4l p0g_4c w R) ▸ h)

abbrev n_gram_symbols : FuncId := 83
def ann_gram_symbols : Ann := { rngs := [], loops := [(6, [(5, (.one .slice)), (63, (.one (.int .i64)))]), (14, [(96, (.one (.int .i64)))])], joins := [(2, [(57, (.one .bool))]), (9, [(83, (.one .bool))])], blocks := [] }
set_option maxRecDepth 100000 in
def vc_gram_symbols (p0g_0a : Option Addr) (p0g_0l : Nat) (p0g_0c : Nat) (p0g_1a : Option Addr) (p0g_1l : Nat) (p0g_1c : Nat) (p0g_2a : Option Addr) (p0g_2l : Nat) (p0g_2c : Nat) (p0g_3 : Int) (p0g_4a : Option Addr) (p0g_4l : Nat) (p0g_4c : Nat) (p1added : Int) (w : World) (R : Value → World → Prop) : Prop :=
  new w
  (Obj.cells
  (Array.mk [Value.slice p0g_0a p0g_0l p0g_0c, Value.slice p0g_1a p0g_1l p0g_1c, Value.slice p0g_2a p0g_2l p0g_2c, Value.int IntKind.i64 p0g_3, Value.slice p0g_4a p0g_4l p0g_4c])
  27)
  fun (k1 : Nat) (w1 : World) =>
  ∃ (x1 : arrS (shs [(57, S1.one Cs.bool)]) (World → Prop)),
  (∃ (o1 : Option Addr),
  ∃ (k2 : Nat),
  ∃ (k3 : Nat),
  World.cell? w1 (Addr.mk k1 0 none) = some (Value.slice o1 k2 k3) ∧
  br ((↑k2 : Int) == 0) (x1 true w1)
  (∃ (o2 : Option Addr),
  ∃ (k4 : Nat),
  ∃ (k5 : Nat),
  World.cell? w1 (Addr.mk k1 0 none) = some (Value.slice o2 k4 k5) ∧
  idx o2 k4 0 2 fun (a1 : Addr) =>
  ∃ (s1 : ByteArray),
  ∃ (n1 : Int),
  V.rowAt w1 a1 0 2 = some [Value.string s1, Value.int IntKind.i64 n1] ∧
  ∃ (v1 : Value),
  Sem.run Proofs.Tryd.prog
  (cmpS BinOp.neq 81 (Operand.tmp 20) (Operand.tmp 21) (Value.agg (Array.mk [Value.string s1, Value.int IntKind.i64 n1]))
  (Value.agg (Array.mk [Value.string (ByteArray.mk (Array.mk [])), Value.int IntKind.i64 0])))
  w1 =
  Result.ok v1 w1 ∧
  ∃ (b1 : Bool),
  v1 = Value.bool b1 ∧
  br b1 (x1 true w1)
  (∃ (o3 : Option Addr),
  ∃ (k6 : Nat),
  ∃ (k7 : Nat),
  World.cell? w1 (Addr.add (Addr.mk k1 0 none) 1) = some (Value.slice o3 k6 k7) ∧
  br (decide ((↑k6 : Int) ≤ p1added)) (x1 true w1)
  (∃ (o4 : Option Addr),
  ∃ (k8 : Nat),
  ∃ (k9 : Nat),
  World.cell? w1 (Addr.mk k1 0 none) = some (Value.slice o4 k8 k9) ∧
  br (decide (65 < (↑k8 : Int))) (x1 true w1)
  (∃ (o5 : Option Addr),
  ∃ (k10 : Nat),
  ∃ (k11 : Nat),
  World.cell? w1 (Addr.add (Addr.mk k1 0 none) 1) = some (Value.slice o5 k10 k11) ∧
  inI (64 + p1added) ∧
  br (decide (64 + p1added < (↑k10 : Int))) (x1 true w1)
  (∃ (o6 : Option Addr),
  ∃ (k12 : Nat),
  ∃ (k13 : Nat),
  World.cell? w1 (Addr.mk k1 0 none) = some (Value.slice o6 k12 k13) ∧
  inI ((↑k12 : Int) - 1) ∧
  ∃ (o7 : Option Addr),
  ∃ (k14 : Nat),
  ∃ (k15 : Nat),
  World.cell? w1 (Addr.add (Addr.mk k1 0 none) 1) = some (Value.slice o7 k14 k15) ∧
  inI ((↑k12 : Int) - 1 + (↑k14 : Int)) ∧
  inI ((↑k12 : Int) - 1 + (↑k14 : Int) - p1added) ∧
  x1 (decide (64 < (↑k12 : Int) - 1 + (↑k14 : Int) - p1added)) w1)))))) ∧
  ∀ (I1 : Nat → Value) (b2 : Bool) (w2 : World),
  x1 b2 w2 →
  br b2 (R (Value.bool false) w2)
  (new w2 (Obj.map (Array.mk []) 0) fun (k16 : Nat) (w3 : World) =>
  ∃ (o8 : Option Addr),
  ∃ (k17 : Nat),
  ∃ (k18 : Nat),
  World.cell? w3 (Addr.mk k1 0 none) = some (Value.slice o8 k17 k18) ∧
  slc o8 k17 k18 (some 1) none none 2 fun (o9 : Option Addr) (k19 k20 : Nat) =>
  ∃ (x2 : arrS (shs [(5, S1.one Cs.slice), (63, S1.one (Cs.int IntKind.i64))]) (World → Prop)),
  ∃ (x3 : arrS (shs [(5, S1.one Cs.slice), (63, S1.one (Cs.int IntKind.i64))]) (World → Nat)),
  x2 none 0 0 0 w3 ∧
  ∀ (I2 : Nat → Value) (o10 : Option Addr) (k21 k22 : Nat) (n2 : Int) (w4 : World),
  x2 o10 k21 k22 n2 w4 →
  br (decide (n2 < (↑k19 : Int)))
  (idx o9 k19 n2 2 fun (a2 : Addr) =>
  ∃ (s2 : ByteArray),
  ∃ (n3 : Int),
  V.rowAt w4 a2 0 2 = some [Value.string s2, Value.int IntKind.i64 n3] ∧
  new w4 (Obj.cells (Array.mk [Value.string (ByteArray.mk (Array.mk [])), Value.int IntKind.i64 0]) 81) fun (k23 : Nat) (w5 : World) =>
  stR w5 (Addr.mk k23 0 none) [Value.string s2, Value.int IntKind.i64 n3] fun (w6 : World) =>
  ∃ (x4 : arrS (shs [(83, S1.one Cs.bool)]) (World → Prop)),
  (∃ (s3 : ByteArray),
  World.cell? w6 (Addr.mk k23 0 none) = some (Value.string s3) ∧
  RunE Proofs.Tryd.prog Ev 102 [Value.string s3] w6 fun (v2 : Value) (w7 : World) =>
  ∃ (b3 : Bool),
  v2 = Value.bool b3 ∧
  br (!b3) (x4 true w7)
  (∃ (n4 : Int),
  World.cell? w7 (Addr.add (Addr.mk k23 0 none) 1) = some (Value.int IntKind.i64 n4) ∧
  br (decide (n4 < 0)) (x4 true w7)
  (∃ (n5 : Int),
  World.cell? w7 (Addr.add (Addr.mk k23 0 none) 1) = some (Value.int IntKind.i64 n5) ∧
  ∃ (o11 : Option Addr),
  ∃ (k24 : Nat),
  ∃ (k25 : Nat),
  World.cell? w7 (Addr.add (Addr.mk k1 0 none) 2) = some (Value.slice o11 k24 k25) ∧
  x4 (decide ((↑k24 : Int) < n5)) w7))) ∧
  ∀ (I3 : Nat → Value) (b4 : Bool) (w8 : World),
  x4 b4 w8 →
  br b4 (R (Value.bool false) w8)
  (∃ (s4 : ByteArray),
  World.cell? w8 (Addr.mk k23 0 none) = some (Value.string s4) ∧
  new w8 (Obj.cells (Array.mk [Value.string s4]) 9) fun (k26 : Nat) (w9 : World) =>
  RunS Proofs.Tryd.prog
  (Builtin.append_ (Array.mk [23, 23]) 23
  (Array.mk [Value.slice o10 k21 k22, Value.slice (some (Addr.mk k26 0 none)) 1 1]))
  w9 fun (v3 : Value) (w10 : World) =>
  ∃ (o12 : Option Addr),
  ∃ (k27 : Nat),
  ∃ (k28 : Nat),
  v3 = Value.slice o12 k27 k28 ∧
  ∃ (n6 : Int),
  World.cell? w10 (Addr.add (Addr.mk k23 0 none) 1) = some (Value.int IntKind.i64 n6) ∧
  RunS Proofs.Tryd.prog
  (Instr.mapUpdate 128 (Value.map (some k16)) (Value.int IntKind.i64 n6) (Value.int IntKind.i64 1))
  w10 fun (x5 : Unit) (w11 : World) =>
  inI (n2 + 1) ∧ x2 o12 k27 k28 (n2 + 1) w11 ∧ x3 o12 k27 k28 (n2 + 1) w11 < x3 o10 k21 k22 n2 w4))
  (∃ (o13 : Option Addr),
  ∃ (k29 : Nat),
  ∃ (k30 : Nat),
  World.cell? w4 (Addr.add (Addr.mk k1 0 none) 2) = some (Value.slice o13 k29 k30) ∧
  ∃ (x6 : arrS (shs [(96, S1.one (Cs.int IntKind.i64))]) (World → Prop)),
  ∃ (x7 : arrS (shs [(96, S1.one (Cs.int IntKind.i64))]) (World → Nat)),
  x6 0 w4 ∧
  ∀ (I4 : Nat → Value) (n7 : Int) (w12 : World),
  x6 n7 w12 →
  br (decide (n7 < (↑k29 : Int)))
  (idx o13 k29 n7 1 fun (a3 : Addr) =>
  ∃ (n8 : Int),
  World.cell? w12 a3 = some (Value.int IntKind.i64 n8) ∧
  br (decide (n8 < 1)) (R (Value.bool false) w12)
  (br (decide (3 < n8)) (R (Value.bool false) w12)
  (inI (n7 + 1) ∧
  RunS Proofs.Tryd.prog (Instr.lookup 128 (Value.map (some k16)) (Value.int IntKind.i64 (n7 + 1)) false) w12
  fun (v4 : Value) (w13 : World) =>
  ∃ (n9 : Int),
  v4 = Value.int IntKind.i64 n9 ∧
  br (n9 == 0) (R (Value.bool false) w13) (inI (n7 + 1) ∧ x6 (n7 + 1) w13 ∧ x7 (n7 + 1) w13 < x7 n7 w12))))
  (∃ (o14 : Option Addr),
  ∃ (k31 : Nat),
  ∃ (k32 : Nat),
  World.cell? w12 (Addr.add (Addr.mk k1 0 none) 1) = some (Value.slice o14 k31 k32) ∧
  slc o14 k31 k32 (some p1added) none none 1 fun (o15 : Option Addr) (k33 k34 : Nat) =>
  RunE Proofs.Tryd.prog Ev 103 [Value.slice o10 k21 k22] w12 fun (v5 : Value) (w14 : World) =>
  ∃ (b5 : Bool),
  v5 = Value.bool b5 ∧
  br b5
  (RunE Proofs.Tryd.prog Ev 103 [Value.slice o15 k33 k34] w14 fun (v6 : Value) (w15 : World) =>
  ∃ (b6 : Bool),
  v6 = Value.bool b6 ∧
  br b6
  (RunE Proofs.Tryd.prog Ev 104
  [Value.slice o15 k33 k34, Value.func (Fn.func 105) (Array.mk []) (Array.mk [])] w15
  fun (v7 : Value) (w16 : World) => ∃ (b7 : Bool), v7 = Value.bool b7 ∧ R (Value.bool !b7) w16)
  (R (Value.bool false) w15))
  (R (Value.bool false) w14))))
set_option maxRecDepth 100000 in
theorem run_gram_symbols (p0g_0a : Option Addr) (p0g_0l : Nat) (p0g_0c : Nat) (p0g_1a : Option Addr) (p0g_1l : Nat) (p0g_1c : Nat) (p0g_2a : Option Addr) (p0g_2l : Nat) (p0g_2c : Nat) (p0g_3 : Int) (p0g_4a : Option Addr) (p0g_4l : Nat) (p0g_4c : Nat) (p1added : Int) (w : World) (R : Value → World → Prop) (h : vc_gram_symbols p0g_0a p0g_0l p0g_0c p0g_1a p0g_1l p0g_1c p0g_2a p0g_2l p0g_2c p0g_3 p0g_4a p0g_4l p0g_4c p1added w R) : Run Tryd.prog 83 [(.agg #[(.slice p0g_0a p0g_0l p0g_0c), (.slice p0g_1a p0g_1l p0g_1c), (.slice p0g_2a p0g_2l p0g_2c), (.int .i64 p0g_3), (.slice p0g_4a p0g_4l p0g_4c)]), (.int .i64 p1added)] w R :=
  run_ev tyOk fnOk mixed Tryd.func83 ann_gram_symbols ((by kernel_rfl : fnV Tryd.prog Ty Fn Ev ann_gram_symbols Tryd.f83 [(.agg #[(.slice p0g_0a p0g_0l p0g_0c), (.slice p0g_1a p0g_1l p0g_1c), (.slice p0g_2a p0g_2l p0g_2c), (.int .i64 p0g_3), (.slice p0g_4a p0g_4l p0g_4c)]), (.int .i64 p1added)] w R = vc_gram_symbols p0g_0a p0g_0l p0g_0c p0g_1a p0g_1l p0g_1c p0g_2a p0g_2l p0g_2c p0g_3 p0g_4a p0g_4l p0g_4c p1added w R) ▸ h)

abbrev n_gram_productions : FuncId := 84
def ann_gram_productions : Ann := { rngs := [], loops := [(7, [(8, (.one .slice)), (43, (.one (.int .i64)))]), (12, [(73, (.one (.int .i64)))])], joins := [(2, [(25, (.one .bool))]), (10, [(69, (.one .bool))])], blocks := [] }
set_option maxRecDepth 100000 in
def vc_gram_productions (p0g_0a : Option Addr) (p0g_0l : Nat) (p0g_0c : Nat) (p0g_1a : Option Addr) (p0g_1l : Nat) (p0g_1c : Nat) (p0g_2a : Option Addr) (p0g_2l : Nat) (p0g_2c : Nat) (p0g_3 : Int) (p0g_4a : Option Addr) (p0g_4l : Nat) (p0g_4c : Nat) (p1added : Int) (w : World) (R : Value → World → Prop) : Prop :=
  new w
  (Obj.cells
  (Array.mk [Value.slice p0g_0a p0g_0l p0g_0c, Value.slice p0g_1a p0g_1l p0g_1c, Value.slice p0g_2a p0g_2l p0g_2c, Value.int IntKind.i64 p0g_3, Value.slice p0g_4a p0g_4l p0g_4c])
  27)
  fun (k1 : Nat) (w1 : World) =>
  ∃ (x1 : arrS (shs [(25, S1.one Cs.bool)]) (World → Prop)),
  (∃ (o1 : Option Addr),
  ∃ (k2 : Nat),
  ∃ (k3 : Nat),
  World.cell? w1 (Addr.add (Addr.mk k1 0 none) 4) = some (Value.slice o1 k2 k3) ∧
  br (decide ((↑k2 : Int) ≤ p1added)) (x1 true w1)
  (∃ (o2 : Option Addr),
  ∃ (k4 : Nat),
  ∃ (k5 : Nat),
  World.cell? w1 (Addr.add (Addr.mk k1 0 none) 4) = some (Value.slice o2 k4 k5) ∧ inI (96 + p1added) ∧ x1 (decide (96 + p1added < (↑k4 : Int))) w1)) ∧
  ∀ (I1 : Nat → Value) (b1 : Bool) (w2 : World),
  x1 b1 w2 →
  br b1 (R (Value.tuple (Array.mk [Value.slice none 0 0, Value.bool false])) w2)
  (∃ (o3 : Option Addr),
  ∃ (k6 : Nat),
  ∃ (k7 : Nat),
  World.cell? w2 (Addr.mk k1 0 none) = some (Value.slice o3 k6 k7) ∧
  ∃ (o4 : Option Addr),
  ∃ (k8 : Nat),
  ∃ (k9 : Nat),
  World.cell? w2 (Addr.add (Addr.mk k1 0 none) 1) = some (Value.slice o4 k8 k9) ∧
  inI ((↑k6 : Int) + (↑k8 : Int)) ∧
  ∃ (o5 : Option Addr),
  ∃ (k10 : Nat),
  ∃ (k11 : Nat),
  World.cell? w2 (Addr.mk k1 0 none) = some (Value.slice o5 k10 k11) ∧
  inI ((↑k10 : Int) + p1added) ∧
  ∃ (o6 : Option Addr),
  ∃ (k12 : Nat),
  ∃ (k13 : Nat),
  World.cell? w2 (Addr.add (Addr.mk k1 0 none) 4) = some (Value.slice o6 k12 k13) ∧
  slc o6 k12 k13 (some p1added) none none 3 fun (o7 : Option Addr) (k14 k15 : Nat) =>
  ∃ (x2 : arrS (shs [(8, S1.one Cs.slice), (43, S1.one (Cs.int IntKind.i64))]) (World → Prop)),
  ∃ (x3 : arrS (shs [(8, S1.one Cs.slice), (43, S1.one (Cs.int IntKind.i64))]) (World → Nat)),
  x2 none 0 0 0 w2 ∧
  ∀ (I2 : Nat → Value) (o8 : Option Addr) (k16 k17 : Nat) (n1 : Int) (w3 : World),
  x2 o8 k16 k17 n1 w3 →
  br (decide (n1 < (↑k14 : Int)))
  (idx o7 k14 n1 3 fun (a1 : Addr) =>
  ∃ (n2 : Int),
  ∃ (o9 : Option Addr),
  ∃ (k18 : Nat),
  ∃ (k19 : Nat),
  ∃ (n3 : Int),
  V.rowAt w3 a1 0 3 = some [Value.int IntKind.i64 n2, Value.slice o9 k18 k19, Value.int IntKind.i64 n3] ∧
  new w3
  (Obj.cells (Array.mk [Value.int IntKind.i64 0, Value.slice none 0 0, Value.int IntKind.i64 0]) 51)
  fun (k20 : Nat) (w4 : World) =>
  stR w4 (Addr.mk k20 0 none)
  [Value.int IntKind.i64 n2, Value.slice o9 k18 k19, Value.int IntKind.i64 n3] fun (w5 : World) =>
  ∃ (x4 : arrS (shs [(69, S1.one Cs.bool)]) (World → Prop)),
  (∃ (n4 : Int),
  World.cell? w5 (Addr.mk k20 0 none) = some (Value.int IntKind.i64 n4) ∧
  br (decide (n4 < (↑k10 : Int) + p1added)) (x4 true w5)
  (∃ (n5 : Int),
  World.cell? w5 (Addr.mk k20 0 none) = some (Value.int IntKind.i64 n5) ∧
  br (decide ((↑k6 : Int) + (↑k8 : Int) ≤ n5)) (x4 true w5)
  (∃ (n6 : Int),
  World.cell? w5 (Addr.add (Addr.mk k20 0 none) 2) =
  some (Value.int IntKind.i64 n6) ∧
  br (decide (n6 < 0)) (x4 true w5)
  (∃ (n7 : Int),
  World.cell? w5 (Addr.add (Addr.mk k20 0 none) 2) =
  some (Value.int IntKind.i64 n7) ∧
  ∃ (o10 : Option Addr),
  ∃ (k21 : Nat),
  ∃ (k22 : Nat),
  World.cell? w5 (Addr.add (Addr.mk k1 0 none) 2) =
  some (Value.slice o10 k21 k22) ∧
  x4 (decide ((↑k21 : Int) < n7)) w5)))) ∧
  ∀ (I3 : Nat → Value) (b2 : Bool) (w6 : World),
  x4 b2 w6 →
  br b2 (R (Value.tuple (Array.mk [Value.slice none 0 0, Value.bool false])) w6)
  (∃ (o11 : Option Addr),
  ∃ (k23 : Nat),
  ∃ (k24 : Nat),
  World.cell? w6 (Addr.add (Addr.mk k20 0 none) 1) = some (Value.slice o11 k23 k24) ∧
  ∃ (x5 : arrS (shs [(73, S1.one (Cs.int IntKind.i64))]) (World → Prop)),
  ∃ (x6 : arrS (shs [(73, S1.one (Cs.int IntKind.i64))]) (World → Nat)),
  x5 0 w6 ∧
  ∀ (I4 : Nat → Value) (n8 : Int) (w7 : World),
  x5 n8 w7 →
  br (decide (n8 < (↑k23 : Int)))
  (idx o11 k23 n8 1 fun (a2 : Addr) =>
  ∃ (n9 : Int),
  World.cell? w7 a2 = some (Value.int IntKind.i64 n9) ∧
  br (decide (n9 < 1))
  (R
  (Value.tuple
  (Array.mk [Value.slice none 0 0, Value.bool false]))
  w7)
  (br (decide ((↑k6 : Int) + (↑k8 : Int) ≤ n9))
  (R
  (Value.tuple
  (Array.mk [Value.slice none 0 0, Value.bool false]))
  w7)
  (∃ (o12 : Option Addr),
  ∃ (k25 : Nat),
  ∃ (k26 : Nat),
  World.cell? w7 (Addr.mk k1 0 none) =
  some (Value.slice o12 k25 k26) ∧
  br (decide ((↑k25 : Int) ≤ n9))
  (br (decide (n9 < (↑k10 : Int) + p1added))
  (R
  (Value.tuple
  (Array.mk
  [Value.slice none 0 0, Value.bool false]))
  w7)
  (inI (n8 + 1) ∧
  x5 (n8 + 1) w7 ∧ x6 (n8 + 1) w7 < x6 n8 w7))
  (inI (n8 + 1) ∧
  x5 (n8 + 1) w7 ∧ x6 (n8 + 1) w7 < x6 n8 w7))))
  (∃ (n10 : Int),
  World.cell? w7 (Addr.mk k20 0 none) =
  some (Value.int IntKind.i64 n10) ∧
  RunE Proofs.Tryd.prog Ev 107
  [Value.slice o8 k16 k17, Value.int IntKind.i64 n10] w7
  fun (v1 : Value) (w8 : World) =>
  ∃ (b3 : Bool),
  v1 = Value.bool b3 ∧
  br (!b3)
  (∃ (n11 : Int),
  World.cell? w8 (Addr.mk k20 0 none) =
  some (Value.int IntKind.i64 n11) ∧
  new w8
  (Obj.cells (Array.mk [Value.int IntKind.i64 n11]) 3)
  fun (k27 : Nat) (w9 : World) =>
  RunS Proofs.Tryd.prog
  (Builtin.append_ (Array.mk [24, 24]) 24
  (Array.mk
  [Value.slice o8 k16 k17,
  Value.slice (some (Addr.mk k27 0 none)) 1
  1]))
  w9 fun (v2 : Value) (w10 : World) =>
  ∃ (o13 : Option Addr),
  ∃ (k28 : Nat),
  ∃ (k29 : Nat),
  v2 = Value.slice o13 k28 k29 ∧
  inI (n1 + 1) ∧
  x2 o13 k28 k29 (n1 + 1) w10 ∧
  x3 o13 k28 k29 (n1 + 1) w10 <
  x3 o8 k16 k17 n1 w3)
  (inI (n1 + 1) ∧
  x2 o8 k16 k17 (n1 + 1) w8 ∧
  x3 o8 k16 k17 (n1 + 1) w8 < x3 o8 k16 k17 n1 w3))))
  (∀ (w11 : World),
  drawn w3 w11 →
  ∃ (I5 : World → Prop),
  I5 w11 ∧
  ∃ (o14 : Option Addr),
  ∃ (k30 : Nat),
  ∃ (k31 : Nat),
  (∀ (w12 : World),
  I5 w12 → World.cell? w12 (Addr.add (Addr.mk k1 0 none) 1) = some (Value.slice o14 k30 k31)) ∧
  inI ((↑k30 : Int) - p1added) ∧
  br ((↑k16 : Int) == (↑k30 : Int) - p1added)
  (∃ (n12 : Int),
  (∀ (w13 : World),
  I5 w13 →
  World.cell? w13 (Addr.add (Addr.mk k1 0 none) 3) = some (Value.int IntKind.i64 n12)) ∧
  br (decide ((↑k10 : Int) + p1added ≤ n12))
  (∃ (n13 : Int),
  (∀ (w14 : World),
  I5 w14 →
  World.cell? w14 (Addr.add (Addr.mk k1 0 none) 3) =
  some (Value.int IntKind.i64 n13)) ∧
  R
  (Value.tuple
  (Array.mk
  [Value.slice o8 k16 k17, Value.bool (decide (n13 < (↑k6 : Int) + (↑k8 : Int)))]))
  w11)
  (R (Value.tuple (Array.mk [Value.slice o8 k16 k17, Value.bool false])) w11))
  (R (Value.tuple (Array.mk [Value.slice o8 k16 k17, Value.bool false])) w11)))
set_option maxRecDepth 100000 in
theorem run_gram_productions (p0g_0a : Option Addr) (p0g_0l : Nat) (p0g_0c : Nat) (p0g_1a : Option Addr) (p0g_1l : Nat) (p0g_1c : Nat) (p0g_2a : Option Addr) (p0g_2l : Nat) (p0g_2c : Nat) (p0g_3 : Int) (p0g_4a : Option Addr) (p0g_4l : Nat) (p0g_4c : Nat) (p1added : Int) (w : World) (R : Value → World → Prop) (h : vc_gram_productions p0g_0a p0g_0l p0g_0c p0g_1a p0g_1l p0g_1c p0g_2a p0g_2l p0g_2c p0g_3 p0g_4a p0g_4l p0g_4c p1added w R) : Run Tryd.prog 84 [(.agg #[(.slice p0g_0a p0g_0l p0g_0c), (.slice p0g_1a p0g_1l p0g_1c), (.slice p0g_2a p0g_2l p0g_2c), (.int .i64 p0g_3), (.slice p0g_4a p0g_4l p0g_4c)]), (.int .i64 p1added)] w R :=
  run_ev tyOk fnOk mixed Tryd.func84 ann_gram_productions ((by kernel_rfl : fnV Tryd.prog Ty Fn Ev ann_gram_productions Tryd.f84 [(.agg #[(.slice p0g_0a p0g_0l p0g_0c), (.slice p0g_1a p0g_1l p0g_1c), (.slice p0g_2a p0g_2l p0g_2c), (.int .i64 p0g_3), (.slice p0g_4a p0g_4l p0g_4c)]), (.int .i64 p1added)] w R = vc_gram_productions p0g_0a p0g_0l p0g_0c p0g_1a p0g_1l p0g_1c p0g_2a p0g_2l p0g_2c p0g_3 p0g_4a p0g_4l p0g_4c p1added w R) ▸ h)

abbrev n_gram_isTerm : FuncId := 102
def ann_gram_isTerm : Ann := { rngs := [], loops := [], joins := [], blocks := [] }
set_option maxRecDepth 100000 in
def vc_gram_isTerm (p0s : ByteArray) (w : World) (R : Value → World → Prop) : Prop :=
  br (!ByteArray.toList p0s == ByteArray.toList (ByteArray.mk (Array.mk [])))
  (br (decide ((↑(ByteArray.size p0s) : Int) ≤ 16))
  (RunE Proofs.Tryd.prog Ev 110 [Value.string p0s, Value.func (Fn.func 111) (Array.mk []) (Array.mk [])] w fun (v1 : Value) (w1 : World) =>
  ∃ (n1 : Int), v1 = Value.int IntKind.i64 n1 ∧ R (Value.bool (decide (n1 < 0))) w1)
  (R (Value.bool false) w))
  (R (Value.bool false) w)
set_option maxRecDepth 100000 in
theorem run_gram_isTerm (p0s : ByteArray) (w : World) (R : Value → World → Prop) (h : vc_gram_isTerm p0s w R) : Run Tryd.prog 102 [(.string p0s)] w R :=
  run_ev tyOk fnOk mixed Tryd.func102 ann_gram_isTerm ((by kernel_rfl : fnV Tryd.prog Ty Fn Ev ann_gram_isTerm Tryd.f102 [(.string p0s)] w R = vc_gram_isTerm p0s w R) ▸ h)

abbrev n_gram_unlike : FuncId := 103
def ann_gram_unlike : Ann := { rngs := [], loops := [(3, [(9, (.one (.int .i64)))])], joins := [], blocks := [] }
set_option maxRecDepth 100000 in
def vc_gram_unlike (p0la : Option Addr) (p0ll : Nat) (p0lc : Nat) (w : World) (R : Value → World → Prop) : Prop :=
  new w (Obj.map (Array.mk []) 0) fun (k1 : Nat) (w1 : World) =>
  ∃ (x1 : arrS (shs [(9, S1.one (Cs.int IntKind.i64))]) (World → Prop)),
  ∃ (x2 : arrS (shs [(9, S1.one (Cs.int IntKind.i64))]) (World → Nat)),
  x1 0 w1 ∧
  ∀ (I1 : Nat → Value) (n1 : Int) (w2 : World),
  x1 n1 w2 →
  br (decide (n1 < (↑p0ll : Int)))
  (idx p0la p0ll n1 1 fun (a1 : Addr) =>
  ∃ (s1 : ByteArray),
  World.cell? w2 a1 = some (Value.string s1) ∧
  RunS Proofs.Tryd.prog (Instr.lookup 138 (Value.map (some k1)) (Value.string s1) false) w2 fun (v1 : Value) (w3 : World) =>
  ∃ (n2 : Int),
  v1 = Value.int IntKind.i64 n2 ∧
  inI (n2 + 1) ∧
  RunS Proofs.Tryd.prog (Instr.mapUpdate 138 (Value.map (some k1)) (Value.string s1) (Value.int IntKind.i64 (n2 + 1))) w3 fun (x3 : Unit) (w4 : World) =>
  inI (n1 + 1) ∧ x1 (n1 + 1) w4 ∧ x2 (n1 + 1) w4 < x2 n1 w2)
  (∃ (v2 : Value),
  Sem.run Proofs.Tryd.prog (Builtin.len_ (Array.mk [138]) 3 (Array.mk [Value.map (some k1)])) w2 = Result.ok v2 w2 ∧
  ∃ (n3 : Int), v2 = Value.int IntKind.i64 n3 ∧ R (Value.bool (n3 == (↑p0ll : Int))) w2)
set_option maxRecDepth 100000 in
theorem run_gram_unlike (p0la : Option Addr) (p0ll : Nat) (p0lc : Nat) (w : World) (R : Value → World → Prop) (h : vc_gram_unlike p0la p0ll p0lc w R) : Run Tryd.prog 103 [(.slice p0la p0ll p0lc)] w R :=
  run_ev tyOk fnOk mixed Tryd.func103 ann_gram_unlike ((by kernel_rfl : fnV Tryd.prog Ty Fn Ev ann_gram_unlike Tryd.f103 [(.slice p0la p0ll p0lc)] w R = vc_gram_unlike p0la p0ll p0lc w R) ▸ h)

abbrev n_slices_ContainsFunc_string_string_ : FuncId := 104
def ann_slices_ContainsFunc_string_string_ : Ann := { rngs := [], loops := [], joins := [], blocks := [] }
set_option maxRecDepth 100000 in
def vc_slices_ContainsFunc_string_string_ (p0sa : Option Addr) (p0sl : Nat) (p0sc : Nat) (p1fg : FuncId) (p1fc : List Value) (w : World) (R : Value → World → Prop) : Prop :=
  RunE Proofs.Tryd.prog Ev 112 [Value.slice p0sa p0sl p0sc, Value.func (Fn.func p1fg) (Array.mk []) (Array.mk p1fc)] w fun (v1 : Value) (w1 : World) =>
  ∃ (n1 : Int), v1 = Value.int IntKind.i64 n1 ∧ R (Value.bool (decide (0 ≤ n1))) w1
set_option maxRecDepth 100000 in
theorem run_slices_ContainsFunc_string_string_ (p0sa : Option Addr) (p0sl : Nat) (p0sc : Nat) (p1fg : FuncId) (p1fc : List Value) (w : World) (R : Value → World → Prop) (h : vc_slices_ContainsFunc_string_string_ p0sa p0sl p0sc p1fg p1fc w R) : Run Tryd.prog 104 [(.slice p0sa p0sl p0sc), (.func (.func p1fg) #[] ⟨p1fc⟩)] w R :=
  run_ev tyOk fnOk mixed Tryd.func104 ann_slices_ContainsFunc_string_string_ ((by kernel_rfl : fnV Tryd.prog Ty Fn Ev ann_slices_ContainsFunc_string_string_ Tryd.f104 [(.slice p0sa p0sl p0sc), (.func (.func p1fg) #[] ⟨p1fc⟩)] w R = vc_slices_ContainsFunc_string_string_ p0sa p0sl p0sc p1fg p1fc w R) ▸ h)

abbrev n_gram_symbols_S1 : FuncId := 105
def ann_gram_symbols_S1 : Ann := { rngs := [], loops := [], joins := [], blocks := [] }
set_option maxRecDepth 100000 in
def vc_gram_symbols_S1 (p0s : ByteArray) (w : World) (R : Value → World → Prop) : Prop :=
  RunE Proofs.Tryd.prog Ev 106 [Value.string p0s] w fun (v1 : Value) (w1 : World) => ∃ (b1 : Bool), v1 = Value.bool b1 ∧ R (Value.bool !b1) w1
set_option maxRecDepth 100000 in
theorem run_gram_symbols_S1 (p0s : ByteArray) (w : World) (R : Value → World → Prop) (h : vc_gram_symbols_S1 p0s w R) : Run Tryd.prog 105 [(.string p0s)] w R :=
  run_ev tyOk fnOk mixed Tryd.func105 ann_gram_symbols_S1 ((by kernel_rfl : fnV Tryd.prog Ty Fn Ev ann_gram_symbols_S1 Tryd.f105 [(.string p0s)] w R = vc_gram_symbols_S1 p0s w R) ▸ h)

abbrev n_gram_isName : FuncId := 106
def ann_gram_isName : Ann := { rngs := [], loops := [(2, [(7, (.one (.int .i64)))])], joins := [], blocks := [] }
set_option maxRecDepth 100000 in
def vc_gram_isName (p0s : ByteArray) (w : World) (R : Value → World → Prop) : Prop :=
  ∃ (x1 : arrS (shs [(7, S1.one (Cs.int IntKind.i64))]) (World → Prop)),
  ∃ (x2 : arrS (shs [(7, S1.one (Cs.int IntKind.i64))]) (World → Nat)),
  x1 0 w ∧
  ∀ (I1 : Nat → Value) (n1 : Int) (w1 : World),
  x1 n1 w1 →
  br (decide (n1 < (↑(ByteArray.size p0s) : Int)))
  (inS n1 (ByteArray.size p0s) ∧
  br ((↑(UInt8.toNat (sb p0s (Int.toNat n1))) : Int) != 95)
  (br (decide (bitI BinOp.or IntKind.u8 (↑(UInt8.toNat (sb p0s (Int.toNat n1))) : Int) 32 < 97))
  (br (n1 == 0) (R (Value.bool false) w1)
  (br (decide ((↑(UInt8.toNat (sb p0s (Int.toNat n1))) : Int) < 48)) (R (Value.bool false) w1)
  (br (decide (57 < (↑(UInt8.toNat (sb p0s (Int.toNat n1))) : Int))) (R (Value.bool false) w1) (inI (n1 + 1) ∧ x1 (n1 + 1) w1 ∧ x2 (n1 + 1) w1 < x2 n1 w1))))
  (br (decide (122 < bitI BinOp.or IntKind.u8 (↑(UInt8.toNat (sb p0s (Int.toNat n1))) : Int) 32))
  (br (n1 == 0) (R (Value.bool false) w1)
  (br (decide ((↑(UInt8.toNat (sb p0s (Int.toNat n1))) : Int) < 48)) (R (Value.bool false) w1)
  (br (decide (57 < (↑(UInt8.toNat (sb p0s (Int.toNat n1))) : Int))) (R (Value.bool false) w1) (inI (n1 + 1) ∧ x1 (n1 + 1) w1 ∧ x2 (n1 + 1) w1 < x2 n1 w1))))
  (inI (n1 + 1) ∧ x1 (n1 + 1) w1 ∧ x2 (n1 + 1) w1 < x2 n1 w1)))
  (inI (n1 + 1) ∧ x1 (n1 + 1) w1 ∧ x2 (n1 + 1) w1 < x2 n1 w1))
  (br (!ByteArray.toList p0s == ByteArray.toList (ByteArray.mk (Array.mk []))) (R (Value.bool (decide ((↑(ByteArray.size p0s) : Int) ≤ 16))) w1)
  (R (Value.bool false) w1))
set_option maxRecDepth 100000 in
theorem run_gram_isName (p0s : ByteArray) (w : World) (R : Value → World → Prop) (h : vc_gram_isName p0s w R) : Run Tryd.prog 106 [(.string p0s)] w R :=
  run_ev tyOk fnOk mixed Tryd.func106 ann_gram_isName ((by kernel_rfl : fnV Tryd.prog Ty Fn Ev ann_gram_isName Tryd.f106 [(.string p0s)] w R = vc_gram_isName p0s w R) ▸ h)

abbrev n_slices_Contains_int_int_ : FuncId := 107
def ann_slices_Contains_int_int_ : Ann := { rngs := [], loops := [], joins := [], blocks := [] }
set_option maxRecDepth 100000 in
def vc_slices_Contains_int_int_ (p0sa : Option Addr) (p0sl : Nat) (p0sc : Nat) (p1v : Int) (w : World) (R : Value → World → Prop) : Prop :=
  RunE Proofs.Tryd.prog Ev 113 [Value.slice p0sa p0sl p0sc, Value.int IntKind.i64 p1v] w fun (v1 : Value) (w1 : World) =>
  ∃ (n1 : Int), v1 = Value.int IntKind.i64 n1 ∧ R (Value.bool (decide (0 ≤ n1))) w1
set_option maxRecDepth 100000 in
theorem run_slices_Contains_int_int_ (p0sa : Option Addr) (p0sl : Nat) (p0sc : Nat) (p1v : Int) (w : World) (R : Value → World → Prop) (h : vc_slices_Contains_int_int_ p0sa p0sl p0sc p1v w R) : Run Tryd.prog 107 [(.slice p0sa p0sl p0sc), (.int .i64 p1v)] w R :=
  run_ev tyOk fnOk mixed Tryd.func107 ann_slices_Contains_int_int_ ((by kernel_rfl : fnV Tryd.prog Ty Fn Ev ann_slices_Contains_int_int_ Tryd.f107 [(.slice p0sa p0sl p0sc), (.int .i64 p1v)] w R = vc_slices_Contains_int_int_ p0sa p0sl p0sc p1v w R) ▸ h)

abbrev n_cmp_Less_int_ : FuncId := 108
def ann_cmp_Less_int_ : Ann := { rngs := [], loops := [], joins := [], blocks := [] }
set_option maxRecDepth 100000 in
def vc_cmp_Less_int_ (p0x : Int) (p1y : Int) (w : World) (R : Value → World → Prop) : Prop :=
  RunE Proofs.Tryd.prog Ev 114 [Value.int IntKind.i64 p0x] w fun (v1 : Value) (w1 : World) =>
  ∃ (b1 : Bool),
  v1 = Value.bool b1 ∧
  br b1
  (RunE Proofs.Tryd.prog Ev 114 [Value.int IntKind.i64 p1y] w1 fun (v2 : Value) (w2 : World) =>
  ∃ (b2 : Bool), v2 = Value.bool b2 ∧ br (!b2) (R (Value.bool true) w2) (R (Value.bool (decide (p0x < p1y))) w2))
  (R (Value.bool (decide (p0x < p1y))) w1)
set_option maxRecDepth 100000 in
theorem run_cmp_Less_int_ (p0x : Int) (p1y : Int) (w : World) (R : Value → World → Prop) (h : vc_cmp_Less_int_ p0x p1y w R) : Run Tryd.prog 108 [(.int .i64 p0x), (.int .i64 p1y)] w R :=
  run_ev tyOk fnOk mixed Tryd.func108 ann_cmp_Less_int_ ((by kernel_rfl : fnV Tryd.prog Ty Fn Ev ann_cmp_Less_int_ Tryd.f108 [(.int .i64 p0x), (.int .i64 p1y)] w R = vc_cmp_Less_int_ p0x p1y w R) ▸ h)

abbrev n_slices_IndexFunc_int_int_ : FuncId := 109
def ann_slices_IndexFunc_int_int_ : Ann := { rngs := [], loops := [(2, [(8, (.one (.int .i64)))])], joins := [], blocks := [] }
set_option maxRecDepth 100000 in
def vc_slices_IndexFunc_int_int_ (p0sa : Option Addr) (p0sl : Nat) (p0sc : Nat) (p1fg : FuncId) (p1fc : List Value) (w : World) (R : Value → World → Prop) : Prop :=
  ∃ (x1 : arrS (shs [(8, S1.one (Cs.int IntKind.i64))]) (World → Prop)),
  ∃ (x2 : arrS (shs [(8, S1.one (Cs.int IntKind.i64))]) (World → Nat)),
  x1 0 w ∧
  ∀ (I1 : Nat → Value) (n1 : Int) (w1 : World),
  x1 n1 w1 →
  br (decide (n1 < (↑p0sl : Int)))
  (idx p0sa p0sl n1 1 fun (a1 : Addr) =>
  ∃ (n2 : Int),
  World.cell? w1 a1 = some (Value.int IntKind.i64 n2) ∧
  ifT (Proofs.YtaheggomcnbbiaaDoor.Fn p1fg)
  (RunE Proofs.Tryd.prog Ev p1fg (Value.int IntKind.i64 n2 :: p1fc) w1 fun (v1 : Value) (w2 : World) =>
  ∃ (b1 : Bool), v1 = Value.bool b1 ∧ br b1 (R (Value.int IntKind.i64 n1) w2) (inI (n1 + 1) ∧ x1 (n1 + 1) w2 ∧ x2 (n1 + 1) w2 < x2 n1 w1)))
  (R (Value.int IntKind.i64 (-1)) w1)
set_option maxRecDepth 100000 in
theorem run_slices_IndexFunc_int_int_ (p0sa : Option Addr) (p0sl : Nat) (p0sc : Nat) (p1fg : FuncId) (p1fc : List Value) (w : World) (R : Value → World → Prop) (h : vc_slices_IndexFunc_int_int_ p0sa p0sl p0sc p1fg p1fc w R) : Run Tryd.prog 109 [(.slice p0sa p0sl p0sc), (.func (.func p1fg) #[] ⟨p1fc⟩)] w R :=
  run_ev tyOk fnOk mixed Tryd.func109 ann_slices_IndexFunc_int_int_ ((by kernel_rfl : fnV Tryd.prog Ty Fn Ev ann_slices_IndexFunc_int_int_ Tryd.f109 [(.slice p0sa p0sl p0sc), (.func (.func p1fg) #[] ⟨p1fc⟩)] w R = vc_slices_IndexFunc_int_int_ p0sa p0sl p0sc p1fg p1fc w R) ▸ h)

abbrev n_strings_IndexFunc : FuncId := 110
def ann_strings_IndexFunc : Ann := { rngs := [], loops := [], joins := [], blocks := [] }
set_option maxRecDepth 100000 in
def vc_strings_IndexFunc (p0s : ByteArray) (p1fg : FuncId) (p1fc : List Value) (w : World) (R : Value → World → Prop) : Prop :=
  RunE Proofs.Tryd.prog Ev 115 [Value.string p0s, Value.func (Fn.func p1fg) (Array.mk []) (Array.mk p1fc), Value.bool true] w fun (v1 : Value) (w1 : World) =>
  ∃ (n1 : Int), v1 = Value.int IntKind.i64 n1 ∧ R (Value.int IntKind.i64 n1) w1
set_option maxRecDepth 100000 in
theorem run_strings_IndexFunc (p0s : ByteArray) (p1fg : FuncId) (p1fc : List Value) (w : World) (R : Value → World → Prop) (h : vc_strings_IndexFunc p0s p1fg p1fc w R) : Run Tryd.prog 110 [(.string p0s), (.func (.func p1fg) #[] ⟨p1fc⟩)] w R :=
  run_ev tyOk fnOk mixed Tryd.func110 ann_strings_IndexFunc ((by kernel_rfl : fnV Tryd.prog Ty Fn Ev ann_strings_IndexFunc Tryd.f110 [(.string p0s), (.func (.func p1fg) #[] ⟨p1fc⟩)] w R = vc_strings_IndexFunc p0s p1fg p1fc w R) ▸ h)

abbrev n_gram_isTerm_S1 : FuncId := 111
def ann_gram_isTerm_S1 : Ann := { rngs := [], loops := [], joins := [], blocks := [] }
set_option maxRecDepth 100000 in
def vc_gram_isTerm_S1 (p0r : Int) (w : World) (R : Value → World → Prop) : Prop :=
  br (decide (p0r < 32)) (R (Value.bool true) w) (br (decide (126 < p0r)) (R (Value.bool true) w) (R (Value.bool (p0r == 39)) w))
set_option maxRecDepth 100000 in
theorem run_gram_isTerm_S1 (p0r : Int) (w : World) (R : Value → World → Prop) (h : vc_gram_isTerm_S1 p0r w R) : Run Tryd.prog 111 [(.int .i32 p0r)] w R :=
  run_ev tyOk fnOk mixed Tryd.func111 ann_gram_isTerm_S1 ((by kernel_rfl : fnV Tryd.prog Ty Fn Ev ann_gram_isTerm_S1 Tryd.f111 [(.int .i32 p0r)] w R = vc_gram_isTerm_S1 p0r w R) ▸ h)

abbrev n_slices_IndexFunc_string_string_ : FuncId := 112
def ann_slices_IndexFunc_string_string_ : Ann := { rngs := [], loops := [(2, [(8, (.one (.int .i64)))])], joins := [], blocks := [] }
set_option maxRecDepth 100000 in
def vc_slices_IndexFunc_string_string_ (p0sa : Option Addr) (p0sl : Nat) (p0sc : Nat) (p1fg : FuncId) (p1fc : List Value) (w : World) (R : Value → World → Prop) : Prop :=
  ∃ (x1 : arrS (shs [(8, S1.one (Cs.int IntKind.i64))]) (World → Prop)),
  ∃ (x2 : arrS (shs [(8, S1.one (Cs.int IntKind.i64))]) (World → Nat)),
  x1 0 w ∧
  ∀ (I1 : Nat → Value) (n1 : Int) (w1 : World),
  x1 n1 w1 →
  br (decide (n1 < (↑p0sl : Int)))
  (idx p0sa p0sl n1 1 fun (a1 : Addr) =>
  ∃ (s1 : ByteArray),
  World.cell? w1 a1 = some (Value.string s1) ∧
  ifT (Proofs.YtaheggomcnbbiaaDoor.Fn p1fg)
  (RunE Proofs.Tryd.prog Ev p1fg (Value.string s1 :: p1fc) w1 fun (v1 : Value) (w2 : World) =>
  ∃ (b1 : Bool), v1 = Value.bool b1 ∧ br b1 (R (Value.int IntKind.i64 n1) w2) (inI (n1 + 1) ∧ x1 (n1 + 1) w2 ∧ x2 (n1 + 1) w2 < x2 n1 w1)))
  (R (Value.int IntKind.i64 (-1)) w1)
set_option maxRecDepth 100000 in
theorem run_slices_IndexFunc_string_string_ (p0sa : Option Addr) (p0sl : Nat) (p0sc : Nat) (p1fg : FuncId) (p1fc : List Value) (w : World) (R : Value → World → Prop) (h : vc_slices_IndexFunc_string_string_ p0sa p0sl p0sc p1fg p1fc w R) : Run Tryd.prog 112 [(.slice p0sa p0sl p0sc), (.func (.func p1fg) #[] ⟨p1fc⟩)] w R :=
  run_ev tyOk fnOk mixed Tryd.func112 ann_slices_IndexFunc_string_string_ ((by kernel_rfl : fnV Tryd.prog Ty Fn Ev ann_slices_IndexFunc_string_string_ Tryd.f112 [(.slice p0sa p0sl p0sc), (.func (.func p1fg) #[] ⟨p1fc⟩)] w R = vc_slices_IndexFunc_string_string_ p0sa p0sl p0sc p1fg p1fc w R) ▸ h)

abbrev n_slices_Index_int_int_ : FuncId := 113
def ann_slices_Index_int_int_ : Ann := { rngs := [], loops := [(2, [(8, (.one (.int .i64)))])], joins := [], blocks := [] }
set_option maxRecDepth 100000 in
def vc_slices_Index_int_int_ (p0sa : Option Addr) (p0sl : Nat) (p0sc : Nat) (p1v : Int) (w : World) (R : Value → World → Prop) : Prop :=
  ∃ (x1 : arrS (shs [(8, S1.one (Cs.int IntKind.i64))]) (World → Prop)),
  ∃ (x2 : arrS (shs [(8, S1.one (Cs.int IntKind.i64))]) (World → Nat)),
  x1 0 w ∧
  ∀ (I1 : Nat → Value) (n1 : Int) (w1 : World),
  x1 n1 w1 →
  br (decide (n1 < (↑p0sl : Int)))
  (idx p0sa p0sl n1 1 fun (a1 : Addr) =>
  ∃ (n2 : Int),
  World.cell? w1 a1 = some (Value.int IntKind.i64 n2) ∧ br (p1v == n2) (R (Value.int IntKind.i64 n1) w1) (inI (n1 + 1) ∧ x1 (n1 + 1) w1 ∧ x2 (n1 + 1) w1 < x2 n1 w1))
  (R (Value.int IntKind.i64 (-1)) w1)
set_option maxRecDepth 100000 in
theorem run_slices_Index_int_int_ (p0sa : Option Addr) (p0sl : Nat) (p0sc : Nat) (p1v : Int) (w : World) (R : Value → World → Prop) (h : vc_slices_Index_int_int_ p0sa p0sl p0sc p1v w R) : Run Tryd.prog 113 [(.slice p0sa p0sl p0sc), (.int .i64 p1v)] w R :=
  run_ev tyOk fnOk mixed Tryd.func113 ann_slices_Index_int_int_ ((by kernel_rfl : fnV Tryd.prog Ty Fn Ev ann_slices_Index_int_int_ Tryd.f113 [(.slice p0sa p0sl p0sc), (.int .i64 p1v)] w R = vc_slices_Index_int_int_ p0sa p0sl p0sc p1v w R) ▸ h)

abbrev n_cmp_isNaN_int_ : FuncId := 114
def ann_cmp_isNaN_int_ : Ann := { rngs := [], loops := [], joins := [], blocks := [] }
set_option maxRecDepth 100000 in
def vc_cmp_isNaN_int_ (p0x : Int) (w : World) (R : Value → World → Prop) : Prop :=
  R (Value.bool (p0x != p0x)) w
set_option maxRecDepth 100000 in
theorem run_cmp_isNaN_int_ (p0x : Int) (w : World) (R : Value → World → Prop) (h : vc_cmp_isNaN_int_ p0x w R) : Run Tryd.prog 114 [(.int .i64 p0x)] w R :=
  run_ev tyOk fnOk mixed Tryd.func114 ann_cmp_isNaN_int_ ((by kernel_rfl : fnV Tryd.prog Ty Fn Ev ann_cmp_isNaN_int_ Tryd.f114 [(.int .i64 p0x)] w R = vc_cmp_isNaN_int_ p0x w R) ▸ h)

abbrev n_strings_indexFunc : FuncId := 115
def ann_strings_indexFunc : Ann := { rngs := [], loops := [(2, [])], joins := [], blocks := [] }
set_option maxRecDepth 100000 in
def vc_strings_indexFunc (p0s : ByteArray) (p1fg : FuncId) (p1fc : List Value) (p2truth : Bool) (w : World) (R : Value → World → Prop) : Prop :=
  RunS Proofs.Tryd.prog (Instr.range 9 (Value.string p0s)) w fun (v1 : Value) (w1 : World) =>
  ∃ (o1 : Option Addr),
  v1 = Value.pointer o1 ∧
  ∃ (x1 : arrS (shs []) (World → Prop)),
  ∃ (x2 : arrS (shs []) (World → Nat)),
  x1 w1 ∧
  ∀ (I1 : Nat → Value) (w2 : World),
  x1 w2 →
  RunS Proofs.Tryd.prog (Instr.next (Value.pointer o1) true 0) w2 fun (v2 : Value) (w3 : World) =>
  v2 = Value.tuple (Array.mk [Value.bool false]) ∧ R (Value.int IntKind.i64 (-1)) w3 ∨
  ∃ (n1 : Int),
  ∃ (n2 : Int),
  v2 = Value.tuple (Array.mk [Value.bool true, Value.int IntKind.i64 n1, Value.int IntKind.i32 n2]) ∧
  ifT (Proofs.YtaheggomcnbbiaaDoor.Fn p1fg)
  (RunE Proofs.Tryd.prog Ev p1fg (Value.int IntKind.i32 n2 :: p1fc) w3 fun (v3 : Value) (w4 : World) =>
  ∃ (b1 : Bool), v3 = Value.bool b1 ∧ br (b1 == p2truth) (R (Value.int IntKind.i64 n1) w4) (x1 w4 ∧ x2 w4 < x2 w2))
set_option maxRecDepth 100000 in
theorem run_strings_indexFunc (p0s : ByteArray) (p1fg : FuncId) (p1fc : List Value) (p2truth : Bool) (w : World) (R : Value → World → Prop) (h : vc_strings_indexFunc p0s p1fg p1fc p2truth w R) : Run Tryd.prog 115 [(.string p0s), (.func (.func p1fg) #[] ⟨p1fc⟩), (.bool p2truth)] w R :=
  run_ev tyOk fnOk mixed Tryd.func115 ann_strings_indexFunc ((by kernel_rfl : fnV Tryd.prog Ty Fn Ev ann_strings_indexFunc Tryd.f115 [(.string p0s), (.func (.func p1fg) #[] ⟨p1fc⟩), (.bool p2truth)] w R = vc_strings_indexFunc p0s p1fg p1fc p2truth w R) ▸ h)

abbrev n_slices_IsSorted_int_int_ : FuncId := 85
def ann_slices_IsSorted_int_int_ : Ann := { rngs := [], loops := [(2, [(3, (.one (.int .i64)))])], joins := [], blocks := [] }
set_option maxRecDepth 100000 in
def vc_slices_IsSorted_int_int_ (p0xa : Option Addr) (p0xl : Nat) (p0xc : Nat) (w : World) (R : Value → World → Prop) : Prop :=
  inI ((↑p0xl : Int) - 1) ∧
  ∃ (x1 : arrS (shs [(3, S1.one (Cs.int IntKind.i64))]) (World → Prop)),
  ∃ (x2 : arrS (shs [(3, S1.one (Cs.int IntKind.i64))]) (World → Nat)),
  x1 ((↑p0xl : Int) - 1) w ∧
  ∀ (I1 : Nat → Value) (n1 : Int) (w1 : World),
  x1 n1 w1 →
  br (decide (0 < n1))
  (∀ (w2 : World),
  drawn w1 w2 →
  ∃ (I2 : World → Prop),
  I2 w2 ∧
  idx p0xa p0xl n1 1 fun (a1 : Addr) =>
  ∃ (n2 : Int),
  (∀ (w3 : World), I2 w3 → World.cell? w3 a1 = some (Value.int IntKind.i64 n2)) ∧
  inI (n1 - 1) ∧
  idx p0xa p0xl (n1 - 1) 1 fun (a2 : Addr) =>
  ∃ (n3 : Int),
  (∀ (w4 : World), I2 w4 → World.cell? w4 a2 = some (Value.int IntKind.i64 n3)) ∧
  RunE Proofs.Tryd.prog Ev 108 [Value.int IntKind.i64 n2, Value.int IntKind.i64 n3] w2 fun (v1 : Value) (w5 : World) =>
  ∃ (b1 : Bool), v1 = Value.bool b1 ∧ br b1 (R (Value.bool false) w5) (inI (n1 - 1) ∧ x1 (n1 - 1) w5 ∧ x2 (n1 - 1) w5 < x2 n1 w1))
  (R (Value.bool true) w1)
set_option maxRecDepth 100000 in
theorem run_slices_IsSorted_int_int_ (p0xa : Option Addr) (p0xl : Nat) (p0xc : Nat) (w : World) (R : Value → World → Prop) (h : vc_slices_IsSorted_int_int_ p0xa p0xl p0xc w R) : Run Tryd.prog 85 [(.slice p0xa p0xl p0xc)] w R :=
  run_ev tyOk fnOk mixed Tryd.func85 ann_slices_IsSorted_int_int_ ((by kernel_rfl : fnV Tryd.prog Ty Fn Ev ann_slices_IsSorted_int_int_ Tryd.f85 [(.slice p0xa p0xl p0xc)] w R = vc_slices_IsSorted_int_int_ p0xa p0xl p0xc w R) ▸ h)

abbrev n_slices_ContainsFunc_int_int_ : FuncId := 94
def ann_slices_ContainsFunc_int_int_ : Ann := { rngs := [], loops := [], joins := [], blocks := [] }
set_option maxRecDepth 100000 in
def vc_slices_ContainsFunc_int_int_ (p0sa : Option Addr) (p0sl : Nat) (p0sc : Nat) (p1fg : FuncId) (p1fc : List Value) (w : World) (R : Value → World → Prop) : Prop :=
  RunE Proofs.Tryd.prog Ev 109 [Value.slice p0sa p0sl p0sc, Value.func (Fn.func p1fg) (Array.mk []) (Array.mk p1fc)] w fun (v1 : Value) (w1 : World) =>
  ∃ (n1 : Int), v1 = Value.int IntKind.i64 n1 ∧ R (Value.bool (decide (0 ≤ n1))) w1
set_option maxRecDepth 100000 in
theorem run_slices_ContainsFunc_int_int_ (p0sa : Option Addr) (p0sl : Nat) (p0sc : Nat) (p1fg : FuncId) (p1fc : List Value) (w : World) (R : Value → World → Prop) (h : vc_slices_ContainsFunc_int_int_ p0sa p0sl p0sc p1fg p1fc w R) : Run Tryd.prog 94 [(.slice p0sa p0sl p0sc), (.func (.func p1fg) #[] ⟨p1fc⟩)] w R :=
  run_ev tyOk fnOk mixed Tryd.func94 ann_slices_ContainsFunc_int_int_ ((by kernel_rfl : fnV Tryd.prog Ty Fn Ev ann_slices_ContainsFunc_int_int_ Tryd.f94 [(.slice p0sa p0sl p0sc), (.func (.func p1fg) #[] ⟨p1fc⟩)] w R = vc_slices_ContainsFunc_int_int_ p0sa p0sl p0sc p1fg p1fc w R) ▸ h)

abbrev n_presageref02_Copy : FuncId := 14
def ann_presageref02_Copy : Ann := { rngs := [], loops := [(6, [(4, (.one (.int .i64)))])], joins := [], blocks := [] }
set_option maxRecDepth 100000 in
def vc_presageref02_Copy (p0g_0a : Option Addr) (p0g_0l : Nat) (p0g_0c : Nat) (p0g_1a : Option Addr) (p0g_1l : Nat) (p0g_1c : Nat) (p0g_2a : Option Addr) (p0g_2l : Nat) (p0g_2c : Nat) (p0g_3 : Int) (p0g_4a : Option Addr) (p0g_4l : Nat) (p0g_4c : Nat) (w : World) (R : Value → World → Prop) : Prop :=
  new w
  (Obj.cells
  (Array.mk [Value.slice p0g_0a p0g_0l p0g_0c, Value.slice p0g_1a p0g_1l p0g_1c, Value.slice p0g_2a p0g_2l p0g_2c, Value.int IntKind.i64 p0g_3, Value.slice p0g_4a p0g_4l p0g_4c])
  27)
  fun (k1 : Nat) (w1 : World) =>
  new w1 (Obj.cells (Array.mk [Value.slice none 0 0, Value.slice none 0 0, Value.slice none 0 0, Value.int IntKind.i64 0, Value.slice none 0 0]) 27) fun (k2 : Nat) (w2 : World) =>
  ∃ (n1 : Int),
  World.cell? w2 (Addr.add (Addr.mk k1 0 none) 3) = some (Value.int IntKind.i64 n1) ∧
  new w2 (Obj.cells (Array.mk [Value.slice none 0 0, Value.slice none 0 0, Value.slice none 0 0, Value.int IntKind.i64 0, Value.slice none 0 0]) 27)
  fun (k3 : Nat) (w3 : World) =>
  stR w3 (Addr.mk k3 0 none) [Value.slice none 0 0, Value.slice none 0 0, Value.slice none 0 0, Value.int IntKind.i64 n1, Value.slice none 0 0] fun (w4 : World) =>
  ∃ (o1 : Option Addr),
  ∃ (k4 : Nat),
  ∃ (k5 : Nat),
  World.cell? w4 (Addr.mk k3 0 none) = some (Value.slice o1 k4 k5) ∧
  ∃ (o2 : Option Addr),
  ∃ (k6 : Nat),
  ∃ (k7 : Nat),
  World.cell? w4 (Addr.mk k1 0 none) = some (Value.slice o2 k6 k7) ∧
  RunS Proofs.Tryd.prog (Builtin.append_ (Array.mk [22, 22]) 22 (Array.mk [Value.slice o1 k4 k5, Value.slice o2 k6 k7])) w4
  fun (v1 : Value) (w5 : World) =>
  ∃ (o3 : Option Addr),
  ∃ (k8 : Nat),
  ∃ (k9 : Nat),
  v1 = Value.slice o3 k8 k9 ∧
  st1 w5 (Addr.mk k3 0 none) (Value.slice o3 k8 k9) fun (w6 : World) =>
  ∃ (o4 : Option Addr),
  ∃ (k10 : Nat),
  ∃ (k11 : Nat),
  World.cell? w6 (Addr.add (Addr.mk k3 0 none) 1) = some (Value.slice o4 k10 k11) ∧
  ∃ (o5 : Option Addr),
  ∃ (k12 : Nat),
  ∃ (k13 : Nat),
  World.cell? w6 (Addr.add (Addr.mk k1 0 none) 1) = some (Value.slice o5 k12 k13) ∧
  RunS Proofs.Tryd.prog (Builtin.append_ (Array.mk [23, 23]) 23 (Array.mk [Value.slice o4 k10 k11, Value.slice o5 k12 k13]))
  w6 fun (v2 : Value) (w7 : World) =>
  ∃ (o6 : Option Addr),
  ∃ (k14 : Nat),
  ∃ (k15 : Nat),
  v2 = Value.slice o6 k14 k15 ∧
  st1 w7 (Addr.add (Addr.mk k3 0 none) 1) (Value.slice o6 k14 k15) fun (w8 : World) =>
  ∃ (o7 : Option Addr),
  ∃ (k16 : Nat),
  ∃ (k17 : Nat),
  World.cell? w8 (Addr.add (Addr.mk k3 0 none) 2) = some (Value.slice o7 k16 k17) ∧
  ∃ (o8 : Option Addr),
  ∃ (k18 : Nat),
  ∃ (k19 : Nat),
  World.cell? w8 (Addr.add (Addr.mk k1 0 none) 2) = some (Value.slice o8 k18 k19) ∧
  RunS Proofs.Tryd.prog
  (Builtin.append_ (Array.mk [24, 24]) 24
  (Array.mk [Value.slice o7 k16 k17, Value.slice o8 k18 k19]))
  w8 fun (v3 : Value) (w9 : World) =>
  ∃ (o9 : Option Addr),
  ∃ (k20 : Nat),
  ∃ (k21 : Nat),
  v3 = Value.slice o9 k20 k21 ∧
  st1 w9 (Addr.add (Addr.mk k3 0 none) 2) (Value.slice o9 k20 k21) fun (w10 : World) =>
  ∃ (x1 : arrS (shs [(4, S1.one (Cs.int IntKind.i64))]) (World → Prop)),
  ∃ (x2 : arrS (shs [(4, S1.one (Cs.int IntKind.i64))]) (World → Nat)),
  x1 0 w10 ∧
  ∀ (I1 : Nat → Value) (n2 : Int) (w11 : World),
  x1 n2 w11 →
  ∃ (o10 : Option Addr),
  ∃ (k22 : Nat),
  ∃ (k23 : Nat),
  World.cell? w11 (Addr.add (Addr.mk k1 0 none) 4) =
  some (Value.slice o10 k22 k23) ∧
  br (decide (n2 < (↑k22 : Int)))
  (∀ (w12 : World),
  drawn w11 w12 →
  ∃ (I2 : World → Prop),
  I2 w12 ∧
  ∃ (o11 : Option Addr),
  ∃ (k24 : Nat),
  ∃ (k25 : Nat),
  (∀ (w13 : World),
  I2 w13 →
  World.cell? w13
  (Addr.add (Addr.mk k1 0 none) 4) =
  some (Value.slice o11 k24 k25)) ∧
  idx o11 k24 n2 3 fun (a1 : Addr) =>
  ∃ (n3 : Int),
  (∀ (w14 : World),
  I2 w14 →
  World.cell? w14 a1 =
  some (Value.int IntKind.i64 n3)) ∧
  ∃ (o12 : Option Addr),
  ∃ (k26 : Nat),
  ∃ (k27 : Nat),
  (∀ (w15 : World),
  I2 w15 →
  World.cell? w15
  (Addr.add
  (Addr.mk k1 0 none) 4) =
  some
  (Value.slice o12 k26
  k27)) ∧
  idx o12 k26 n2 3
  fun (a2 : Addr) =>
  ∃ (n4 : Int),
  (∀ (w16 : World),
  I2 w16 →
  World.cell? w16
  (Addr.add a2 2) =
  some
  (Value.int
  IntKind.i64 n4)) ∧
  new w12
  (Obj.cells
  (Array.mk
  [Value.int IntKind.i64
  0,
  Value.slice none 0
  0,
  Value.int
  IntKind.i64 0])
  51)
  fun (k28 : Nat)
  (w17 : World) =>
  I2 w17 ∧
  stR w17
  (Addr.mk k28 0 none)
  [Value.int IntKind.i64
  n3,
  Value.slice none 0
  0,
  Value.int
  IntKind.i64 n4]
  fun (w18 : World) =>
  ∀ (w19 : World),
  drawn w18 w19 →
  ∃ (I3 :
  World → Prop),
  I3 w19 ∧
  ∃ (o13 :
  Option
  Addr),
  ∃ (k29 :
  Nat),
  ∃ (k30 :
  Nat),
  (∀
  (w20 :
  World),
  I3
  w20 →
  World.cell?
  w20
  (Addr.add
  (Addr.mk
  k28
  0
  none)
  1) =
  some
  (Value.slice
  o13
  k29
  k30)) ∧
  ∃ (o14
  :
  Option
  Addr),
  ∃
  (k31
  :
  Nat),
  ∃
  (k32
  :
  Nat),
  (∀
  (w21 :
  World),
  I3
  w21 →
  World.cell?
  w21
  (Addr.add
  (Addr.mk
  k1
  0
  none)
  4) =
  some
  (Value.slice
  o14
  k31
  k32)) ∧
  idx
  o14
  k31
  n2
  3
  fun
  (a3 :
  Addr) =>
  ∃
  (o15
  :
  Option
  Addr),
  ∃
  (k33
  :
  Nat),
  ∃
  (k34
  :
  Nat),
  (∀
  (w22 :
  World),
  I3
  w22 →
  World.cell?
  w22
  (Addr.add
  a3
  1) =
  some
  (Value.slice
  o15
  k33
  k34)) ∧
  RunS
  Proofs.Tryd.prog
  (Builtin.append_
  (Array.mk
  [24,
  24])
  24
  (Array.mk
  [Value.slice
  o13
  k29
  k30,
  Value.slice
  o15
  k33
  k34]))
  w19
  fun
  (v4 :
  Value)
  (w23 :
  World) =>
  ∃
  (o16
  :
  Option
  Addr),
  ∃
  (k35
  :
  Nat),
  ∃
  (k36
  :
  Nat),
  v4 =
  Value.slice
  o16
  k35
  k36 ∧
  I3
  w23 ∧
  st1
  w23
  (Addr.add
  (Addr.mk
  k28
  0
  none)
  1)
  (Value.slice
  o16
  k35
  k36)
  fun
  (w24 :
  World) =>
  ∃
  (o17
  :
  Option
  Addr),
  ∃
  (k37
  :
  Nat),
  ∃
  (k38
  :
  Nat),
  World.cell?
  w24
  (Addr.add
  (Addr.mk
  k3
  0
  none)
  4) =
  some
  (Value.slice
  o17
  k37
  k38) ∧
  ∃
  (n5
  :
  Int),
  ∃
  (o18
  :
  Option
  Addr),
  ∃
  (k39
  :
  Nat),
  ∃
  (k40
  :
  Nat),
  ∃
  (n6
  :
  Int),
  V.rowAt
  w24
  (Addr.mk
  k28
  0
  none)
  0
  3 =
  some
  [Value.int
  IntKind.i64
  n5,
  Value.slice
  o18
  k39
  k40,
  Value.int
  IntKind.i64
  n6] ∧
  new
  w24
  (Obj.cells
  (Array.mk
  [Value.int
  IntKind.i64
  n5,
  Value.slice
  o18
  k39
  k40,
  Value.int
  IntKind.i64
  n6])
  51)
  fun
  (k41 :
  Nat)
  (w25 :
  World) =>
  RunS
  Proofs.Tryd.prog
  (Builtin.append_
  (Array.mk
  [25,
  25])
  25
  (Array.mk
  [Value.slice
  o17
  k37
  k38,
  Value.slice
  (some
  (Addr.mk
  k41
  0
  none))
  1
  1]))
  w25
  fun
  (v5 :
  Value)
  (w26 :
  World) =>
  ∃
  (o19
  :
  Option
  Addr),
  ∃
  (k42
  :
  Nat),
  ∃
  (k43
  :
  Nat),
  v5 =
  Value.slice
  o19
  k42
  k43 ∧
  st1
  w26
  (Addr.add
  (Addr.mk
  k3
  0
  none)
  4)
  (Value.slice
  o19
  k42
  k43)
  fun
  (w27 :
  World) =>
  inI
  (n2 +
  1) ∧
  x1
  (n2 +
  1)
  w27 ∧
  x2
  (n2 +
  1)
  w27 <
  x2
  n2
  w11)
  (∃ (o20 : Option Addr),
  ∃ (k44 : Nat),
  ∃ (k45 : Nat),
  ∃ (o21 : Option Addr),
  ∃ (k46 : Nat),
  ∃ (k47 : Nat),
  ∃ (o22 : Option Addr),
  ∃ (k48 : Nat),
  ∃ (k49 : Nat),
  ∃ (n7 : Int),
  ∃ (o23 : Option Addr),
  ∃ (k50 : Nat),
  ∃ (k51 : Nat),
  V.rowAt w11 (Addr.mk k3 0 none) 0 5 =
  some
  [Value.slice o20 k44 k45,
  Value.slice o21 k46 k47,
  Value.slice o22 k48 k49,
  Value.int IntKind.i64 n7,
  Value.slice o23 k50 k51] ∧
  stR w11 (Addr.mk k2 0 none)
  [Value.slice o20 k44 k45,
  Value.slice o21 k46 k47,
  Value.slice o22 k48 k49,
  Value.int IntKind.i64 n7,
  Value.slice o23 k50 k51]
  fun (w28 : World) =>
  ∃ (o24 : Option Addr),
  ∃ (k52 : Nat),
  ∃ (k53 : Nat),
  ∃ (o25 : Option Addr),
  ∃ (k54 : Nat),
  ∃ (k55 : Nat),
  ∃ (o26 : Option Addr),
  ∃ (k56 : Nat),
  ∃ (k57 : Nat),
  ∃ (n8 : Int),
  ∃ (o27 :
  Option
  Addr),
  ∃ (k58 :
  Nat),
  ∃ (k59 :
  Nat),
  V.rowAt
  w28
  (Addr.mk
  k2
  0
  none)
  0
  5 =
  some
  [Value.slice
  o24
  k52
  k53,
  Value.slice
  o25
  k54
  k55,
  Value.slice
  o26
  k56
  k57,
  Value.int
  IntKind.i64
  n8,
  Value.slice
  o27
  k58
  k59] ∧
  R
  (Value.agg
  (Array.mk
  [Value.slice
  o24
  k52
  k53,
  Value.slice
  o25
  k54
  k55,
  Value.slice
  o26
  k56
  k57,
  Value.int
  IntKind.i64
  n8,
  Value.slice
  o27
  k58
  k59]))
  w28)
set_option maxRecDepth 100000 in
theorem run_presageref02_Copy (p0g_0a : Option Addr) (p0g_0l : Nat) (p0g_0c : Nat) (p0g_1a : Option Addr) (p0g_1l : Nat) (p0g_1c : Nat) (p0g_2a : Option Addr) (p0g_2l : Nat) (p0g_2c : Nat) (p0g_3 : Int) (p0g_4a : Option Addr) (p0g_4l : Nat) (p0g_4c : Nat) (w : World) (R : Value → World → Prop) (h : vc_presageref02_Copy p0g_0a p0g_0l p0g_0c p0g_1a p0g_1l p0g_1c p0g_2a p0g_2l p0g_2c p0g_3 p0g_4a p0g_4l p0g_4c w R) : Run Tryd.prog 14 [(.agg #[(.slice p0g_0a p0g_0l p0g_0c), (.slice p0g_1a p0g_1l p0g_1c), (.slice p0g_2a p0g_2l p0g_2c), (.int .i64 p0g_3), (.slice p0g_4a p0g_4l p0g_4c)])] w R :=
  run_ev tyOk fnOk mixed Tryd.func14 ann_presageref02_Copy ((by kernel_rfl : fnV Tryd.prog Ty Fn Ev ann_presageref02_Copy Tryd.f14 [(.agg #[(.slice p0g_0a p0g_0l p0g_0c), (.slice p0g_1a p0g_1l p0g_1c), (.slice p0g_2a p0g_2l p0g_2c), (.int .i64 p0g_3), (.slice p0g_4a p0g_4l p0g_4c)])] w R = vc_presageref02_Copy p0g_0a p0g_0l p0g_0c p0g_1a p0g_1l p0g_1c p0g_2a p0g_2l p0g_2c p0g_3 p0g_4a p0g_4l p0g_4c w R) ▸ h)

abbrev n_presageref02_Valid : FuncId := 28
def ann_presageref02_Valid : Ann := { rngs := [], loops := [(6, [(5, (.one (.int .i64)))])], joins := [], blocks := [] }
set_option maxRecDepth 100000 in
def vc_presageref02_Valid (p0g_0a : Option Addr) (p0g_0l : Nat) (p0g_0c : Nat) (p0g_1a : Option Addr) (p0g_1l : Nat) (p0g_1c : Nat) (p0g_2a : Option Addr) (p0g_2l : Nat) (p0g_2c : Nat) (p0g_3 : Int) (p0g_4a : Option Addr) (p0g_4l : Nat) (p0g_4c : Nat) (w : World) (R : Value → World → Prop) : Prop :=
  new w
  (Obj.cells
  (Array.mk [Value.slice p0g_0a p0g_0l p0g_0c, Value.slice p0g_1a p0g_1l p0g_1c, Value.slice p0g_2a p0g_2l p0g_2c, Value.int IntKind.i64 p0g_3, Value.slice p0g_4a p0g_4l p0g_4c])
  27)
  fun (k1 : Nat) (w1 : World) =>
  ∃ (o1 : Option Addr),
  ∃ (k2 : Nat),
  ∃ (k3 : Nat),
  ∃ (o2 : Option Addr),
  ∃ (k4 : Nat),
  ∃ (k5 : Nat),
  ∃ (o3 : Option Addr),
  ∃ (k6 : Nat),
  ∃ (k7 : Nat),
  ∃ (n1 : Int),
  ∃ (o4 : Option Addr),
  ∃ (k8 : Nat),
  ∃ (k9 : Nat),
  V.rowAt w1 (Addr.mk k1 0 none) 0 5 =
  some [Value.slice o1 k2 k3, Value.slice o2 k4 k5, Value.slice o3 k6 k7, Value.int IntKind.i64 n1, Value.slice o4 k8 k9] ∧
  RunE Proofs.Tryd.prog Ev 59
  [Value.agg (Array.mk [Value.slice o1 k2 k3, Value.slice o2 k4 k5, Value.slice o3 k6 k7, Value.int IntKind.i64 n1, Value.slice o4 k8 k9]),
  Value.int IntKind.i64 0]
  w1 fun (v1 : Value) (w2 : World) =>
  ∃ (b1 : Bool),
  v1 = Value.bool b1 ∧
  br (!b1) (R (Value.bool false) w2)
  (∃ (o5 : Option Addr),
  ∃ (k10 : Nat),
  ∃ (k11 : Nat),
  ∃ (o6 : Option Addr),
  ∃ (k12 : Nat),
  ∃ (k13 : Nat),
  ∃ (o7 : Option Addr),
  ∃ (k14 : Nat),
  ∃ (k15 : Nat),
  ∃ (n2 : Int),
  ∃ (o8 : Option Addr),
  ∃ (k16 : Nat),
  ∃ (k17 : Nat),
  V.rowAt w2 (Addr.mk k1 0 none) 0 5 =
  some
  [Value.slice o5 k10 k11, Value.slice o6 k12 k13, Value.slice o7 k14 k15, Value.int IntKind.i64 n2,
  Value.slice o8 k16 k17] ∧
  RunE Proofs.Tryd.prog Ev 60
  [Value.agg
  (Array.mk
  [Value.slice o5 k10 k11, Value.slice o6 k12 k13, Value.slice o7 k14 k15, Value.int IntKind.i64 n2,
  Value.slice o8 k16 k17]),
  Value.int IntKind.i64 0]
  w2 fun (v2 : Value) (w3 : World) =>
  ∃ (o9 : Option Addr),
  ∃ (k18 : Nat),
  ∃ (k19 : Nat),
  v2 = Value.slice o9 k18 k19 ∧
  ∃ (x1 : arrS (shs [(5, S1.one (Cs.int IntKind.i64))]) (World → Prop)),
  ∃ (x2 : arrS (shs [(5, S1.one (Cs.int IntKind.i64))]) (World → Nat)),
  x1 0 w3 ∧
  ∀ (I1 : Nat → Value) (n3 : Int) (w4 : World),
  x1 n3 w4 →
  br (decide (n3 < (↑k18 : Int)))
  (∀ (w5 : World),
  drawn w4 w5 →
  ∃ (I2 : World → Prop),
  I2 w5 ∧
  idx o9 k18 n3 1 fun (a1 : Addr) =>
  ∃ (n4 : Int),
  (∀ (w6 : World), I2 w6 → World.cell? w6 a1 = some (Value.int IntKind.i64 n4)) ∧
  ∃ (o10 : Option Addr),
  ∃ (k20 : Nat),
  ∃ (k21 : Nat),
  (∀ (w7 : World),
  I2 w7 →
  World.cell? w7 (Addr.mk k1 0 none) =
  some (Value.slice o10 k20 k21)) ∧
  inI ((↑k20 : Int) + n3) ∧
  br (n4 != (↑k20 : Int) + n3) (R (Value.bool false) w5)
  (inI (n3 + 1) ∧ x1 (n3 + 1) w5 ∧ x2 (n3 + 1) w5 < x2 n3 w4))
  (R (Value.bool true) w4))
set_option maxRecDepth 100000 in
theorem run_presageref02_Valid (p0g_0a : Option Addr) (p0g_0l : Nat) (p0g_0c : Nat) (p0g_1a : Option Addr) (p0g_1l : Nat) (p0g_1c : Nat) (p0g_2a : Option Addr) (p0g_2l : Nat) (p0g_2c : Nat) (p0g_3 : Int) (p0g_4a : Option Addr) (p0g_4l : Nat) (p0g_4c : Nat) (w : World) (R : Value → World → Prop) (h : vc_presageref02_Valid p0g_0a p0g_0l p0g_0c p0g_1a p0g_1l p0g_1c p0g_2a p0g_2l p0g_2c p0g_3 p0g_4a p0g_4l p0g_4c w R) : Run Tryd.prog 28 [(.agg #[(.slice p0g_0a p0g_0l p0g_0c), (.slice p0g_1a p0g_1l p0g_1c), (.slice p0g_2a p0g_2l p0g_2c), (.int .i64 p0g_3), (.slice p0g_4a p0g_4l p0g_4c)])] w R :=
  run_ev tyOk fnOk mixed Tryd.func28 ann_presageref02_Valid ((by kernel_rfl : fnV Tryd.prog Ty Fn Ev ann_presageref02_Valid Tryd.f28 [(.agg #[(.slice p0g_0a p0g_0l p0g_0c), (.slice p0g_1a p0g_1l p0g_1c), (.slice p0g_2a p0g_2l p0g_2c), (.int .i64 p0g_3), (.slice p0g_4a p0g_4l p0g_4c)])] w R = vc_presageref02_Valid p0g_0a p0g_0l p0g_0c p0g_1a p0g_1l p0g_1c p0g_2a p0g_2l p0g_2c p0g_3 p0g_4a p0g_4l p0g_4c w R) ▸ h)

abbrev n_presageref02_Closed : FuncId := 29
def ann_presageref02_Closed : Ann := { rngs := [], loops := [], joins := [(2, [(20, (.one .bool))])], blocks := [] }
set_option maxRecDepth 100000 in
def vc_presageref02_Closed (p0g_0a : Option Addr) (p0g_0l : Nat) (p0g_0c : Nat) (p0g_1a : Option Addr) (p0g_1l : Nat) (p0g_1c : Nat) (p0g_2a : Option Addr) (p0g_2l : Nat) (p0g_2c : Nat) (p0g_3 : Int) (p0g_4a : Option Addr) (p0g_4l : Nat) (p0g_4c : Nat) (w : World) (R : Value → World → Prop) : Prop :=
  new w
  (Obj.cells
  (Array.mk [Value.slice p0g_0a p0g_0l p0g_0c, Value.slice p0g_1a p0g_1l p0g_1c, Value.slice p0g_2a p0g_2l p0g_2c, Value.int IntKind.i64 p0g_3, Value.slice p0g_4a p0g_4l p0g_4c])
  27)
  fun (k1 : Nat) (w1 : World) =>
  ∃ (x1 : arrS (shs [(20, S1.one Cs.bool)]) (World → Prop)),
  (∃ (o1 : Option Addr),
  ∃ (k2 : Nat),
  ∃ (k3 : Nat),
  World.cell? w1 (Addr.add (Addr.mk k1 0 none) 1) = some (Value.slice o1 k2 k3) ∧
  br (decide ((↑k2 : Int) < 2)) (x1 true w1)
  (∃ (o2 : Option Addr),
  ∃ (k4 : Nat),
  ∃ (k5 : Nat),
  World.cell? w1 (Addr.add (Addr.mk k1 0 none) 1) = some (Value.slice o2 k4 k5) ∧
  idx o2 k4 0 1 fun (a1 : Addr) =>
  ∃ (s1 : ByteArray),
  World.cell? w1 a1 = some (Value.string s1) ∧
  br (!ByteArray.toList s1 == ByteArray.toList (ByteArray.mk (Array.mk []))) (x1 true w1)
  (∃ (o3 : Option Addr),
  ∃ (k6 : Nat), ∃ (k7 : Nat), World.cell? w1 (Addr.add (Addr.mk k1 0 none) 4) = some (Value.slice o3 k6 k7) ∧ x1 (decide ((↑k6 : Int) < 2)) w1))) ∧
  ∀ (I1 : Nat → Value) (b1 : Bool) (w2 : World),
  x1 b1 w2 →
  br b1 (R (Value.bool false) w2)
  (∃ (o4 : Option Addr),
  ∃ (k8 : Nat),
  ∃ (k9 : Nat),
  World.cell? w2 (Addr.add (Addr.mk k1 0 none) 4) = some (Value.slice o4 k8 k9) ∧
  idx o4 k8 0 3 fun (a2 : Addr) =>
  ∃ (n1 : Int),
  ∃ (o5 : Option Addr),
  ∃ (k10 : Nat),
  ∃ (k11 : Nat),
  ∃ (n2 : Int),
  V.rowAt w2 a2 0 3 = some [Value.int IntKind.i64 n1, Value.slice o5 k10 k11, Value.int IntKind.i64 n2] ∧
  new w2 (Obj.cells (Array.mk [Value.int IntKind.i64 0, Value.slice none 0 0, Value.int IntKind.i64 0]) 51) fun (k12 : Nat) (w3 : World) =>
  stR w3 (Addr.mk k12 0 none) [Value.int IntKind.i64 n1, Value.slice o5 k10 k11, Value.int IntKind.i64 n2] fun (w4 : World) =>
  ∀ (w5 : World),
  drawn w4 w5 →
  ∃ (I2 : World → Prop),
  I2 w5 ∧
  ∃ (n3 : Int),
  (∀ (w6 : World), I2 w6 → World.cell? w6 (Addr.mk k12 0 none) = some (Value.int IntKind.i64 n3)) ∧
  ∃ (o6 : Option Addr),
  ∃ (k13 : Nat),
  ∃ (k14 : Nat),
  (∀ (w7 : World), I2 w7 → World.cell? w7 (Addr.mk k1 0 none) = some (Value.slice o6 k13 k14)) ∧
  br (n3 != (↑k13 : Int)) (R (Value.bool false) w5)
  (∃ (o7 : Option Addr),
  ∃ (k15 : Nat),
  ∃ (k16 : Nat),
  (∀ (w8 : World), I2 w8 → World.cell? w8 (Addr.add (Addr.mk k12 0 none) 1) = some (Value.slice o7 k15 k16)) ∧
  br ((↑k15 : Int) != 1) (R (Value.bool false) w5)
  (∃ (o8 : Option Addr),
  ∃ (k17 : Nat),
  ∃ (k18 : Nat),
  (∀ (w9 : World),
  I2 w9 → World.cell? w9 (Addr.add (Addr.mk k12 0 none) 1) = some (Value.slice o8 k17 k18)) ∧
  idx o8 k17 0 1 fun (a3 : Addr) =>
  ∃ (n4 : Int),
  (∀ (w10 : World), I2 w10 → World.cell? w10 a3 = some (Value.int IntKind.i64 n4)) ∧
  ∃ (n5 : Int),
  (∀ (w11 : World),
  I2 w11 →
  World.cell? w11 (Addr.add (Addr.mk k1 0 none) 3) = some (Value.int IntKind.i64 n5)) ∧
  br (n4 != n5) (R (Value.bool false) w5)
  (∃ (n6 : Int),
  (∀ (w12 : World),
  I2 w12 →
  World.cell? w12 (Addr.add (Addr.mk k12 0 none) 2) =
  some (Value.int IntKind.i64 n6)) ∧
  br (n6 != 0) (R (Value.bool false) w5)
  (∃ (o9 : Option Addr),
  ∃ (k19 : Nat),
  ∃ (k20 : Nat),
  ∃ (o10 : Option Addr),
  ∃ (k21 : Nat),
  ∃ (k22 : Nat),
  ∃ (o11 : Option Addr),
  ∃ (k23 : Nat),
  ∃ (k24 : Nat),
  ∃ (n7 : Int),
  ∃ (o12 : Option Addr),
  ∃ (k25 : Nat),
  ∃ (k26 : Nat),
  V.rowAt w5 (Addr.mk k1 0 none) 0 5 =
  some
  [Value.slice o9 k19 k20, Value.slice o10 k21 k22,
  Value.slice o11 k23 k24, Value.int IntKind.i64 n7,
  Value.slice o12 k25 k26] ∧
  RunE Proofs.Tryd.prog Ev 59
  [Value.agg
  (Array.mk
  [Value.slice o9 k19 k20,
  Value.slice o10 k21 k22,
  Value.slice o11 k23 k24,
  Value.int IntKind.i64 n7,
  Value.slice o12 k25 k26]),
  Value.int IntKind.i64 1]
  w5 fun (v1 : Value) (w13 : World) =>
  ∃ (b2 : Bool),
  v1 = Value.bool b2 ∧ R (Value.bool b2) w13)))))
set_option maxRecDepth 100000 in
theorem run_presageref02_Closed (p0g_0a : Option Addr) (p0g_0l : Nat) (p0g_0c : Nat) (p0g_1a : Option Addr) (p0g_1l : Nat) (p0g_1c : Nat) (p0g_2a : Option Addr) (p0g_2l : Nat) (p0g_2c : Nat) (p0g_3 : Int) (p0g_4a : Option Addr) (p0g_4l : Nat) (p0g_4c : Nat) (w : World) (R : Value → World → Prop) (h : vc_presageref02_Closed p0g_0a p0g_0l p0g_0c p0g_1a p0g_1l p0g_1c p0g_2a p0g_2l p0g_2c p0g_3 p0g_4a p0g_4l p0g_4c w R) : Run Tryd.prog 29 [(.agg #[(.slice p0g_0a p0g_0l p0g_0c), (.slice p0g_1a p0g_1l p0g_1c), (.slice p0g_2a p0g_2l p0g_2c), (.int .i64 p0g_3), (.slice p0g_4a p0g_4l p0g_4c)])] w R :=
  run_ev tyOk fnOk mixed Tryd.func29 ann_presageref02_Closed ((by kernel_rfl : fnV Tryd.prog Ty Fn Ev ann_presageref02_Closed Tryd.f29 [(.agg #[(.slice p0g_0a p0g_0l p0g_0c), (.slice p0g_1a p0g_1l p0g_1c), (.slice p0g_2a p0g_2l p0g_2c), (.int .i64 p0g_3), (.slice p0g_4a p0g_4l p0g_4c)])] w R = vc_presageref02_Closed p0g_0a p0g_0l p0g_0c p0g_1a p0g_1l p0g_1c p0g_2a p0g_2l p0g_2c p0g_3 p0g_4a p0g_4l p0g_4c w R) ▸ h)

abbrev n_presageref02_Symbols : FuncId := 30
def ann_presageref02_Symbols : Ann := { rngs := [], loops := [], joins := [], blocks := [] }
set_option maxRecDepth 100000 in
def vc_presageref02_Symbols (p0g_0a : Option Addr) (p0g_0l : Nat) (p0g_0c : Nat) (p0g_1a : Option Addr) (p0g_1l : Nat) (p0g_1c : Nat) (p0g_2a : Option Addr) (p0g_2l : Nat) (p0g_2c : Nat) (p0g_3 : Int) (p0g_4a : Option Addr) (p0g_4l : Nat) (p0g_4c : Nat) (w : World) (R : Value → World → Prop) : Prop :=
  new w
  (Obj.cells
  (Array.mk [Value.slice p0g_0a p0g_0l p0g_0c, Value.slice p0g_1a p0g_1l p0g_1c, Value.slice p0g_2a p0g_2l p0g_2c, Value.int IntKind.i64 p0g_3, Value.slice p0g_4a p0g_4l p0g_4c])
  27)
  fun (k1 : Nat) (w1 : World) =>
  ∃ (o1 : Option Addr),
  ∃ (k2 : Nat),
  ∃ (k3 : Nat),
  World.cell? w1 (Addr.mk k1 0 none) = some (Value.slice o1 k2 k3) ∧
  ∃ (o2 : Option Addr),
  ∃ (k4 : Nat),
  ∃ (k5 : Nat),
  World.cell? w1 (Addr.add (Addr.mk k1 0 none) 1) = some (Value.slice o2 k4 k5) ∧
  inI ((↑k2 : Int) + (↑k4 : Int)) ∧ R (Value.int IntKind.i64 ((↑k2 : Int) + (↑k4 : Int))) w1
set_option maxRecDepth 100000 in
theorem run_presageref02_Symbols (p0g_0a : Option Addr) (p0g_0l : Nat) (p0g_0c : Nat) (p0g_1a : Option Addr) (p0g_1l : Nat) (p0g_1c : Nat) (p0g_2a : Option Addr) (p0g_2l : Nat) (p0g_2c : Nat) (p0g_3 : Int) (p0g_4a : Option Addr) (p0g_4l : Nat) (p0g_4c : Nat) (w : World) (R : Value → World → Prop) (h : vc_presageref02_Symbols p0g_0a p0g_0l p0g_0c p0g_1a p0g_1l p0g_1c p0g_2a p0g_2l p0g_2c p0g_3 p0g_4a p0g_4l p0g_4c w R) : Run Tryd.prog 30 [(.agg #[(.slice p0g_0a p0g_0l p0g_0c), (.slice p0g_1a p0g_1l p0g_1c), (.slice p0g_2a p0g_2l p0g_2c), (.int .i64 p0g_3), (.slice p0g_4a p0g_4l p0g_4c)])] w R :=
  run_ev tyOk fnOk mixed Tryd.func30 ann_presageref02_Symbols ((by kernel_rfl : fnV Tryd.prog Ty Fn Ev ann_presageref02_Symbols Tryd.f30 [(.agg #[(.slice p0g_0a p0g_0l p0g_0c), (.slice p0g_1a p0g_1l p0g_1c), (.slice p0g_2a p0g_2l p0g_2c), (.int .i64 p0g_3), (.slice p0g_4a p0g_4l p0g_4c)])] w R = vc_presageref02_Symbols p0g_0a p0g_0l p0g_0c p0g_1a p0g_1l p0g_1c p0g_2a p0g_2l p0g_2c p0g_3 p0g_4a p0g_4l p0g_4c w R) ▸ h)

abbrev n_presageref02_fits : FuncId := 59
def ann_presageref02_fits : Ann := { rngs := [], loops := [], joins := [(2, [(43, (.one .bool))])], blocks := [] }
set_option maxRecDepth 100000 in
def vc_presageref02_fits (p0g_0a : Option Addr) (p0g_0l : Nat) (p0g_0c : Nat) (p0g_1a : Option Addr) (p0g_1l : Nat) (p0g_1c : Nat) (p0g_2a : Option Addr) (p0g_2l : Nat) (p0g_2c : Nat) (p0g_3 : Int) (p0g_4a : Option Addr) (p0g_4l : Nat) (p0g_4c : Nat) (p1added : Int) (w : World) (R : Value → World → Prop) : Prop :=
  new w
  (Obj.cells
  (Array.mk [Value.slice p0g_0a p0g_0l p0g_0c, Value.slice p0g_1a p0g_1l p0g_1c, Value.slice p0g_2a p0g_2l p0g_2c, Value.int IntKind.i64 p0g_3, Value.slice p0g_4a p0g_4l p0g_4c])
  27)
  fun (k1 : Nat) (w1 : World) =>
  ∃ (x1 : arrS (shs [(43, S1.one Cs.bool)]) (World → Prop)),
  (∃ (o1 : Option Addr),
  ∃ (k2 : Nat),
  ∃ (k3 : Nat),
  World.cell? w1 (Addr.add (Addr.mk k1 0 none) 1) = some (Value.slice o1 k2 k3) ∧
  inI (64 + p1added) ∧
  br (decide (64 + p1added < (↑k2 : Int))) (x1 true w1)
  (∃ (o2 : Option Addr),
  ∃ (k4 : Nat),
  ∃ (k5 : Nat),
  World.cell? w1 (Addr.mk k1 0 none) = some (Value.slice o2 k4 k5) ∧
  br (decide (65 < (↑k4 : Int))) (x1 true w1)
  (∃ (o3 : Option Addr),
  ∃ (k6 : Nat),
  ∃ (k7 : Nat),
  World.cell? w1 (Addr.add (Addr.mk k1 0 none) 4) = some (Value.slice o3 k6 k7) ∧
  inI (96 + p1added) ∧
  br (decide (96 + p1added < (↑k6 : Int))) (x1 true w1)
  (∃ (o4 : Option Addr),
  ∃ (k8 : Nat),
  ∃ (k9 : Nat),
  World.cell? w1 (Addr.add (Addr.mk k1 0 none) 4) = some (Value.slice o4 k8 k9) ∧
  inI (1 + p1added) ∧
  br (decide ((↑k8 : Int) < 1 + p1added)) (x1 true w1)
  (∃ (o5 : Option Addr),
  ∃ (k10 : Nat),
  ∃ (k11 : Nat),
  World.cell? w1 (Addr.add (Addr.mk k1 0 none) 2) = some (Value.slice o5 k10 k11) ∧
  x1 (decide (64 < (↑k10 : Int))) w1))))) ∧
  ∀ (I1 : Nat → Value) (b1 : Bool) (w2 : World),
  x1 b1 w2 →
  br b1 (R (Value.bool false) w2)
  (∃ (o6 : Option Addr),
  ∃ (k12 : Nat),
  ∃ (k13 : Nat),
  World.cell? w2 (Addr.mk k1 0 none) = some (Value.slice o6 k12 k13) ∧
  inI ((↑k12 : Int) - 1) ∧
  ∃ (o7 : Option Addr),
  ∃ (k14 : Nat),
  ∃ (k15 : Nat),
  World.cell? w2 (Addr.add (Addr.mk k1 0 none) 1) = some (Value.slice o7 k14 k15) ∧
  inI ((↑k12 : Int) - 1 + (↑k14 : Int)) ∧
  inI ((↑k12 : Int) - 1 + (↑k14 : Int) - p1added) ∧
  br (decide (64 < (↑k12 : Int) - 1 + (↑k14 : Int) - p1added)) (R (Value.bool false) w2)
  (∃ (o8 : Option Addr),
  ∃ (k16 : Nat),
  ∃ (k17 : Nat),
  ∃ (o9 : Option Addr),
  ∃ (k18 : Nat),
  ∃ (k19 : Nat),
  ∃ (o10 : Option Addr),
  ∃ (k20 : Nat),
  ∃ (k21 : Nat),
  ∃ (n1 : Int),
  ∃ (o11 : Option Addr),
  ∃ (k22 : Nat),
  ∃ (k23 : Nat),
  V.rowAt w2 (Addr.mk k1 0 none) 0 5 =
  some
  [Value.slice o8 k16 k17, Value.slice o9 k18 k19, Value.slice o10 k20 k21, Value.int IntKind.i64 n1,
  Value.slice o11 k22 k23] ∧
  RunE Proofs.Tryd.prog Ev 79
  [Value.agg
  (Array.mk
  [Value.slice o8 k16 k17, Value.slice o9 k18 k19, Value.slice o10 k20 k21, Value.int IntKind.i64 n1,
  Value.slice o11 k22 k23])]
  w2 fun (v1 : Value) (w3 : World) =>
  ∃ (b2 : Bool),
  v1 = Value.bool b2 ∧
  br (!b2) (R (Value.bool false) w3)
  (∃ (o12 : Option Addr),
  ∃ (k24 : Nat),
  ∃ (k25 : Nat),
  ∃ (o13 : Option Addr),
  ∃ (k26 : Nat),
  ∃ (k27 : Nat),
  ∃ (o14 : Option Addr),
  ∃ (k28 : Nat),
  ∃ (k29 : Nat),
  ∃ (n2 : Int),
  ∃ (o15 : Option Addr),
  ∃ (k30 : Nat),
  ∃ (k31 : Nat),
  V.rowAt w3 (Addr.mk k1 0 none) 0 5 =
  some
  [Value.slice o12 k24 k25, Value.slice o13 k26 k27, Value.slice o14 k28 k29,
  Value.int IntKind.i64 n2, Value.slice o15 k30 k31] ∧
  RunE Proofs.Tryd.prog Ev 80
  [Value.agg
  (Array.mk
  [Value.slice o12 k24 k25, Value.slice o13 k26 k27,
  Value.slice o14 k28 k29, Value.int IntKind.i64 n2,
  Value.slice o15 k30 k31])]
  w3 fun (v2 : Value) (w4 : World) =>
  ∃ (b3 : Bool),
  v2 = Value.bool b3 ∧
  ∃ (o16 : Option Addr),
  ∃ (k32 : Nat),
  ∃ (k33 : Nat),
  ∃ (o17 : Option Addr),
  ∃ (k34 : Nat),
  ∃ (k35 : Nat),
  ∃ (o18 : Option Addr),
  ∃ (k36 : Nat),
  ∃ (k37 : Nat),
  ∃ (n3 : Int),
  ∃ (o19 : Option Addr),
  ∃ (k38 : Nat),
  ∃ (k39 : Nat),
  V.rowAt w4 (Addr.mk k1 0 none) 0 5 =
  some
  [Value.slice o16 k32 k33,
  Value.slice o17 k34 k35,
  Value.slice o18 k36 k37,
  Value.int IntKind.i64 n3,
  Value.slice o19 k38 k39] ∧
  RunE Proofs.Tryd.prog Ev 81
  [Value.agg
  (Array.mk
  [Value.slice o16 k32 k33,
  Value.slice o17 k34 k35,
  Value.slice o18 k36 k37,
  Value.int IntKind.i64 n3,
  Value.slice o19 k38 k39]),
  Value.int IntKind.i64 p1added]
  w4 fun (v3 : Value) (w5 : World) =>
  ∃ (b4 : Bool),
  v3 = Value.bool b4 ∧
  ∃ (o20 : Option Addr),
  ∃ (k40 : Nat),
  ∃ (k41 : Nat),
  ∃ (o21 : Option Addr),
  ∃ (k42 : Nat),
  ∃ (k43 : Nat),
  ∃ (o22 : Option Addr),
  ∃ (k44 : Nat),
  ∃ (k45 : Nat),
  ∃ (n4 : Int),
  ∃ (o23 :
  Option Addr),
  ∃ (k46 : Nat),
  ∃ (k47 : Nat),
  V.rowAt w5
  (Addr.mk
  k1 0
  none)
  0 5 =
  some
  [Value.slice
  o20
  k40
  k41,
  Value.slice
  o21
  k42
  k43,
  Value.slice
  o22
  k44
  k45,
  Value.int
  IntKind.i64
  n4,
  Value.slice
  o23
  k46
  k47] ∧
  ∃ (o24 :
  Option
  Addr),
  ∃ (k48 :
  Nat),
  ∃ (k49 :
  Nat),
  World.cell?
  w5
  (Addr.mk
  k1
  0
  none) =
  some
  (Value.slice
  o24
  k48
  k49) ∧
  inI
  ((↑k48 :
  Int) +
  p1added) ∧
  RunE
  Proofs.Tryd.prog
  Ev
  82
  [Value.agg
  (Array.mk
  [Value.slice
  o20
  k40
  k41,
  Value.slice
  o21
  k42
  k43,
  Value.slice
  o22
  k44
  k45,
  Value.int
  IntKind.i64
  n4,
  Value.slice
  o23
  k46
  k47]),
  Value.int
  IntKind.i64
  p1added,
  Value.int
  IntKind.i64
  ((↑k48 :
  Int) +
  p1added)]
  w5
  fun
  (v4 :
  Value)
  (w6 :
  World) =>
  ∃
  (b5
  :
  Bool),
  v4 =
  Value.bool
  b5 ∧
  ∃
  (o25
  :
  Option
  Addr),
  ∃
  (k50
  :
  Nat),
  ∃
  (k51
  :
  Nat),
  ∃
  (o26
  :
  Option
  Addr),
  ∃
  (k52
  :
  Nat),
  ∃
  (k53
  :
  Nat),
  ∃
  (o27
  :
  Option
  Addr),
  ∃
  (k54
  :
  Nat),
  ∃
  (k55
  :
  Nat),
  ∃
  (n5
  :
  Int),
  ∃
  (o28
  :
  Option
  Addr),
  ∃
  (k56
  :
  Nat),
  ∃
  (k57
  :
  Nat),
  V.rowAt
  w6
  (Addr.mk
  k1
  0
  none)
  0
  5 =
  some
  [Value.slice
  o25
  k50
  k51,
  Value.slice
  o26
  k52
  k53,
  Value.slice
  o27
  k54
  k55,
  Value.int
  IntKind.i64
  n5,
  Value.slice
  o28
  k56
  k57] ∧
  RunE
  Proofs.Tryd.prog
  Ev
  60
  [Value.agg
  (Array.mk
  [Value.slice
  o25
  k50
  k51,
  Value.slice
  o26
  k52
  k53,
  Value.slice
  o27
  k54
  k55,
  Value.int
  IntKind.i64
  n5,
  Value.slice
  o28
  k56
  k57]),
  Value.int
  IntKind.i64
  p1added]
  w6
  fun
  (v5 :
  Value)
  (w7 :
  World) =>
  ∃
  (o29
  :
  Option
  Addr),
  ∃
  (k58
  :
  Nat),
  ∃
  (k59
  :
  Nat),
  v5 =
  Value.slice
  o29
  k58
  k59 ∧
  ∀
  (w8 :
  World),
  drawn
  w7
  w8 →
  ∃
  (I2
  :
  World →
  Prop),
  I2
  w8 ∧
  br
  b3
  (br
  b4
  (br
  b5
  (∃
  (o30
  :
  Option
  Addr),
  ∃
  (k60
  :
  Nat),
  ∃
  (k61
  :
  Nat),
  (∀
  (w9 :
  World),
  I2
  w9 →
  World.cell?
  w9
  (Addr.add
  (Addr.mk
  k1
  0
  none)
  1) =
  some
  (Value.slice
  o30
  k60
  k61)) ∧
  inI
  ((↑k60 :
  Int) -
  p1added) ∧
  br
  ((↑k58 :
  Int) ==
  (↑k60 :
  Int) -
  p1added)
  (∃
  (n6
  :
  Int),
  (∀
  (w10 :
  World),
  I2
  w10 →
  World.cell?
  w10
  (Addr.add
  (Addr.mk
  k1
  0
  none)
  3) =
  some
  (Value.int
  IntKind.i64
  n6)) ∧
  ∃
  (o31
  :
  Option
  Addr),
  ∃
  (k62
  :
  Nat),
  ∃
  (k63
  :
  Nat),
  (∀
  (w11 :
  World),
  I2
  w11 →
  World.cell?
  w11
  (Addr.mk
  k1
  0
  none) =
  some
  (Value.slice
  o31
  k62
  k63)) ∧
  inI
  ((↑k62 :
  Int) +
  p1added) ∧
  br
  (decide
  ((↑k62 :
  Int) +
  p1added ≤
  n6))
  (∃
  (n7
  :
  Int),
  (∀
  (w12 :
  World),
  I2
  w12 →
  World.cell?
  w12
  (Addr.add
  (Addr.mk
  k1
  0
  none)
  3) =
  some
  (Value.int
  IntKind.i64
  n7)) ∧
  ∃
  (o32
  :
  Option
  Addr),
  ∃
  (k64
  :
  Nat),
  ∃
  (k65
  :
  Nat),
  ∃
  (o33
  :
  Option
  Addr),
  ∃
  (k66
  :
  Nat),
  ∃
  (k67
  :
  Nat),
  ∃
  (o34
  :
  Option
  Addr),
  ∃
  (k68
  :
  Nat),
  ∃
  (k69
  :
  Nat),
  ∃
  (n8
  :
  Int),
  ∃
  (o35
  :
  Option
  Addr),
  ∃
  (k70
  :
  Nat),
  ∃
  (k71
  :
  Nat),
  (∀
  (w13 :
  World),
  I2
  w13 →
  V.rowAt
  w13
  (Addr.mk
  k1
  0
  none)
  0
  5 =
  some
  [Value.slice
  o32
  k64
  k65,
  Value.slice
  o33
  k66
  k67,
  Value.slice
  o34
  k68
  k69,
  Value.int
  IntKind.i64
  n8,
  Value.slice
  o35
  k70
  k71]) ∧
  RunE
  Proofs.Tryd.prog
  Ev
  30
  [Value.agg
  (Array.mk
  [Value.slice
  o32
  k64
  k65,
  Value.slice
  o33
  k66
  k67,
  Value.slice
  o34
  k68
  k69,
  Value.int
  IntKind.i64
  n8,
  Value.slice
  o35
  k70
  k71])]
  w8
  fun
  (v6 :
  Value)
  (w14 :
  World) =>
  ∃
  (n9
  :
  Int),
  v6 =
  Value.int
  IntKind.i64
  n9 ∧
  I2
  w14 ∧
  R
  (Value.bool
  (decide
  (n7 <
  n9)))
  w14)
  (R
  (Value.bool
  false)
  w8))
  (R
  (Value.bool
  false)
  w8))
  (R
  (Value.bool
  false)
  w8))
  (R
  (Value.bool
  false)
  w8))
  (R
  (Value.bool
  false)
  w8))))
set_option maxRecDepth 100000 in
theorem run_presageref02_fits (p0g_0a : Option Addr) (p0g_0l : Nat) (p0g_0c : Nat) (p0g_1a : Option Addr) (p0g_1l : Nat) (p0g_1c : Nat) (p0g_2a : Option Addr) (p0g_2l : Nat) (p0g_2c : Nat) (p0g_3 : Int) (p0g_4a : Option Addr) (p0g_4l : Nat) (p0g_4c : Nat) (p1added : Int) (w : World) (R : Value → World → Prop) (h : vc_presageref02_fits p0g_0a p0g_0l p0g_0c p0g_1a p0g_1l p0g_1c p0g_2a p0g_2l p0g_2c p0g_3 p0g_4a p0g_4l p0g_4c p1added w R) : Run Tryd.prog 59 [(.agg #[(.slice p0g_0a p0g_0l p0g_0c), (.slice p0g_1a p0g_1l p0g_1c), (.slice p0g_2a p0g_2l p0g_2c), (.int .i64 p0g_3), (.slice p0g_4a p0g_4l p0g_4c)]), (.int .i64 p1added)] w R :=
  run_ev tyOk fnOk mixed Tryd.func59 ann_presageref02_fits ((by kernel_rfl : fnV Tryd.prog Ty Fn Ev ann_presageref02_fits Tryd.f59 [(.agg #[(.slice p0g_0a p0g_0l p0g_0c), (.slice p0g_1a p0g_1l p0g_1c), (.slice p0g_2a p0g_2l p0g_2c), (.int .i64 p0g_3), (.slice p0g_4a p0g_4l p0g_4c)]), (.int .i64 p1added)] w R = vc_presageref02_fits p0g_0a p0g_0l p0g_0c p0g_1a p0g_1l p0g_1c p0g_2a p0g_2l p0g_2c p0g_3 p0g_4a p0g_4l p0g_4c p1added w R) ▸ h)

abbrev n_presageref02_lefts : FuncId := 60
def ann_presageref02_lefts : Ann := { rngs := [], loops := [(3, [(5, (.one .slice)), (6, (.one (.int .i64)))]), (7, [(7, (.one .bool)), (8, (.one (.int .i64)))])], joins := [], blocks := [] }
set_option maxRecDepth 100000 in
def vc_presageref02_lefts (p0g_0a : Option Addr) (p0g_0l : Nat) (p0g_0c : Nat) (p0g_1a : Option Addr) (p0g_1l : Nat) (p0g_1c : Nat) (p0g_2a : Option Addr) (p0g_2l : Nat) (p0g_2c : Nat) (p0g_3 : Int) (p0g_4a : Option Addr) (p0g_4l : Nat) (p0g_4c : Nat) (p1from : Int) (w : World) (R : Value → World → Prop) : Prop :=
  new w
  (Obj.cells
  (Array.mk [Value.slice p0g_0a p0g_0l p0g_0c, Value.slice p0g_1a p0g_1l p0g_1c, Value.slice p0g_2a p0g_2l p0g_2c, Value.int IntKind.i64 p0g_3, Value.slice p0g_4a p0g_4l p0g_4c])
  27)
  fun (k1 : Nat) (w1 : World) =>
  ∃ (x1 : arrS (shs [(5, S1.one Cs.slice), (6, S1.one (Cs.int IntKind.i64))]) (World → Prop)),
  ∃ (x2 : arrS (shs [(5, S1.one Cs.slice), (6, S1.one (Cs.int IntKind.i64))]) (World → Nat)),
  x1 none 0 0 p1from w1 ∧
  ∀ (I1 : Nat → Value) (o1 : Option Addr) (k2 k3 : Nat) (n1 : Int) (w2 : World),
  x1 o1 k2 k3 n1 w2 →
  ∃ (o2 : Option Addr),
  ∃ (k4 : Nat),
  ∃ (k5 : Nat),
  World.cell? w2 (Addr.add (Addr.mk k1 0 none) 4) = some (Value.slice o2 k4 k5) ∧
  br (decide (n1 < (↑k4 : Int)))
  (∃ (x3 : arrS (shs [(7, S1.one Cs.bool), (8, S1.one (Cs.int IntKind.i64))]) (World → Prop)),
  ∃ (x4 : arrS (shs [(7, S1.one Cs.bool), (8, S1.one (Cs.int IntKind.i64))]) (World → Nat)),
  x3 false 0 w2 ∧
  ∀ (I2 : Nat → Value) (b1 : Bool) (n2 : Int) (w3 : World),
  x3 b1 n2 w3 →
  br (decide (n2 < (↑k2 : Int)))
  (∀ (w4 : World),
  drawn w3 w4 →
  ∃ (I3 : World → Prop),
  I3 w4 ∧
  br b1 (inI (n2 + 1) ∧ x3 true (n2 + 1) w4 ∧ x4 true (n2 + 1) w4 < x4 b1 n2 w3)
  (idx o1 k2 n2 1 fun (a1 : Addr) =>
  ∃ (n3 : Int),
  (∀ (w5 : World), I3 w5 → World.cell? w5 a1 = some (Value.int IntKind.i64 n3)) ∧
  ∃ (o3 : Option Addr),
  ∃ (k6 : Nat),
  ∃ (k7 : Nat),
  (∀ (w6 : World), I3 w6 → World.cell? w6 (Addr.add (Addr.mk k1 0 none) 4) = some (Value.slice o3 k6 k7)) ∧
  idx o3 k6 n1 3 fun (a2 : Addr) =>
  ∃ (n4 : Int),
  (∀ (w7 : World), I3 w7 → World.cell? w7 a2 = some (Value.int IntKind.i64 n4)) ∧
  inI (n2 + 1) ∧ x3 (n3 == n4) (n2 + 1) w4 ∧ x4 (n3 == n4) (n2 + 1) w4 < x4 b1 n2 w3))
  (br (!b1)
  (∃ (o4 : Option Addr),
  ∃ (k8 : Nat),
  ∃ (k9 : Nat),
  World.cell? w3 (Addr.add (Addr.mk k1 0 none) 4) = some (Value.slice o4 k8 k9) ∧
  idx o4 k8 n1 3 fun (a3 : Addr) =>
  ∃ (n5 : Int),
  World.cell? w3 a3 = some (Value.int IntKind.i64 n5) ∧
  new w3 (Obj.cells (Array.mk [Value.int IntKind.i64 n5]) 3) fun (k10 : Nat) (w8 : World) =>
  RunS Proofs.Tryd.prog
  (Builtin.append_ (Array.mk [24, 24]) 24 (Array.mk [Value.slice o1 k2 k3, Value.slice (some (Addr.mk k10 0 none)) 1 1])) w8
  fun (v1 : Value) (w9 : World) =>
  ∃ (o5 : Option Addr),
  ∃ (k11 : Nat),
  ∃ (k12 : Nat),
  v1 = Value.slice o5 k11 k12 ∧ inI (n1 + 1) ∧ x1 o5 k11 k12 (n1 + 1) w9 ∧ x2 o5 k11 k12 (n1 + 1) w9 < x2 o1 k2 k3 n1 w2)
  (inI (n1 + 1) ∧ x1 o1 k2 k3 (n1 + 1) w3 ∧ x2 o1 k2 k3 (n1 + 1) w3 < x2 o1 k2 k3 n1 w2)))
  (R (Value.slice o1 k2 k3) w2)
set_option maxRecDepth 100000 in
theorem run_presageref02_lefts (p0g_0a : Option Addr) (p0g_0l : Nat) (p0g_0c : Nat) (p0g_1a : Option Addr) (p0g_1l : Nat) (p0g_1c : Nat) (p0g_2a : Option Addr) (p0g_2l : Nat) (p0g_2c : Nat) (p0g_3 : Int) (p0g_4a : Option Addr) (p0g_4l : Nat) (p0g_4c : Nat) (p1from : Int) (w : World) (R : Value → World → Prop) (h : vc_presageref02_lefts p0g_0a p0g_0l p0g_0c p0g_1a p0g_1l p0g_1c p0g_2a p0g_2l p0g_2c p0g_3 p0g_4a p0g_4l p0g_4c p1from w R) : Run Tryd.prog 60 [(.agg #[(.slice p0g_0a p0g_0l p0g_0c), (.slice p0g_1a p0g_1l p0g_1c), (.slice p0g_2a p0g_2l p0g_2c), (.int .i64 p0g_3), (.slice p0g_4a p0g_4l p0g_4c)]), (.int .i64 p1from)] w R :=
  run_ev tyOk fnOk mixed Tryd.func60 ann_presageref02_lefts ((by kernel_rfl : fnV Tryd.prog Ty Fn Ev ann_presageref02_lefts Tryd.f60 [(.agg #[(.slice p0g_0a p0g_0l p0g_0c), (.slice p0g_1a p0g_1l p0g_1c), (.slice p0g_2a p0g_2l p0g_2c), (.int .i64 p0g_3), (.slice p0g_4a p0g_4l p0g_4c)]), (.int .i64 p1from)] w R = vc_presageref02_lefts p0g_0a p0g_0l p0g_0c p0g_1a p0g_1l p0g_1c p0g_2a p0g_2l p0g_2c p0g_3 p0g_4a p0g_4l p0g_4c p1from w R) ▸ h)

abbrev n_presageref02_termsFit : FuncId := 79
def ann_presageref02_termsFit : Ann := { rngs := [], loops := [(4, [(3, (.one (.int .i64)))]), (10, [(5, (.one (.int .i64)))])], joins := [(2, [(25, (.one .bool))]), (8, [(62, (.one .bool))])], blocks := [] }
set_option maxRecDepth 100000 in
def vc_presageref02_termsFit (p0g_0a : Option Addr) (p0g_0l : Nat) (p0g_0c : Nat) (p0g_1a : Option Addr) (p0g_1l : Nat) (p0g_1c : Nat) (p0g_2a : Option Addr) (p0g_2l : Nat) (p0g_2c : Nat) (p0g_3 : Int) (p0g_4a : Option Addr) (p0g_4l : Nat) (p0g_4c : Nat) (w : World) (R : Value → World → Prop) : Prop :=
  new w
  (Obj.cells
  (Array.mk [Value.slice p0g_0a p0g_0l p0g_0c, Value.slice p0g_1a p0g_1l p0g_1c, Value.slice p0g_2a p0g_2l p0g_2c, Value.int IntKind.i64 p0g_3, Value.slice p0g_4a p0g_4l p0g_4c])
  27)
  fun (k1 : Nat) (w1 : World) =>
  ∃ (x1 : arrS (shs [(25, S1.one Cs.bool)]) (World → Prop)),
  (∃ (o1 : Option Addr),
  ∃ (k2 : Nat),
  ∃ (k3 : Nat),
  World.cell? w1 (Addr.mk k1 0 none) = some (Value.slice o1 k2 k3) ∧
  br ((↑k2 : Int) == 0) (x1 true w1)
  (∃ (o2 : Option Addr),
  ∃ (k4 : Nat),
  ∃ (k5 : Nat),
  World.cell? w1 (Addr.mk k1 0 none) = some (Value.slice o2 k4 k5) ∧
  idx o2 k4 0 2 fun (a1 : Addr) =>
  ∃ (s1 : ByteArray),
  World.cell? w1 a1 = some (Value.string s1) ∧
  br (!ByteArray.toList s1 == ByteArray.toList (ByteArray.mk (Array.mk []))) (x1 true w1)
  (∃ (o3 : Option Addr),
  ∃ (k6 : Nat),
  ∃ (k7 : Nat),
  World.cell? w1 (Addr.mk k1 0 none) = some (Value.slice o3 k6 k7) ∧
  idx o3 k6 0 2 fun (a2 : Addr) => ∃ (n1 : Int), World.cell? w1 (Addr.add a2 1) = some (Value.int IntKind.i64 n1) ∧ x1 (n1 != 0) w1))) ∧
  ∀ (I1 : Nat → Value) (b1 : Bool) (w2 : World),
  x1 b1 w2 →
  br b1 (R (Value.bool false) w2)
  (∃ (x2 : arrS (shs [(3, S1.one (Cs.int IntKind.i64))]) (World → Prop)),
  ∃ (x3 : arrS (shs [(3, S1.one (Cs.int IntKind.i64))]) (World → Nat)),
  x2 1 w2 ∧
  ∀ (I2 : Nat → Value) (n2 : Int) (w3 : World),
  x2 n2 w3 →
  ∃ (o4 : Option Addr),
  ∃ (k8 : Nat),
  ∃ (k9 : Nat),
  World.cell? w3 (Addr.mk k1 0 none) = some (Value.slice o4 k8 k9) ∧
  br (decide (n2 < (↑k8 : Int)))
  (∃ (o5 : Option Addr),
  ∃ (k10 : Nat),
  ∃ (k11 : Nat),
  World.cell? w3 (Addr.mk k1 0 none) = some (Value.slice o5 k10 k11) ∧
  idx o5 k10 n2 2 fun (a3 : Addr) =>
  ∃ (s2 : ByteArray),
  World.cell? w3 a3 = some (Value.string s2) ∧
  RunE Proofs.Tryd.prog Ev 100 [Value.string s2] w3 fun (v1 : Value) (w4 : World) =>
  ∃ (b2 : Bool),
  v1 = Value.bool b2 ∧
  ∃ (x4 : arrS (shs [(62, S1.one Cs.bool)]) (World → Prop)),
  (∀ (w5 : World),
  drawn w4 w5 →
  ∃ (I3 : World → Prop),
  I3 w5 ∧
  br (!b2) (x4 true w5)
  (∃ (o6 : Option Addr),
  ∃ (k12 : Nat),
  ∃ (k13 : Nat),
  (∀ (w6 : World), I3 w6 → World.cell? w6 (Addr.mk k1 0 none) = some (Value.slice o6 k12 k13)) ∧
  idx o6 k12 n2 2 fun (a4 : Addr) =>
  ∃ (n3 : Int),
  (∀ (w7 : World), I3 w7 → World.cell? w7 (Addr.add a4 1) = some (Value.int IntKind.i64 n3)) ∧
  br (decide (n3 < 0)) (x4 true w5)
  (∃ (o7 : Option Addr),
  ∃ (k14 : Nat),
  ∃ (k15 : Nat),
  (∀ (w8 : World),
  I3 w8 → World.cell? w8 (Addr.mk k1 0 none) = some (Value.slice o7 k14 k15)) ∧
  idx o7 k14 n2 2 fun (a5 : Addr) =>
  ∃ (n4 : Int),
  (∀ (w9 : World),
  I3 w9 → World.cell? w9 (Addr.add a5 1) = some (Value.int IntKind.i64 n4)) ∧
  ∃ (o8 : Option Addr),
  ∃ (k16 : Nat),
  ∃ (k17 : Nat),
  (∀ (w10 : World),
  I3 w10 →
  World.cell? w10 (Addr.add (Addr.mk k1 0 none) 2) =
  some (Value.slice o8 k16 k17)) ∧
  x4 (decide ((↑k16 : Int) < n4)) w5))) ∧
  ∀ (I4 : Nat → Value) (b3 : Bool) (w11 : World),
  x4 b3 w11 →
  br b3 (R (Value.bool false) w11)
  (∃ (x5 : arrS (shs [(5, S1.one (Cs.int IntKind.i64))]) (World → Prop)),
  ∃ (x6 : arrS (shs [(5, S1.one (Cs.int IntKind.i64))]) (World → Nat)),
  x5 1 w11 ∧
  ∀ (I5 : Nat → Value) (n5 : Int) (w12 : World),
  x5 n5 w12 →
  br (decide (n5 < n2))
  (∀ (w13 : World),
  drawn w12 w13 →
  ∃ (I6 : World → Prop),
  I6 w13 ∧
  ∃ (o9 : Option Addr),
  ∃ (k18 : Nat),
  ∃ (k19 : Nat),
  (∀ (w14 : World),
  I6 w14 → World.cell? w14 (Addr.mk k1 0 none) = some (Value.slice o9 k18 k19)) ∧
  idx o9 k18 n5 2 fun (a6 : Addr) =>
  ∃ (s3 : ByteArray),
  (∀ (w15 : World), I6 w15 → World.cell? w15 a6 = some (Value.string s3)) ∧
  ∃ (o10 : Option Addr),
  ∃ (k20 : Nat),
  ∃ (k21 : Nat),
  (∀ (w16 : World),
  I6 w16 →
  World.cell? w16 (Addr.mk k1 0 none) = some (Value.slice o10 k20 k21)) ∧
  idx o10 k20 n2 2 fun (a7 : Addr) =>
  ∃ (s4 : ByteArray),
  (∀ (w17 : World),
  I6 w17 → World.cell? w17 a7 = some (Value.string s4)) ∧
  br (ByteArray.toList s3 == ByteArray.toList s4)
  (R (Value.bool false) w13)
  (inI (n5 + 1) ∧ x5 (n5 + 1) w13 ∧ x6 (n5 + 1) w13 < x6 n5 w12))
  (inI (n2 + 1) ∧ x2 (n2 + 1) w12 ∧ x3 (n2 + 1) w12 < x3 n2 w3)))
  (R (Value.bool true) w3))
set_option maxRecDepth 100000 in
theorem run_presageref02_termsFit (p0g_0a : Option Addr) (p0g_0l : Nat) (p0g_0c : Nat) (p0g_1a : Option Addr) (p0g_1l : Nat) (p0g_1c : Nat) (p0g_2a : Option Addr) (p0g_2l : Nat) (p0g_2c : Nat) (p0g_3 : Int) (p0g_4a : Option Addr) (p0g_4l : Nat) (p0g_4c : Nat) (w : World) (R : Value → World → Prop) (h : vc_presageref02_termsFit p0g_0a p0g_0l p0g_0c p0g_1a p0g_1l p0g_1c p0g_2a p0g_2l p0g_2c p0g_3 p0g_4a p0g_4l p0g_4c w R) : Run Tryd.prog 79 [(.agg #[(.slice p0g_0a p0g_0l p0g_0c), (.slice p0g_1a p0g_1l p0g_1c), (.slice p0g_2a p0g_2l p0g_2c), (.int .i64 p0g_3), (.slice p0g_4a p0g_4l p0g_4c)])] w R :=
  run_ev tyOk fnOk mixed Tryd.func79 ann_presageref02_termsFit ((by kernel_rfl : fnV Tryd.prog Ty Fn Ev ann_presageref02_termsFit Tryd.f79 [(.agg #[(.slice p0g_0a p0g_0l p0g_0c), (.slice p0g_1a p0g_1l p0g_1c), (.slice p0g_2a p0g_2l p0g_2c), (.int .i64 p0g_3), (.slice p0g_4a p0g_4l p0g_4c)])] w R = vc_presageref02_termsFit p0g_0a p0g_0l p0g_0c p0g_1a p0g_1l p0g_1c p0g_2a p0g_2l p0g_2c p0g_3 p0g_4a p0g_4l p0g_4c w R) ▸ h)

abbrev n_presageref02_levelsFit : FuncId := 80
def ann_presageref02_levelsFit : Ann := { rngs := [], loops := [(2, [(3, (.one (.int .i64)))]), (6, [(4, (.one .bool)), (5, (.one (.int .i64)))])], joins := [], blocks := [] }
set_option maxRecDepth 100000 in
def vc_presageref02_levelsFit (p0g_0a : Option Addr) (p0g_0l : Nat) (p0g_0c : Nat) (p0g_1a : Option Addr) (p0g_1l : Nat) (p0g_1c : Nat) (p0g_2a : Option Addr) (p0g_2l : Nat) (p0g_2c : Nat) (p0g_3 : Int) (p0g_4a : Option Addr) (p0g_4l : Nat) (p0g_4c : Nat) (w : World) (R : Value → World → Prop) : Prop :=
  new w
  (Obj.cells
  (Array.mk [Value.slice p0g_0a p0g_0l p0g_0c, Value.slice p0g_1a p0g_1l p0g_1c, Value.slice p0g_2a p0g_2l p0g_2c, Value.int IntKind.i64 p0g_3, Value.slice p0g_4a p0g_4l p0g_4c])
  27)
  fun (k1 : Nat) (w1 : World) =>
  ∃ (x1 : arrS (shs [(3, S1.one (Cs.int IntKind.i64))]) (World → Prop)),
  ∃ (x2 : arrS (shs [(3, S1.one (Cs.int IntKind.i64))]) (World → Nat)),
  x1 0 w1 ∧
  ∀ (I1 : Nat → Value) (n1 : Int) (w2 : World),
  x1 n1 w2 →
  ∃ (o1 : Option Addr),
  ∃ (k2 : Nat),
  ∃ (k3 : Nat),
  World.cell? w2 (Addr.add (Addr.mk k1 0 none) 2) = some (Value.slice o1 k2 k3) ∧
  br (decide (n1 < (↑k2 : Int)))
  (∃ (x3 : arrS (shs [(4, S1.one Cs.bool), (5, S1.one (Cs.int IntKind.i64))]) (World → Prop)),
  ∃ (x4 : arrS (shs [(4, S1.one Cs.bool), (5, S1.one (Cs.int IntKind.i64))]) (World → Nat)),
  x3 false 0 w2 ∧
  ∀ (I2 : Nat → Value) (b1 : Bool) (n2 : Int) (w3 : World),
  x3 b1 n2 w3 →
  ∃ (o2 : Option Addr),
  ∃ (k4 : Nat),
  ∃ (k5 : Nat),
  World.cell? w3 (Addr.mk k1 0 none) = some (Value.slice o2 k4 k5) ∧
  br (decide (n2 < (↑k4 : Int)))
  (br b1 (inI (n2 + 1) ∧ x3 true (n2 + 1) w3 ∧ x4 true (n2 + 1) w3 < x4 b1 n2 w3)
  (∃ (o3 : Option Addr),
  ∃ (k6 : Nat),
  ∃ (k7 : Nat),
  World.cell? w3 (Addr.mk k1 0 none) = some (Value.slice o3 k6 k7) ∧
  idx o3 k6 n2 2 fun (a1 : Addr) =>
  ∃ (n3 : Int),
  World.cell? w3 (Addr.add a1 1) = some (Value.int IntKind.i64 n3) ∧
  inI (n1 + 1) ∧ inI (n2 + 1) ∧ x3 (n3 == n1 + 1) (n2 + 1) w3 ∧ x4 (n3 == n1 + 1) (n2 + 1) w3 < x4 b1 n2 w3))
  (br (!b1) (R (Value.bool false) w3)
  (∃ (o4 : Option Addr),
  ∃ (k8 : Nat),
  ∃ (k9 : Nat),
  World.cell? w3 (Addr.add (Addr.mk k1 0 none) 2) = some (Value.slice o4 k8 k9) ∧
  idx o4 k8 n1 1 fun (a2 : Addr) =>
  ∃ (n4 : Int),
  World.cell? w3 a2 = some (Value.int IntKind.i64 n4) ∧
  br (decide (n4 < 1)) (R (Value.bool false) w3)
  (∃ (o5 : Option Addr),
  ∃ (k10 : Nat),
  ∃ (k11 : Nat),
  World.cell? w3 (Addr.add (Addr.mk k1 0 none) 2) = some (Value.slice o5 k10 k11) ∧
  idx o5 k10 n1 1 fun (a3 : Addr) =>
  ∃ (n5 : Int),
  World.cell? w3 a3 = some (Value.int IntKind.i64 n5) ∧
  br (decide (3 < n5)) (R (Value.bool false) w3)
  (inI (n1 + 1) ∧ x1 (n1 + 1) w3 ∧ x2 (n1 + 1) w3 < x2 n1 w2)))))
  (R (Value.bool true) w2)
set_option maxRecDepth 100000 in
theorem run_presageref02_levelsFit (p0g_0a : Option Addr) (p0g_0l : Nat) (p0g_0c : Nat) (p0g_1a : Option Addr) (p0g_1l : Nat) (p0g_1c : Nat) (p0g_2a : Option Addr) (p0g_2l : Nat) (p0g_2c : Nat) (p0g_3 : Int) (p0g_4a : Option Addr) (p0g_4l : Nat) (p0g_4c : Nat) (w : World) (R : Value → World → Prop) (h : vc_presageref02_levelsFit p0g_0a p0g_0l p0g_0c p0g_1a p0g_1l p0g_1c p0g_2a p0g_2l p0g_2c p0g_3 p0g_4a p0g_4l p0g_4c w R) : Run Tryd.prog 80 [(.agg #[(.slice p0g_0a p0g_0l p0g_0c), (.slice p0g_1a p0g_1l p0g_1c), (.slice p0g_2a p0g_2l p0g_2c), (.int .i64 p0g_3), (.slice p0g_4a p0g_4l p0g_4c)])] w R :=
  run_ev tyOk fnOk mixed Tryd.func80 ann_presageref02_levelsFit ((by kernel_rfl : fnV Tryd.prog Ty Fn Ev ann_presageref02_levelsFit Tryd.f80 [(.agg #[(.slice p0g_0a p0g_0l p0g_0c), (.slice p0g_1a p0g_1l p0g_1c), (.slice p0g_2a p0g_2l p0g_2c), (.int .i64 p0g_3), (.slice p0g_4a p0g_4l p0g_4c)])] w R = vc_presageref02_levelsFit p0g_0a p0g_0l p0g_0c p0g_1a p0g_1l p0g_1c p0g_2a p0g_2l p0g_2c p0g_3 p0g_4a p0g_4l p0g_4c w R) ▸ h)

abbrev n_presageref02_nonsFit : FuncId := 81
def ann_presageref02_nonsFit : Ann := { rngs := [], loops := [(2, [(5, (.one (.int .i64)))]), (8, [(7, (.one (.int .i64)))])], joins := [], blocks := [] }
set_option maxRecDepth 100000 in
def vc_presageref02_nonsFit (p0g_0a : Option Addr) (p0g_0l : Nat) (p0g_0c : Nat) (p0g_1a : Option Addr) (p0g_1l : Nat) (p0g_1c : Nat) (p0g_2a : Option Addr) (p0g_2l : Nat) (p0g_2c : Nat) (p0g_3 : Int) (p0g_4a : Option Addr) (p0g_4l : Nat) (p0g_4c : Nat) (p1from : Int) (w : World) (R : Value → World → Prop) : Prop :=
  new w
  (Obj.cells
  (Array.mk [Value.slice p0g_0a p0g_0l p0g_0c, Value.slice p0g_1a p0g_1l p0g_1c, Value.slice p0g_2a p0g_2l p0g_2c, Value.int IntKind.i64 p0g_3, Value.slice p0g_4a p0g_4l p0g_4c])
  27)
  fun (k1 : Nat) (w1 : World) =>
  ∃ (x1 : arrS (shs [(5, S1.one (Cs.int IntKind.i64))]) (World → Prop)),
  ∃ (x2 : arrS (shs [(5, S1.one (Cs.int IntKind.i64))]) (World → Nat)),
  x1 p1from w1 ∧
  ∀ (I1 : Nat → Value) (n1 : Int) (w2 : World),
  x1 n1 w2 →
  ∃ (o1 : Option Addr),
  ∃ (k2 : Nat),
  ∃ (k3 : Nat),
  World.cell? w2 (Addr.add (Addr.mk k1 0 none) 1) = some (Value.slice o1 k2 k3) ∧
  br (decide (n1 < (↑k2 : Int)))
  (∃ (o2 : Option Addr),
  ∃ (k4 : Nat),
  ∃ (k5 : Nat),
  World.cell? w2 (Addr.add (Addr.mk k1 0 none) 1) = some (Value.slice o2 k4 k5) ∧
  idx o2 k4 n1 1 fun (a1 : Addr) =>
  ∃ (s1 : ByteArray),
  World.cell? w2 a1 = some (Value.string s1) ∧
  RunE Proofs.Tryd.prog Ev 101 [Value.string s1] w2 fun (v1 : Value) (w3 : World) =>
  ∃ (b1 : Bool),
  v1 = Value.bool b1 ∧
  br (!b1) (R (Value.bool false) w3)
  (∃ (x3 : arrS (shs [(7, S1.one (Cs.int IntKind.i64))]) (World → Prop)),
  ∃ (x4 : arrS (shs [(7, S1.one (Cs.int IntKind.i64))]) (World → Nat)),
  x3 p1from w3 ∧
  ∀ (I2 : Nat → Value) (n2 : Int) (w4 : World),
  x3 n2 w4 →
  br (decide (n2 < n1))
  (∀ (w5 : World),
  drawn w4 w5 →
  ∃ (I3 : World → Prop),
  I3 w5 ∧
  ∃ (o3 : Option Addr),
  ∃ (k6 : Nat),
  ∃ (k7 : Nat),
  (∀ (w6 : World), I3 w6 → World.cell? w6 (Addr.add (Addr.mk k1 0 none) 1) = some (Value.slice o3 k6 k7)) ∧
  idx o3 k6 n2 1 fun (a2 : Addr) =>
  ∃ (s2 : ByteArray),
  (∀ (w7 : World), I3 w7 → World.cell? w7 a2 = some (Value.string s2)) ∧
  ∃ (o4 : Option Addr),
  ∃ (k8 : Nat),
  ∃ (k9 : Nat),
  (∀ (w8 : World),
  I3 w8 → World.cell? w8 (Addr.add (Addr.mk k1 0 none) 1) = some (Value.slice o4 k8 k9)) ∧
  idx o4 k8 n1 1 fun (a3 : Addr) =>
  ∃ (s3 : ByteArray),
  (∀ (w9 : World), I3 w9 → World.cell? w9 a3 = some (Value.string s3)) ∧
  br (ByteArray.toList s2 == ByteArray.toList s3) (R (Value.bool false) w5)
  (inI (n2 + 1) ∧ x3 (n2 + 1) w5 ∧ x4 (n2 + 1) w5 < x4 n2 w4))
  (inI (n1 + 1) ∧ x1 (n1 + 1) w4 ∧ x2 (n1 + 1) w4 < x2 n1 w2)))
  (R (Value.bool true) w2)
set_option maxRecDepth 100000 in
theorem run_presageref02_nonsFit (p0g_0a : Option Addr) (p0g_0l : Nat) (p0g_0c : Nat) (p0g_1a : Option Addr) (p0g_1l : Nat) (p0g_1c : Nat) (p0g_2a : Option Addr) (p0g_2l : Nat) (p0g_2c : Nat) (p0g_3 : Int) (p0g_4a : Option Addr) (p0g_4l : Nat) (p0g_4c : Nat) (p1from : Int) (w : World) (R : Value → World → Prop) (h : vc_presageref02_nonsFit p0g_0a p0g_0l p0g_0c p0g_1a p0g_1l p0g_1c p0g_2a p0g_2l p0g_2c p0g_3 p0g_4a p0g_4l p0g_4c p1from w R) : Run Tryd.prog 81 [(.agg #[(.slice p0g_0a p0g_0l p0g_0c), (.slice p0g_1a p0g_1l p0g_1c), (.slice p0g_2a p0g_2l p0g_2c), (.int .i64 p0g_3), (.slice p0g_4a p0g_4l p0g_4c)]), (.int .i64 p1from)] w R :=
  run_ev tyOk fnOk mixed Tryd.func81 ann_presageref02_nonsFit ((by kernel_rfl : fnV Tryd.prog Ty Fn Ev ann_presageref02_nonsFit Tryd.f81 [(.agg #[(.slice p0g_0a p0g_0l p0g_0c), (.slice p0g_1a p0g_1l p0g_1c), (.slice p0g_2a p0g_2l p0g_2c), (.int .i64 p0g_3), (.slice p0g_4a p0g_4l p0g_4c)]), (.int .i64 p1from)] w R = vc_presageref02_nonsFit p0g_0a p0g_0l p0g_0c p0g_1a p0g_1l p0g_1c p0g_2a p0g_2l p0g_2c p0g_3 p0g_4a p0g_4l p0g_4c p1from w R) ▸ h)

abbrev n_presageref02_prodsFit : FuncId := 82
def ann_presageref02_prodsFit : Ann := { rngs := [], loops := [(2, [(7, (.one (.int .i64)))]), (8, [(9, (.one (.int .i64)))])], joins := [(6, [(47, (.one .bool))])], blocks := [] }
set_option maxRecDepth 100000 in
def vc_presageref02_prodsFit (p0g_0a : Option Addr) (p0g_0l : Nat) (p0g_0c : Nat) (p0g_1a : Option Addr) (p0g_1l : Nat) (p0g_1c : Nat) (p0g_2a : Option Addr) (p0g_2l : Nat) (p0g_2c : Nat) (p0g_3 : Int) (p0g_4a : Option Addr) (p0g_4l : Nat) (p0g_4c : Nat) (p1from : Int) (p2least : Int) (w : World) (R : Value → World → Prop) : Prop :=
  new w
  (Obj.cells
  (Array.mk [Value.slice p0g_0a p0g_0l p0g_0c, Value.slice p0g_1a p0g_1l p0g_1c, Value.slice p0g_2a p0g_2l p0g_2c, Value.int IntKind.i64 p0g_3, Value.slice p0g_4a p0g_4l p0g_4c])
  27)
  fun (k1 : Nat) (w1 : World) =>
  ∃ (x1 : arrS (shs [(7, S1.one (Cs.int IntKind.i64))]) (World → Prop)),
  ∃ (x2 : arrS (shs [(7, S1.one (Cs.int IntKind.i64))]) (World → Nat)),
  x1 p1from w1 ∧
  ∀ (I1 : Nat → Value) (n1 : Int) (w2 : World),
  x1 n1 w2 →
  ∃ (o1 : Option Addr),
  ∃ (k2 : Nat),
  ∃ (k3 : Nat),
  World.cell? w2 (Addr.add (Addr.mk k1 0 none) 4) = some (Value.slice o1 k2 k3) ∧
  br (decide (n1 < (↑k2 : Int)))
  (∃ (o2 : Option Addr),
  ∃ (k4 : Nat),
  ∃ (k5 : Nat),
  World.cell? w2 (Addr.add (Addr.mk k1 0 none) 4) = some (Value.slice o2 k4 k5) ∧
  idx o2 k4 n1 3 fun (a1 : Addr) =>
  ∃ (n2 : Int),
  ∃ (o3 : Option Addr),
  ∃ (k6 : Nat),
  ∃ (k7 : Nat),
  ∃ (n3 : Int),
  V.rowAt w2 a1 0 3 = some [Value.int IntKind.i64 n2, Value.slice o3 k6 k7, Value.int IntKind.i64 n3] ∧
  new w2 (Obj.cells (Array.mk [Value.int IntKind.i64 0, Value.slice none 0 0, Value.int IntKind.i64 0]) 51) fun (k8 : Nat) (w3 : World) =>
  stR w3 (Addr.mk k8 0 none) [Value.int IntKind.i64 n2, Value.slice o3 k6 k7, Value.int IntKind.i64 n3] fun (w4 : World) =>
  ∃ (x3 : arrS (shs [(47, S1.one Cs.bool)]) (World → Prop)),
  (∀ (w5 : World),
  drawn w4 w5 →
  ∃ (I2 : World → Prop),
  I2 w5 ∧
  ∃ (n4 : Int),
  (∀ (w6 : World), I2 w6 → World.cell? w6 (Addr.mk k8 0 none) = some (Value.int IntKind.i64 n4)) ∧
  br (decide (n4 < p2least)) (x3 true w5)
  (∃ (n5 : Int),
  (∀ (w7 : World), I2 w7 → World.cell? w7 (Addr.mk k8 0 none) = some (Value.int IntKind.i64 n5)) ∧
  ∃ (o4 : Option Addr),
  ∃ (k9 : Nat),
  ∃ (k10 : Nat),
  ∃ (o5 : Option Addr),
  ∃ (k11 : Nat),
  ∃ (k12 : Nat),
  ∃ (o6 : Option Addr),
  ∃ (k13 : Nat),
  ∃ (k14 : Nat),
  ∃ (n6 : Int),
  ∃ (o7 : Option Addr),
  ∃ (k15 : Nat),
  ∃ (k16 : Nat),
  (∀ (w8 : World),
  I2 w8 →
  V.rowAt w8 (Addr.mk k1 0 none) 0 5 =
  some
  [Value.slice o4 k9 k10, Value.slice o5 k11 k12, Value.slice o6 k13 k14,
  Value.int IntKind.i64 n6, Value.slice o7 k15 k16]) ∧
  RunE Proofs.Tryd.prog Ev 30
  [Value.agg
  (Array.mk
  [Value.slice o4 k9 k10, Value.slice o5 k11 k12, Value.slice o6 k13 k14,
  Value.int IntKind.i64 n6, Value.slice o7 k15 k16])]
  w5 fun (v1 : Value) (w9 : World) =>
  ∃ (n7 : Int),
  v1 = Value.int IntKind.i64 n7 ∧
  ∃ (I3 : World → Prop),
  I3 w9 ∧
  (∀ (w10 : World), I3 w10 → I2 w10) ∧
  br (decide (n7 ≤ n5)) (x3 true w9)
  (∃ (n8 : Int),
  (∀ (w11 : World),
  I3 w11 →
  World.cell? w11 (Addr.add (Addr.mk k8 0 none) 2) =
  some (Value.int IntKind.i64 n8)) ∧
  br (decide (n8 < 0)) (x3 true w9)
  (∃ (n9 : Int),
  (∀ (w12 : World),
  I3 w12 →
  World.cell? w12 (Addr.add (Addr.mk k8 0 none) 2) =
  some (Value.int IntKind.i64 n9)) ∧
  ∃ (o8 : Option Addr),
  ∃ (k17 : Nat),
  ∃ (k18 : Nat),
  (∀ (w13 : World),
  I3 w13 →
  World.cell? w13
  (Addr.add (Addr.mk k1 0 none) 2) =
  some (Value.slice o8 k17 k18)) ∧
  x3 (decide ((↑k17 : Int) < n9)) w9)))) ∧
  ∀ (I4 : Nat → Value) (b1 : Bool) (w14 : World),
  x3 b1 w14 →
  br b1 (R (Value.bool false) w14)
  (∃ (x4 : arrS (shs [(9, S1.one (Cs.int IntKind.i64))]) (World → Prop)),
  ∃ (x5 : arrS (shs [(9, S1.one (Cs.int IntKind.i64))]) (World → Nat)),
  x4 0 w14 ∧
  ∀ (I5 : Nat → Value) (n10 : Int) (w15 : World),
  x4 n10 w15 →
  ∃ (o9 : Option Addr),
  ∃ (k19 : Nat),
  ∃ (k20 : Nat),
  World.cell? w15 (Addr.add (Addr.mk k8 0 none) 1) = some (Value.slice o9 k19 k20) ∧
  br (decide (n10 < (↑k19 : Int)))
  (∃ (o10 : Option Addr),
  ∃ (k21 : Nat),
  ∃ (k22 : Nat),
  World.cell? w15 (Addr.add (Addr.mk k8 0 none) 1) = some (Value.slice o10 k21 k22) ∧
  idx o10 k21 n10 1 fun (a2 : Addr) =>
  ∃ (n11 : Int),
  World.cell? w15 a2 = some (Value.int IntKind.i64 n11) ∧
  br (decide (n11 < 1)) (R (Value.bool false) w15)
  (∃ (o11 : Option Addr),
  ∃ (k23 : Nat),
  ∃ (k24 : Nat),
  ∃ (o12 : Option Addr),
  ∃ (k25 : Nat),
  ∃ (k26 : Nat),
  ∃ (o13 : Option Addr),
  ∃ (k27 : Nat),
  ∃ (k28 : Nat),
  ∃ (n12 : Int),
  ∃ (o14 : Option Addr),
  ∃ (k29 : Nat),
  ∃ (k30 : Nat),
  V.rowAt w15 (Addr.mk k1 0 none) 0 5 =
  some
  [Value.slice o11 k23 k24, Value.slice o12 k25 k26,
  Value.slice o13 k27 k28, Value.int IntKind.i64 n12,
  Value.slice o14 k29 k30] ∧
  RunE Proofs.Tryd.prog Ev 30
  [Value.agg
  (Array.mk
  [Value.slice o11 k23 k24, Value.slice o12 k25 k26,
  Value.slice o13 k27 k28,
  Value.int IntKind.i64 n12,
  Value.slice o14 k29 k30])]
  w15 fun (v2 : Value) (w16 : World) =>
  ∃ (n13 : Int),
  v2 = Value.int IntKind.i64 n13 ∧
  br (decide (n13 ≤ n11)) (R (Value.bool false) w16)
  (∃ (o15 : Option Addr),
  ∃ (k31 : Nat),
  ∃ (k32 : Nat),
  World.cell? w16 (Addr.mk k1 0 none) =
  some (Value.slice o15 k31 k32) ∧
  br (decide ((↑k31 : Int) ≤ n11))
  (br (decide (n11 < p2least))
  (R (Value.bool false) w16)
  (inI (n10 + 1) ∧
  x4 (n10 + 1) w16 ∧
  x5 (n10 + 1) w16 < x5 n10 w15))
  (inI (n10 + 1) ∧
  x4 (n10 + 1) w16 ∧
  x5 (n10 + 1) w16 < x5 n10 w15))))
  (inI (n1 + 1) ∧ x1 (n1 + 1) w15 ∧ x2 (n1 + 1) w15 < x2 n1 w2)))
  (R (Value.bool true) w2)
set_option maxRecDepth 100000 in
theorem run_presageref02_prodsFit (p0g_0a : Option Addr) (p0g_0l : Nat) (p0g_0c : Nat) (p0g_1a : Option Addr) (p0g_1l : Nat) (p0g_1c : Nat) (p0g_2a : Option Addr) (p0g_2l : Nat) (p0g_2c : Nat) (p0g_3 : Int) (p0g_4a : Option Addr) (p0g_4l : Nat) (p0g_4c : Nat) (p1from : Int) (p2least : Int) (w : World) (R : Value → World → Prop) (h : vc_presageref02_prodsFit p0g_0a p0g_0l p0g_0c p0g_1a p0g_1l p0g_1c p0g_2a p0g_2l p0g_2c p0g_3 p0g_4a p0g_4l p0g_4c p1from p2least w R) : Run Tryd.prog 82 [(.agg #[(.slice p0g_0a p0g_0l p0g_0c), (.slice p0g_1a p0g_1l p0g_1c), (.slice p0g_2a p0g_2l p0g_2c), (.int .i64 p0g_3), (.slice p0g_4a p0g_4l p0g_4c)]), (.int .i64 p1from), (.int .i64 p2least)] w R :=
  run_ev tyOk fnOk mixed Tryd.func82 ann_presageref02_prodsFit ((by kernel_rfl : fnV Tryd.prog Ty Fn Ev ann_presageref02_prodsFit Tryd.f82 [(.agg #[(.slice p0g_0a p0g_0l p0g_0c), (.slice p0g_1a p0g_1l p0g_1c), (.slice p0g_2a p0g_2l p0g_2c), (.int .i64 p0g_3), (.slice p0g_4a p0g_4l p0g_4c)]), (.int .i64 p1from), (.int .i64 p2least)] w R = vc_presageref02_prodsFit p0g_0a p0g_0l p0g_0c p0g_1a p0g_1l p0g_1c p0g_2a p0g_2l p0g_2c p0g_3 p0g_4a p0g_4l p0g_4c p1from p2least w R) ▸ h)

abbrev n_presageref02_IsTerm : FuncId := 100
def ann_presageref02_IsTerm : Ann := { rngs := [], loops := [(2, [(3, (.one (.int .i64)))])], joins := [], blocks := [] }
set_option maxRecDepth 100000 in
def vc_presageref02_IsTerm (p0s : ByteArray) (w : World) (R : Value → World → Prop) : Prop :=
  ∃ (x1 : arrS (shs [(3, S1.one (Cs.int IntKind.i64))]) (World → Prop)),
  ∃ (x2 : arrS (shs [(3, S1.one (Cs.int IntKind.i64))]) (World → Nat)),
  x1 0 w ∧
  ∀ (I1 : Nat → Value) (n1 : Int) (w1 : World),
  x1 n1 w1 →
  br (decide (n1 < (↑(ByteArray.size p0s) : Int)))
  (inS n1 (ByteArray.size p0s) ∧
  br (decide ((↑(UInt8.toNat (sb p0s (Int.toNat n1))) : Int) < 32)) (R (Value.bool false) w1)
  (inS n1 (ByteArray.size p0s) ∧
  br (decide (126 < (↑(UInt8.toNat (sb p0s (Int.toNat n1))) : Int))) (R (Value.bool false) w1)
  (inS n1 (ByteArray.size p0s) ∧
  br ((↑(UInt8.toNat (sb p0s (Int.toNat n1))) : Int) == 39) (R (Value.bool false) w1) (inI (n1 + 1) ∧ x1 (n1 + 1) w1 ∧ x2 (n1 + 1) w1 < x2 n1 w1))))
  (br (decide (1 ≤ (↑(ByteArray.size p0s) : Int))) (R (Value.bool (decide ((↑(ByteArray.size p0s) : Int) ≤ 16))) w1) (R (Value.bool false) w1))
set_option maxRecDepth 100000 in
theorem run_presageref02_IsTerm (p0s : ByteArray) (w : World) (R : Value → World → Prop) (h : vc_presageref02_IsTerm p0s w R) : Run Tryd.prog 100 [(.string p0s)] w R :=
  run_ev tyOk fnOk mixed Tryd.func100 ann_presageref02_IsTerm ((by kernel_rfl : fnV Tryd.prog Ty Fn Ev ann_presageref02_IsTerm Tryd.f100 [(.string p0s)] w R = vc_presageref02_IsTerm p0s w R) ▸ h)

abbrev n_presageref02_IsName : FuncId := 101
def ann_presageref02_IsName : Ann := { rngs := [], loops := [(2, [(3, (.one (.int .i64)))])], joins := [(3, []), (5, [(4, (.one .bool))])], blocks := [] }
set_option maxRecDepth 100000 in
def vc_presageref02_IsName (p0s : ByteArray) (w : World) (R : Value → World → Prop) : Prop :=
  ∃ (x1 : arrS (shs [(3, S1.one (Cs.int IntKind.i64))]) (World → Prop)),
  ∃ (x2 : arrS (shs [(3, S1.one (Cs.int IntKind.i64))]) (World → Nat)),
  x1 0 w ∧
  ∀ (I1 : Nat → Value) (n1 : Int) (w1 : World),
  x1 n1 w1 →
  br (decide (n1 < (↑(ByteArray.size p0s) : Int)))
  (∃ (x3 : arrS (shs []) (World → Prop)),
  (∃ (x4 : arrS (shs [(4, S1.one Cs.bool)]) (World → Prop)),
  (inS n1 (ByteArray.size p0s) ∧
  br (decide (65 ≤ (↑(UInt8.toNat (sb p0s (Int.toNat n1))) : Int)))
  (inS n1 (ByteArray.size p0s) ∧
  br (decide ((↑(UInt8.toNat (sb p0s (Int.toNat n1))) : Int) ≤ 90)) (x4 true w1)
  (inS n1 (ByteArray.size p0s) ∧
  br (decide (97 ≤ (↑(UInt8.toNat (sb p0s (Int.toNat n1))) : Int)))
  (inS n1 (ByteArray.size p0s) ∧
  br (decide ((↑(UInt8.toNat (sb p0s (Int.toNat n1))) : Int) ≤ 122)) (x4 true w1)
  (inS n1 (ByteArray.size p0s) ∧ x4 ((↑(UInt8.toNat (sb p0s (Int.toNat n1))) : Int) == 95) w1))
  (inS n1 (ByteArray.size p0s) ∧ x4 ((↑(UInt8.toNat (sb p0s (Int.toNat n1))) : Int) == 95) w1)))
  (inS n1 (ByteArray.size p0s) ∧
  br (decide (97 ≤ (↑(UInt8.toNat (sb p0s (Int.toNat n1))) : Int)))
  (inS n1 (ByteArray.size p0s) ∧
  br (decide ((↑(UInt8.toNat (sb p0s (Int.toNat n1))) : Int) ≤ 122)) (x4 true w1)
  (inS n1 (ByteArray.size p0s) ∧ x4 ((↑(UInt8.toNat (sb p0s (Int.toNat n1))) : Int) == 95) w1))
  (inS n1 (ByteArray.size p0s) ∧ x4 ((↑(UInt8.toNat (sb p0s (Int.toNat n1))) : Int) == 95) w1))) ∧
  ∀ (I2 : Nat → Value) (b1 : Bool) (w2 : World),
  x4 b1 w2 →
  inS n1 (ByteArray.size p0s) ∧
  br (decide (48 ≤ (↑(UInt8.toNat (sb p0s (Int.toNat n1))) : Int)))
  (inS n1 (ByteArray.size p0s) ∧
  br (decide ((↑(UInt8.toNat (sb p0s (Int.toNat n1))) : Int) ≤ 57)) (br (!b1) (br (!decide (0 < n1)) (R (Value.bool false) w2) (x3 w2)) (x3 w2))
  (br (!b1) (R (Value.bool false) w2) (x3 w2)))
  (br (!b1) (R (Value.bool false) w2) (x3 w2))) ∧
  ∀ (I3 : Nat → Value) (w3 : World), x3 w3 → inI (n1 + 1) ∧ x1 (n1 + 1) w3 ∧ x2 (n1 + 1) w3 < x2 n1 w1)
  (br (decide (1 ≤ (↑(ByteArray.size p0s) : Int))) (R (Value.bool (decide ((↑(ByteArray.size p0s) : Int) ≤ 16))) w1) (R (Value.bool false) w1))
set_option maxRecDepth 100000 in
theorem run_presageref02_IsName (p0s : ByteArray) (w : World) (R : Value → World → Prop) (h : vc_presageref02_IsName p0s w R) : Run Tryd.prog 101 [(.string p0s)] w R :=
  run_ev tyOk fnOk mixed Tryd.func101 ann_presageref02_IsName ((by kernel_rfl : fnV Tryd.prog Ty Fn Ev ann_presageref02_IsName Tryd.f101 [(.string p0s)] w R = vc_presageref02_IsName p0s w R) ▸ h)

end Go.Proofs.YtaheggomcnbbiaaDoor
set_option linter.unusedVariables false
namespace Go.V
section
variable {P : Program} {w w' : World} {L : List Asn} {b : Nat} {vs : List Value}
theorem own_st1 {sz l c j : Nat} {a : Option Addr} {ad : Addr} {v : Value} {k : World → Prop} (h : St w (own sz a l c vs :: L)) (ha : a = some ad) (hj : j < vs.length)
    (hk : ∀ w', St w' (own sz a l c (vs.set j v) :: L) → k w') (hv : oneC v = true := by rfl) : st1 w (ad.add j) v k := by
  rcases own_cases h with ⟨rfl, _⟩ | ⟨b, pre, cs, post, rfl, h, h1, h2, h3⟩
  · cases ha
  · cases ha
    rw [add_lit]
    refine st1_i h (by simp; omega) (fun w' h' => ?_) hv
    rw [List.set_append_right _ _ (by omega), Nat.add_sub_cancel_left, List.set_append_left _ _ hj] at h'
    refine hk w' (own_some' h' (by simpa using h1) (by simpa using h2) h3)
theorem idx_i {a : Option Addr} {ad : Addr} {len i : Nat} {k : Addr → Prop} (ha : a = some ad) (hi : i < len) (hk : k (ad.add i)) : idx a len (i : Int) 1 k :=
  ⟨ad, ha, by omega, by omega, by simpa [mulS] using hk⟩
theorem own_addr {sz l c : Nat} {a : Option Addr} (h : St w (own sz a l c vs :: L)) (hl : 0 < vs.length) : ∃ ad, a = some ad := by
  rcases own_cases h with ⟨rfl, _, _, rfl⟩ | ⟨b, pre, cs, post, rfl, _⟩
  · simp at hl
  · exact ⟨_, rfl⟩
theorem own_get {sz l c : Nat} {a : Option Addr} {ad : Addr} (h : St w (own sz a l c vs :: L)) (ha : a = some ad) {j : Nat} {v : Value} (hj : vs[j]? = some v) : w.cell? (ad.add j) = some v := by
  obtain ⟨ad', h1, h2⟩ := own_cell h hj
  rw [ha] at h1; cases h1; exact h2
theorem hp_drawn (h : drawn w w') : hp w' = hp w := by unfold drawn at h; subst h; rfl
theorem St.drawn (h : St w L) (hd : V.drawn w w') : St w' L := h.eq (hp_drawn hd)
end
def cw (ws : List Nat) : List Value := ws.map fun (n : Nat) => Value.int .u64 (n : Int)
def mem (ws : List Nat) (k : Nat) : Bool := (ws.getD (k / 64) 0).testBit (k % 64)
structure Inv (n : Nat) (ws : List Nat) (m : Nat → Bool) : Prop where
  len : ws.length = (n + 63) / 64
  le : n ≤ 1024
  lt : ∀ x ∈ ws, x < 2 ^ 64
  mm : ∀ k, m k = mem ws k
  out : ∀ k, n ≤ k → m k = false
def setM (p : Option Addr) (n : Nat) (m : Nat → Bool) : Asn := fun h =>
  (p = none ∧ n = 0 ∧ m = fun _ => false) ∨
  ∃ b a c ws, p = some ⟨b, 0, none⟩ ∧ Inv n ws m ∧ starL [cel b [.slice a ws.length c, .int .i64 (n : Int)], own 1 a ws.length c (cw ws)] h
section
variable {w w' : World} {L : List Asn} {p : Option Addr} {n : Nat} {m : Nat → Bool}
theorem setM_cases (h : St w (setM p n m :: L)) : (p = none ∧ n = 0 ∧ (m = fun _ => false) ∧ St w L) ∨
    ∃ b a c ws, p = some ⟨b, 0, none⟩ ∧ Inv n ws m ∧ St w (cel b [.slice a ws.length c, .int .i64 (n : Int)] :: own 1 a ws.length c (cw ws) :: L) := by
  have ht := h.tail
  obtain ⟨h1, h2, d, s1, s2, ha, hl⟩ := h
  rcases ha with ⟨e1, e2, e3⟩ | ⟨b, a, c, ws, e1, e2, e3⟩
  · exact .inl ⟨e1, e2, e3, ht⟩
  · exact .inr ⟨b, a, c, ws, e1, e2, St.flat.1 (show St w (sta [_, _] :: L) from ⟨h1, h2, d, s1, s2, e3, hl⟩)⟩
theorem setM_mk {b : Nat} {a : Option Addr} {c : Nat} {ws : List Nat} (hi : Inv n ws m) (h : St w (cel b [.slice a ws.length c, .int .i64 (n : Int)] :: own 1 a ws.length c (cw ws) :: L)) : St w (setM (some ⟨b, 0, none⟩) n m :: L) :=
  (St.flat.2 (show St w ([_, _] ++ L) from h)).head fun h ha => .inr ⟨b, a, c, ws, rfl, hi, ha⟩
theorem setM_out (h : St w (setM p n m :: L)) {k : Nat} (hk : n ≤ k) : m k = false := by
  rcases setM_cases h with ⟨_, _, rfl, _⟩ | ⟨_, _, _, _, _, hi, _⟩
  · rfl
  · exact hi.out k hk
theorem setM_le (h : St w (setM p n m :: L)) : n ≤ 1024 := by
  rcases setM_cases h with ⟨_, rfl, _, _⟩ | ⟨_, _, _, _, _, hi, _⟩
  · omega
  · exact hi.le
end
end Go.V
namespace Go.Proofs.YtaheggomcnbbiaaDoor
open Go.V
section
variable {w : World} {L : List Asn} {a : Option Addr} {c : Nat} {ws : List Nat} {p : Option Addr} {n : Nat} {m : Nat → Bool}
theorem cw_get {ws : List Nat} {j : Nat} (h : j < ws.length) : (cw ws)[j]? = some (.int .u64 ((ws.getD j 0 : Nat) : Int)) := by
  simp [cw, h]
theorem getD_lt {ws : List Nat} (hl : ∀ x ∈ ws, x < 2 ^ 64) (j : Nat) : ws.getD j 0 < 2 ^ 64 := by
  by_cases h : j < ws.length
  · rw [List.getD_eq_getElem?_getD, List.getElem?_eq_getElem h]; exact hl _ (List.getElem_mem h)
  · rw [List.getD_eq_getElem?_getD, List.getElem?_eq_none (by omega)]; simp
theorem nz64 : nz 64 := by unfold nz; decide
theorem inI_nat {k : Nat} (h : k < 9223372036854775807) : inI (k : Int) := ⟨by omega, by omega⟩
theorem c_words_has (h : St w (own 1 a ws.length c (cw ws) :: L)) (hlt : ∀ x ∈ ws, x < 2 ^ 64) {k : Nat} (hk : k / 64 < ws.length) (hb : k < 4096) :
    Run Tryd.prog n_bits_words_has [.slice a ws.length c, .int .i64 (k : Int)] w fun v w' => v = .bool (mem ws k) ∧ w' = w := by
  refine run_bits_words_has _ _ _ _ w _ ?_
  obtain ⟨ad, rfl⟩ := own_addr h (by simp [cw]; omega)
  have hg := own_get h rfl (cw_get hk)
  refine ⟨nz64, ?_, ?_⟩
  · rw [tdiv64]; exact inI_nat (by omega)
  · rw [tdiv64, tmod64]
    refine idx_i rfl hk ⟨_, hg, nz64, ?_, ?_, rfl⟩
    · show (0 : Int) ≤ _; omega
    · rw [bit_test (getD_lt hlt _) (Nat.mod_lt _ (by omega))]; rfl
theorem mem_set {ws : List Nat} {k r : Nat} (hk : k / 64 < ws.length) (j : Nat) : mem (ws.set (k / 64) r) j = if j / 64 = k / 64 then r.testBit (j % 64) else mem ws j := by
  unfold mem
  rw [List.getD_eq_getElem?_getD, List.getElem?_set]
  split
  · rename_i h; rw [if_pos h.symm]; rfl
  · rename_i h; rw [if_neg (fun e => h e.symm), List.getD_eq_getElem?_getD]
theorem cw_set {ws : List Nat} {i r : Nat} : (cw ws).set i (.int .u64 (r : Int)) = cw (ws.set i r) := by simp [cw]
theorem c_words_put (h : St w (own 1 a ws.length c (cw ws) :: L)) (hlt : ∀ x ∈ ws, x < 2 ^ 64) {k : Nat} (hk : k / 64 < ws.length) (hb : k < 4096) :
    Run Tryd.prog n_bits_words_put [.slice a ws.length c, .int .i64 (k : Int)] w fun v w' => v = .tuple #[] ∧ ∃ ws', ws'.length = ws.length ∧ (∀ x ∈ ws', x < 2 ^ 64) ∧ (∀ j, mem ws' j = (mem ws j || j == k)) ∧ St w' (own 1 a ws.length c (cw ws') :: L) := by
  refine run_bits_words_put _ _ _ _ w _ ?_
  intro w1 hd
  have h1 := h.drawn hd
  obtain ⟨ad, rfl⟩ := own_addr h (by simp [cw]; omega)
  have hg := fun w2 (e : hp w2 = hp w) => own_get (h.eq e) rfl (cw_get hk)
  refine ⟨fun w2 => hp w2 = hp w, hp_drawn hd, nz64, ?_, ?_⟩
  · rw [tdiv64]; exact inI_nat (by omega)
  · rw [tdiv64, tmod64]
    refine idx_i rfl hk ⟨_, hg, nz64, ?_, idx_i rfl hk ?_⟩
    · show (0 : Int) ≤ _; omega
    · have hm : k % 64 < 64 := Nat.mod_lt _ (by omega)
      rw [shlI_one hm, bitI_or (getD_lt hlt _) (Nat.pow_lt_pow_right (by omega) hm)]
      refine own_st1 h1 rfl (by simpa [cw] using hk) fun w3 h3 => ?_
      rw [cw_set] at h3
      refine ⟨rfl, _, by simp, fun x hx => ?_, fun j => ?_, h3⟩
      · rcases List.mem_or_eq_of_mem_set hx with hx | rfl
        · exact hlt x hx
        · exact Nat.or_lt_two_pow (getD_lt hlt _) (Nat.pow_lt_pow_right (by omega) hm)
      · rw [mem_set hk]
        split
        · rename_i e
          rw [Nat.testBit_or, Nat.testBit_two_pow]
          unfold mem
          rw [e]
          congr 1
          by_cases hj : j = k
          · subst hj; simp
          · have : ¬ (k % 64 = j % 64) := by omega
            simp [hj, this]
        · rename_i e
          have : (j == k) = false := by simp; intro h; exact e (by rw [h])
          simp [this]
theorem c_Size (h : St w (setM p n m :: L)) : Run Tryd.prog n_bits_Set_Size [.pointer p] w fun v w' => v = .int .i64 (n : Int) ∧ w' = w := by
  refine run_bits_Set_Size _ w _ ?_
  rcases setM_cases h with ⟨rfl, rfl, rfl, _⟩ | ⟨b, a, c, ws, rfl, hi, h⟩
  · exact ⟨rfl, rfl⟩
  · refine ⟨(n : Int), ?_, rfl, rfl⟩
    rw [add_lit0, h.cell]; rfl
theorem inv_lt (hi : Inv n ws m) {k : Nat} (hk : k < n) : k / 64 < ws.length := by rw [hi.len]; omega
end
end Go.Proofs.YtaheggomcnbbiaaDoor
set_option linter.unusedVariables false
namespace Go.V
def cellH (h : Hp) (a : Addr) : Option Value :=
  match h a.block with
  | some (.cells c _ _) => if a.spot.isSome then none else c[a.off]?
  | _ => none
theorem cellH_sub {h h' : Hp} (s : sub h h') {a : Addr} {v : Value} (hc : cellH h a = some v) : cellH h' a = some v := by
  unfold cellH at *
  split at hc
  · rename_i c _ _ he; rw [s _ _ he]; exact hc
  · cases hc
theorem cellH_w {w : World} {a : Addr} {v : Value} (hc : cellH (hp w) a = some v) : w.cell? a = some v := by
  unfold cellH at hc
  split at hc
  · rename_i c _ _ he; unfold World.cell?; rw [hidD_some he]; exact hc
  · cases hc
def rdV (a : Option Addr) (vs : List Value) : Asn := fun h => vs = [] ∨ ∃ ad, a = some ad ∧ ∀ j v, vs[j]? = some v → cellH h (ad.add j) = some v
section
variable {w w' : World} {L : List Asn} {a : Option Addr} {vs : List Value}
theorem rdV_get (h : St w (rdV a vs :: L)) {j : Nat} {v : Value} (hj : vs[j]? = some v) : ∃ ad, a = some ad ∧ w.cell? (ad.add j) = some v := by
  obtain ⟨h1, h2, d, s1, s2, ha, hl⟩ := h
  rcases ha with rfl | ⟨ad, e, hc⟩
  · simp at hj
  · exact ⟨ad, e, cellH_w (cellH_sub s1 (hc j v hj))⟩
theorem own_rdVh {sz l c : Nat} {h : Hp} (ha : own sz a l c vs h) : rdV a vs h := by
  rcases ha with ⟨_, _, _, rfl⟩ | ⟨b, pre, cs, post, rfl, ⟨e, he⟩, _⟩
  · exact .inl rfl
  · refine .inr ⟨_, rfl, fun j v hj => ?_⟩
    rw [add_lit]; unfold cellH; simp only [he]
    have := (List.getElem?_eq_some_iff.1 hj).1
    simp only [Option.isSome_none, Bool.false_eq_true, if_false, List.getElem?_toArray]
    rw [List.getElem?_append_right (by omega), Nat.add_sub_cancel_left, List.getElem?_append_left this]; exact hj
end
def iv (xs : List Int) : List Value := xs.map fun x => Value.int .i64 x
theorem iv_get {xs : List Int} {j : Nat} {x : Int} (h : xs[j]? = some x) : (iv xs)[j]? = some (.int .i64 x) := by simp [iv, h]
theorem msr {l j : Nat} (h : j < l) : l - ((j : Int) + 1).toNat < l - (j : Int).toNat := by omega
def cnt (n : Nat) (m : Nat → Bool) : Nat := ((List.range n).filter m).length
theorem cnt_le (n : Nat) (m : Nat → Bool) : cnt n m ≤ n := by
  unfold cnt; exact Nat.le_trans (List.length_filter_le _ _) (by simp)
theorem cnt_succ (n : Nat) (m : Nat → Bool) : cnt (n + 1) m = cnt n m + (if m n then 1 else 0) := by
  unfold cnt; rw [List.range_succ, List.filter_append, List.length_append]
  congr 1
  by_cases h : m n <;> simp [h]
theorem cnt_congr {n : Nat} {m m' : Nat → Bool} (h : ∀ k, k < n → m k = m' k) : cnt n m = cnt n m' := by
  unfold cnt; congr 1; exact List.filter_congr fun k hk => h k (by simpa using hk)
theorem cnt_add {n : Nat} {m : Nat → Bool} {k : Nat} (hk : k < n) (hm : m k = false) : cnt n (fun j => m j || j == k) = cnt n m + 1 := by
  induction n with
  | zero => omega
  | succ n ih =>
    rw [cnt_succ, cnt_succ]
    by_cases h : k = n
    · subst h
      rw [cnt_congr (m' := m) fun j hj => by have : (j == k) = false := by simp; omega
                                             simp [this]]
      simp [hm]
    · rw [ih (by omega)]
      have : (n == k) = false := by simp; omega
      simp only [this, Bool.or_false]; omega
def addS (n : Nat) (m : Nat → Bool) (xs : List Int) : Nat → Bool := fun k => m k || (decide (k < n) && xs.contains (k : Int))
theorem take_succ_get {xs : List Int} {j : Nat} {x : Int} (h : xs[j]? = some x) : xs.take (j + 1) = xs.take j ++ [x] := by
  rw [List.take_add_one, h]; rfl
theorem contains_snoc (l : List Int) (x y : Int) : (l ++ [x]).contains y = (l.contains y || y == x) := by
  simp only [List.contains_append, List.contains_cons, List.contains_nil, Bool.or_false]
theorem addS_step {n : Nat} {m : Nat → Bool} {xs : List Int} {j : Nat} {x : Nat} (h : xs[j]? = some (x : Int)) (hx : x < n) : addS n m (xs.take (j + 1)) = fun k => addS n m (xs.take j) k || k == x := by
  funext k
  simp only [addS, take_succ_get h, contains_snoc]
  have e : ((k : Int) == (x : Int)) = (k == x) := by
    rw [Bool.eq_iff_iff]; simp only [beq_iff_eq]; omega
  rw [e]
  by_cases hk : k = x
  · subst hk; simp [hx]
  · have : (k == x) = false := by simp [hk]
    simp [this]
theorem addS_skip {n : Nat} {m : Nat → Bool} {xs : List Int} {j : Nat} {x : Int} (h : xs[j]? = some x) (hx : ∀ k : Nat, k < n → (k : Int) = x → addS n m (xs.take j) k = true) : addS n m (xs.take (j + 1)) = addS n m (xs.take j) := by
  funext k
  have hk := hx k
  simp only [addS, take_succ_get h, contains_snoc] at hk ⊢
  by_cases h1 : k < n
  · by_cases h2 : (k : Int) = x
    · have := hk h1 h2
      simp only [h1, decide_true, Bool.true_and] at this ⊢
      rw [this]
      revert this
      cases m k <;> simp
      intro h; exact .inl h
    · have : ((k : Int) == x) = false := by simp [h2]
      simp [this]
  · simp [h1]
theorem addS_nil (n : Nat) (m : Nat → Bool) : addS n m [] = m := by funext k; simp [addS]
end Go.V
namespace Go.Proofs.YtaheggomcnbbiaaDoor
open Go.V
section
variable {w : World} {L : List Asn} {a : Option Addr} {l c : Nat} {p : Option Addr} {n : Nat} {m : Nat → Bool} {xs : List Int}
theorem c_Add {D : Asn} (hD : ∀ h, D h → rdV a (iv xs) h) (h : St w (setM p n m :: D :: L)) (hl : xs.length = l) (hb : l ≤ 4611686018427387904) :
    Run Tryd.prog n_bits_Set_Add [.pointer p, .slice a l c] w fun v w' => v = .int .i64 ((cnt n (addS n m xs) : Int) - cnt n m) ∧ St w' (setM p n (addS n m xs) :: D :: L) := by
  refine run_bits_Set_Add _ _ _ _ w _ ?_
  refine ⟨fun n1 n2 w => ∃ j : Nat, n2 = j ∧ j ≤ l ∧ n1 = (cnt n (addS n m (xs.take j)) : Int) - cnt n m ∧ St w (setM p n (addS n m (xs.take j)) :: D :: L),
    fun _ n2 _ => l - n2.toNat, ⟨0, rfl, by omega, by simp [addS_nil], by simpa [addS_nil] using h⟩, ?_⟩
  rintro _ n1 n2 w1 ⟨j, rfl, hj, hn1, hs⟩
  refine br_intro (fun h0 => ?_) fun h0 => ?_
  · have h0 : j < l := by have := of_decide_eq_true h0; omega
    obtain ⟨x, hx⟩ : ∃ x, xs[j]? = some x := ⟨xs[j], by simp [show j < xs.length by omega]⟩
    obtain ⟨ad, rfl, hc⟩ := rdV_get (hs.swap.head hD) (iv_get hx)
    have hle := cnt_le n (addS n m (xs.take j))
    have hle2 := cnt_le n m
    have hn := setM_le hs
    have mI : inI ((j : Int) + 1) := ⟨by omega, by omega⟩
    refine idx_i rfl h0 ⟨x, hc, ?_⟩
    have skip : (∀ k : Nat, k < n → (k : Int) = x → addS n m (xs.take j) k = true) → ∀ w2, St w2 (setM p n (addS n m (xs.take j)) :: D :: L) → inI ((j : Int) + 1) ∧
        (∃ j' : Nat, (j : Int) + 1 = j' ∧ j' ≤ l ∧ n1 = (cnt n (addS n m (xs.take j')) : Int) - cnt n m ∧ St w2 (setM p n (addS n m (xs.take j')) :: D :: L)) ∧ l - ((j : Int) + 1).toNat < l - (j : Int).toNat := by
      intro hx' w2 hs2
      refine ⟨mI, ⟨j + 1, by simp, by omega, ?_, ?_⟩, msr h0⟩
      · rw [addS_skip hx hx']; exact hn1
      · rw [addS_skip hx hx']; exact hs2
    refine br_intro (fun h1 => ?_) fun h1 => ?_
    · have h1 := of_decide_eq_true h1
      obtain ⟨x, rfl⟩ := Int.eq_ofNat_of_zero_le h1
      refine (c_Size hs).mono ?_
      rintro _ _ ⟨rfl, rfl⟩
      refine ⟨_, rfl, br_intro (fun h2 => ?_) fun h2 => ?_⟩
      · have h2 : x < n := by have := of_decide_eq_true h2; omega
        rcases setM_cases hs with ⟨rfl, rfl, _⟩ | ⟨b, ab, cb, ws, rfl, hi, hs2⟩
        · omega
        have hw := inv_lt hi h2
        have hxb : x < 4096 := by omega
        refine ⟨ab, ws.length, cb, by rw [hs2.cell]; rfl, ?_⟩
        refine (c_words_has hs2.swap hi.lt hw hxb).mono ?_
        rintro _ _ ⟨rfl, rfl⟩
        refine ⟨_, rfl, br_intro (fun h3 => ?_) fun h3 => ?_⟩
        · refine ⟨ab, ws.length, cb, by rw [hs2.cell]; rfl, ?_⟩
          refine (c_words_put hs2.swap hi.lt hw hxb).mono ?_
          rintro _ w3 ⟨rfl, ws', e1, e2, e3, hs3⟩
          have hfalse : addS n m (xs.take j) x = false := by rw [hi.mm]; simpa using h3
          have hcnt := cnt_add h2 hfalse
          have hst := addS_step (m := m) hx h2
          refine ⟨rfl, ⟨by omega, by omega⟩, mI, ⟨j + 1, by simp, by omega, ?_, ?_⟩, msr h0⟩
          · rw [hst, hcnt, hn1]; omega
          · rw [hst]
            rw [← e1] at hs3
            refine setM_mk ⟨e1 ▸ hi.len, hi.le, e2, fun k => ?_, fun k hk => ?_⟩ (by rw [e1] at hs3 ⊢; exact hs3.swap)
            · rw [e3, hi.mm]
            · rw [hi.out k hk]; simp; omega
        · refine skip (fun k hk he => ?_) _ hs
          have : k = x := by omega
          subst this
          rw [hi.mm]; simpa using h3
      · refine skip (fun k hk he => ?_) _ hs
        have := of_decide_eq_false h2; omega
    · refine skip (fun k hk he => ?_) _ hs
      have := of_decide_eq_false h1; omega
  · have h0 : j = l := by have := of_decide_eq_false h0; omega
    subst h0
    rw [← hl, List.take_length] at hs hn1
    exact ⟨by rw [hn1], hs⟩
end
end Go.Proofs.YtaheggomcnbbiaaDoor
set_option linter.unusedVariables false
namespace Go.V
def val : List Nat → Nat
  | [] => 0
  | p :: l => p + 256 * val l
theorem wrap_u64_mod (n : Nat) : IntKind.u64.wrap (n : Int) = ((n % 18446744073709551616 : Nat) : Int) := by
  simp only [IntKind.wrap, IntKind.signed, IntKind.bits]
  simp
theorem wrap_u64_neg {x : Nat} (h0 : x ≠ 0) (hx : x < 2 ^ 64) : IntKind.u64.wrap (0 - (x : Int)) = ((18446744073709551616 - x : Nat) : Int) := by
  have : (0 - (x : Int)) % (18446744073709551616 : Int) = ((18446744073709551616 - x : Nat) : Int) := by omega
  simpa [IntKind.wrap, IntKind.signed, IntKind.bits] using this
theorem map_getD {T : List Nat} {i k : Nat} {f : Nat → Value} (h : T.getD i 0 = k) (hi : i < T.length) : (T.map f)[i]? = some (f k) := by
  rw [List.getD_eq_getElem?_getD, List.getElem?_eq_getElem hi] at h
  rw [List.getElem?_map, List.getElem?_eq_getElem hi]
  simp only [Option.getD_some] at h
  rw [h]; rfl
theorem tz_idx {x a : Nat} (h0 : x ≠ 0) (hx : x < 2 ^ 64) (ha : x &&& (18446744073709551616 - x) = a) :
    shrI .u64 (IntKind.u64.wrap (bitI .and .u64 (x : Int) (IntKind.u64.wrap (0 - (x : Int))) * 285870213051353865)) 58 = ((a * 285870213051353865 % 18446744073709551616 / 2 ^ 58 : Nat) : Int) := by
  have e2 := bitI_and (a := x) (b := 18446744073709551616 - x) hx (by omega)
  rw [wrap_u64_neg h0 hx, e2, ha]
  have e3 := wrap_u64_mod (a * 285870213051353865)
  rw [Int.natCast_mul] at e3
  have e5 : ((285870213051353865 : Nat) : Int) = 285870213051353865 := rfl
  rw [e5] at e3
  rw [e3]
  exact shrI_nat (s := 58) (by omega)
end Go.V
namespace Go.Proofs.YtaheggomcnbbiaaDoor
open Go.V
theorem c_TrailingZeros64 {x : Nat} (hx : x < 2 ^ 64) (w : World) {L : List Asn} (h : St w (rdV (some ⟨0, 0, none⟩) (Lib.deBruijn64tab.map fun (k : Nat) => Value.int .u8 (k : Int)) :: L)) : Run Tryd.prog n_math_bits_TrailingZeros64 [.int .u64 (x : Int)] w fun v w' => v = .int .i64 ((Lib.ctz 64 x : Nat) : Int) ∧ w' = w := by
  refine run_math_bits_TrailingZeros64 _ w _ ?_
  refine br_intro (fun h0 => ?_) fun h0 => ?_
  · have : x = 0 := by simpa using h0
    subst this
    exact ⟨rfl, rfl⟩
  · have h0 : x ≠ 0 := by simpa using h0
    obtain ⟨hlow, hk⟩ := Lib.lowest_bit 64 x h0 hx
    obtain ⟨hi, htab⟩ := Lib.deBruijn64_at _ hk
    rw [tz_idx h0 hx hlow]
    generalize Lib.ctz 64 x = k at hk hi htab ⊢
    have e58 : (2 : Nat) ^ 58 = 288230376151711744 := by decide
    rw [e58]
    generalize 2 ^ k * 285870213051353865 % 18446744073709551616 / 288230376151711744 = i at hi htab ⊢
    refine ⟨show (0 : Int) ≤ 58 by decide, idx_i rfl hi ⟨(k : Int), ?_, ⟨by omega, by omega⟩, rfl, rfl⟩⟩
    have hg := map_getD (f := fun (k : Nat) => Value.int .u8 (k : Int)) htab hi
    obtain ⟨ad, e, hc⟩ := rdV_get h hg
    cases e
    exact hc
end Go.Proofs.YtaheggomcnbbiaaDoor
set_option linter.unusedVariables false
namespace Go.V
theorem cnt_split (a b : Nat) (m : Nat → Bool) : cnt (a + b) m = cnt a m + cnt b (fun k => m (a + k)) := by
  unfold cnt
  rw [List.range_add, List.filter_append, List.length_append, List.filter_map, List.length_map]
  rfl
theorem cnt_zero {a : Nat} {m : Nat → Bool} (h : ∀ k, k < a → m k = false) : cnt a m = 0 := by
  unfold cnt
  rw [List.filter_eq_nil_iff.2 fun k hk => by simp [h k (by simpa using hk)]]; rfl
theorem cnt_all {n : Nat} {ws : List Nat} {m : Nat → Bool} (hi : Inv n ws m) : cnt (64 * ws.length) m = cnt n m := by
  have h : 64 * ws.length = n + (64 * ws.length - n) := by rw [hi.len]; omega
  rw [h, cnt_split, cnt_zero (a := 64 * ws.length - n) fun k _ => hi.out _ (by omega)]; omega
def ofN (s : Int) : Nat := (if 1024 < if s < 0 then 0 else s then 1024 else if s < 0 then 0 else s).toNat
theorem ofN_eq (s : Int) : (if 1024 < if s < 0 then 0 else s then (1024 : Int) else if s < 0 then 0 else s) = (ofN s : Int) := by
  unfold ofN
  split <;> split <;> omega
theorem ofN_le (s : Int) : ofN s ≤ 1024 := by
  unfold ofN; split
  · decide
  · split <;> omega
theorem reps_one (v : Value) : ∀ n, reps n [v] = List.replicate n v
  | 0 => rfl
  | n + 1 => by simp [reps, reps_one v n, List.replicate_succ]
theorem cw_zero (n : Nat) : cw (List.replicate n 0) = List.replicate n (.int .u64 0) := by simp [cw]
theorem mem_zero (n k : Nat) : mem (List.replicate n 0) k = false := by
  unfold mem
  rw [List.getD_eq_getElem?_getD, List.getElem?_replicate]
  split <;> simp
theorem inv_zero {n : Nat} (h : n ≤ 1024) : Inv n (List.replicate ((n + 63) / 64) 0) (fun _ => false) :=
  ⟨by simp, h, fun x hx => by rw [List.mem_replicate] at hx; rw [hx.2]; decide, fun k => (mem_zero _ k).symm, fun _ _ => rfl⟩
end Go.V
namespace Go.Proofs.YtaheggomcnbbiaaDoor
open Go.V
section
variable {w : World} {L : List Asn} {a : Option Addr} {l c : Nat} {p : Option Addr} {n : Nat} {m : Nat → Bool} {xs : List Int}
theorem c_Of (size : Int) {D : Asn} (hD : ∀ h, D h → rdV a (iv xs) h) (h : St w (D :: L)) (hl : xs.length = l) (hb : l ≤ 4611686018427387904) :
    Run Tryd.prog n_bits_Of [.int .i64 size, .slice a l c] w fun v w' => ∃ b, v = .pointer (some ⟨b, 0, none⟩) ∧ St w' (setM (some ⟨b, 0, none⟩) (ofN size) (addS (ofN size) (fun _ => false) xs) :: D :: L) := by
  refine run_bits_Of _ _ _ _ w _ ?_
  unfold vc_bits_Of
  rw [ofN_eq]
  have hle := ofN_le size
  generalize ofN size = N at *
  have e0 : ((N : Int) + 63) = ((N + 63 : Nat) : Int) := by omega
  rw [e0, tdiv64, Int.toNat_natCast]
  refine ⟨inI_nat (by omega), nz64, inI_nat (by omega), ⟨by omega, rfl, by omega⟩, ?_⟩
  rw [reps_one]
  refine newC_i h fun b1 w1 h1 => newC_i h1 fun b2 w2 h2 => ?_
  have h3 : St w2 (setM (some ⟨b2, 0, none⟩) N (fun _ => false) :: D :: L) := by
    refine setM_mk (a := some ⟨b1, 0, none⟩) (c := (N + 63) / 64) (inv_zero hle) ?_
    have hlen : (List.replicate ((N + 63) / 64) 0 : List Nat).length = (N + 63) / 64 := by simp
    rw [hlen]
    refine St.swap (own_some (cs := []) ?_ ?_ ?_ (Nat.le_refl _))
    · rw [List.append_nil, cw_zero]; exact h2.swap
    · simp [cw]
    · simp [cw]
  refine (c_Add hD h3 hl hb).mono ?_
  rintro _ w3 ⟨rfl, h4⟩
  exact ⟨_, rfl, b2, rfl, h4⟩
end
end Go.Proofs.YtaheggomcnbbiaaDoor
set_option linter.unusedVariables false
namespace Go.V
def itD (b : Nat) (n : Nat) (m : Nat → Bool) : Asn := ex fun x : Option Addr × Nat × List Nat => sta [pu (Inv n x.2.2 m), cel b [.slice x.1 x.2.2.length x.2.1], own 1 x.1 x.2.2.length x.2.1 (cw x.2.2)]
theorem itD_open {w : World} {L : List Asn} {b n : Nat} {m : Nat → Bool} : St w (itD b n m :: L) ↔ ∃ a c ws, Inv n ws m ∧ St w (cel b [.slice a ws.length c] :: own 1 a ws.length c (cw ws) :: L) := by
  unfold itD
  rw [St.ex]
  constructor
  · rintro ⟨⟨a, c, ws⟩, h⟩
    have h := St.pu.1 (St.flat.1 h)
    exact ⟨a, c, ws, h.1, h.2⟩
  · rintro ⟨a, c, ws, hi, h⟩
    exact ⟨⟨a, c, ws⟩, St.flat.2 (St.pu.2 ⟨hi, h⟩)⟩
theorem cw_nil {ws : List Nat} (h : cw ws = []) : ws = [] := by simpa [cw] using h
end Go.V
namespace Go.Proofs.YtaheggomcnbbiaaDoor
open Go.V
section
variable {w : World} {L : List Asn} {a : Option Addr} {l c : Nat} {p : Option Addr} {n : Nat} {m : Nat → Bool} {xs : List Int} {ws : List Nat}
theorem c_Clone {D : Asn} (hD : ∀ h, D h → rdV a (cw ws) h) (h : St w (D :: L)) (hb : ws.length ≤ 1024) (hn : a = none → ws = []) :
    Run Tryd.prog n_slices_Clone_bits_words_uint64_ [.slice a ws.length c] w fun v w' => ∃ a' c', v = .slice a' ws.length c' ∧ St w' (own 1 a' ws.length c' (cw ws) :: D :: L) := by
  refine run_slices_Clone_bits_words_uint64_ _ _ _ w _ ?_
  cases a with
  | none =>
    have h3 := hn rfl
    subst h3
    exact ⟨none, 0, rfl, own_nil 1 h⟩
  | some ad =>
    refine newC_i h fun b w1 h1 => ?_
    have h2 : St w1 (own 1 (some ⟨b, 0, none⟩) 0 0 [] :: D :: L) := own_some (cs := []) h1 rfl rfl (Nat.le_refl _)
    refine (app_own' tyOk (rfl : kdOfT Ty _ = .slice _) rfl rfl rfl h2 (n := ws.length) (news := cw ws) ?_ ?_ (by omega)).mono ?_
    · exact src_slice tyOk (rfl : kdOfT Ty _ = .slice _) (by simp [cw]) (.inr ⟨ad, rfl, fun j u hj => by
        obtain ⟨_, e, hc⟩ := rdV_get (h2.swap.head hD) hj
        cases e; exact hc⟩) (fun u hu => by
        simp only [cw, List.mem_map] at hu
        obtain ⟨_, _, rfl⟩ := hu; rfl)
    · show (0 + ws.length) * 8 ≤ _; omega
    · rintro _ w2 ⟨a', c', rfl, h3⟩
      rw [Nat.zero_add, List.nil_append] at h3
      exact ⟨_, _, _, rfl, a', c', by rw [Nat.zero_add], h3⟩
end
end Go.Proofs.YtaheggomcnbbiaaDoor
set_option linter.unusedVariables false
namespace Go.V
def membs (n : Nat) (m : Nat → Bool) : List Nat := (List.range n).filter m
theorem membs_len (n : Nat) (m : Nat → Bool) : (membs n m).length = cnt n m := rfl
theorem membs_at {n k : Nat} {m : Nat → Bool} (hk : k < n) (hm : m k = true) : (membs n m)[cnt k m]? = some k := by
  have e : n = k + (n - k - 1 + 1) := by omega
  unfold membs
  rw [e, List.range_add, List.filter_append, List.getElem?_append_right (by simp [cnt])]
  have : cnt k m - (List.filter m (List.range k)).length = 0 := by simp [cnt]
  rw [this, List.range_succ_eq_map, List.map_cons, List.filter_cons]
  simp [hm]
theorem low_spec {x : Nat} (h0 : x ≠ 0) (hx : x < 2 ^ 64) : Lib.ctz 64 x < 64 ∧ x.testBit (Lib.ctz 64 x) = true ∧ (∀ k, k < Lib.ctz 64 x → x.testBit k = false) ∧ ∀ k, (x &&& (x - 1)).testBit k = (x.testBit k && !(k == Lib.ctz 64 x)) := by
  have e : Lib.ctz 64 x = Lib.ctzFrom 64 x := by unfold Lib.ctz; rw [if_neg h0]
  obtain ⟨q, hq, hc⟩ := Lib.ctzFrom_spec 64 x (by omega) hx
  rw [e]
  generalize Lib.ctzFrom 64 x = c at *
  have hp : 0 < 2 ^ c := Nat.two_pow_pos c
  have hx1 : x - 1 = 2 ^ c * (2 * q) + (2 ^ c - 1) := by
    rw [hq, Nat.mul_add, Nat.mul_one]; omega
  have t1 : ∀ k, x.testBit k = if k < c then false else (2 * q + 1).testBit (k - c) := fun k => by
    rw [hq]
    have := Nat.testBit_two_pow_mul_add (2 * q + 1) (b := 0) (i := c) hp k
    rw [Nat.add_zero] at this
    rw [this]; simp
  have t2 : ∀ k, (x - 1).testBit k = if k < c then true else (2 * q).testBit (k - c) := fun k => by
    rw [hx1, Nat.testBit_two_pow_mul_add _ (by omega)]
    split
    · rename_i h; rw [Nat.testBit_two_pow_sub_one]; simp [h]
    · rfl
  refine ⟨hc, ?_, fun k hk => ?_, fun k => ?_⟩
  · rw [t1, if_neg (by omega)]; simp
  · rw [t1, if_pos hk]
  · rw [Nat.testBit_and, t2, t1]
    by_cases hk : k < c
    · simp [hk]
    · rw [if_neg hk, if_neg hk]
      by_cases hkc : k = c
      · subst hkc; simp
      · have e3 : k - c = (k - c - 1) + 1 := by omega
        have : (k == c) = false := by simp [hkc]
        rw [this, e3, Nat.testBit_add_one, Nat.testBit_add_one]
        have e4 : (2 * q + 1) / 2 = q := by omega
        have e5 : 2 * q / 2 = q := by omega
        rw [e4, e5]; simp
def ivm (l : List Nat) : List (List Value) := l.map fun (k : Nat) => [Value.int .i64 (k : Int)]
theorem cnt_mono_none {a b : Nat} {m : Nat → Bool} (h : a ≤ b) (hf : ∀ k, a ≤ k → k < b → m k = false) : cnt b m = cnt a m := by
  have e : b = a + (b - a) := by omega
  rw [e, cnt_split, cnt_zero (a := b - a) fun k hk => hf _ (by omega) (by omega)]; omega
def tabV : List Value := Lib.deBruijn64tab.map fun (k : Nat) => Value.int .u8 (k : Int)
def tabA : Asn := rdV (some ⟨0, 0, none⟩) tabV
theorem st_of' {A : Asn} {w : World} (h : A (hp w)) : St w [A] := ⟨hp w, fun _ => none, fun _ => .inr rfl, sub.refl _, fun _ _ h => (nomatch h), h, trivial⟩
end Go.V
namespace Go.Proofs.YtaheggomcnbbiaaDoor
open Go.V
section
variable {w : World} {L : List Asn} {b : Nat} {n : Nat} {m : Nat → Bool}
theorem c_All_itr : Itr Tryd.prog n_bits_Set_All_S1 [] [.pointer (some ⟨b, 0, none⟩)] (itD b n m) tabA (ivm (membs n m)) := by
  intro l E hE J Jx L w0 h0 hQ hy
  have h0' : ∃ a c ws, Inv n ws m ∧ St w0 (J 0 :: cel b [.slice a ws.length c] :: own 1 a ws.length c (cw ws) :: L) := by
    obtain ⟨a, c, ws, hi, h2⟩ := itD_open.1 h0.swap
    exact ⟨a, c, ws, hi, h2.rot3⟩
  obtain ⟨a, c, ws, hi, hs0⟩ := h0'
  have back : ∀ (A : Asn) w', St w' (A :: cel b [.slice a ws.length c] :: own 1 a ws.length c (cw ws) :: L) → St w' (A :: itD b n m :: L) := by
    intro A w' h
    exact (itD_open.2 ⟨a, c, ws, hi, h.perm ((List.Perm.swap _ _ _).trans (List.Perm.cons _ (List.Perm.swap _ _ _)))⟩).swap
  have tab2 : ∀ {A B C : Asn} {w'}, St w' (A :: B :: C :: L) → St w' [tabA] := fun {A B C w'} h => st_of' (hQ _ (starL_tail (starL_tail (starL_tail h))))
  refine run_bits_Set_All_S1_Y E l ⟨b, 0, none⟩ hE w0 _ ?_
  refine ⟨a, ws.length, c, by rw [hs0.swap.cell]; rfl, ?_⟩
  refine ⟨fun n1 w => ∃ j : Nat, n1 = j ∧ j ≤ ws.length ∧ St w (J (cnt (64 * j) m) :: cel b [.slice a ws.length c] :: own 1 a ws.length c (cw ws) :: L), fun n1 _ => ws.length - n1.toNat,
    ⟨0, rfl, by omega, by simpa [cnt] using hs0⟩, ?_⟩
  rintro _ n1 w1 ⟨j, rfl, hj, hs⟩
  have hlen := hi.len
  have hn := hi.le
  refine br_intro (fun h1 => ?_) fun h1 => ?_
  · have h1 : j < ws.length := by have := of_decide_eq_true h1; omega
    obtain ⟨ad, rfl⟩ := own_addr hs.rot3 (by simp [cw]; omega)
    have hg := own_get hs.rot3 rfl (cw_get h1)
    refine idx_i rfl h1 ⟨_, hg, ?_⟩
    have hw64 := getD_lt hi.lt j
    have hmem : ∀ k, k < 64 → m (64 * j + k) = (ws.getD j 0).testBit k := fun k hk => by
      rw [hi.mm]; unfold mem
      rw [show (64 * j + k) / 64 = j by omega, show (64 * j + k) % 64 = k by omega]
    generalize ws.getD j 0 = W at hg hw64 hmem ⊢
    refine ⟨fun n3 w => ∃ (r s : Nat), n3 = r ∧ r < 2 ^ 64 ∧ s ≤ 64 ∧ (∀ k, r.testBit k = (decide (s ≤ k) && W.testBit k)) ∧ St w (J (cnt (64 * j + s) m) :: cel b [.slice (some ad) ws.length c] :: own 1 (some ad) ws.length c (cw ws) :: L), fun n3 _ => n3.toNat,
      ⟨W, 0, rfl, hw64, by omega, by simp, by simpa using hs⟩, ?_⟩
    rintro _ n3 w2 ⟨r, s, rfl, hr, hs64, hbits, hs2⟩
    refine br_intro (fun h2 => ?_) fun h2 => ?_
    · have h2 : r ≠ 0 := by simpa using h2
      obtain ⟨k1, k2, k3, k4⟩ := low_spec h2 hr
      have hinj : inI (64 * (j : Int)) := ⟨by omega, by omega⟩
      refine ⟨hinj, ?_⟩
      refine ((c_TrailingZeros64 hr w2 (tab2 hs2)).toE hE).mono ?_
      rintro _ _ ⟨rfl, rfl⟩
      generalize Lib.ctz 64 r = k at k1 k2 k3 k4 ⊢
      refine ⟨_, rfl, ⟨by omega, by omega⟩, ?_⟩
      have hsk : s ≤ k ∧ W.testBit k = true := by
        rw [hbits] at k2; simpa using k2
      have hmk : m (64 * j + k) = true := by rw [hmem k k1]; exact hsk.2
      have hkn : 64 * j + k < n := Nat.lt_of_not_le fun hle => by rw [hi.out _ hle] at hmk; cases hmk
      have hpos : cnt (64 * j + k) m = cnt (64 * j + s) m := cnt_mono_none (by omega) fun q hq1 hq2 => by
        have h3 := k3 (q - 64 * j) (by omega)
        rw [hbits] at h3
        have : s ≤ q - 64 * j := by omega
        have h4 := hmem (q - 64 * j) (by omega)
        rw [show 64 * j + (q - 64 * j) = q by omega] at h4
        rw [h4]; simpa [this] using h3
      have hxs : (ivm (membs n m))[cnt (64 * j + s) m]? = some [.int .i64 ((64 * j + k : Nat) : Int)] := by
        unfold ivm
        rw [List.getElem?_map, ← hpos, membs_at hkn hmk]; rfl
      have e64 : (64 * (j : Int) + (k : Int)) = ((64 * j + k : Nat) : Int) := by omega
      rw [e64]
      obtain ⟨f', tmps, asg, body, y1, y2⟩ := hy _ _ hxs _ _ (fun h hh => starL_tail (starL_tail hh)) hs2
      refine ⟨f', tmps, asg, body, y1, RoundIn.mono y2 ?_⟩
      rintro e w4 ⟨v, rfl, hE4, hv⟩
      refine ⟨v, rfl, hE4, ?_⟩
      have hone : cnt (64 * j + (k + 1)) m = cnt (64 * j + s) m + 1 := by
        rw [show 64 * j + (k + 1) = 64 * j + k + 1 by omega, cnt_succ, hmk, hpos]; rfl
      rcases hv with ⟨rfl, hs4⟩ | ⟨rfl, hs4⟩
      · refine ⟨true, rfl, ?_⟩
        have e1 : IntKind.u64.wrap ((r : Int) - 1) = ((r - 1 : Nat) : Int) := by
          have := wrap_u64 (r - 1) (by omega)
          rw [← this]; congr 1; omega
        have e2 := bitI_and (a := r) (b := r - 1) hr (by omega)
        show (∃ r' s' : Nat, _ ∧ _) ∧ _
        rw [e1, e2]
        refine ⟨⟨r &&& (r - 1), k + 1, rfl, Nat.and_lt_two_pow _ (by omega), by omega, fun q => ?_, ?_⟩, ?_⟩
        · rw [k4, hbits]
          by_cases hq : q < k
          · have h3 := k3 q hq
            rw [hbits] at h3
            rw [h3]
            have : ¬ k + 1 ≤ q := by omega
            simp [this]
          · by_cases hqk : q = k
            · subst hqk
              have : ¬ q + 1 ≤ q := by omega
              simp [this]
            · have h5 : (q == k) = false := by simp [hqk]
              have h6 : s ≤ q := by omega
              have h7 : k + 1 ≤ q := by omega
              simp [h5, h6, h7]
        · rw [hone]; exact hs4
        · show (((r &&& (r - 1) : Nat) : Int)).toNat < ((r : Nat) : Int).toNat
          have : r &&& (r - 1) ≤ r - 1 := Nat.and_le_right
          simp only [Int.toNat_natCast]
          omega
      · refine ⟨false, rfl, ?_⟩
        exact .inr (back _ _ hs4)
    · have h2 : r = 0 := by simpa using h2
      subst h2
      refine ⟨⟨by omega, by omega⟩, ⟨j + 1, by simp, by omega, ?_⟩, msr h1⟩
      have : cnt (64 * (j + 1)) m = cnt (64 * j + s) m := cnt_mono_none (by omega) fun q hq1 hq2 => by
        have h3 := hbits (q - 64 * j)
        have h4 := hmem (q - 64 * j) (by omega)
        rw [show 64 * j + (q - 64 * j) = q by omega] at h4
        rw [h4]
        have : s ≤ q - 64 * j := by omega
        simpa [this] using h3.symm
      rw [this]; exact hs2
  · have h1 : j = ws.length := by have := of_decide_eq_false h1; omega
    subst h1
    rw [cnt_all hi, ← membs_len] at hs
    refine .inl ?_
    have : (ivm (membs n m)).length = (membs n m).length := by simp [ivm]
    rw [this]
    exact back _ _ hs
end
end Go.Proofs.YtaheggomcnbbiaaDoor
set_option linter.unusedVariables false
namespace Go.V
end Go.V
namespace Go.Proofs.YtaheggomcnbbiaaDoor
open Go.V
section
variable {w : World} {L : List Asn} {a : Option Addr} {l c : Nat} {p : Option Addr} {n : Nat} {m : Nat → Bool} {xs : List Int} {ws : List Nat}
end
end Go.Proofs.YtaheggomcnbbiaaDoor
set_option linter.unusedVariables false
namespace Go.V
theorem natEq {a b : Nat} (h : ((a : Int) == b) = true) : a = b := by
  have : (a : Int) = b := by simpa using h
  omega
theorem natNe' {a b : Nat} (h : ((a : Int) == b) = false) : a ≠ b := by
  have : (a : Int) ≠ b := by simpa using h
  omega
end Go.V
set_option linter.unusedVariables false
namespace Go.V
def tlA : List Asn → List Asn
  | [] => []
  | _ :: L => L
def dropN : Nat → List Asn → List Asn
  | 0, L => L
  | n + 1, L => dropN n (tlA L)
abbrev dropA (L : List Asn) (n : Nat) : List Asn := dropN n L
theorem dropN_nil : ∀ n, dropN n [] = []
  | 0 => rfl
  | n + 1 => dropN_nil n
def hasN (i : Nat) : List Nat → Bool
  | [] => false
  | j :: l => Nat.beq i j || hasN i l
theorem hasN_eq (i : Nat) : ∀ l, hasN i l = l.contains i
  | [] => rfl
  | j :: l => by
    rw [hasN, hasN_eq i l, List.contains_cons]; congr 1; rw [Bool.eq_iff_iff]; simp
def pickA (L : List Asn) : List Nat → List Asn → List Asn
  | [], T => T
  | i :: is, T => nthA L i :: pickA L is T
def okP (n : Nat) : List Nat → Bool
  | [] => true
  | i :: is => Nat.blt i n && !hasN i is && okP n is
theorem starL_split : ∀ (n : Nat) (L : List Asn) (h : Hp), starL L h →
    ∃ (f : Nat → Hp) (g : Hp), (∀ i j, i ≠ j → i < n → j < n → dis (f i) (f j)) ∧ (∀ i, i < n → dis (f i) g) ∧ (∀ i, i < n → sub (f i) h) ∧ sub g h ∧ (∀ i, i < n → nthA L i (f i)) ∧ starL (dropA L n) g
  | 0, L, h, hs => ⟨fun _ => h, h, fun _ _ _ hi => absurd hi (by omega), fun _ hi => absurd hi (by omega), fun _ hi => absurd hi (by omega), sub.refl _, fun _ hi => absurd hi (by omega), hs⟩
  | n + 1, [], h, hs => ⟨fun _ _ => none, h, fun _ _ _ _ _ _ => .inl rfl, fun _ _ _ => .inl rfl, fun _ _ _ _ h => (nomatch h), sub.refl _, fun _ _ => trivial, by show starL (dropN n []) _; rw [dropN_nil]; trivial⟩
  | n + 1, A :: L, h, ⟨h1, h2, d, s1, s2, ha, hl⟩ => by
    obtain ⟨f, g, f1, f2, f3, f4, f5, f6⟩ := starL_split n L h2 hl
    refine ⟨fun i => match i with | 0 => h1 | i + 1 => f i, g, fun i j hne hi hj => ?_, fun i hi => ?_, fun i hi => ?_, f4.trans s2, fun i hi => ?_, f6⟩
    · cases i with
      | zero => cases j with
        | zero => exact absurd rfl hne
        | succ j => exact d.sub (sub.refl _) (f3 j (by omega))
      | succ i => cases j with
        | zero => exact (d.sub (sub.refl _) (f3 i (by omega))).symm
        | succ j => exact f1 i j (by omega) (by omega) (by omega)
    · cases i with
      | zero => exact d.sub (sub.refl _) f4
      | succ i => exact f2 i (by omega)
    · cases i with
      | zero => exact s1
      | succ i => exact (f3 i (by omega)).trans s2
    · cases i with
      | zero => exact ha
      | succ i => exact f5 i (by omega)
theorem starL_join {L T : List Asn} {n : Nat} {f : Nat → Hp} {g h : Hp} (f1 : ∀ i j, i ≠ j → i < n → j < n → dis (f i) (f j)) (f2 : ∀ i, i < n → dis (f i) g) (f3 : ∀ i, i < n → sub (f i) h) (f4 : sub g h)
    (f5 : ∀ i, i < n → nthA L i (f i)) (f6 : starL T g) : ∀ is : List Nat, okP n is = true → ∃ u, sub u h ∧ starL (pickA L is T) u ∧ ∀ i, i < n → i ∉ is → dis (f i) u
  | [], _ => ⟨g, f4, f6, fun i hi _ => f2 i hi⟩
  | i :: is, hok => by
    simp only [okP, hasN_eq, Bool.and_eq_true, Bool.not_eq_true', Nat.blt_eq] at hok
    obtain ⟨⟨hi, hni⟩, hok⟩ := hok
    have hni : i ∉ is := by simpa using hni
    obtain ⟨u, u1, u2, u3⟩ := starL_join f1 f2 f3 f4 f5 f6 is hok
    have d := u3 i hi hni
    refine ⟨uni (f i) u, uni_sub (f3 i hi) u1, ⟨f i, u, d, sub_uni_l _ _, sub_uni_r d, f5 i hi, u2⟩, fun j hj hjn => ?_⟩
    simp only [List.mem_cons, not_or] at hjn
    exact (dis_uni (f1 i j (fun e => hjn.1 e.symm) hi hj) (u3 j hj hjn.2).symm).symm
theorem St.pick {w : World} {L : List Asn} (h : St w L) (n : Nat) (is : List Nat) (hok : okP n is = true := by rfl) : St w (pickA L is (dropA L n)) := by
  obtain ⟨f, g, f1, f2, f3, f4, f5, f6⟩ := starL_split n L _ h
  obtain ⟨u, u1, u2, _⟩ := starL_join f1 f2 f3 f4 f5 f6 is hok
  exact starL_sub u2 u1
example {w : World} {A B C : Asn} {L : List Asn} (h : St w (A :: B :: C :: L)) : St w (C :: A :: L) := h.pick 3 [2, 0]
end Go.V
set_option linter.unusedVariables false
namespace Go.V
def Gr (w w' : World) : Prop := sub (hp w) (hp w')
theorem Gr.refl (w : World) : Gr w w := sub.refl _
theorem Gr.trans {a b c : World} (h : Gr a b) (k : Gr b c) : Gr a c := sub.trans h k
theorem Gr.of_eq {w w' : World} (h : hp w' = hp w) : Gr w w' := by unfold Gr; rw [h]; exact sub.refl _
theorem St.gr {w w' : World} {L : List Asn} (h : St w L) (g : Gr w w') : St w' L := starL_sub h g
abbrev all (w : World) : List Asn := [has (hp w)]
theorem has_i {h0 h : Hp} (s : sub h0 h) : starL [has h0] h := ⟨h0, fun _ => none, fun _ => .inr rfl, s, fun _ _ h => (nomatch h), sub.refl _, trivial⟩
theorem St.here {w : World} {h0 : Hp} (s : sub h0 (hp w)) : St w [V.has h0] := has_i s
theorem St.all (w : World) : St w (V.all w) := has_i (sub.refl _)
theorem starL_under {L M N : List Asn} (hm : ∀ h, starL M h → starL N h) : ∀ {h : Hp}, starL (L ++ M) h → starL (L ++ N) h := by
  induction L with
  | nil => exact fun h => hm _ h
  | cons A L ih => exact fun ⟨h1, h2, d, s1, s2, ha, hl⟩ => ⟨h1, h2, d, s1, s2, ha, ih hl⟩
theorem has_frame {L : List Asn} {h0 : Hp} (hl : starL L h0) : ∀ h, starL [has h0] h → starL L h := fun h hh => starL_sub hl (starL_has hh)
theorem St.on {w' : World} {N L : List Asn} {h0 : Hp} (h : St w' (N ++ [V.has h0])) (hl : starL L h0) : St w' (N ++ L) := starL_under (has_frame hl) h
theorem St.on1 {w' : World} {A : Asn} {L : List Asn} {h0 : Hp} (h : St w' [A, V.has h0]) (hl : starL L h0) : St w' (A :: L) := St.on (N := [A]) h hl
theorem St.gone {w' : World} {N : List Asn} {h0 : Hp} (h : St w' (N ++ [V.has h0])) : sub h0 (hp w') := by
  induction N with
  | nil => exact starL_has h
  | cons A N ih => exact ih h.tail
theorem St.gone1 {w' : World} {A : Asn} {h0 : Hp} (h : St w' [A, V.has h0]) : sub h0 (hp w') := St.gone (N := [A]) h
theorem St.freeze {w : World} {A : Asn} {L : List Asn} (h : St w (A :: L)) : ∃ h0, starL L h0 ∧ sub h0 (hp w) ∧ St w [A, V.has h0] := by
  obtain ⟨h1, h2, d, s1, s2, ha, hl⟩ := h
  exact ⟨h2, hl, s2, h1, h2, d, s1, s2, ha, has_i (sub.refl _)⟩
theorem St.first {w : World} {A : Asn} {L : List Asn} (h : St w (A :: L)) : ∃ h1, sub h1 (hp w) ∧ A h1 := by
  obtain ⟨h1, h2, d, s1, s2, ha, hl⟩ := h
  exact ⟨h1, s1, ha⟩

def rowH (h : Hp) (a : Addr) (vs : List Value) : Prop := ∀ j v, vs[j]? = some v → cellH h (a.add j) = some v
theorem rowH.mono {h h' : Hp} {a : Addr} {vs : List Value} (s : sub h h') (r : rowH h a vs) : rowH h' a vs := fun j v hj => cellH_sub s (r j v hj)
theorem rowH.cell {w : World} {h : Hp} {a : Addr} {vs : List Value} (r : rowH h a vs) (s : sub h (hp w)) {j : Nat} {v : Value} (hj : vs[j]? = some v) : w.cell? (a.add j) = some v := cellH_w (cellH_sub s (r j v hj))
theorem rowH.cell0 {w : World} {h : Hp} {a : Addr} {v : Value} {vs : List Value} (r : rowH h a (v :: vs)) (s : sub h (hp w)) : w.cell? a = some v := by
  have := r.cell s (j := 0) (v := v) rfl
  simpa [Addr.add] using this
theorem rowH.drop {h : Hp} {a : Addr} {us vs : List Value} (r : rowH h a (us ++ vs)) : rowH h (a.add us.length) vs := fun j v hj => by
  rw [add_add]; exact r _ v (by rw [List.getElem?_append_right (by omega), Nat.add_sub_cancel_left]; exact hj)
theorem rowH.take {h : Hp} {a : Addr} {us vs : List Value} (r : rowH h a (us ++ vs)) : rowH h a us := fun j v hj =>
  r j v (by rw [List.getElem?_append_left (List.getElem?_eq_some_iff.1 hj).1]; exact hj)
theorem rowAt_row {w : World} {h : Hp} {a : Addr} (s : sub h (hp w)) : ∀ (vs : List Value) (i : Nat), rowH h (a.add i) vs → rowAt w a i vs.length = some vs
  | [], i, _ => rfl
  | v :: vs, i, r => by
    have h1 : w.cell? (a.add i) = some v := r.cell0 s
    have h2 : rowH h (a.add (i + 1)) vs := by
      rw [← add_add]; exact rowH.drop (us := [v]) r
    simp only [List.length_cons, rowAt, h1, rowAt_row s vs (i + 1) h2]
theorem rowH.at {w : World} {h : Hp} {a : Addr} {vs : List Value} {n : Nat} (r : rowH h a vs) (s : sub h (hp w)) (hn : vs.length = n) : rowAt w a 0 n = some vs := by
  subst hn; exact rowAt_row s vs 0 (by simpa [Addr.add] using r)
theorem cel_row {b : Nat} {vs : List Value} {h : Hp} (hc : cel b vs h) : rowH h ⟨b, 0, none⟩ vs := fun j v hj => by
  obtain ⟨e, he⟩ := hc
  rw [add_lit0]; unfold cellH; simp only [he]; simpa using hj
class Rep (α : Type) where
  n : Nat
  rd : Hp → α → List Value → Prop
  mono : ∀ {h h' : Hp} {x : α} {vs : List Value}, sub h h' → rd h x vs → rd h' x vs
  len : ∀ {h : Hp} {x : α} {vs : List Value}, rd h x vs → vs.length = n
abbrev rd {α : Type} [Rep α] (h : Hp) (x : α) (vs : List Value) : Prop := Rep.rd h x vs
def rdS {α : Type} [Rep α] (h : Hp) (xs : List α) (a : Option Addr) (l : Nat) : Prop :=
  xs.length = l ∧ ∀ i x, xs[i]? = some x → ∃ ad vs, a = some ad ∧ rowH h (ad.add (mulS i (Rep.n α))) vs ∧ rd h x vs
section
variable {α : Type} [Rep α] {h h' : Hp} {w : World} {xs : List α} {a : Option Addr} {l : Nat}
theorem rdS.mono (s : sub h h') (r : rdS h xs a l) : rdS h' xs a l :=
  ⟨r.1, fun i x hx => by obtain ⟨ad, vs, h1, h2, h3⟩ := r.2 i x hx; exact ⟨ad, vs, h1, h2.mono s, Rep.mono s h3⟩⟩
theorem rdS.nil : rdS h ([] : List α) a 0 := ⟨rfl, fun i x hx => by simp at hx⟩
theorem rdS.get (r : rdS h xs a l) {i : Nat} (hi : i < l) : ∃ x ad vs, xs[i]? = some x ∧ a = some ad ∧ rowH h (ad.add (mulS i (Rep.n α))) vs ∧ rd h x vs := by
  have hl : i < xs.length := by rw [r.1]; exact hi
  obtain ⟨ad, vs, h1, h2, h3⟩ := r.2 i xs[i] (List.getElem?_eq_getElem hl)
  exact ⟨xs[i], ad, vs, List.getElem?_eq_getElem hl, h1, h2, h3⟩
theorem rdS.drop {k m : Nat} (r : rdS h xs a l) (hk : k ≤ l) (hm : l ≤ m) : rdS h (xs.drop k) (slP a k m (Rep.n α)) (l - k) := by
  refine ⟨by rw [List.length_drop, r.1], fun i x hx => ?_⟩
  rw [List.getElem?_drop] at hx
  have hlt := (List.getElem?_eq_some_iff.1 hx).1
  obtain ⟨ad, vs, rfl, h2, h3⟩ := r.2 _ x hx
  have hr := r.1
  refine ⟨ad.add (mulS k (Rep.n α)), vs, ?_, ?_, h3⟩
  · unfold slP; rw [if_neg (by omega)]; rfl
  · rw [add_add, mulS_eq, mulS_eq, ← Nat.add_mul, ← mulS_eq]; exact h2
theorem rdS.take {k : Nat} (r : rdS h xs a l) (hk : k ≤ l) : rdS h (xs.take k) a k := by
  refine ⟨by rw [List.length_take, r.1]; omega, fun i x hx => ?_⟩
  rw [List.getElem?_take] at hx
  split at hx
  · exact r.2 i x hx
  · cases hx
class Rep1 (α : Type) extends Rep α where
  val : α → Value
  one : ∀ {h : Hp} {x : α} {vs : List Value}, rd h x vs ↔ vs = [val x]
  n1 : n = 1
end
section
variable {α : Type} [Rep1 α] {h h' : Hp} {w : World} {xs : List α} {a : Option Addr} {l : Nat}
theorem rdS.at (r : rdS h xs a l) {i : Nat} {x : α} (hx : xs[i]? = some x) : ∃ ad, a = some ad ∧ ∀ w, sub h (hp w) → w.cell? (ad.add i) = some (Rep1.val x) := by
  obtain ⟨ad, vs, h1, h2, h3⟩ := r.2 i x hx
  have := Rep1.one.1 h3
  subst this
  refine ⟨ad, h1, fun w s => ?_⟩
  have := h2.cell0 s
  rw [mulS_eq, Rep1.n1, Nat.mul_one] at this
  exact this
theorem rdS.get1 (r : rdS h xs a l) {i : Nat} (hi : i < l) : ∃ x ad, xs[i]? = some x ∧ a = some ad ∧ ∀ w, sub h (hp w) → w.cell? (ad.add i) = some (Rep1.val x) := by
  have hl : i < xs.length := by rw [r.1]; exact hi
  obtain ⟨ad, h1, h2⟩ := r.at (List.getElem?_eq_getElem hl)
  exact ⟨_, ad, List.getElem?_eq_getElem hl, h1, h2⟩
theorem rdS_of_row (hl : xs.length = l) (hr : rdV a (xs.map Rep1.val) h) : rdS h xs a l := by
  refine ⟨hl, fun i x hx => ?_⟩
  rcases hr with hn | ⟨ad, rfl, hc⟩
  · have : xs = [] := by simpa using hn
    subst this; simp at hx
  · refine ⟨ad, [Rep1.val x], rfl, fun j v hj => ?_, Rep1.one.2 rfl⟩
    cases j with
    | zero =>
      simp only [List.getElem?_cons_zero, Option.some.injEq] at hj
      subst hj
      rw [mulS_eq, Rep1.n1, Nat.mul_one]
      have := hc i (Rep1.val x) (by rw [List.getElem?_map, hx]; rfl)
      simpa [add_add] using this
    | succ j => simp at hj
theorem rdS.row (r : rdS h xs a l) : rdV a (xs.map Rep1.val) h := by
  cases xs with
  | nil => exact .inl rfl
  | cons x0 xs' =>
    obtain ⟨ad, vs, rfl, _⟩ := r.2 0 x0 rfl
    refine .inr ⟨ad, rfl, fun j v hj => ?_⟩
    rw [List.getElem?_map] at hj
    cases hx : (x0 :: xs')[j]? with
    | none => rw [hx] at hj; cases hj
    | some x =>
      rw [hx] at hj; cases hj
      obtain ⟨ad', vs, e, h2, h3⟩ := r.2 j x hx
      cases e
      have := Rep1.one.1 h3
      subst this
      have := h2 0 _ rfl
      rw [mulS_eq, Rep1.n1, Nat.mul_one] at this
      simpa [add_add] using this
end
instance : Rep1 Int := { n := 1, rd := fun _ x vs => vs = [.int .i64 x], mono := fun _ h => h, len := fun h => by rw [h]; rfl, val := fun x => .int .i64 x, one := Iff.rfl, n1 := rfl }
instance : Rep1 Bool := { n := 1, rd := fun _ x vs => vs = [.bool x], mono := fun _ h => h, len := fun h => by rw [h]; rfl, val := fun x => .bool x, one := Iff.rfl, n1 := rfl }
instance : Rep1 ByteArray := { n := 1, rd := fun _ x vs => vs = [.string x], mono := fun _ h => h, len := fun h => by rw [h]; rfl, val := fun x => .string x, one := Iff.rfl, n1 := rfl }
instance {α : Type} [Rep α] : Rep (List α) :=
  { n := 1, rd := fun h xs vs => ∃ a l c, vs = [.slice a l c] ∧ l ≤ c ∧ rdS h xs a l, mono := fun s ⟨a, l, c, h1, h3, h2⟩ => ⟨a, l, c, h1, h3, h2.mono s⟩, len := fun ⟨_, _, _, h, _⟩ => by rw [h]; rfl }
def anyI : Int → Prop := fun z => -9223372036854775808 ≤ z ∧ z ≤ 9223372036854775807
def bv (bs : List Bool) : List Value := bs.map fun b => Value.bool b
theorem rdI_of {h : Hp} {xs : List Int} {a : Option Addr} {l : Nat} (hl : xs.length = l) (hr : rdV a (iv xs) h) : rdS h xs a l := rdS_of_row hl hr
theorem rdB_of {h : Hp} {xs : List Bool} {a : Option Addr} {l : Nat} (hl : xs.length = l) (hr : rdV a (bv xs) h) : rdS h xs a l := rdS_of_row hl hr
theorem rdS.iv {h : Hp} {xs : List Int} {a : Option Addr} {l : Nat} (r : rdS h xs a l) : rdV a (V.iv xs) h := r.row
theorem rdS.bv {h : Hp} {xs : List Bool} {a : Option Addr} {l : Nat} (r : rdS h xs a l) : rdV a (V.bv xs) h := r.row
theorem iv_len (xs : List Int) : (iv xs).length = xs.length := by simp [iv]
theorem bv_len (xs : List Bool) : (bv xs).length = xs.length := by simp [bv]
theorem hp_sub {w w' : World} (h : hp w' = hp w) : sub (hp w) (hp w') := Gr.of_eq h
end Go.V
set_option linter.unusedVariables false
namespace Go.V
def fnB (bs : List Bool) : Nat → Bool := fun k => bs.getD k false
def mb (bs : List Bool) : List Nat := membs bs.length (fnB bs)
def mbI (bs : List Bool) : List Int := (mb bs).map fun (k : Nat) => (k : Int)
def cntB (bs : List Bool) : Nat := cnt bs.length (fnB bs)
def tabB (n : Nat) (m : Nat → Bool) : List Bool := (List.range n).map m
def addB (bs : List Bool) (xs : List Int) : List Bool := tabB bs.length (addS bs.length (fnB bs) xs)
def hasB (bs : List Bool) (k : Int) : Bool := decide (0 ≤ k) && fnB bs k.toNat
def ofB (size : Int) (xs : List Int) : List Bool := addB (List.replicate (ofN size) false) xs
theorem tabB_len (n : Nat) (m : Nat → Bool) : (tabB n m).length = n := by simp [tabB]
theorem addB_len (bs : List Bool) (xs : List Int) : (addB bs xs).length = bs.length := tabB_len _ _
theorem ofB_len (size : Int) (xs : List Int) : (ofB size xs).length = ofN size := by simp [ofB, addB_len]
theorem fnB_out {bs : List Bool} {k : Nat} (h : bs.length ≤ k) : fnB bs k = false := by
  unfold fnB; rw [List.getD_eq_getElem?_getD, List.getElem?_eq_none h]; rfl
theorem fnB_get {bs : List Bool} {k : Nat} {b : Bool} (h : bs[k]? = some b) : fnB bs k = b := by
  unfold fnB; rw [List.getD_eq_getElem?_getD, h]; rfl
theorem fnB_tab {n : Nat} {m : Nat → Bool} (hm : ∀ k, n ≤ k → m k = false) : fnB (tabB n m) = m := by
  funext k
  by_cases h : k < n
  · exact fnB_get (by simp [tabB, h])
  · rw [fnB_out (by rw [tabB_len]; omega), hm k (by omega)]
theorem tabB_fn (bs : List Bool) : tabB bs.length (fnB bs) = bs := by
  apply List.ext_getElem?
  intro k
  by_cases h : k < bs.length
  · simp [tabB, h, fnB]
  · rw [List.getElem?_eq_none (by rw [tabB_len]; omega), List.getElem?_eq_none (by omega)]
theorem fnB_inj {cs bs : List Bool} (hl : cs.length = bs.length) (h : ∀ k, fnB cs k = fnB bs k) : cs = bs := by
  rw [← tabB_fn cs, ← tabB_fn bs, hl]; congr 1; funext k; exact h k
theorem fnB_add (bs : List Bool) (xs : List Int) : fnB (addB bs xs) = addS bs.length (fnB bs) xs :=
  fnB_tab fun k hk => by simp [addS, fnB_out hk]; omega
theorem fnB_rep (n k : Nat) : fnB (List.replicate n false) k = false := by
  unfold fnB; rw [List.getD_eq_getElem?_getD, List.getElem?_replicate]; split <;> rfl
theorem cntB_le (bs : List Bool) : cntB bs ≤ bs.length := cnt_le _ _
theorem mbI_len (bs : List Bool) : (mbI bs).length = cntB bs := by rw [mbI, List.length_map]; rfl
theorem mem_mb {bs : List Bool} {k : Nat} : k ∈ mb bs ↔ fnB bs k = true := by
  simp only [mb, membs, List.mem_filter, List.mem_range]
  refine ⟨fun h => h.2, fun h => ⟨Nat.lt_of_not_le fun hl => ?_, h⟩⟩
  rw [fnB_out hl] at h; cases h
theorem mem_mbI {bs : List Bool} {x : Int} : x ∈ mbI bs ↔ hasB bs x = true := by
  simp only [mbI, List.mem_map, mem_mb, hasB, Bool.and_eq_true, decide_eq_true_eq]
  constructor
  · rintro ⟨k, h, rfl⟩; exact ⟨by omega, h⟩
  · rintro ⟨h1, h2⟩; exact ⟨_, h2, by omega⟩
theorem mbI_contains {bs : List Bool} {k : Nat} : (mbI bs).contains (k : Int) = fnB bs k := by
  rw [Bool.eq_iff_iff, List.contains_iff_mem, mem_mbI]
  simp [hasB]
theorem fnB_add_mb (bs vs : List Bool) (k : Nat) : fnB (addB bs (mbI vs)) k = (fnB bs k || (decide (k < bs.length) && fnB vs k)) := by
  rw [fnB_add, addS, mbI_contains]
def setO (p : Option Addr) (bs : List Bool) : Asn := setM p bs.length (fnB bs)
def setR (h : Hp) (p : Option Addr) (bs : List Bool) : Prop :=
  (p = none ∧ bs = []) ∨ ∃ b a c ws, p = some ⟨b, 0, none⟩ ∧ Inv bs.length ws (fnB bs) ∧ rowH h ⟨b, 0, none⟩ [.slice a (List.length ws) c, .int .i64 (bs.length : Int)] ∧ rdV a (cw ws) h
theorem rdV.mono {h h' : Hp} {a : Option Addr} {vs : List Value} (s : sub h h') (r : rdV a vs h) : rdV a vs h' := by
  rcases r with r | ⟨ad, e, hc⟩
  · exact .inl r
  · exact .inr ⟨ad, e, fun j v hj => cellH_sub s (hc j v hj)⟩
theorem setR.mono {h h' : Hp} {p : Option Addr} {bs : List Bool} (s : sub h h') (r : setR h p bs) : setR h' p bs := by
  rcases r with r | ⟨b, a, c, ws, h1, h2, h3, h4⟩
  · exact .inl r
  · exact .inr ⟨b, a, c, ws, h1, h2, h3.mono s, h4.mono s⟩
theorem setO_R {h : Hp} {p : Option Addr} {bs : List Bool} (ho : setO p bs h) : setR h p bs := by
  rcases ho with ⟨h1, h2, _⟩ | ⟨b, a, c, ws, h1, h2, h3⟩
  · exact .inl ⟨h1, List.eq_nil_of_length_eq_zero h2⟩
  · obtain ⟨g1, g2, d, s1, s2, ha, g3, g4, d', s3, s4, hb, _⟩ := h3
    exact .inr ⟨b, a, c, ws, h1, h2, (cel_row ha).mono s1, (own_rdVh hb).mono (s3.trans s2)⟩
theorem St.setR {w : World} {L : List Asn} {p : Option Addr} {bs : List Bool} (h : St w (setO p bs :: L)) : setR (hp w) p bs := by
  obtain ⟨h1, s, ha⟩ := h.first
  exact (setO_R ha).mono s
theorem setR.le {h : Hp} {p : Option Addr} {bs : List Bool} (r : V.setR h p bs) : bs.length ≤ 1024 := by
  rcases r with ⟨_, rfl⟩ | ⟨b, a, c, ws, _, h2, _⟩
  · simp
  · exact h2.le
theorem setM_O {w : World} {L : List Asn} {p : Option Addr} {n : Nat} {m : Nat → Bool} (h : St w (setM p n m :: L)) : St w (setO p (tabB n m) :: L) := by
  unfold setO; rw [tabB_len, fnB_tab fun k hk => setM_out h hk]; exact h
instance : Rep1 (Option Addr) := { n := 1, rd := fun _ x vs => vs = [.pointer x], mono := fun _ h => h, len := fun h => by rw [h]; rfl, val := fun x => .pointer x, one := Iff.rfl, n1 := rfl }
theorem st_of {A : Asn} {w : World} (h : A (hp w)) : St w [A] := ⟨hp w, fun _ => none, fun _ => .inr rfl, sub.refl _, fun _ _ h => (nomatch h), h, trivial⟩
end Go.V
namespace Go.Proofs.YtaheggomcnbbiaaDoor
open Go.V
section
variable {w : World} {L : List Asn} {a : Option Addr} {l c : Nat} {p q : Option Addr} {bs cs : List Bool} {xs : List Int} {ws : List Nat}
theorem r_words_has (h : rdV a (cw ws) (hp w)) (hlt : ∀ x ∈ ws, x < 2 ^ 64) {k : Nat} (hk : k / 64 < ws.length) (hb : k < 4096) :
    Run Tryd.prog n_bits_words_has [.slice a ws.length c, .int .i64 (k : Int)] w fun v w' => v = .bool (mem ws k) ∧ w' = w := by
  refine run_bits_words_has _ _ _ _ w _ ?_
  obtain ⟨ad, rfl, hg⟩ := rdV_get (st_of h) (cw_get hk)
  refine ⟨nz64, ?_, ?_⟩
  · rw [tdiv64]; exact inI_nat (by omega)
  · rw [tdiv64, tmod64]
    refine idx_i rfl hk ⟨_, hg, nz64, ?_, ?_, rfl⟩
    · show (0 : Int) ≤ _; omega
    · rw [bit_test (getD_lt hlt _) (Nat.mod_lt _ (by omega))]; rfl
theorem s_Size (h : setR (hp w) p bs) : Run Tryd.prog n_bits_Set_Size [.pointer p] w fun v w' => v = .int .i64 (bs.length : Int) ∧ w' = w := by
  refine run_bits_Set_Size _ w _ ?_
  rcases h with ⟨rfl, rfl⟩ | ⟨b, a, c, ws, rfl, hi, h, _⟩
  · exact ⟨rfl, rfl⟩
  · exact ⟨_, h.cell (sub.refl _) (j := 1) rfl, rfl, rfl⟩
theorem s_Has (h : setR (hp w) p bs) (k : Int) : Run Tryd.prog n_bits_Set_Has [.pointer p, .int .i64 k] w fun v w' => v = .bool (hasB bs k) ∧ w' = w := by
  refine run_bits_Set_Has _ _ w _ ?_
  unfold hasB
  refine br_intro (fun h0 => ?_) fun h0 => ?_
  · refine (s_Size h).mono ?_
    rintro _ _ ⟨rfl, rfl⟩
    refine ⟨_, rfl, br_intro (fun h1 => ?_) fun h1 => ?_⟩
    · have h0 := of_decide_eq_true h0
      have h1 := of_decide_eq_true h1
      rcases h with ⟨rfl, rfl⟩ | ⟨b, a, c, ws, rfl, hi, h, hr⟩
      · simp at h1; omega
      · obtain ⟨j, rfl⟩ := Int.eq_ofNat_of_zero_le h0
        have hj : j < bs.length := by omega
        refine ⟨a, ws.length, c, h.cell0 (sub.refl _), ?_⟩
        refine (r_words_has hr hi.lt (inv_lt hi hj) (by have := hi.le; omega)).mono ?_
        rintro _ _ ⟨rfl, rfl⟩
        refine ⟨_, rfl, ?_, rfl⟩
        simp [hi.mm]
    · refine ⟨?_, rfl⟩
      have h1 := of_decide_eq_false h1
      rw [fnB_out (k := k.toNat) (by omega)]; simp
  · exact ⟨by rw [h0]; rfl, rfl⟩
theorem s_Add (h : St w (setO p bs :: L)) (hx : ∀ h, starL L h → rdS h xs a l) (hb : l ≤ 4611686018427387904) :
    Run Tryd.prog n_bits_Set_Add [.pointer p, .slice a l c] w fun v w' => v = .int .i64 ((cntB (addB bs xs) : Int) - cntB bs) ∧ St w' (setO p (addB bs xs) :: L) := by
  obtain ⟨h0, hl, hs, h1⟩ := h.freeze
  have hx := hx h0 hl
  refine (c_Add (D := has h0) (L := []) (fun h hh => hx.iv.mono hh) h1 hx.1 hb).mono ?_
  rintro _ w' ⟨rfl, h2⟩
  refine ⟨?_, ?_⟩
  · simp only [cntB, addB_len, fnB_add]
  · have h2 := setM_O h2
    exact h2.on1 hl
theorem s_Of (size : Int) (hx : rdS (hp w) xs a l) (hb : l ≤ 4611686018427387904) :
    Run Tryd.prog n_bits_Of [.int .i64 size, .slice a l c] w fun v w' => ∃ b, v = .pointer (some ⟨b, 0, none⟩) ∧ St w' (setO (some ⟨b, 0, none⟩) (ofB size xs) :: all w) := by
  refine (c_Of size (D := has (hp w)) (L := []) (fun h hh => hx.iv.mono hh) (St.all w) hx.1 hb).mono ?_
  rintro _ w' ⟨b, rfl, h2⟩
  refine ⟨b, rfl, ?_⟩
  have h2 := setM_O h2
  have e : tabB (ofN size) (addS (ofN size) (fun _ => false) xs) = ofB size xs := by
    unfold ofB addB
    rw [List.length_replicate]
    congr 2
    funext k; exact (fnB_rep _ k).symm
  rw [e] at h2
  exact h2
theorem s_All (h : setR (hp w) p bs) : Run Tryd.prog n_bits_Set_All [.pointer p] w fun v w' => ∃ b, v = .func (.func n_bits_Set_All_S1) #[] #[.pointer (some ⟨b, 0, none⟩)] ∧ St w' (itD b bs.length (fnB bs) :: all w) := by
  refine run_bits_Set_All _ w _ ?_
  refine newC_i (St.all w) fun b w1 h1 => ?_
  rcases h with ⟨rfl, rfl⟩ | ⟨b2, a, c, ws, rfl, hi, h2, hr⟩
  · refine ⟨b, rfl, itD_open.2 ⟨none, 0, [], inv_zero (Nat.zero_le _), ?_⟩⟩
    exact (own_nil 1 h1).swap
  · have hl : ws.length ≤ 1024 := by rw [hi.len]; have := hi.le; omega
    refine ⟨a, ws.length, c, h2.cell0 h1.gone1, ?_⟩
    refine (c_Clone (D := has (hp w)) (fun h hh => hr.mono hh) h1.swap hl (fun e => ?_)).mono ?_
    · subst e
      rcases hr with hr | ⟨_, hr, _⟩
      · exact cw_nil hr
      · cases hr
    rintro _ w2 ⟨a', c', rfl, h3⟩
    refine ⟨_, _, _, rfl, ?_⟩
    refine st1_i h3.rot3 (by simp) fun w3 h4 => ?_
    exact ⟨b, rfl, itD_open.2 ⟨a', c', ws, hi, h4⟩⟩
theorem own_rdI (h : St w (own 1 a l c (iv xs) :: L)) : rdS (hp w) xs a l := by
  have hl := own_len h
  obtain ⟨h1, s, ha⟩ := h.first
  exact (rdI_of (by simpa [iv] using hl) (own_rdVh ha)).mono s
end
end Go.Proofs.YtaheggomcnbbiaaDoor
set_option linter.unusedVariables false
namespace Go.V
theorem starL_in {L : List Asn} {A : Asn} : ∀ {h : Hp}, A ∈ L → starL L h → ∃ h1, sub h1 h ∧ A h1 := by
  induction L with
  | nil => intro h hm; simp at hm
  | cons B L ih =>
    rintro h hm ⟨h1, h2, d, s1, s2, ha, hl⟩
    rcases List.mem_cons.1 hm with rfl | hm
    · exact ⟨h1, s1, ha⟩
    · obtain ⟨h3, s3, h4⟩ := ih hm hl
      exact ⟨h3, s3.trans s2, h4⟩
end Go.V
namespace Go.Proofs.YtaheggomcnbbiaaDoor
open Go.V
section
variable {w : World} {L : List Asn} {a : Option Addr} {l c : Nat} {p q : Option Addr} {bs cs : List Bool} {xs : List Int} {os : List (Option Addr)} {vss : List (List Bool)}
end
end Go.Proofs.YtaheggomcnbbiaaDoor
set_option linter.unusedVariables false
namespace Go.V
theorem idx_n {a : Option Addr} {ad : Addr} {len i sz : Nat} {k : Addr → Prop} (ha : a = some ad) (hi : i < len) (hk : k (ad.add (mulS i sz))) : idx a len (i : Int) sz k :=
  ⟨ad, ha, by omega, by omega, by simpa using hk⟩
section
variable {P : Program} {w w' : World} {L : List Asn} {b : Nat} {us vs : List Value} {e e' : TypeId} {A B C D : Asn}
theorem app_one {Ty : TypeId → Option TyI} (hT : TyOk P Ty) {t tx ty : TypeId} {i : TyI} {z : Value} (hk : kdOfT Ty t = .slice e) (hkx : kdOfT Ty tx = .slice e') (hi : Ty e = some i) (hz : i.zero = some z) (hzs : (cellsOf z).length = i.size)
    {a : Option Addr} {l c : Nat} (h : St w (cel b vs :: own i.size a l c us :: L)) (hv : vs.length = i.size) (h1 : ∀ u ∈ vs, oneC u = true) (hb : (l + 1) * i.bytes ≤ 140737488355328) (h63 : l < 9223372036854775807) :
    RunS P (Builtin.append_ (Array.mk [t, tx]) ty (Array.mk [.slice a l c, .slice (some ⟨b, 0, none⟩) 1 1])) w fun v w' => ∃ a' c', v = .slice a' (l + 1) c' ∧ St w' (own i.size a' (l + 1) c' (us ++ vs) :: cel b vs :: L) := by
  refine app_own' hT hk hi hz hzs h.swap (n := 1) (news := vs) ?_ hb (by omega)
  refine src_slice hT hkx (by omega) (.inr ⟨_, rfl, fun j u hj => ?_⟩) h1
  rw [add_lit0, h.cell]; exact hj
end
end Go.V
set_option linter.unusedVariables false
namespace Go.V
def refO (q : Option Addr) (bs : List Bool) : Asn := ex fun x : Nat × Option Addr × Nat => sta [pu (q = some ⟨x.1, 0, none⟩ ∧ bs.length ≤ 1024), cel x.1 [.slice x.2.1 bs.length x.2.2], own 1 x.2.1 bs.length x.2.2 (bv bs)]
def refR (h : Hp) (q : Option Addr) (bs : List Bool) : Prop := ∃ b a c, q = some ⟨b, 0, none⟩ ∧ bs.length ≤ 1024 ∧ rowH h ⟨b, 0, none⟩ [.slice a bs.length c] ∧ rdS h bs a bs.length
theorem refR.mono {h h' : Hp} {p : Option Addr} {bs : List Bool} (s : sub h h') (r : refR h p bs) : refR h' p bs := by
  obtain ⟨b, a, c, h1, h0, h2, h3⟩ := r
  exact ⟨b, a, c, h1, h0, h2.mono s, h3.mono s⟩
theorem refO_open {w : World} {L : List Asn} {q : Option Addr} {bs : List Bool} : St w (refO q bs :: L) ↔ ∃ b a c, q = some ⟨b, 0, none⟩ ∧ bs.length ≤ 1024 ∧ St w (cel b [.slice a bs.length c] :: own 1 a bs.length c (bv bs) :: L) := by
  unfold refO
  rw [St.ex]
  constructor
  · rintro ⟨⟨b, a, c⟩, h⟩
    have h := St.pu.1 (St.flat.1 h)
    exact ⟨b, a, c, h.1.1, h.1.2, h.2⟩
  · rintro ⟨b, a, c, h1, h2, h⟩
    exact ⟨⟨b, a, c⟩, St.flat.2 (St.pu.2 ⟨⟨h1, h2⟩, h⟩)⟩
theorem own_rdB {w : World} {L : List Asn} {a : Option Addr} {l c : Nat} {bs : List Bool} (h : St w (own 1 a l c (bv bs) :: L)) : rdS (hp w) bs a l := by
  have hl := own_len h
  obtain ⟨h1, s, ha⟩ := h.first
  exact (rdB_of (by simpa [bv] using hl) (own_rdVh ha)).mono s
theorem St.row {w : World} {L : List Asn} {b : Nat} {vs : List Value} (h : St w (cel b vs :: L)) : rowH (hp w) ⟨b, 0, none⟩ vs := by
  obtain ⟨h1, s, ha⟩ := h.first
  exact (cel_row ha).mono s
theorem St.refR {w : World} {L : List Asn} {q : Option Addr} {bs : List Bool} (h : St w (refO q bs :: L)) : refR (hp w) q bs := by
  obtain ⟨b, a, c, h1, h2, h3⟩ := refO_open.1 h
  exact ⟨b, a, c, h1, h2, h3.row, own_rdB h3.swap⟩
end Go.V
namespace Go.Proofs.YtaheggomcnbbiaaDoor
open Go.V
section
variable {w : World} {L : List Asn} {a a2 : Option Addr} {l c l2 c2 : Nat} {p q : Option Addr} {bs cs : List Bool} {xs ys : List Int} {os : List (Option Addr)} {vss : List (List Bool)}
end
end Go.Proofs.YtaheggomcnbbiaaDoor
set_option linter.unusedVariables false
namespace Go.Proofs.YtaheggomcnbbiaaDoor
open Go.V
section
variable {w : World} {L : List Asn} {a a2 : Option Addr} {l c l2 c2 : Nat} {p q : Option Addr} {bs cs : List Bool} {xs ys : List Int} {os : List (Option Addr)} {vss : List (List Bool)}
end
end Go.Proofs.YtaheggomcnbbiaaDoor
set_option linter.unusedVariables false
namespace Go.V
theorem br_t {c : Bool} {a b : Prop} (h : c = true) (ha : a) : br c a b := by subst h; exact ha
theorem br_f {c : Bool} {a b : Prop} (h : c = false) (hb : b) : br c a b := by subst h; exact hb
end Go.V
namespace Go.Proofs.YtaheggomcnbbiaaDoor
open Go.V
section
variable {w : World} {L : List Asn} {a a2 : Option Addr} {l c l2 c2 : Nat} {p q : Option Addr} {bs cs : List Bool} {xs ys : List Int} {os : List (Option Addr)} {vss : List (List Bool)}
end
end Go.Proofs.YtaheggomcnbbiaaDoor
set_option linter.unusedVariables false
namespace Go.V
theorem starL_nth {L : List Asn} : ∀ {h : Hp} (i : Nat), i < L.length → starL L h → ∃ h1, sub h1 h ∧ nthA L i h1 := by
  induction L with
  | nil => intro h i hi; simp at hi
  | cons A L ih =>
    rintro h i hi ⟨h1, h2, d, s1, s2, ha, hl⟩
    cases i with
    | zero => exact ⟨h1, s1, ha⟩
    | succ i =>
      obtain ⟨h3, s3, h4⟩ := ih i (by simpa using hi) hl
      exact ⟨h3, s3.trans s2, h4⟩
def lenA : List Asn → Nat
  | [] => 0
  | _ :: L => lenA L + 1
theorem lenA_eq : ∀ L, lenA L = L.length
  | [] => rfl
  | _ :: L => by simp [lenA, lenA_eq L]
theorem rdO {L : List Asn} {h : Hp} {q : Option Addr} {v : List Bool} (i : Nat) (hl : starL L h) (e : nthA L i = setO q v := by rfl) (hi : Nat.blt i (lenA L) = true := by rfl) : setR h q v := by
  obtain ⟨h1, s, ha⟩ := starL_nth i (by simpa [lenA_eq] using hi) hl
  rw [e] at ha
  exact (setO_R ha).mono s
theorem rdH {L : List Asn} {h h0 : Hp} (i : Nat) (hl : starL L h) (e : nthA L i = has h0 := by rfl) (hi : Nat.blt i (lenA L) = true := by rfl) : sub h0 h := by
  obtain ⟨h1, s, ha⟩ := starL_nth i (by simpa [lenA_eq] using hi) hl
  rw [e] at ha
  exact sub.trans ha s
theorem St.l {w : World} {L : List Asn} (h : St w L) : starL L (hp w) := h
inductive All2 {α β : Type} (P : α → β → Prop) : List α → List β → Prop where
  | nil : All2 P [] []
  | cons {x : α} {y : β} {l : List α} {m : List β} : P x y → All2 P l m → All2 P (x :: l) (y :: m)
theorem fnB_lt {bs : List Bool} {k : Nat} (h : fnB bs k = true) : k < bs.length := Nat.lt_of_not_le fun hl => by rw [fnB_out hl] at h; cases h
section
variable {A B C : List Bool} {N : Nat} (hA : A.length = N) (hB : B.length = N) (hC : C.length = N)
include hA hB hC
end
end Go.V
namespace Go.Proofs.YtaheggomcnbbiaaDoor
open Go.V
section
variable {w : World} {L : List Asn} {a a2 a3 : Option Addr} {l c l2 c2 l3 c3 : Nat} {p q : Option Addr} {bs cs : List Bool} {xs ys zs : List Int} {os : List (Option Addr)} {vss : List (List Bool)}
end
end Go.Proofs.YtaheggomcnbbiaaDoor
set_option linter.unusedVariables false
namespace Go.V
end Go.V
namespace Go.Proofs.YtaheggomcnbbiaaDoor
open Go.V
section
variable {w : World} {L : List Asn} {a a2 a3 : Option Addr} {l c l2 c2 l3 c3 : Nat} {p q : Option Addr} {bs cs : List Bool} {xs ys zs : List Int} {os : List (Option Addr)} {vss : List (List Bool)}
end
end Go.Proofs.YtaheggomcnbbiaaDoor
set_option linter.unusedVariables false
namespace Go.V
theorem perm_erase {M : List Asn} : ∀ {i : Nat} {A : Asn}, M[i]? = some A → M.Perm (A :: M.eraseIdx i) := by
  induction M with
  | nil => intro i A h; simp at h
  | cons B M ih =>
    intro i A h
    cases i with
    | zero => simp at h; subst h; exact List.Perm.refl _
    | succ i => exact (List.Perm.cons B (ih (by simpa using h))).trans (List.Perm.swap _ _ _)
theorem perm_set {M : List Asn} {B : Asn} : ∀ {i : Nat} {A : Asn}, M[i]? = some A → (M.set i B).Perm (B :: M.eraseIdx i) := by
  induction M with
  | nil => intro i A h; simp at h
  | cons C M ih =>
    intro i A h
    cases i with
    | zero => exact List.Perm.refl _
    | succ i => exact (List.Perm.cons C (ih (A := A) (by simpa using h))).trans (List.Perm.swap _ _ _)
section
variable {w : World} {L M : List Asn} {A B : Asn} {i : Nat}
theorem St.out (h : St w (sta M :: L)) (hi : M[i]? = some A) : St w (A :: sta (M.eraseIdx i) :: L) := by
  have h1 : St w (M.eraseIdx i ++ A :: L) := (St.flat.1 h).perm (((perm_erase hi).append_right L).trans List.perm_middle.symm)
  exact (St.flat.2 h1).swap
theorem St.back (h : St w (B :: sta (M.eraseIdx i) :: L)) (hi : M[i]? = some A) : St w (sta (M.set i B) :: L) := by
  have h1 := St.flat.1 h.swap
  exact St.flat.2 (h1.perm (List.perm_middle.trans ((perm_set hi).symm.append_right L)))
theorem St.snoc (h : St w (A :: sta M :: L)) : St w (sta (M ++ [A]) :: L) := by
  have h1 := St.flat.1 h.swap
  exact St.flat.2 (by rw [List.append_assoc]; exact h1)
theorem sta_nth {h : Hp} (hs : starL (sta M :: L) h) (hi : A ∈ M) : ∃ h1, sub h1 h ∧ A h1 := by
  obtain ⟨h1, h2, d, s1, s2, ha, hl⟩ := hs
  obtain ⟨h3, s3, h4⟩ := starL_in hi ha
  exact ⟨h3, s3.trans s1, h4⟩
end
theorem zip_set {α β : Type} (f : α → β → Asn) {ps : List α} {vs : List β} {i : Nat} {p : α} {v' : β} (hp : ps[i]? = some p) : (List.zipWith f ps vs).set i (f p v') = List.zipWith f ps (vs.set i v') := by
  apply List.ext_getElem?
  intro k
  rw [List.getElem?_set, List.getElem?_zipWith, List.getElem?_zipWith, List.getElem?_set, List.length_zipWith]
  by_cases hk : i = k
  · subst hk
    rw [if_pos rfl, if_pos rfl, hp]
    have := (List.getElem?_eq_some_iff.1 hp).1
    by_cases hl : i < vs.length
    · simp [hl, this]; omega
    · simp [hl]; omega
  · rw [if_neg hk, if_neg hk]
end Go.V
namespace Go.Proofs.YtaheggomcnbbiaaDoor
open Go.V
section
variable {w : World} {L : List Asn} {a a2 a3 : Option Addr} {l c l2 c2 l3 c3 n : Nat} {p q : Option Addr} {bs cs : List Bool} {xs ys zs : List Int} {os : List (Option Addr)} {vss : List (List Bool)} {ps qs : List Nat}
end
end Go.Proofs.YtaheggomcnbbiaaDoor
set_option linter.unusedVariables false
namespace Go.V
theorem rdCel {L : List Asn} {h : Hp} {b : Nat} {vs : List Value} (i : Nat) (hl : starL L h) (e : nthA L i = cel b vs := by rfl) (hi : Nat.blt i (lenA L) = true := by rfl) : rowH h ⟨b, 0, none⟩ vs := by
  obtain ⟨h1, s, ha⟩ := starL_nth i (by simpa [lenA_eq] using hi) hl
  rw [e] at ha
  exact (cel_row ha).mono s
end Go.V
namespace Go.Proofs.YtaheggomcnbbiaaDoor
open Go.V
section
variable {w : World} {L : List Asn} {a a2 a3 : Option Addr} {l c l2 c2 l3 c3 n : Nat} {p q : Option Addr} {bs cs : List Bool} {xs ys zs : List Int} {os : List (Option Addr)} {vss : List (List Bool)} {ps qs : List Nat}
end
end Go.Proofs.YtaheggomcnbbiaaDoor
set_option linter.unusedVariables false
namespace Go.V
open MapKept
class MKey (κ : Type) [DecidableEq κ] where
  kd : TypeDesc
  val : κ → Value
  now : ∀ a b : κ, Instr.sameNow kd (val a) (val b) = some (decide (a = b))
  key : ∀ a, IsKey kd (val a)
  bits : ∀ a, Instr.sameBits 10000 (val a) (val a) = true
instance : MKey Int := { kd := .int .i64, val := fun x => .int .i64 x, now := fun a b => by simp [Instr.sameNow]; rfl, key := fun _ => rfl, bits := fun a => by simp [Instr.sameBits] }
instance : MKey ByteArray := { kd := .string, val := fun x => .string x, now := fun a b => by simp only [Instr.sameNow, Option.some.injEq]; rw [Bool.eq_iff_iff, decide_eq_true_eq]; exact bytes_beq a b, key := fun _ => trivial, bits := fun a => by simp only [Instr.sameBits]; exact (bytes_beq a a).2 rfl }
section
variable {κ : Type} [DecidableEq κ] {P : Program} {w : World} {L : List Asn}
def assoc (k : κ) : List (κ × Value) → Option Value
  | [] => none
  | (a, v) :: m => if k = a then some v else assoc k m
def aput (k : κ) (v : Value) : List (κ × Value) → List (κ × Value)
  | [] => [(k, v)]
  | (a, u) :: m => if k = a then (k, v) :: m else (a, u) :: aput k v m
theorem assoc_put (k a : κ) (v : Value) : ∀ m, assoc a (aput k v m) = if a = k then some v else assoc a m
  | [] => by simp [aput, assoc]
  | (b, u) :: m => by
    unfold aput
    by_cases h : k = b
    · subst h
      by_cases ha : a = k
      · simp [assoc, ha]
      · simp [assoc, ha]
    · rw [if_neg h]
      by_cases hab : a = b
      · subst hab
        simp [assoc, Ne.symm h]
      · simp [assoc, hab, assoc_put k a v m]
theorem aput_len (k : κ) (v : Value) : ∀ m, (aput k v m).length = if (assoc k m).isSome then m.length else m.length + 1
  | [] => rfl
  | (b, u) :: m => by
    unfold aput assoc
    by_cases h : k = b
    · simp [h]
    · simp only [if_neg h, List.length_cons, aput_len k v m]
      split <;> rfl
variable [MKey κ]
def mapA (b : Nat) (m : List (κ × Value)) : Asn := fun h => ∃ es clock, h b = some (.map es clock) ∧ es.toList.map (fun e => (e.key, e.val)) = m.map fun x => (MKey.val x.1, x.2)
theorem mapA_ex {b : Nat} {m : List (κ × Value)} : St w (mapA b m :: L) ↔ ∃ es clock, es.toList.map (fun e => (e.key, e.val)) = m.map (fun x => (MKey.val x.1, x.2)) ∧ St w (blk b (.map es clock) :: L) :=
  ⟨fun ⟨h1, h2, d, s1, s2, ⟨es, cl, ha, he⟩, hl⟩ => ⟨es, cl, he, h1, h2, d, s1, s2, ha, hl⟩, fun ⟨es, cl, he, h1, h2, d, s1, s2, ha, hl⟩ => ⟨h1, h2, d, s1, s2, ⟨es, cl, ha, he⟩, hl⟩⟩
theorem mapA_new {b : Nat} (h : St w (blk b (.map #[] 0) :: L)) : St w (mapA b ([] : List (κ × Value)) :: L) := mapA_ex.2 ⟨_, _, rfl, h⟩
theorem findNow_eq (k : κ) : ∀ (es : List MapEntry) (m : List (κ × Value)) (i : Nat), es.map (fun e => (e.key, e.val)) = m.map (fun x => (MKey.val x.1, x.2)) →
    ∃ r, Instr.findNow (MKey.kd κ) (MKey.val k) es i = some r ∧ (r.map (·.2)) = assoc k m ∧ (∀ j v, r = some (j, v) → i ≤ j ∧ j < i + m.length ∧ (m[j - i]?).map (·.1) = some k ∧ ∀ u, aput k u m = m.set (j - i) (k, u)) ∧ (r = none → ∀ u, aput k u m = m ++ [(k, u)])
  | [], [], i, _ => ⟨none, rfl, rfl, fun j v h => (by cases h), fun _ u => rfl⟩
  | [], _ :: _, i, h => by simp at h
  | _ :: _, [], i, h => by simp at h
  | e :: es, (a, v) :: m, i, h => by
    simp only [List.map_cons, List.cons.injEq, Prod.mk.injEq] at h
    obtain ⟨⟨h1, h2⟩, h3⟩ := h
    unfold Instr.findNow
    rw [h1, MKey.now]
    by_cases hk : k = a
    · subst hk
      refine ⟨some (i, e.val), by simp, by simp [assoc, h2], fun j u hj => ?_, fun hn => by cases hn⟩
      cases hj
      simp [aput]
    · obtain ⟨r, q1, q2, q3, q4⟩ := findNow_eq k es m (i + 1) h3
      refine ⟨r, by simp [hk, q1], by simp [assoc, hk, q2], fun j u hj => ?_, fun hn u => by simp [aput, hk, q4 hn u]⟩
      obtain ⟨p1, p2, p3, p4⟩ := q3 j u hj
      have e1 : j - i = (j - (i + 1)) + 1 := by omega
      refine ⟨by omega, by simp; omega, by rw [e1]; simpa using p3, fun u => by rw [e1]; simp [aput, hk, p4 u]⟩
variable {Ty : TypeId → Option TyI}
theorem kd_map' {d : TypeDesc} {k e : TypeId} (h : Kd.map k e = kdOf d) : d = .map k e := by cases d <;> simp [kdOf] at h; obtain ⟨rfl, rfl⟩ := h; rfl
theorem map_lookup (hT : TyOk P Ty) {t kt et : TypeId} {i : TyI} {z : Value} (hk : kdOfT Ty t = .map kt et) (hkt : P.underlying kt = some (MKey.kd κ)) (hi : Ty et = some i) (hz : i.zero = some z) {b : Nat} {m : List (κ × Value)} (h : St w (mapA b m :: L)) (k : κ) :
    RunS P (Instr.lookup t (.map (some b)) (MKey.val k) false) w fun v w' => v = (assoc k m).getD z ∧ w' = w := by
  obtain ⟨d, hd, hd'⟩ := undOf hT hk (by simp)
  rw [kd_map' hd'] at hd
  obtain ⟨es, cl, he, h⟩ := mapA_ex.1 h
  obtain ⟨r, q1, q2, _, _⟩ := findNow_eq k es.toList m 0 he
  have hf := run_findKey (P := P) (w := w) hkt q1
  obtain ⟨info, d2, ha⟩ := tyAt hT hi
  have hzz : (zeroValue et).run P w = .ok z w := run_zero ha.inf (by rw [← ha.zero, hz])
  refine ⟨_, w, ?_, Ev.refl w, rfl, rfl⟩
  have hg := h.get
  have hc := fun e => run_checkKey (P := P) (w := w) hkt (MKey.key k) e 9999
  unfold Instr.lookup
  simp only [Sem.run_bind, run_und hd, Result.andThen_ok, run_getObj_map w b es cl hg, Sem.run_pure, hc, hf]
  rw [← q2]
  cases r with
  | none => simp [Sem.run_bind, hzz]
  | some x => simp
theorem map_update (hT : TyOk P Ty) {t kt et : TypeId} (hk : kdOfT Ty t = .map kt et) (hkt : P.underlying kt = some (MKey.kd κ)) {b : Nat} {m : List (κ × Value)} (h : St w (mapA b m :: L)) (k : κ) (v : Value) :
    RunS P (Instr.mapUpdate t (.map (some b)) (MKey.val k) v) w fun _ w' => St w' (mapA b (aput k v m) :: L) := by
  obtain ⟨d, hd, hd'⟩ := undOf hT hk (by simp)
  rw [kd_map' hd'] at hd
  obtain ⟨es, cl, he, h⟩ := mapA_ex.1 h
  obtain ⟨r, q1, q2, q3, q4⟩ := findNow_eq k es.toList m 0 he
  have hf := run_findKey (P := P) (w := w) hkt q1
  have hg := h.get
  have hc := fun e => run_checkKey (P := P) (w := w) hkt (MKey.key k) e 9999
  have hlen : es.size = m.length := by have := congrArg List.length he; simpa using this
  have ev : ∀ o : Array MapEntry × Nat, Ev w { w with heap := w.heap.setIfInBounds b (.map o.1 o.2) } := fun o => by
    refine ⟨rfl, rfl, rfl, by simp, ?_, ?_⟩ <;>
    · intro x d hx
      rw [Array.getElem?_setIfInBounds_ne]; exact hx
      intro e; subst e; rw [hg] at hx; cases hx
  cases r with
  | none =>
    refine ⟨(), _, ?_, ev (es.push { key := MKey.val k, val := v, born := cl }, cl + 1), mapA_ex.2 ⟨_, _, ?_, h.setObj _⟩⟩
    · unfold Instr.mapUpdate
      simp only [Sem.run_bind, run_und hd, Result.andThen_ok, run_getObj_map w b es cl hg, hc, hf]
      exact run_setObj_map _ hg
    · rw [q4 rfl v]; simp [he]
  | some x =>
    obtain ⟨j, u⟩ := x
    obtain ⟨_, p2, p3, p4⟩ := q3 j u rfl
    rw [Nat.sub_zero] at p3 p4
    have hj : j < es.size := by omega
    have hkey : ((es[j]?).map (·.key)).getD (MKey.val k) = MKey.val k := by
      have h1 := congrArg (fun l => l[j]?) he
      simp only [List.getElem?_map] at h1
      cases hm : m[j]? with
      | none => rw [hm] at p3; cases p3
      | some y =>
        rw [hm] at p3 h1
        simp only [Option.map_some, Option.some.injEq] at p3
        have hjl : j < es.toList.length := by simpa using hj
        rw [List.getElem?_eq_getElem hjl] at h1
        simp only [Option.map_some, Option.some.injEq, Prod.mk.injEq] at h1
        simp [hj]
        have := h1.1
        rw [p3] at this
        simpa using this
    refine ⟨(), _, ?_, ev (es.modify j fun e => { e with key := MKey.val k, val := v }, cl), mapA_ex.2 ⟨_, _, ?_, h.setObj _⟩⟩
    · unfold Instr.mapUpdate
      simp only [Sem.run_bind, run_und hd, Result.andThen_ok, run_getObj_map w b es cl hg, hc, hf, hkey, Instr.keyThatStays, MKey.bits, if_true, Sem.run_pure]
      exact run_setObj_map _ hg
    · rw [p4 v]
      apply List.ext_getElem?
      intro i
      have h1 := congrArg (fun l => l[i]?) he
      simp only [List.getElem?_map, Array.getElem?_toList] at h1
      simp only [List.getElem?_map, Array.getElem?_toList, Array.getElem?_modify, List.getElem?_set]
      by_cases hij : j = i
      · subst hij
        simp [hj, p2]
        omega
      · simp [hij, h1]
theorem map_len (hT : TyOk P Ty) {t kt et ty : TypeId} (hk : kdOfT Ty t = .map kt et) {b : Nat} {m : List (κ × Value)} (h : St w (mapA b m :: L)) : (Builtin.len_ #[t] ty #[.map (some b)]).run P w = .ok (.int .i64 (m.length : Int)) w := by
  obtain ⟨d, hd, hd'⟩ := undOf hT hk (by simp)
  rw [kd_map' hd'] at hd
  obtain ⟨es, cl, he, h⟩ := mapA_ex.1 h
  have hlen : es.size = m.length := by have := congrArg List.length he; simpa using this
  have hg := h.get
  simp [Builtin.len_, run_underlying hd, run_getObj_map w b es cl hg, hlen, goInt]
end
end Go.V
set_option linter.unusedVariables false
namespace Go.V
def byt (s : ByteArray) (i : Nat) : Nat := (sb s i).toNat
theorem byt_lt (s : ByteArray) (i : Nat) : byt s i < 256 := (sb s i).toNat_lt
theorem sb_get {s : ByteArray} {i : Nat} (h : i < s.size) : sb s i = s[i]'h := by
  unfold sb
  have : i < s.data.size := h
  rw [Array.getElem?_eq_getElem this]; rfl
theorem toList_data (s : ByteArray) : s.toList = s.data.toList := by rw [ByteArray.toList_eq]
theorem bs_eq (x y : ByteArray) : (x.toList == y.toList) = decide (x = y) := by
  rw [Bool.eq_iff_iff, beq_iff_eq, decide_eq_true_eq, toList_data, toList_data]
  exact ⟨fun h => WideShapes.bytes_inj h, fun h => by rw [h]⟩
theorem bs_empty (x : ByteArray) : (x.toList == ByteArray.toList (ByteArray.mk (Array.mk []))) = decide (x.size = 0) := by
  rw [bs_eq, Bool.eq_iff_iff, decide_eq_true_eq, decide_eq_true_eq]
  constructor
  · rintro rfl; rfl
  · intro h
    refine WideShapes.bytes_inj ?_
    have : x.data.toList.length = 0 := by simpa using h
    rw [List.eq_nil_of_length_eq_zero this]
def okT (c : Nat) : Bool := decide (32 ≤ c) && decide (c ≤ 126) && !decide (c = 39)
def isTermS (s : ByteArray) : Bool := decide (1 ≤ s.size) && decide (s.size ≤ 16) && (List.range s.size).all fun i => okT (byt s i)
def okN (i c : Nat) : Bool := decide (c = 95) || (decide (65 ≤ c) && decide (c ≤ 90)) || (decide (97 ≤ c) && decide (c ≤ 122)) || (decide (i ≠ 0) && decide (48 ≤ c) && decide (c ≤ 57))
def isNameS (s : ByteArray) : Bool := decide (1 ≤ s.size) && decide (s.size ≤ 16) && (List.range s.size).all fun i => okN i (byt s i)
theorem all_range {n : Nat} {p : Nat → Bool} : (List.range n).all p = true ↔ ∀ i, i < n → p i = true := by
  simp [List.all_eq_true]
theorem decode_hi (s : ByteArray) (pos : Nat) (h : pos < s.size) (hb : 128 ≤ (s[pos]'h).toNat) : 128 ≤ (Utf8.decode s pos).1 := by
  have e : s.get! (pos + 0) = s[pos]'h := by
    show s.get! pos = _
    simp [ByteArray.get!, getElem!_pos, h]
    rfl
  have hb0 : 128 ≤ (s.get! (pos + 0)).toNat := by rw [e]; exact hb
  have hx : ∀ k, (s.get! (pos + k)).toNat < 256 := fun k => (s.get! (pos + k)).toNat_lt
  have h0 := hx 0; have h1 := hx 1; have h2 := hx 2; have h3 := hx 3
  simp only [Utf8.decode]
  repeat' split
  all_goals simp_all [Utf8.runeError]
  all_goals omega
theorem wrap_u8 (n : Nat) (h : n < 256) : IntKind.u8.wrap (n : Int) = n := by
  have : (n : Int) % (256 : Int) = n := Int.emod_eq_of_lt (by omega) (by omega)
  simp [IntKind.wrap, IntKind.signed, IntKind.bits, this]
theorem bitI_or8 {a b : Nat} (ha : a < 256) (hb : b < 256) : bitI .or .u8 (a : Int) (b : Int) = ((a ||| b : Nat) : Int) := by
  show IntKind.u8.wrap (((BitVec.ofInt 8 (a : Int)) ||| (BitVec.ofInt 8 (b : Int))).toNat : Int) = _
  have e : ∀ n : Nat, BitVec.ofInt 8 (n : Int) = BitVec.ofNat 8 n := fun n => by apply BitVec.eq_of_toNat_eq; simp
  rw [e, e, BitVec.toNat_or, BitVec.toNat_ofNat, BitVec.toNat_ofNat, Nat.mod_eq_of_lt ha, Nat.mod_eq_of_lt hb]
  exact wrap_u8 _ (Nat.or_lt_two_pow (n := 8) ha hb)
theorem or32 : ∀ c : Fin 256, (decide (97 ≤ (c.val ||| 32)) && decide ((c.val ||| 32) ≤ 122)) = ((decide (65 ≤ c.val) && decide (c.val ≤ 90)) || (decide (97 ≤ c.val) && decide (c.val ≤ 122))) := by decide +kernel
instance instRepList1 {α : Type} [Rep α] : Rep (List α) := inferInstance
def sortedL (xs : List Int) : Prop := ∀ i x y, xs[i]? = some x → xs[i + 1]? = some y → x ≤ y
end Go.V
namespace Go.Proofs.YtaheggomcnbbiaaDoor
open Go.V
section
variable {w : World} {L : List Asn} {a : Option Addr} {l c : Nat} {s : ByteArray} {ss : List ByteArray} {xs : List Int}
theorem g_isTerm1 (r : Int) : Run Tryd.prog n_gram_isTerm_S1 [.int .i32 r] w fun v w' => v = .bool (decide (r < 32) || decide (126 < r) || (r == 39)) ∧ w' = w := by
  refine run_gram_isTerm_S1 _ w _ ?_
  refine br_intro (fun h => ⟨by rw [h]; rfl, rfl⟩) fun h => br_intro (fun h2 => ⟨by rw [h, h2]; rfl, rfl⟩) fun h2 => ⟨by rw [h, h2]; rfl, rfl⟩
theorem g_IndexFunc (hs : s.size ≤ 4611686018427387904) : Run Tryd.prog n_strings_IndexFunc [.string s, .func (.func n_gram_isTerm_S1) #[] #[]] w fun v w' => (∃ n : Int, v = .int .i64 n ∧ (decide (n < 0) = (List.range s.size).all fun i => okT (byt s i))) ∧ Gr w w' := by
  refine run_strings_IndexFunc _ _ _ w _ ?_
  have key : Run Tryd.prog n_strings_indexFunc [.string s, .func (.func n_gram_isTerm_S1) #[] #[], .bool true] w fun v w' => (∃ n : Int, v = .int .i64 n ∧ (decide (n < 0) = (List.range s.size).all fun i => okT (byt s i))) ∧ Gr w w' := by
    refine run_strings_indexFunc _ _ _ _ w _ ?_
    have h0 := St.all w
    refine ⟨_, _, run_range_string w 9 s Tryd.underlying9, Ev.push _ _, _, rfl, ?_⟩
    have h1 := h0.push (.stringIter s 0)
    generalize w.heap.size = b at h1
    refine ⟨fun w' => ∃ p, p ≤ s.size ∧ (∀ i, i < p → okT (byt s i) = true) ∧ St w' (blk b (.stringIter s p) :: all w), fun w' => s.size - w'.iterPos b, ⟨0, by omega, fun i hi => by omega, h1⟩, ?_⟩
    rintro _ w2 ⟨p, hp, hall, h2⟩
    have hk := h2.get
    by_cases hlt : p < s.size
    · have hev : Ev w2 (w2.iterAt b s (p + (Utf8.decode s p).2)) := by
        refine ⟨rfl, rfl, rfl, by simp [World.iterAt], ?_, ?_⟩ <;>
        · intro x d hx
          simp only [World.iterAt]
          rw [Array.getElem?_setIfInBounds_ne]; exact hx
          intro e; subst e; rw [hk] at hx; cases hx
      refine ⟨_, _, Lib.run_next_any_at w2 b s p _ hk hlt, hev, .inr ⟨_, _, rfl, ifT_iff.2 ⟨rfl, (g_isTerm1 _).mono ?_⟩⟩⟩
      have h3 : St (w2.iterAt b s (p + (Utf8.decode s p).2)) (blk b (.stringIter s (p + (Utf8.decode s p).2)) :: all w) := h2.setObj _
      rintro _ _ ⟨rfl, rfl⟩
      refine ⟨_, rfl, ?_⟩
      have hget : byt s p = (s[p]'hlt).toNat := by unfold byt; rw [sb_get hlt]
      refine br_intro (fun h4 => ?_) fun h4 => ?_
      · refine ⟨⟨_, rfl, ?_⟩, h3.tail.has⟩
        have : okT (byt s p) = false := by
          by_cases h5 : (s[p]'hlt).toNat < 128
          · rw [decode_ascii s p hlt h5] at h4
            unfold okT
            rw [hget]
            simp at h4 ⊢
            omega
          · unfold okT; rw [hget]; simp; omega
        have e1 : (List.range s.size).all (fun i => okT (byt s i)) = false := by
          rw [List.all_eq_false]; exact ⟨p, by simpa using hlt, by simp [this]⟩
        rw [e1]; simp
      · have h5 : (s[p]'hlt).toNat < 128 := by
          refine Nat.lt_of_not_le fun h5 => ?_
          have := decode_hi s p hlt h5
          simp at h4; omega
        rw [decode_ascii s p hlt h5] at h3 h4 ⊢
        have hok : okT (byt s p) = true := by
          unfold okT; rw [hget]; simp at h4 ⊢; omega
        refine ⟨⟨p + 1, hlt, fun i hi => ?_, h3⟩, ?_⟩
        · by_cases e : i = p
          · rw [e]; exact hok
          · exact hall i (by omega)
        · have e1 : World.iterPos w2 b = p := by simp [World.iterPos, hk]
          have e2 : World.iterPos (w2.iterAt b s (p + 1)) b = p + 1 := by simp [World.iterPos, h3.get]
          show s.size - World.iterPos (w2.iterAt b s (p + 1)) b < s.size - World.iterPos w2 b
          rw [e1, e2]; omega
    · refine ⟨_, _, Lib.run_next_end_at w2 b s p _ hk hlt, Ev.refl _, .inl ⟨rfl, ⟨_, rfl, ?_⟩, h2.tail.has⟩⟩
      have : (List.range s.size).all (fun i => okT (byt s i)) = true := all_range.2 fun i hi => hall i (by omega)
      rw [this]; rfl
  refine key.mono ?_
  rintro _ w' ⟨⟨n, rfl, hn⟩, hg⟩
  exact ⟨n, rfl, ⟨n, rfl, hn⟩, hg⟩
theorem g_isTerm (hs : s.size ≤ 4611686018427387904) : Run Tryd.prog n_gram_isTerm [.string s] w fun v w' => v = .bool (isTermS s) ∧ Gr w w' := by
  refine run_gram_isTerm _ w _ ?_
  unfold vc_gram_isTerm
  rw [bs_empty]
  unfold isTermS
  refine br_intro (fun h => ?_) fun h => ?_
  · have h : 1 ≤ s.size := by simp only [Bool.not_eq_true', decide_eq_false_iff_not] at h; omega
    refine br_intro (fun h2 => ?_) fun h2 => ?_
    · have h2 : s.size ≤ 16 := by have := of_decide_eq_true h2; omega
      refine (g_IndexFunc hs).mono ?_
      rintro _ w' ⟨⟨n, rfl, hn⟩, hg⟩
      exact ⟨n, rfl, by rw [hn]; simp [h, h2], hg⟩
    · have h2 : ¬ s.size ≤ 16 := by have := of_decide_eq_false h2; omega
      exact ⟨by simp [h2], Gr.refl _⟩
  · have h : ¬ 1 ≤ s.size := by simp only [Bool.not_eq_false', decide_eq_true_eq] at h; omega
    exact ⟨by simp [h], Gr.refl _⟩
theorem g_isName (hs : s.size ≤ 4611686018427387904) : Run Tryd.prog n_gram_isName [.string s] w fun v w' => v = .bool (isNameS s) ∧ w' = w := by
  refine run_gram_isName _ w _ ?_
  unfold vc_gram_isName
  rw [bs_empty]
  refine ⟨fun n w' => ∃ j : Nat, n = j ∧ j ≤ s.size ∧ (∀ i, i < j → okN i (byt s i) = true) ∧ w' = w, fun n _ => s.size - n.toNat, ⟨0, rfl, by omega, fun i hi => by omega, rfl⟩, ?_⟩
  rintro _ n w1 ⟨j, rfl, hj, hall, rfl⟩
  refine br_intro (fun h => ?_) fun h => ?_
  · have h : j < s.size := by have := of_decide_eq_true h; omega
    refine ⟨⟨by omega, by omega⟩, ?_⟩
    rw [Int.toNat_natCast]
    have hlt := byt_lt s j
    have hor := or32 ⟨byt s j, hlt⟩
    have e8 : bitI .or .u8 ((sb s j).toNat : Int) 32 = ((byt s j ||| 32 : Nat) : Int) := bitI_or8 (b := 32) hlt (by omega)
    rw [e8]
    show br (((byt s j : Nat) : Int) != 95) _ _
    have stp : okN j (byt s j) = true → inI ((j : Int) + 1) ∧ (∃ j' : Nat, (j : Int) + 1 = j' ∧ j' ≤ s.size ∧ (∀ i, i < j' → okN i (byt s i) = true) ∧ w1 = w1) ∧ s.size - ((j : Int) + 1).toNat < s.size - (j : Int).toNat := fun hok => by
      refine ⟨⟨by omega, by omega⟩, ⟨j + 1, by simp, by omega, fun i hi => ?_, rfl⟩, msr h⟩
      by_cases e : i = j
      · rw [e]; exact hok
      · exact hall i (by omega)
    have bad : okN j (byt s j) = false → Value.bool false = Value.bool (isNameS s) ∧ w1 = w1 := fun hno => by
      refine ⟨?_, rfl⟩
      have : (List.range s.size).all (fun i => okN i (byt s i)) = false := by
        rw [List.all_eq_false]; exact ⟨j, by simpa using h, by simp [hno]⟩
      unfold isNameS; rw [this]; simp
    have okd : (byt s j = 95 ∨ (97 ≤ (byt s j ||| 32) ∧ (byt s j ||| 32) ≤ 122) ∨ (j ≠ 0 ∧ 48 ≤ byt s j ∧ byt s j ≤ 57)) ↔ okN j (byt s j) = true := by
      have hor' : (97 ≤ (byt s j ||| 32) ∧ (byt s j ||| 32) ≤ 122) ↔ ((65 ≤ byt s j ∧ byt s j ≤ 90) ∨ (97 ≤ byt s j ∧ byt s j ≤ 122)) := by
        have := congrArg (· = true) hor
        simpa using this
      rw [hor']
      unfold okN
      simp only [Bool.or_eq_true, Bool.and_eq_true, decide_eq_true_eq]
      omega
    generalize byt s j ||| 32 = d at *
    have yes : (byt s j = 95 ∨ (97 ≤ d ∧ d ≤ 122) ∨ (j ≠ 0 ∧ 48 ≤ byt s j ∧ byt s j ≤ 57)) → _ := fun hh => stp (okd.1 hh)
    have no : ¬ (byt s j = 95 ∨ (97 ≤ d ∧ d ≤ 122) ∨ (j ≠ 0 ∧ 48 ≤ byt s j ∧ byt s j ≤ 57)) → _ := fun hh => bad (by cases hq : okN j (byt s j); rfl; exact absurd (okd.2 hq) hh)
    clear okd hor e8 stp bad
    refine br_intro (fun h1 => ?_) fun h1 => ?_
    · have h1 : byt s j ≠ 95 := by simp at h1; omega
      refine br_intro (fun h2 => ?_) fun h2 => ?_
      · have h2 : d < 97 := by have := of_decide_eq_true h2; omega
        refine br_intro (fun h3 => no (by simp at h3; omega)) fun h3 => br_intro (fun h4 => no (by have : ((byt s j : Nat) : Int) < 48 := of_decide_eq_true h4; omega)) fun h4 => br_intro (fun h5 => no (by have : 57 < ((byt s j : Nat) : Int) := of_decide_eq_true h5; omega)) fun h5 => yes (.inr (.inr ?_))
        have h4 : ¬ ((byt s j : Nat) : Int) < 48 := of_decide_eq_false h4
        have h5 : ¬ 57 < ((byt s j : Nat) : Int) := of_decide_eq_false h5
        simp at h3; omega
      · have h2 : 97 ≤ d := by have := of_decide_eq_false h2; omega
        refine br_intro (fun h6 => ?_) fun h6 => yes (.inr (.inl ⟨h2, by have := of_decide_eq_false h6; omega⟩))
        have h6 : 122 < d := by have := of_decide_eq_true h6; omega
        refine br_intro (fun h3 => no (by simp at h3; omega)) fun h3 => br_intro (fun h4 => no (by have : ((byt s j : Nat) : Int) < 48 := of_decide_eq_true h4; omega)) fun h4 => br_intro (fun h5 => no (by have : 57 < ((byt s j : Nat) : Int) := of_decide_eq_true h5; omega)) fun h5 => yes (.inr (.inr ?_))
        have h4 : ¬ ((byt s j : Nat) : Int) < 48 := of_decide_eq_false h4
        have h5 : ¬ 57 < ((byt s j : Nat) : Int) := of_decide_eq_false h5
        simp at h3; omega
    · exact yes (.inl (by simp at h1; omega))
  · have h : j = s.size := by have := of_decide_eq_false h; omega
    subst h
    have hall' := all_range.2 hall
    unfold isNameS
    rw [hall']
    refine br_intro (fun h => ?_) fun h => ?_
    · have h : 1 ≤ s.size := by simp only [Bool.not_eq_true', decide_eq_false_iff_not] at h; omega
      refine ⟨?_, rfl⟩
      have e : decide ((s.size : Int) ≤ 16) = decide (s.size ≤ 16) := by rw [Bool.eq_iff_iff]; simp only [decide_eq_true_eq]; omega
      rw [e]; simp [h]
    · have h : ¬ 1 ≤ s.size := by simp only [Bool.not_eq_false', decide_eq_true_eq] at h; omega
      exact ⟨by simp [h], rfl⟩
theorem g_Contains (hx : rdS (hp w) xs a l) (hb : l ≤ 4611686018427387904) (x : Int) : Run Tryd.prog n_slices_Contains_int_int_ [.slice a l c, .int .i64 x] w fun v w' => v = .bool (decide (x ∈ xs)) ∧ w' = w := by
  refine run_slices_Contains_int_int_ _ _ _ _ w _ ?_
  have key : Run Tryd.prog n_slices_Index_int_int_ [.slice a l c, .int .i64 x] w fun v w' => (∃ n : Int, v = .int .i64 n ∧ decide (0 ≤ n) = decide (x ∈ xs)) ∧ w' = w := by
    refine run_slices_Index_int_int_ _ _ _ _ w _ ?_
    have hl := hx.1
    refine ⟨fun n w' => ∃ j : Nat, n = j ∧ j ≤ l ∧ x ∉ xs.take j ∧ w' = w, fun n _ => l - n.toNat, ⟨0, rfl, by omega, by simp, rfl⟩, ?_⟩
    rintro _ n w1 ⟨j, rfl, hj, hni, rfl⟩
    refine br_intro (fun h => ?_) fun h => ?_
    · have h : j < l := by have := of_decide_eq_true h; omega
      obtain ⟨y, ad, hy1, rfl, hy2⟩ := hx.get1 h
      refine idx_i rfl h ⟨y, hy2 _ (sub.refl _), br_intro (fun h2 => ?_) fun h2 => ?_⟩
      · have h2 : x = y := by simpa using h2
        subst h2
        exact ⟨⟨_, rfl, by rw [decide_eq_true (List.mem_of_getElem? hy1)]; simp⟩, rfl⟩
      · have h2 : x ≠ y := by simpa using h2
        refine ⟨⟨by omega, by omega⟩, ⟨j + 1, by simp, by omega, ?_, rfl⟩, msr h⟩
        rw [take_succ_get hy1, List.mem_append]
        simp [hni, h2]
    · have h : j = l := by have := of_decide_eq_false h; omega
      subst h
      rw [← hl, List.take_length] at hni
      exact ⟨⟨_, rfl, by rw [decide_eq_false hni]; rfl⟩, rfl⟩
  refine key.mono ?_
  rintro _ _ ⟨⟨n, rfl, hn⟩, rfl⟩
  exact ⟨n, rfl, by rw [hn], rfl⟩
theorem g_isNaN (x : Int) : Run Tryd.prog n_cmp_isNaN_int_ [.int .i64 x] w fun v w' => v = .bool false ∧ w' = w := run_cmp_isNaN_int_ _ w _ ⟨by simp, rfl⟩
theorem g_Less (x y : Int) : Run Tryd.prog n_cmp_Less_int_ [.int .i64 x, .int .i64 y] w fun v w' => v = .bool (decide (x < y)) ∧ w' = w := by
  refine run_cmp_Less_int_ _ _ w _ ((g_isNaN x).mono ?_)
  rintro _ _ ⟨rfl, rfl⟩
  exact ⟨_, rfl, br_f rfl ⟨rfl, rfl⟩⟩
theorem g_IsSorted (hx : rdS (hp w) xs a l) (hb : l ≤ 4611686018427387904) : Run Tryd.prog n_slices_IsSorted_int_int_ [.slice a l c] w fun v w' => (∃ r : Bool, v = .bool r ∧ (r = true ↔ sortedL xs)) ∧ hp w' = hp w := by
  refine run_slices_IsSorted_int_int_ _ _ _ w _ ?_
  have hl := hx.1
  refine ⟨⟨by omega, by omega⟩, fun n w' => ∃ j : Nat, n = (l : Int) - 1 - j ∧ j ≤ l ∧ (∀ i x y, l - 1 - j ≤ i → xs[i]? = some x → xs[i + 1]? = some y → x ≤ y) ∧ hp w' = hp w, fun n _ => n.toNat, ⟨0, by omega, by omega, ?_, rfl⟩, ?_⟩
  · intro i x y hi h1 h2
    have := (List.getElem?_eq_some_iff.1 h2).1; omega
  rintro _ n w1 ⟨j, rfl, hj, hall, hw⟩
  refine br_intro (fun h => ?_) fun h => ?_
  · have h := of_decide_eq_true h
    have hj2 : j + 1 < l := by omega
    intro w2 hd
    have hw2 := (hp_drawn hd).trans hw
    have e1 : ((l : Int) - 1 - j) = ((l - 1 - j : Nat) : Int) := by omega
    have e2 : (((l - 1 - j : Nat) : Int) - 1) = ((l - 2 - j : Nat) : Int) := by omega
    rw [e1, e2]
    obtain ⟨x, ad, hx1, rfl, hx2⟩ := hx.get1 (by omega : l - 1 - j < l)
    obtain ⟨y, ad2, hy1, e3, hy2⟩ := hx.get1 (by omega : l - 2 - j < l)
    cases e3
    refine ⟨fun w' => hp w' = hp w, hw2, idx_i rfl (by omega) ⟨x, fun w3 h3 => hx2 _ (hp_sub h3), ⟨by omega, by omega⟩, idx_i rfl (by omega) ⟨y, fun w3 h3 => hy2 _ (hp_sub h3), (g_Less x y).mono ?_⟩⟩⟩
    rintro _ _ ⟨rfl, rfl⟩
    refine ⟨_, rfl, br_intro (fun h5 => ?_) fun h5 => ?_⟩
    · have h5 := of_decide_eq_true h5
      refine ⟨⟨false, rfl, by simp; intro hs; have := hs (l - 2 - j) y x hy1 (by rw [show l - 2 - j + 1 = l - 1 - j by omega]; exact hx1); omega⟩, hw2⟩
    · have h5 := of_decide_eq_false h5
      refine ⟨⟨by omega, by omega⟩, ⟨j + 1, by omega, by omega, fun i x' y' hi h1 h2 => ?_, hw2⟩, by dsimp only; omega⟩
      by_cases e : i = l - 2 - j
      · subst e
        rw [hy1] at h1
        rw [show l - 2 - j + 1 = l - 1 - j by omega, hx1] at h2
        cases h1; cases h2; omega
      · exact hall i x' y' (by omega) h1 h2
  · have h := of_decide_eq_false h
    exact ⟨⟨true, rfl, by simp; exact fun i x y h1 h2 => hall i x y (by have := (List.getElem?_eq_some_iff.1 h2).1; omega) h1 h2⟩, hw⟩
theorem g_symbols1 (hs : s.size ≤ 4611686018427387904) : Run Tryd.prog n_gram_symbols_S1 [.string s] w fun v w' => v = .bool (!isNameS s) ∧ w' = w := by
  refine run_gram_symbols_S1 _ w _ ((g_isName hs).mono ?_)
  rintro _ _ ⟨rfl, rfl⟩
  exact ⟨_, rfl, rfl, rfl⟩
theorem g_ContainsNames (hx : rdS (hp w) ss a l) (hb : l ≤ 4611686018427387904) (hs : ∀ s ∈ ss, s.size ≤ 4611686018427387904) : Run Tryd.prog n_slices_ContainsFunc_string_string_ [.slice a l c, .func (.func n_gram_symbols_S1) #[] #[]] w fun v w' => v = .bool (!ss.all isNameS) ∧ w' = w := by
  refine run_slices_ContainsFunc_string_string_ _ _ _ _ _ w _ ?_
  have key : Run Tryd.prog n_slices_IndexFunc_string_string_ [.slice a l c, .func (.func n_gram_symbols_S1) #[] #[]] w fun v w' => (∃ n : Int, v = .int .i64 n ∧ decide (0 ≤ n) = !ss.all isNameS) ∧ w' = w := by
    refine run_slices_IndexFunc_string_string_ _ _ _ _ _ w _ ?_
    have hl := hx.1
    refine ⟨fun n w' => ∃ j : Nat, n = j ∧ j ≤ l ∧ (ss.take j).all isNameS = true ∧ w' = w, fun n _ => l - n.toNat, ⟨0, rfl, by omega, rfl, rfl⟩, ?_⟩
    rintro _ n w1 ⟨j, rfl, hj, hni, rfl⟩
    refine br_intro (fun h => ?_) fun h => ?_
    · have h : j < l := by have := of_decide_eq_true h; omega
      obtain ⟨y, ad, hy1, rfl, hy2⟩ := hx.get1 h
      refine idx_i rfl h ⟨y, hy2 _ (sub.refl _), ifT_iff.2 ⟨rfl, (g_symbols1 (hs y (List.mem_of_getElem? hy1))).mono ?_⟩⟩
      rintro _ _ ⟨rfl, rfl⟩
      refine ⟨_, rfl, br_intro (fun h2 => ?_) fun h2 => ?_⟩
      · have : ss.all isNameS = false := by rw [List.all_eq_false]; exact ⟨y, List.mem_of_getElem? hy1, by simpa using h2⟩
        exact ⟨⟨_, rfl, by rw [this]; simp⟩, rfl⟩
      · refine ⟨⟨by omega, by omega⟩, ⟨j + 1, by simp, by omega, ?_, rfl⟩, msr h⟩
        rw [List.take_add_one, hy1, List.all_append, hni]
        simpa using h2
    · have h : j = l := by have := of_decide_eq_false h; omega
      subst h
      rw [← hl, List.take_length] at hni
      exact ⟨⟨_, rfl, by rw [hni]; rfl⟩, rfl⟩
  refine key.mono ?_
  rintro _ _ ⟨⟨n, rfl, hn⟩, rfl⟩
  exact ⟨n, rfl, by rw [hn], rfl⟩
theorem nodup_snoc {l : List ByteArray} {x : ByteArray} : (l ++ [x]).Nodup ↔ l.Nodup ∧ x ∉ l := by
  rw [List.nodup_append]
  constructor
  · rintro ⟨h1, _, h3⟩; exact ⟨h1, fun h => h3 x h x (by simp) rfl⟩
  · rintro ⟨h1, h2⟩; exact ⟨h1, by simp, fun a ha b hb e => by simp at hb; subst hb; subst e; exact h2 ha⟩
theorem g_unlike (hx : rdS (hp w) ss a l) (hb : l ≤ 4611686018427387904) : Run Tryd.prog n_gram_unlike [.slice a l c] w fun v w' => v = .bool (decide ss.Nodup) ∧ Gr w w' := by
  refine run_gram_unlike _ _ _ w _ ?_
  have hl := hx.1
  refine new_i (St.all w) fun b w1 h => ?_
  have h := mapA_new (κ := ByteArray) h
  refine ⟨fun n w' => ∃ (j : Nat) (m : List (ByteArray × Value)), n = j ∧ j ≤ l ∧ (∀ s, (assoc s m).isSome = true ↔ s ∈ ss.take j) ∧ (∀ s v, assoc s m = some v → ∃ k : Nat, v = .int .i64 (k : Int) ∧ k ≤ j) ∧ m.length ≤ j ∧ (m.length = j ↔ (ss.take j).Nodup) ∧ St w' (mapA b m :: all w), fun n _ => l - n.toNat,
    ⟨0, [], rfl, by omega, by simp [assoc], fun s v h => by simp [assoc] at h, by simp, by simp, h⟩, ?_⟩
  clear h
  rintro _ n w2 ⟨j, m, rfl, hj, hm1, hm2, hm3, hm4, h⟩
  refine br_intro (fun hlt => ?_) fun hlt => ?_
  · have hlt : j < l := by have := of_decide_eq_true hlt; omega
    obtain ⟨s, ad, hs1, rfl, hs2⟩ := hx.get1 hlt
    refine idx_i rfl hlt ⟨s, hs2 _ h.gone1, (map_lookup (κ := ByteArray) tyOk (rfl : kdOfT Ty _ = .map _ _) Tryd.underlying9 rfl rfl h s).mono ?_⟩
    rintro _ _ ⟨rfl, rfl⟩
    obtain ⟨k, hk, hkj⟩ : ∃ k : Nat, (assoc s m).getD (.int .i64 0) = .int .i64 (k : Int) ∧ k ≤ j := by
      cases ha : assoc s m with
      | none => exact ⟨0, rfl, by omega⟩
      | some v => obtain ⟨k, rfl, hk⟩ := hm2 s v ha; exact ⟨k, rfl, hk⟩
    refine ⟨_, hk, ⟨by omega, by omega⟩, (map_update (κ := ByteArray) tyOk (rfl : kdOfT Ty _ = .map _ _) Tryd.underlying9 h s _).mono ?_⟩
    rintro _ w4 h
    have et : ss.take (j + 1) = ss.take j ++ [s] := by rw [List.take_add_one, hs1]; rfl
    refine ⟨⟨by omega, by omega⟩, ⟨j + 1, _, by simp, by omega, fun s' => ?_, fun s' v hv => ?_, ?_, ?_, h⟩, msr hlt⟩
    · rw [assoc_put, et, List.mem_append, ← hm1]
      by_cases e : s' = s <;> simp [e]
    · rw [assoc_put] at hv
      split at hv
      · cases hv; exact ⟨k + 1, by simp, by omega⟩
      · obtain ⟨k', rfl, hk'⟩ := hm2 s' v hv; exact ⟨k', rfl, by omega⟩
    · rw [aput_len]; split <;> omega
    · rw [aput_len, et, nodup_snoc, ← hm4, ← hm1]
      by_cases e : (assoc s m).isSome = true
      · simp [e]; omega
      · simp [e]
  · have hlt : j = l := by have := of_decide_eq_false hlt; omega
    subst hlt
    refine ⟨_, map_len tyOk (rfl : kdOfT Ty _ = .map _ _) h, _, rfl, ?_, h.gone1⟩
    rw [← hl, List.take_length] at hm4
    congr 1
    rw [Bool.eq_iff_iff, decide_eq_true_eq, ← hm4, hl]
    simp only [beq_iff_eq]; omega
end
end Go.Proofs.YtaheggomcnbbiaaDoor
namespace Go.Proofs.YtaheggomcnbbiaaDoor
abbrev ty_int : TypeId := 3
abbrev und_int := @Tryd.underlying3
abbrev ty_string : TypeId := 9
abbrev und_string := @Tryd.underlying9
abbrev ty_api_Term : TypeId := 81
abbrev eqg_api_Term := @Tryd.eqGuardType81
abbrev sih_api_Term := @Tryd.stoodInHeld81
end Go.Proofs.YtaheggomcnbbiaaDoor
set_option linter.unusedVariables false
namespace Go.V
structure TermT where
  name : ByteArray
  level : Int
structure ProdT where
  left : Int
  right : List Int
  level : Int
structure GramT where
  terms : List TermT
  nons : List ByteArray
  levels : List Int
  start : Int
  prods : List ProdT
instance : Rep TermT := { n := 2, rd := fun _ t vs => vs = [.string t.name, .int .i64 t.level], mono := fun _ h => h, len := fun h => by rw [h]; rfl }
instance : Rep ProdT := { n := 3, rd := fun h p vs => ∃ a l c, vs = [.int .i64 p.left, .slice a l c, .int .i64 p.level] ∧ l ≤ c ∧ rdS h p.right a l, mono := fun s ⟨a, l, c, h1, h2, h3⟩ => ⟨a, l, c, h1, h2, h3.mono s⟩, len := fun ⟨_, _, _, h, _⟩ => by rw [h]; rfl }
structure GA where
  ta : Option Addr
  tl : Nat
  tc : Nat
  na : Option Addr
  nl : Nat
  nc : Nat
  la : Option Addr
  ll : Nat
  lc : Nat
  s : Int
  pa : Option Addr
  pl : Nat
  pc : Nat
def GA.cells (x : GA) : List Value := [.slice x.ta x.tl x.tc, .slice x.na x.nl x.nc, .slice x.la x.ll x.lc, .int .i64 x.s, .slice x.pa x.pl x.pc]
structure gR (h : Hp) (g : GramT) (x : GA) : Prop where
  t : rdS h g.terms x.ta x.tl
  n : rdS h g.nons x.na x.nl
  l : rdS h g.levels x.la x.ll
  s : x.s = g.start
  p : rdS h g.prods x.pa x.pl
  tc : x.tl ≤ x.tc
  nc : x.nl ≤ x.nc
  lc : x.ll ≤ x.lc
  pc : x.pl ≤ x.pc
theorem gR.mono {h h' : Hp} {g : GramT} {x : GA} (s : sub h h') (r : gR h g x) : gR h' g x := ⟨r.t.mono s, r.n.mono s, r.l.mono s, r.s, r.p.mono s, r.tc, r.nc, r.lc, r.pc⟩
instance : Rep GramT := { n := 5, rd := fun h g vs => ∃ x : GA, vs = x.cells ∧ gR h g x, mono := fun s ⟨x, h1, h2⟩ => ⟨x, h1, h2.mono s⟩, len := fun ⟨_, h, _⟩ => by rw [h]; rfl }
def okG (g : GramT) : Prop := g.terms.length ≤ 17592186044416 ∧ g.nons.length ≤ 17592186044416 ∧ g.levels.length ≤ 17592186044416 ∧ g.prods.length * 40 ≤ 140737488351232 ∧ (∀ t ∈ g.terms, t.name.size ≤ 140737488351232 ∧ anyI t.level) ∧ (∀ s ∈ g.nons, s.size ≤ 140737488351232) ∧ (∀ p ∈ g.prods, p.right.length ≤ 17592186043904)
theorem storeRow_st {L : List Asn} {b : Nat} : ∀ (vs us : List Value) (i : Nat) {w : World}, i + vs.length ≤ us.length → St w (cel b us :: L) → St (storeRow w ⟨b, 0, none⟩ i vs) (cel b (us.take i ++ vs ++ us.drop (i + vs.length)) :: L)
  | [], us, i, w, _, h => by simpa [storeRow] using h
  | v :: vs, us, i, w, hl, h => by
    have h1 := h.setC i v
    have h2 := storeRow_st vs (us.set i v) (i + 1) (by simp at hl ⊢; omega) h1
    simp only [List.length_cons] at hl
    have e : (us.set i v).take (i + 1) ++ vs ++ (us.set i v).drop (i + 1 + vs.length) = us.take i ++ v :: vs ++ us.drop (i + (vs.length + 1)) := by
      rw [List.drop_set_of_lt (by omega), List.take_set, List.take_add_one, List.set_append_right _ _ (by simp; omega)]
      have : us[i]? = some (us[i]'(by omega)) := List.getElem?_eq_getElem _
      rw [this]
      have e2 : i - (us.take i).length = 0 := by simp; omega
      rw [e2]
      simp
      congr 1; omega
    rw [e] at h2
    simp only [storeRow, add_lit0, List.length_cons]
    exact h2
theorem mayStore_i {w : World} {L : List Asn} {b : Nat} {us : List Value} (h : St w (cel b us :: L)) : ∀ (vs : List Value) (i : Nat), i + vs.length ≤ us.length → (∀ v ∈ vs, oneC v = true) → mayStore w ⟨b, 0, none⟩ i vs
  | [], i, _, _ => trivial
  | v :: vs, i, hl, h1 => by
    simp only [List.length_cons] at hl
    refine ⟨h1 v (by simp), ⟨us[i]'(by omega), ?_⟩, ?_, mayStore_i h vs (i + 1) (by omega) fun u hu => h1 u (by simp [hu])⟩
    · rw [add_lit0, h.cell]; exact List.getElem?_eq_getElem _
    · rw [add_lit0]; exact h.frozen i none
theorem stR_i {w : World} {L : List Asn} {b : Nat} {us vs : List Value} {k : World → Prop} (h : St w (cel b us :: L)) (hl : us.length = vs.length) (h1 : ∀ v ∈ vs, oneC v = true) (hk : ∀ w', St w' (cel b vs :: L) → k w') : stR w ⟨b, 0, none⟩ vs k := by
  refine ⟨mayStore_i h vs 0 (by omega) h1, fun w' hw => ?_⟩
  subst hw
  have h2 := storeRow_st vs us 0 (by omega) h
  refine hk _ ?_
  have e : us.take 0 ++ vs ++ us.drop (0 + vs.length) = vs := by rw [List.take_zero, List.nil_append, List.drop_of_length_le (by omega), List.append_nil]
  rwa [e] at h2
theorem slc_from {a : Option Addr} {len cap lo sz : Nat} {k : Option Addr → Nat → Nat → Prop} (h1 : lo ≤ len) (h2 : len ≤ cap) (hk : k (slP a lo cap sz) (len - lo) (cap - lo)) : slc a len cap (some (lo : Int)) none none sz k :=
  ⟨.inl rfl, .inl rfl, ⟨by show (0 : Int) ≤ (lo : Int); omega, by show (lo : Int) ≤ (len : Int); omega⟩, by simpa using hk⟩
def SymsOk (g : GramT) (added : Nat) : Prop := g.terms[0]? = some ⟨.empty, 0⟩ ∧ added < g.nons.length ∧ g.terms.length ≤ 65 ∧ g.nons.length ≤ 64 + added ∧ g.terms.length - 1 + (g.nons.length - added) ≤ 64 ∧
  (∀ t ∈ g.terms.drop 1, isTermS t.name = true ∧ 0 ≤ t.level ∧ t.level ≤ g.levels.length) ∧ (∀ (i : Nat) v, g.levels[i]? = some v → 1 ≤ v ∧ v ≤ 3 ∧ ∃ t ∈ g.terms.drop 1, t.level = (i : Int) + 1) ∧
  ((g.terms.drop 1).map TermT.name).Nodup ∧ (g.nons.drop added).Nodup ∧ ∀ s ∈ g.nons.drop added, isNameS s = true
end Go.V
namespace Go.Proofs.YtaheggomcnbbiaaDoor
open Go.V
section
variable {w : World} {L : List Asn} {g : GramT} {x : GA}
theorem cmpTerm (w : World) (xo yo : Operand) (s e : ByteArray) (n m : Int) : Sem.run Tryd.prog (cmpS .neq ty_api_Term xo yo (.agg #[.string s, .int .i64 n]) (.agg #[.string e, .int .i64 m])) w = .ok (.bool (!(decide (s = e) && (n == m)))) w := by
  unfold cmpS
  rw [Sem.run_bind, run_eqGuard_agg w _ _ _ _ _ _ eqg_api_Term]
  simp only [Result.andThen_ok]
  have ht : Tryd.prog.underlying ty_api_Term = some (.struct (Tryd.prog.fieldsOf ty_api_Term)) := by kernel_rfl
  have hi : Tryd.prog.underlying ty_int = some (.int .i64) := und_int
  have hs : Tryd.prog.underlying ty_string = some .string := und_string
  have hf : (Tryd.prog.fieldsOf ty_api_Term).toList = [{ name := "Name", type := ty_string, offset := 0, embedded := false, tag := "", pkgPath := "", byteOffset := 0 }, { name := "Level", type := ty_int, offset := 1, embedded := false, tag := "", pkgPath := "", byteOffset := 16 }] := by kernel_rfl
  have p0 : ∀ (v u : Value) (w : World), (part ty_string #[v, u] 0).run Tryd.prog w = .ok v w := fun v u w => by simp [part, run_isAgg hs, kdOf, Kd.isAgg]
  have p1 : ∀ (v u : Value) (w : World), (part ty_int #[v, u] 1).run Tryd.prog w = .ok u w := fun v u w => by simp [part, run_isAgg hi, kdOf, Kd.isAgg]
  have eqS : ∀ d w, (Op.equalIn (d + 1) ty_string (.string s) (.string e)).run Tryd.prog w = .ok (s.toList == e.toList) w := fun d w => run_equalIn_string w d _ _ _ hs
  have eqI : ∀ d w, (Op.equalIn (d + 1) ty_int (.int .i64 n) (.int .i64 m)).run Tryd.prog w = .ok (n == m) w := fun d w => run_equalIn_int w d _ _ _ _ _ hi
  have key : (Op.equalIn (9998 + 1 + 1) ty_api_Term (.agg #[.string s, .int .i64 n]) (.agg #[.string e, .int .i64 m])).run Tryd.prog w = .ok (decide (s = e) && (n == m)) w := by
    rw [run_equalIn_agg w (9998 + 1) ty_api_Term _ _ ht sih_api_Term, hf]
    unfold Op.eqFields
    simp only [ne_eq, String.reduceEq, not_false_eq_true, if_true, Sem.run_bind, p0, Result.andThen_ok, eqS, bs_eq]
    cases hq : decide (s = e)
    · simp
    · unfold Op.eqFields
      simp only [ne_eq, String.reduceEq, not_false_eq_true, if_true, Sem.run_bind, p1, Result.andThen_ok, eqI, Bool.not_true, Bool.false_eq_true, if_false]
      cases hn : (n == m)
      · simp
      · unfold Op.eqFields; simp
  rw [run_neq_struct]
  show ((Op.equalIn (9998 + 1 + 1) ty_api_Term (.agg #[.string s, .int .i64 n]) (.agg #[.string e, .int .i64 m])).run Tryd.prog w).andThen _ = _
  rw [key]
  rfl
end
end Go.Proofs.YtaheggomcnbbiaaDoor
set_option linter.unusedVariables false
namespace Go.V
theorem own_rdT {w : World} {L : List Asn} {a : Option Addr} {l c : Nat} {ss : List ByteArray} (h : St w (own 1 a l c (ss.map fun s => Value.string s) :: L)) : rdS (hp w) ss a l := by
  have hl := own_len h
  obtain ⟨h1, s, ha⟩ := h.first
  exact (rdS_of_row (by simpa using hl) (own_rdVh ha)).mono s
end Go.V
namespace Go.Proofs.YtaheggomcnbbiaaDoor
open Go.V
section
variable {w : World} {L : List Asn} {g : GramT} {x : GA}
set_option maxHeartbeats 1000000 in
theorem g_symbols (hg : gR (hp w) g x) (hb : okG g) (added : Nat) (ha : added ≤ 1) :
    Run Tryd.prog n_gram_symbols [.agg ⟨x.cells⟩, .int .i64 (added : Int)] w fun v w' => (∃ r : Bool, v = .bool r ∧ (r = true ↔ SymsOk g added)) ∧ Gr w w' := by
  refine run_gram_symbols _ _ _ _ _ _ _ _ _ _ _ _ _ _ w _ ?_
  refine newC_i (St.all w) fun k1 w1 h => ?_
  have gw : Gr w w1 := h.gone1
  have hg := hg.mono gw
  have rb : rowH (hp w1) ⟨k1, 0, none⟩ x.cells := h.row
  obtain ⟨b1, b2, b3, b4, b5, b6, b7⟩ := hb
  have tl := hg.t.1
  have nl := hg.n.1
  have ll := hg.l.1
  have hfin : ∀ w', sub (hp w1) (hp w') → Gr w w' := fun w' h => gw.trans h
  have h := St.all w1
  unfold V.all at h
  have c0 := fun (w' : World) (s : sub (hp w1) (hp w')) => rb.cell0 (v := .slice x.ta x.tl x.tc) s
  have c1 := fun (w' : World) (s : sub (hp w1) (hp w')) => rb.cell s (j := 1) (v := .slice x.na x.nl x.nc) rfl
  have c2 := fun (w' : World) (s : sub (hp w1) (hp w')) => rb.cell s (j := 2) (v := .slice x.la x.ll x.lc) rfl
  generalize hp w1 = H at *
  have s1 : sub H (hp w1) := h.has
  have pre : Prop := True
  refine ⟨fun b w' => (b = false ↔ (g.terms[0]? = some ⟨.empty, 0⟩ ∧ added < g.nons.length ∧ g.terms.length ≤ 65 ∧ g.nons.length ≤ 64 + added ∧ g.terms.length - 1 + (g.nons.length - added) ≤ 64)) ∧ w' = w1, ?_, ?_⟩
  · refine ⟨_, _, _, c0 _ s1, br_intro (fun h1 => ⟨?_, rfl⟩) fun h1 => ?_⟩
    · have : g.terms = [] := List.eq_nil_of_length_eq_zero (by simp at h1; omega)
      simp [this]
    have h1 : 0 < x.tl := by simp at h1; omega
    obtain ⟨t0, ad, vs, ht1, hta, ht2, ht3⟩ := hg.t.get h1
    have ht3 : vs = [.string t0.name, .int .i64 t0.level] := ht3
    subst ht3
    have ht2 : rowH H ad [.string t0.name, .int .i64 t0.level] := by simpa [mulS_eq, Addr.add] using ht2
    have e0 : (g.terms[0]? = some ⟨.empty, 0⟩) ↔ (t0.name = .empty ∧ t0.level = 0) := by
      rw [ht1]
      constructor
      · intro e; cases e; exact ⟨rfl, rfl⟩
      · rintro ⟨e1, e2⟩; cases t0; simp_all
    rw [e0]
    refine ⟨_, _, _, c0 _ s1, ⟨ad, hta, by omega, by omega, ?_⟩⟩
    have ez : ad.add (mulS (Int.toNat 0) 2) = ad := by simp [mulS_eq, Addr.add]
    rw [ez]
    refine ⟨_, _, ht2.at s1 rfl, _, cmpTerm _ _ _ _ _ _ _, _, rfl, br_intro (fun h2 => ⟨?_, rfl⟩) fun h2 => ?_⟩
    · simp only [Bool.not_eq_true', Bool.and_eq_false_iff, decide_eq_false_iff_not, beq_eq_false_iff_ne] at h2
      have : ¬ (t0.name = .empty ∧ t0.level = 0) := fun e => h2.elim (fun h => h e.1) (fun h => h e.2)
      simp [this]
    have h2 : t0.name = ByteArray.mk (Array.mk []) ∧ t0.level = 0 := by simpa using h2
    have h2 : t0.name = .empty ∧ t0.level = 0 := h2
    refine ⟨_, _, _, c1 _ s1, br_intro (fun h3 => ⟨?_, rfl⟩) fun h3 => ?_⟩
    · have := of_decide_eq_true h3
      simp; omega
    have h3 := of_decide_eq_false h3
    refine ⟨_, _, _, c0 _ s1, br_intro (fun h4 => ⟨?_, rfl⟩) fun h4 => ?_⟩
    · have := of_decide_eq_true h4
      simp; omega
    have h4 := of_decide_eq_false h4
    refine ⟨_, _, _, c1 _ s1, ⟨by omega, by omega⟩, br_intro (fun h5 => ⟨?_, rfl⟩) fun h5 => ?_⟩
    · have := of_decide_eq_true h5
      simp; omega
    have h5 := of_decide_eq_false h5
    refine ⟨_, _, _, c0 _ s1, ⟨by omega, by omega⟩, _, _, _, c1 _ s1, ⟨by omega, by omega⟩, ⟨by omega, by omega⟩, ?_, rfl⟩
    rw [decide_eq_false_iff_not]
    simp only [h2, true_and, and_true]
    omega
  rintro _ b _ ⟨hpre, rfl⟩
  refine br_intro (fun hbt => ?_) fun hbf => ?_
  · subst hbt
    refine ⟨⟨false, rfl, ?_⟩, hfin _ s1⟩
    constructor
    · intro h; cases h
    · rintro ⟨p1, p2, p3, p4, p5, _⟩
      have := hpre.2 ⟨p1, p2, p3, p4, p5⟩
      cases this
  obtain ⟨p1, p2, p3, p4, p5⟩ := hpre.1 hbf
  have hT : 1 ≤ x.tl := by
    have := (List.getElem?_eq_some_iff.1 p1).1; omega
  refine new_i h fun k16 w3 h => ?_
  have h := mapA_new (κ := Int) h
  refine ⟨_, _, _, c0 _ h.gone1, slc_from (lo := 1) hT hg.tc ?_⟩
  have hts := hg.t.drop hT hg.tc
  have htl : (g.terms.drop 1).length = x.tl - 1 := hts.1
  -- the terminals
  refine ⟨fun o l' c' n w' => ∃ (j : Nat) (m : List (Int × Value)), n = j ∧ j ≤ x.tl - 1 ∧ j = l' ∧ (∀ t ∈ (g.terms.drop 1).take j, isTermS t.name = true ∧ 0 ≤ t.level ∧ t.level ≤ g.levels.length) ∧ (∀ n : Int, assoc n m = if ∃ t ∈ (g.terms.drop 1).take j, t.level = n then some (.int .i64 1) else none) ∧
      St w' [own 1 o j c' (((g.terms.drop 1).take j).map fun t => Value.string t.name), mapA k16 m, has H], fun _ _ _ n _ => x.tl - 1 - n.toNat, ⟨0, [], rfl, by omega, rfl, by simp, by simp [assoc], own_nil 1 h⟩, ?_⟩
  clear h
  rintro _ o10 _ k22 n2 w4 ⟨j, m, rfl, hj, rfl, hok, hm, h⟩
  have s4 : sub H (hp w4) := rdH 2 h.l
  refine br_intro (fun hlt => ?_) fun hlt => ?_
  · have hlt : j < x.tl - 1 := by have := of_decide_eq_true hlt; omega
    obtain ⟨t, ad, vs, ht1, hta, ht2, ht3⟩ := hts.get hlt
    have ht3 : vs = [.string t.name, .int .i64 t.level] := ht3
    subst ht3
    have htm : t ∈ g.terms.drop 1 := List.mem_of_getElem? ht1
    have htg : t ∈ g.terms := List.mem_of_mem_drop htm
    obtain ⟨q1, q2⟩ := b5 t htg
    have et : (g.terms.drop 1).take (j + 1) = (g.terms.drop 1).take j ++ [t] := by rw [List.take_add_one, ht1]; rfl
    refine ⟨ad, hta, by omega, by omega, ?_⟩
    rw [Int.toNat_natCast]
    refine ⟨_, _, ht2.at s4 rfl, newC_i h fun k23 w5 h => stR_i h rfl (by simp [oneC]) fun w6 h => ?_⟩
    refine ⟨fun b w' => (b = false ↔ (isTermS t.name = true ∧ 0 ≤ t.level ∧ t.level ≤ g.levels.length)) ∧ St w' [cel k23 [.string t.name, .int .i64 t.level], own 1 o10 j k22 (((g.terms.drop 1).take j).map fun t => Value.string t.name), mapA k16 m, has H], ?_, ?_⟩
    · refine ⟨_, h.cell 0, (g_isTerm (by omega)).mono ?_⟩
      rintro _ w7 ⟨rfl, hg7⟩
      have h := h.gr hg7
      refine ⟨_, rfl, br_intro (fun h1 => ⟨?_, h⟩) fun h1 => ?_⟩
      · have h1 : isTermS t.name = false := by simpa using h1
        simp [h1]
      have h1 : isTermS t.name = true := by simpa using h1
      have cl : w7.cell? ((⟨k23, 0, none⟩ : Addr).add 1) = some (.int .i64 t.level) := h.row.cell (sub.refl _) rfl
      refine ⟨_, cl, br_intro (fun h2 => ⟨?_, h⟩) fun h2 => ?_⟩
      · have h2 := of_decide_eq_true h2
        simp [h1]; omega
      have h2 := of_decide_eq_false h2
      refine ⟨_, cl, _, _, _, c2 _ (rdH 3 h.l), ?_, h⟩
      rw [decide_eq_false_iff_not]
      simp only [h1, true_and]
      omega
    · clear h
      rintro _ b4 w8 ⟨hb4, h⟩
      refine br_intro (fun hbt => ?_) fun hbf => ?_
      · subst hbt
        refine ⟨⟨false, rfl, ?_⟩, hfin _ (rdH 3 h.l)⟩
        constructor
        · intro h; cases h
        · rintro ⟨_, _, _, _, _, p6, _⟩
          have := hb4.2 (p6 t htm)
          cases this
      have hokt := hb4.1 hbf
      refine ⟨_, h.cell 0, newC_i h fun k26 w9 h => ?_⟩
      refine (app_one tyOk (rfl : kdOfT Ty _ = .slice _) (rfl : kdOfT Ty _ = .slice _) rfl rfl rfl (h.pick 5 [0, 2, 1, 3, 4]) rfl (by simp [oneC]) (by show (j + 1) * 16 ≤ _; omega) (by omega)).mono ?_
      rintro _ w10 ⟨a', c', rfl, h⟩
      have h := h.pick 5 [3, 0, 2, 4]
      refine ⟨_, _, _, rfl, _, (rdCel (b := k23) (vs := [.string t.name, .int .i64 t.level]) 2 h.l).cell (sub.refl _) (j := 1) rfl, ?_⟩
      refine (map_update (κ := Int) tyOk (rfl : kdOfT Ty _ = .map _ _) und_int h t.level (.int .i64 1)).mono ?_
      rintro _ w11 h
      refine ⟨⟨by omega, by omega⟩, ⟨j + 1, aput t.level (.int .i64 1) m, by simp, by omega, rfl, fun t' ht' => ?_, fun n => ?_, ?_⟩, by dsimp only; omega⟩
      · rw [et, List.mem_append] at ht'
        rcases ht' with ht' | ht'
        · exact hok t' ht'
        · simp at ht'; subst ht'; exact hokt
      · rw [assoc_put, hm, et]
        by_cases e : n = t.level
        · subst e
          rw [if_pos rfl, if_pos ⟨t, by simp, rfl⟩]
        · rw [if_neg e]
          have : (∃ t' ∈ (g.terms.drop 1).take j ++ [t], t'.level = n) ↔ ∃ t' ∈ (g.terms.drop 1).take j, t'.level = n := by
            constructor
            · rintro ⟨t', h1, h2⟩
              rcases List.mem_append.1 h1 with h1 | h1
              · exact ⟨t', h1, h2⟩
              · simp at h1; subst h1; exact absurd h2.symm e
            · rintro ⟨t', h1, h2⟩; exact ⟨t', List.mem_append.2 (.inl h1), h2⟩
          simp only [this]
      · have e : (((g.terms.drop 1).take j).map fun t => Value.string t.name) ++ [.string t.name] = ((g.terms.drop 1).take (j + 1)).map fun t => Value.string t.name := by rw [et]; simp
        rw [← e]
        exact h.pick 4 [1, 0, 3]
  have hlt : j = x.tl - 1 := by have := of_decide_eq_false hlt; omega
  subst hlt
  rw [List.take_of_length_le (by omega)] at hok hm h
  refine ⟨_, _, _, c2 _ s4, fun n w' => ∃ i : Nat, n = i ∧ i ≤ x.ll ∧ (∀ (k : Nat) v, k < i → g.levels[k]? = some v → 1 ≤ v ∧ v ≤ 3 ∧ ∃ t ∈ g.terms.drop 1, t.level = (k : Int) + 1) ∧ St w' [own 1 o10 (x.tl - 1) k22 ((g.terms.drop 1).map fun t => Value.string t.name), mapA k16 m, has H], fun n _ => x.ll - n.toNat, ⟨0, rfl, by omega, fun k v hk => by omega, h⟩, ?_⟩
  clear h s4
  rintro _ n7 w12 ⟨i, rfl, hi, hlv, h⟩
  have s12 : sub H (hp w12) := rdH 2 h.l
  have bad : ∀ {v : Int}, g.levels[i]? = some v → ¬ (1 ≤ v ∧ v ≤ 3 ∧ ∃ t ∈ g.terms.drop 1, t.level = (i : Int) + 1) → (∃ r : Bool, Value.bool false = .bool r ∧ (r = true ↔ SymsOk g added)) ∧ Gr w w12 := fun {v} hv hn => by
    refine ⟨⟨false, rfl, ?_⟩, hfin _ s12⟩
    constructor
    · intro h; cases h
    · rintro ⟨_, _, _, _, _, _, p7, _⟩
      exact absurd (p7 i v hv) hn
  refine br_intro (fun hlt => ?_) fun hlt => ?_
  · have hlt : i < x.ll := by have := of_decide_eq_true hlt; omega
    obtain ⟨v, ad, hv1, hva, hv2⟩ := hg.l.get1 hlt
    refine ⟨ad, hva, by omega, by omega, ?_⟩
    rw [Int.toNat_natCast]
    refine ⟨_, hv2 _ s12, br_intro (fun h1 => bad hv1 (by have := of_decide_eq_true h1; omega)) fun h1 => br_intro (fun h2 => bad hv1 (by have := of_decide_eq_true h2; omega)) fun h2 => ⟨⟨by omega, by omega⟩, ?_⟩⟩
    refine (map_lookup (κ := Int) tyOk (rfl : kdOfT Ty _ = .map _ _) und_int rfl rfl (h.pick 3 [1]) ((i : Int) + 1)).mono ?_
    rintro _ _ ⟨rfl, rfl⟩
    rw [hm]
    by_cases he : ∃ t ∈ g.terms.drop 1, t.level = (i : Int) + 1
    · rw [if_pos he]
      refine ⟨_, rfl, br_f rfl ⟨⟨by omega, by omega⟩, ⟨i + 1, by simp, by omega, fun k v' hk hv' => ?_, h⟩, msr hlt⟩⟩
      by_cases e : k = i
      · subst e
        rw [hv1] at hv'; cases hv'
        exact ⟨by have := of_decide_eq_false h1; omega, by have := of_decide_eq_false h2; omega, he⟩
      · exact hlv k v' (by omega) hv'
    · rw [if_neg he]
      exact ⟨_, rfl, br_t rfl (bad hv1 (fun h => he h.2.2))⟩
  have hlt : i = x.ll := by have := of_decide_eq_false hlt; omega
  subst hlt
  have hlv' : ∀ (k : Nat) v, g.levels[k]? = some v → 1 ≤ v ∧ v ≤ 3 ∧ ∃ t ∈ g.terms.drop 1, t.level = (k : Int) + 1 := fun k v hv => hlv k v (by have := (List.getElem?_eq_some_iff.1 hv).1; omega) hv
  refine ⟨_, _, _, c1 _ s12, slc_from (lo := added) (by omega) hg.nc ?_⟩
  have hns := hg.n.drop (k := added) (by omega) hg.nc
  have e1 : ((g.terms.drop 1).map fun t => Value.string t.name) = ((g.terms.drop 1).map TermT.name).map fun s => Value.string s := by rw [List.map_map]; rfl
  rw [e1] at h
  have rt : rdS (hp w12) ((g.terms.drop 1).map TermT.name) o10 (x.tl - 1) := own_rdT h
  refine (g_unlike rt (by omega)).mono ?_
  rintro _ w14 ⟨rfl, g14⟩
  have s14 : sub H (hp w14) := s12.trans g14
  refine ⟨_, rfl, br_intro (fun h1 => ?_) fun h1 => ?_⟩
  · have h1 := of_decide_eq_true h1
    refine (g_unlike (hns.mono s14) (by omega)).mono ?_
    rintro _ w15 ⟨rfl, g15⟩
    have s15 : sub H (hp w15) := s14.trans g15
    refine ⟨_, rfl, br_intro (fun h2 => ?_) fun h2 => ?_⟩
    · have h2 := of_decide_eq_true h2
      refine (g_ContainsNames (hns.mono s15) (by omega) (fun s hs => by have := b6 s (List.mem_of_mem_drop hs); omega)).mono ?_
      rintro _ _ ⟨rfl, rfl⟩
      refine ⟨_, rfl, ⟨_, rfl, ?_⟩, hfin _ s15⟩
      rw [Bool.not_not, List.all_eq_true]
      exact ⟨fun h3 => ⟨p1, p2, p3, p4, p5, hok, hlv', h1, h2, h3⟩, fun ⟨_, _, _, _, _, _, _, _, _, h3⟩ => h3⟩
    · have h2 := of_decide_eq_false h2
      refine ⟨⟨false, rfl, ?_⟩, hfin _ s15⟩
      exact ⟨fun h => (by cases h), fun ⟨_, _, _, _, _, _, _, _, h3, _⟩ => absurd h3 h2⟩
  · have h1 := of_decide_eq_false h1
    refine ⟨⟨false, rfl, ?_⟩, hfin _ s14⟩
    exact ⟨fun h => (by cases h), fun ⟨_, _, _, _, _, _, _, h3, _⟩ => absurd h3 h1⟩
end
end Go.Proofs.YtaheggomcnbbiaaDoor
set_option linter.unusedVariables false
namespace Go.V
def addL (acc : List Int) (x : Int) : List Int := if x ∈ acc then acc else acc ++ [x]
def leftsL (l : List Int) : List Int := l.foldl addL []
theorem leftsL_take {l : List Int} {j : Nat} {x : Int} (h : l[j]? = some x) : leftsL (l.take (j + 1)) = addL (leftsL (l.take j)) x := by
  unfold leftsL; rw [List.take_add_one, h, List.foldl_append]; rfl
theorem mem_addL {acc : List Int} {x y : Int} : y ∈ addL acc x ↔ y ∈ acc ∨ y = x := by
  unfold addL; split
  · rename_i h; exact ⟨.inl, fun h' => h'.elim id (fun e => e ▸ h)⟩
  · simp
theorem addL_len (acc : List Int) (x : Int) : acc.length ≤ (addL acc x).length ∧ (addL acc x).length ≤ acc.length + 1 := by
  unfold addL; split <;> simp
theorem addL_nodup {acc : List Int} (x : Int) (h : acc.Nodup) : (addL acc x).Nodup := by
  unfold addL; split
  · exact h
  · rename_i hn
    rw [List.nodup_append]
    exact ⟨h, by simp, fun a ha b hb e => by simp at hb; subst hb; subst e; exact hn ha⟩
theorem foldl_addL (l : List Int) : ∀ acc, acc.Nodup → (l.foldl addL acc).Nodup ∧ (∀ y, y ∈ l.foldl addL acc ↔ y ∈ acc ∨ y ∈ l) ∧ (l.foldl addL acc).length ≤ acc.length + l.length := by
  induction l with
  | nil => intro acc h; exact ⟨h, by simp, by simp⟩
  | cons x l ih =>
    intro acc h
    obtain ⟨h1, h2, h3⟩ := ih _ (addL_nodup x h)
    refine ⟨h1, fun y => ?_, ?_⟩
    · show y ∈ l.foldl addL (addL acc x) ↔ _
      rw [h2, mem_addL, List.mem_cons, or_assoc]
    · show (l.foldl addL (addL acc x)).length ≤ _
      have := (addL_len acc x).2
      simp only [List.length_cons]; omega
theorem leftsL_nodup (l : List Int) : (leftsL l).Nodup := (foldl_addL l [] (by simp)).1
theorem mem_leftsL {l : List Int} {y : Int} : y ∈ leftsL l ↔ y ∈ l := by
  have := (foldl_addL l [] (by simp)).2.1 y
  simpa [leftsL] using this
theorem leftsL_len (l : List Int) : (leftsL l).length ≤ l.length := by
  have := (foldl_addL l [] (by simp)).2.2
  simpa [leftsL] using this
def GramT.T (g : GramT) : Nat := g.terms.length
def GramT.N (g : GramT) : Nat := g.nons.length
def symOk (g : GramT) (added : Nat) (s : Int) : Prop := 1 ≤ s ∧ s < g.T + g.N ∧ ¬ ((g.T : Int) ≤ s ∧ s < g.T + added)
def prodOk (g : GramT) (added : Nat) (p : ProdT) : Prop := ((g.T : Int) + added ≤ p.left ∧ p.left < g.T + g.N ∧ 0 ≤ p.level ∧ p.level ≤ g.levels.length) ∧ ∀ s ∈ p.right, symOk g added s
def leftsG (g : GramT) (added : Nat) : List Int := leftsL ((g.prods.drop added).map ProdT.left)
def PrdsOk (g : GramT) (added : Nat) : Prop := added < g.prods.length ∧ g.prods.length ≤ 96 + added ∧ (∀ p ∈ g.prods.drop added, prodOk g added p) ∧
  ((leftsG g added).length : Int) = (g.N : Int) - added ∧ (g.T : Int) + added ≤ g.start ∧ g.start < g.T + g.N
def ValidP (g : GramT) : Prop := SymsOk g 0 ∧ PrdsOk g 0 ∧ sortedL (leftsG g 0)
def ClosedP (g : GramT) : Prop := g.nons[0]? = some .empty ∧ SymsOk g 1 ∧ PrdsOk g 1 ∧ ∃ p, g.prods[0]? = some p ∧ p.left = (g.T : Int) ∧ p.right = [g.start] ∧ p.level = 0
end Go.V
namespace Go.Proofs.YtaheggomcnbbiaaDoor
open Go.V
section
variable {w : World} {L : List Asn} {g : GramT} {x : GA}
set_option maxHeartbeats 1000000 in
theorem g_productions (hg : gR (hp w) g x) (hb : okG g) (added : Nat) (ha : added ≤ 1) :
    Run Tryd.prog n_gram_productions [.agg ⟨x.cells⟩, .int .i64 (added : Int)] w fun v w' => ∃ (a : Option Addr) (l c : Nat) (xs : List Int) (r : Bool), v = .tuple #[.slice a l c, .bool r] ∧ (r = true ↔ PrdsOk g added) ∧ (r = true → xs = leftsG g added) ∧ St w' (own 1 a l c (iv xs) :: all w) := by
  refine run_gram_productions _ _ _ _ _ _ _ _ _ _ _ _ _ _ w _ ?_
  refine newC_i (St.all w) fun k1 w1 h => ?_
  have gw : Gr w w1 := h.gone1
  have hg := hg.mono gw
  have rb : rowH (hp w1) ⟨k1, 0, none⟩ x.cells := h.row
  obtain ⟨b1, b2, b3, b4, b5, b6, b7⟩ := hb
  have tl := hg.t.1
  have nl := hg.n.1
  have ll := hg.l.1
  have pl := hg.p.1
  have hfin : ∀ w' (A : Asn), St w' [A, has (hp w1)] → St w' [A, has (hp w)] := fun w' A h => h.on1 (has_i gw)
  have h := St.all w1
  unfold V.all at h
  have c0 := fun (w' : World) (s : sub (hp w1) (hp w')) => rb.cell0 (v := .slice x.ta x.tl x.tc) s
  have c1 := fun (w' : World) (s : sub (hp w1) (hp w')) => rb.cell s (j := 1) (v := .slice x.na x.nl x.nc) rfl
  have c2 := fun (w' : World) (s : sub (hp w1) (hp w')) => rb.cell s (j := 2) (v := .slice x.la x.ll x.lc) rfl
  have c3 := fun (w' : World) (s : sub (hp w1) (hp w')) => rb.cell s (j := 3) (v := .int .i64 x.s) rfl
  have c4 := fun (w' : World) (s : sub (hp w1) (hp w')) => rb.cell s (j := 4) (v := .slice x.pa x.pl x.pc) rfl
  unfold V.all
  generalize hp w1 = H at *
  have s1 : sub H (hp w1) := h.has
  have hT : g.T = x.tl := tl
  have hN : g.N = x.nl := nl
  have no : ∀ w', sub H (hp w') → ¬ PrdsOk g added → ∃ (a : Option Addr) (l c : Nat) (xs : List Int) (r : Bool), Value.tuple (Array.mk [.slice none 0 0, .bool false]) = .tuple #[.slice a l c, .bool r] ∧ (r = true ↔ PrdsOk g added) ∧ (r = true → xs = leftsG g added) ∧ St w' [own 1 a l c (iv xs), has (hp w)] := fun w' s hn =>
    ⟨none, 0, 0, [], false, rfl, ⟨fun h => (by cases h), fun h => absurd h hn⟩, fun h => (by cases h), hfin _ _ (own_nil 1 (has_i s))⟩
  refine ⟨fun b w' => (b = false ↔ (added < g.prods.length ∧ g.prods.length ≤ 96 + added)) ∧ w' = w1, ?_, ?_⟩
  · refine ⟨_, _, _, c4 _ s1, br_intro (fun h1 => ⟨?_, rfl⟩) fun h1 => ?_⟩
    · have := of_decide_eq_true h1
      simp; omega
    have h1 := of_decide_eq_false h1
    refine ⟨_, _, _, c4 _ s1, ⟨by omega, by omega⟩, ?_, rfl⟩
    rw [decide_eq_false_iff_not]; omega
  rintro _ b _ ⟨hpre, rfl⟩
  refine br_intro (fun hbt => ?_) fun hbf => ?_
  · subst hbt
    refine no _ s1 ?_
    rintro ⟨p1, p2, _⟩
    have := hpre.2 ⟨p1, p2⟩; cases this
  obtain ⟨p1, p2⟩ := hpre.1 hbf
  refine ⟨_, _, _, c0 _ s1, _, _, _, c1 _ s1, ⟨by omega, by omega⟩, _, _, _, c0 _ s1, ⟨by omega, by omega⟩, _, _, _, c4 _ s1, slc_from (lo := added) (by omega) hg.pc ?_⟩
  have hps := hg.p.drop (k := added) (by omega) hg.pc
  have hpsl := hps.1
  refine ⟨fun o l' c' n w' => ∃ j : Nat, n = j ∧ j ≤ x.pl - added ∧ (leftsL (((g.prods.drop added).map ProdT.left).take j)).length = l' ∧ (∀ p ∈ (g.prods.drop added).take j, prodOk g added p) ∧
      St w' [own 1 o l' c' (iv (leftsL (((g.prods.drop added).map ProdT.left).take j))), has H], fun _ _ _ n _ => x.pl - added - n.toNat, ⟨0, rfl, by omega, rfl, by simp, own_nil 1 h⟩, ?_⟩
  clear h
  rintro _ o8 _ k17 n1 w3 ⟨j, rfl, hj, rfl, hok, h⟩
  have s3 : sub H (hp w3) := rdH 1 h.l
  have hll : (leftsL (((g.prods.drop added).map ProdT.left).take j)).length ≤ j := Nat.le_trans (leftsL_len _) (by simp; omega)
  refine br_intro (fun hlt => ?_) fun hlt => ?_
  · have hlt : j < x.pl - added := by have := of_decide_eq_true hlt; omega
    obtain ⟨p, ad, vs, hp1, hpa, hp2, ra, rl, rc, rfl, hrc, hp3⟩ := hps.get hlt
    have hpm : p ∈ g.prods.drop added := List.mem_of_getElem? hp1
    have hlp : ((g.prods.drop added).map ProdT.left)[j]? = some p.left := by rw [List.getElem?_map, hp1]; rfl
    have rl1 := hp3.1
    have b7' := b7 p (List.mem_of_mem_drop hpm)
    refine ⟨ad, hpa, by omega, by omega, ?_⟩
    rw [Int.toNat_natCast]
    refine ⟨_, _, _, _, _, hp2.at s3 rfl, newC_i h fun k20 w4 h => stR_i h rfl (by simp [oneC]) fun w5 h => ?_⟩
    have hbox : ∀ w', sub (hp w5) (hp w') → rowH (hp w') ⟨k20, 0, none⟩ [.int .i64 p.left, .slice ra rl rc, .int .i64 p.level] := fun w' s => h.row.mono s
    have s5 : sub H (hp w5) := rdH 2 h.l
    have d0 := fun (w' : World) (s : sub (hp w5) (hp w')) => (hbox w' s).cell0 (v := .int .i64 p.left) (sub.refl _)
    have d1 := fun (w' : World) (s : sub (hp w5) (hp w')) => (hbox w' s).cell (sub.refl _) (j := 1) (v := .slice ra rl rc) rfl
    have d2 := fun (w' : World) (s : sub (hp w5) (hp w')) => (hbox w' s).cell (sub.refl _) (j := 2) (v := .int .i64 p.level) rfl
    refine ⟨fun b w' => (b = false ↔ ((g.T : Int) + added ≤ p.left ∧ p.left < g.T + g.N ∧ 0 ≤ p.level ∧ p.level ≤ g.levels.length)) ∧ w' = w5, ?_, ?_⟩
    · refine ⟨_, d0 _ (sub.refl _), br_intro (fun h1 => ⟨?_, rfl⟩) fun h1 => ?_⟩
      · have := of_decide_eq_true h1
        simp; omega
      have h1 := of_decide_eq_false h1
      refine ⟨_, d0 _ (sub.refl _), br_intro (fun h2 => ⟨?_, rfl⟩) fun h2 => ?_⟩
      · have := of_decide_eq_true h2
        simp; omega
      have h2 := of_decide_eq_false h2
      refine ⟨_, d2 _ (sub.refl _), br_intro (fun h3 => ⟨?_, rfl⟩) fun h3 => ?_⟩
      · have := of_decide_eq_true h3
        simp; omega
      have h3 := of_decide_eq_false h3
      refine ⟨_, d2 _ (sub.refl _), _, _, _, c2 _ s5, ?_, rfl⟩
      rw [decide_eq_false_iff_not]; omega
    rintro _ b2 w6 ⟨hb2, rfl⟩
    refine br_intro (fun hbt => ?_) fun hbf => ?_
    · subst hbt
      refine no _ s5 ?_
      rintro ⟨_, _, p3, _⟩
      have := hb2.2 (p3 p hpm).1; cases this
    have hpok := hb2.1 hbf
    refine ⟨_, _, _, d1 _ (sub.refl _), fun n w' => ∃ i : Nat, n = i ∧ i ≤ rl ∧ (∀ (k : Nat) s, k < i → p.right[k]? = some s → symOk g added s) ∧ w' = w6, fun n _ => rl - n.toNat, ⟨0, rfl, by omega, fun k s hk => by omega, rfl⟩, ?_⟩
    rintro _ n8 w7 ⟨i, rfl, hi, hsy, rfl⟩
    refine br_intro (fun hlt2 => ?_) fun hlt2 => ?_
    · have hlt2 : i < rl := by have := of_decide_eq_true hlt2; omega
      obtain ⟨s, ad2, hs1, rfl, hs2⟩ := hp3.get1 hlt2
      have bad : ¬ symOk g added s → _ := fun hn => no w7 s5 (fun hq => hn ((hq.2.2.1 p hpm).2 s (List.mem_of_getElem? hs1)))
      have good : symOk g added s → inI ((i : Int) + 1) ∧ (∃ i' : Nat, (i : Int) + 1 = i' ∧ i' ≤ rl ∧ (∀ (k : Nat) s, k < i' → p.right[k]? = some s → symOk g added s) ∧ w7 = w7) ∧ rl - ((i : Int) + 1).toNat < rl - (i : Int).toNat := fun hgd => by
        refine ⟨⟨by omega, by omega⟩, ⟨i + 1, by simp, by omega, fun k s' hk hs' => ?_, rfl⟩, msr hlt2⟩
        by_cases e : k = i
        · subst e; rw [hs1] at hs'; cases hs'; exact hgd
        · exact hsy k s' (by omega) hs'
      refine idx_i rfl hlt2 ⟨s, hs2 _ s5, br_intro (fun h1 => bad ?_) fun h1 => br_intro (fun h2 => bad ?_) fun h2 => ⟨_, _, _, c0 _ s5, br_intro (fun h3 => br_intro (fun h4 => bad ?_) fun h4 => good ?_) fun h3 => good ?_⟩⟩
      · have := of_decide_eq_true h1; unfold symOk; omega
      · have := of_decide_eq_true h2; unfold symOk; omega
      · have h3 := of_decide_eq_true h3; have h4 := of_decide_eq_true h4; unfold symOk; omega
      · have h1 := of_decide_eq_false h1; have h2 := of_decide_eq_false h2; have h3 := of_decide_eq_true h3; have h4 := of_decide_eq_false h4; unfold symOk; omega
      · have h1 := of_decide_eq_false h1; have h2 := of_decide_eq_false h2; have h3 := of_decide_eq_false h3; unfold symOk; omega
    have hlt2 : i = rl := by have := of_decide_eq_false hlt2; omega
    subst hlt2
    have hpok2 : prodOk g added p := ⟨hpok, fun s hs => by
      obtain ⟨k, hk, e⟩ := List.mem_iff_getElem.1 hs
      exact hsy k s (by omega) (by rw [← e]; exact List.getElem?_eq_getElem hk)⟩
    have hok2 : ∀ q ∈ (g.prods.drop added).take (j + 1), prodOk g added q := fun q hq => by
      rw [List.take_add_one, hp1] at hq
      rcases List.mem_append.1 hq with hq | hq
      · exact hok q hq
      · simp at hq; subst hq; exact hpok2
    have et := leftsL_take hlp
    refine ⟨_, d0 _ (sub.refl _), (g_Contains (own_rdI (h.pick 3 [1])) (by omega) p.left).mono ?_⟩
    rintro _ _ ⟨rfl, rfl⟩
    refine ⟨_, rfl, br_intro (fun h1 => ?_) fun h1 => ?_⟩
    · have h1 : p.left ∉ leftsL (((g.prods.drop added).map ProdT.left).take j) := by simpa using h1
      refine ⟨_, d0 _ (sub.refl _), newC_i h fun k27 w9 h => ?_⟩
      refine (app_one tyOk (rfl : kdOfT Ty _ = .slice _) (rfl : kdOfT Ty _ = .slice _) rfl rfl rfl (h.pick 4 [0, 2, 3]) rfl (by simp [oneC]) (by show (_ + 1) * 8 ≤ _; omega) (by omega)).mono ?_
      rintro _ w10 ⟨a', c', rfl, h⟩
      have e2 : leftsL (((g.prods.drop added).map ProdT.left).take (j + 1)) = leftsL (((g.prods.drop added).map ProdT.left).take j) ++ [p.left] := by rw [et]; unfold addL; rw [if_neg h1]
      refine ⟨_, _, _, rfl, ⟨by omega, by omega⟩, ⟨j + 1, by simp, by omega, by rw [e2]; simp, hok2, ?_⟩, by dsimp only; omega⟩
      rw [e2]
      have e3 : ∀ l : List Int, iv (l ++ [p.left]) = iv l ++ [.int .i64 p.left] := fun l => by simp [iv]
      rw [e3]
      exact h.pick 3 [0, 2]
    · have h1 : p.left ∈ leftsL (((g.prods.drop added).map ProdT.left).take j) := by simpa using h1
      have e2 : leftsL (((g.prods.drop added).map ProdT.left).take (j + 1)) = leftsL (((g.prods.drop added).map ProdT.left).take j) := by rw [et]; unfold addL; rw [if_pos h1]
      refine ⟨⟨by omega, by omega⟩, ⟨j + 1, by simp, by omega, by rw [e2], hok2, ?_⟩, by dsimp only; omega⟩
      rw [e2]
      exact h.pick 3 [1, 2]
  have hlt : j = x.pl - added := by have := of_decide_eq_false hlt; omega
  subst hlt
  have el : ((g.prods.drop added).map ProdT.left).take (x.pl - added) = (g.prods.drop added).map ProdT.left := List.take_of_length_le (by simp; omega)
  rw [el] at h hll ⊢
  rw [List.take_of_length_le (by omega)] at hok
  intro w11 hd
  have h := h.drawn hd
  have s11 : sub H (hp w11) := rdH 1 h.l
  refine ⟨fun w' => sub H (hp w'), s11, _, _, _, fun w' s => c1 _ s, ⟨by omega, by omega⟩, br_intro (fun h1 => ?_) fun h1 => ?_⟩
  · have h1 : ((leftsG g added).length : Int) = (x.nl : Int) - added := by simpa [leftsG] using h1
    refine ⟨_, fun w' s => c3 _ s, br_intro (fun h2 => ?_) fun h2 => ?_⟩
    · have h2 := of_decide_eq_true h2
      refine ⟨_, fun w' s => c3 _ s, _, _, _, _, _, rfl, ?_, fun _ => rfl, hfin _ _ h⟩
      rw [decide_eq_true_eq]
      have hs := hg.s
      constructor
      · intro h3; exact ⟨p1, p2, hok, by rw [hN]; exact h1, by omega, by omega⟩
      · rintro ⟨_, _, _, _, _, q⟩; omega
    · have h2 := of_decide_eq_false h2
      have hs := hg.s
      exact ⟨_, _, _, _, false, rfl, ⟨fun h => (by cases h), fun ⟨_, _, _, _, q, _⟩ => absurd (by omega : (g.T : Int) + added ≤ g.start → False) (by omega)⟩, fun h => (by cases h), hfin _ _ h⟩
  · have h1 : ¬ ((leftsG g added).length : Int) = (x.nl : Int) - added := by simpa [leftsG] using h1
    exact ⟨_, _, _, _, false, rfl, ⟨fun h => (by cases h), fun ⟨_, _, _, q, _⟩ => absurd (by rw [← hN]; exact q) h1⟩, fun h => (by cases h), hfin _ _ h⟩
theorem g_Valid (hg : gR (hp w) g x) (hb : okG g) : Run Tryd.prog n_gram_Valid [.agg ⟨x.cells⟩] w fun v w' => (∃ r : Bool, v = .bool r ∧ (r = true ↔ ValidP g)) ∧ Gr w w' := by
  refine run_gram_Valid _ _ _ _ _ _ _ _ _ _ _ _ _ w _ ?_
  refine newC_i (St.all w) fun k1 w1 h => ?_
  have gw : Gr w w1 := h.gone1
  have hg := hg.mono gw
  have rb : rowH (hp w1) ⟨k1, 0, none⟩ x.cells := h.row
  refine ⟨_, _, _, _, _, _, _, _, _, _, _, _, _, rb.at (sub.refl _) rfl, (g_symbols (x := x) hg hb 0 (by omega)).mono ?_⟩
  rintro _ w2 ⟨⟨r, rfl, hr⟩, g2⟩
  refine ⟨_, rfl, br_intro (fun h1 => ?_) fun h1 => ?_⟩
  · have h1 : r = false := by simpa using h1
    subst h1
    exact ⟨⟨false, rfl, ⟨fun h => (by cases h), fun h => absurd (hr.2 h.1) (by simp)⟩⟩, gw.trans g2⟩
  have h1 : r = true := by simpa using h1
  have hsy := hr.1 h1
  refine ⟨_, _, _, _, _, _, _, _, _, _, _, _, _, (rb.mono g2).at (sub.refl _) rfl, (g_productions (x := x) (hg.mono g2) hb 0 (by omega)).mono ?_⟩
  rintro _ w3 ⟨a, l, c, xs, r2, rfl, hr2, hxs, h3⟩
  have g3 : Gr w w3 := (gw.trans g2).trans h3.gone1
  refine ⟨_, _, _, _, rfl, br_intro (fun h4 => ?_) fun h4 => ?_⟩
  · have hxs := hxs h4
    have hlen := own_len h3
    have hp2 := hr2.1 h4
    have hl2 := leftsL_len ((g.prods.drop 0).map ProdT.left)
    rw [iv_len, hxs] at hlen
    have hl3 : (leftsG g 0).length ≤ 96 := by
      have := hp2.2.1
      simp only [List.length_map, List.length_drop] at hl2
      unfold leftsG; omega
    refine (g_IsSorted (own_rdI h3) (by omega)).mono ?_
    rintro _ w4 ⟨⟨r3, rfl, hr3⟩, hw4⟩
    refine ⟨_, rfl, ⟨r3, rfl, ?_⟩, g3.trans (Gr.of_eq hw4)⟩
    rw [hr3, hxs]
    exact ⟨fun h => ⟨hsy, hp2, h⟩, fun h => h.2.2⟩
  · subst h4
    exact ⟨⟨false, rfl, ⟨fun h => (by cases h), fun h => absurd (hr2.2 h.2.1) (by simp)⟩⟩, g3⟩
end
end Go.Proofs.YtaheggomcnbbiaaDoor
set_option linter.unusedVariables false
namespace Go.V
structure GB (H : Hp) (k : Nat) (x : GA) : Prop where
  c0 : ∀ {w : World}, sub H (hp w) → w.cell? ⟨k, 0, none⟩ = some (.slice x.ta x.tl x.tc)
  c1 : ∀ {w : World}, sub H (hp w) → w.cell? ((⟨k, 0, none⟩ : Addr).add 1) = some (.slice x.na x.nl x.nc)
  c2 : ∀ {w : World}, sub H (hp w) → w.cell? ((⟨k, 0, none⟩ : Addr).add 2) = some (.slice x.la x.ll x.lc)
  c3 : ∀ {w : World}, sub H (hp w) → w.cell? ((⟨k, 0, none⟩ : Addr).add 3) = some (.int .i64 x.s)
  c4 : ∀ {w : World}, sub H (hp w) → w.cell? ((⟨k, 0, none⟩ : Addr).add 4) = some (.slice x.pa x.pl x.pc)
  row : ∀ {w : World}, sub H (hp w) → rowAt w ⟨k, 0, none⟩ 0 5 = some x.cells
theorem gb_of {H : Hp} {k : Nat} {x : GA} (r : rowH H ⟨k, 0, none⟩ x.cells) : GB H k x :=
  ⟨fun s => r.cell0 s, fun s => r.cell s (j := 1) rfl, fun s => r.cell s (j := 2) rfl, fun s => r.cell s (j := 3) rfl, fun s => r.cell s (j := 4) rfl, fun s => r.at s rfl⟩
theorem gbox {w : World} {g : GramT} {x : GA} {e : TypeId} {k : Nat → World → Prop} (hg : gR (hp w) g x) (hk : ∀ k1 w1, Gr w w1 → gR (hp w1) g x → GB (hp w1) k1 x → k k1 w1) : new w (.cells (Array.mk x.cells) e) k :=
  newC_i (St.all w) fun k1 w1 h => hk k1 w1 h.gone1 (hg.mono h.gone1) (gb_of h.row)
theorem idx_0 {a : Option Addr} {len sz : Nat} {k : Addr → Prop} {ad : Addr} (ha : a = some ad) (hi : 0 < len) (hk : k ad) : idx a len 0 sz k :=
  ⟨ad, ha, by omega, by omega, by simpa [mulS_eq, Addr.add] using hk⟩
theorem nodup_le : ∀ {l m : List Int}, l.Nodup → (∀ x ∈ l, x ∈ m) → l.length ≤ m.length
  | [], m, _, _ => Nat.zero_le _
  | a :: l, m, h, hs => by
    rw [List.nodup_cons] at h
    have ham := hs a (by simp)
    have := nodup_le (l := l) (m := m.erase a) h.2 fun x hx => (List.mem_erase_of_ne (fun e => h.1 (by subst e; exact hx))).2 (hs x (by simp [hx]))
    rw [List.length_erase_of_mem ham] at this
    have := List.length_pos_of_mem ham
    simp only [List.length_cons]; omega
def TermsP (g : GramT) : Prop := g.terms[0]? = some ⟨.empty, 0⟩ ∧ (∀ t ∈ g.terms.drop 1, isTermS t.name = true ∧ 0 ≤ t.level ∧ t.level ≤ g.levels.length) ∧ ((g.terms.drop 1).map TermT.name).Nodup
def LevelsP (g : GramT) : Prop := ∀ (i : Nat) v, g.levels[i]? = some v → 1 ≤ v ∧ v ≤ 3 ∧ ∃ t ∈ g.terms, t.level = (i : Int) + 1
def NonsP (g : GramT) (added : Nat) : Prop := (g.nons.drop added).Nodup ∧ ∀ s ∈ g.nons.drop added, isNameS s = true
theorem levels_len {g : GramT} {added : Nat} (h : SymsOk g added) : g.levels.length ≤ 64 := by
  obtain ⟨_, _, h3, _, _, _, h7, _⟩ := h
  have := nodup_le (l := (List.range g.levels.length).map fun (k : Nat) => (k : Int) + 1) (m := (g.terms.drop 1).map TermT.level) (by
    rw [List.nodup_iff_pairwise_ne, List.pairwise_map]
    exact List.Pairwise.imp (fun h e => h (by omega)) List.nodup_range) (fun x hx => by
    obtain ⟨k, hk, rfl⟩ := List.mem_map.1 hx
    rw [List.mem_range] at hk
    obtain ⟨_, _, t, ht, e⟩ := h7 k _ (List.getElem?_eq_getElem hk)
    exact List.mem_map.2 ⟨t, ht, e⟩)
  simp at this; omega
theorem syms_iff {g : GramT} {added : Nat} : SymsOk g added ↔ added < g.nons.length ∧ g.terms.length ≤ 65 ∧ g.nons.length ≤ 64 + added ∧ g.levels.length ≤ 64 ∧ g.terms.length - 1 + (g.nons.length - added) ≤ 64 ∧ TermsP g ∧ LevelsP g ∧ NonsP g added := by
  constructor
  · intro h
    have hl := levels_len h
    obtain ⟨h1, h2, h3, h4, h5, h6, h7, h8, h9, h10⟩ := h
    exact ⟨h2, h3, h4, hl, h5, ⟨h1, h6, h8⟩, fun i v hv => by obtain ⟨a, b, t, ht, e⟩ := h7 i v hv; exact ⟨a, b, t, List.mem_of_mem_drop ht, e⟩, h9, h10⟩
  · rintro ⟨h2, h3, h4, hl, h5, ⟨h1, h6, h8⟩, h7, h9, h10⟩
    refine ⟨h1, h2, h3, h4, h5, h6, fun i v hv => ?_, h8, h9, h10⟩
    obtain ⟨a, b, t, ht, e⟩ := h7 i v hv
    refine ⟨a, b, t, ?_, e⟩
    cases hg : g.terms with
    | nil => rw [hg] at ht; cases ht
    | cons t0 ts =>
      rw [hg] at ht h1
      cases h1
      rcases List.mem_cons.1 ht with rfl | ht
      · exact absurd e (by show (0 : Int) ≠ _; omega)
      · exact ht
end Go.V
namespace Go.Proofs.YtaheggomcnbbiaaDoor
open Go.V
section
variable {w : World} {L : List Asn} {g : GramT} {x : GA} {s : ByteArray}
theorem d_IsTerm (hs : s.size ≤ 4611686018427387904) : Run Tryd.prog n_presageref02_IsTerm [.string s] w fun v w' => v = .bool (isTermS s) ∧ w' = w := by
  refine run_presageref02_IsTerm _ w _ ?_
  refine ⟨fun n w' => ∃ j : Nat, n = j ∧ j ≤ s.size ∧ (∀ i, i < j → okT (byt s i) = true) ∧ w' = w, fun n _ => s.size - n.toNat, ⟨0, rfl, by omega, fun i hi => by omega, rfl⟩, ?_⟩
  rintro _ n w1 ⟨j, rfl, hj, hall, rfl⟩
  refine br_intro (fun h => ?_) fun h => ?_
  · have h : j < s.size := by have := of_decide_eq_true h; omega
    have hin : inS (j : Int) s.size := ⟨by omega, by omega⟩
    have bad : okT (byt s j) = false → Value.bool false = Value.bool (isTermS s) ∧ w1 = w1 := fun hno => by
      refine ⟨?_, rfl⟩
      have : (List.range s.size).all (fun i => okT (byt s i)) = false := by
        rw [List.all_eq_false]; exact ⟨j, by simpa using h, by simp [hno]⟩
      unfold isTermS; rw [this]; simp
    rw [Int.toNat_natCast]
    refine ⟨hin, br_intro (fun h1 => bad ?_) fun h1 => ⟨hin, br_intro (fun h2 => bad ?_) fun h2 => ⟨hin, br_intro (fun h3 => bad ?_) fun h3 => ?_⟩⟩⟩
    · have h1 : ((byt s j : Nat) : Int) < 32 := of_decide_eq_true h1
      unfold okT; simp; omega
    · have h2 : 126 < ((byt s j : Nat) : Int) := of_decide_eq_true h2
      unfold okT; simp; omega
    · have h3 : ((byt s j : Nat) : Int) = 39 := eq_of_beq h3
      unfold okT; simp; omega
    · have h1 : ¬ ((byt s j : Nat) : Int) < 32 := of_decide_eq_false h1
      have h2 : ¬ 126 < ((byt s j : Nat) : Int) := of_decide_eq_false h2
      have h3 : ¬ ((byt s j : Nat) : Int) = 39 := beq_eq_false_iff_ne.1 h3
      refine ⟨⟨by omega, by omega⟩, ⟨j + 1, by simp, by omega, fun i hi => ?_, rfl⟩, msr h⟩
      by_cases e : i = j
      · subst e; unfold okT; simp; omega
      · exact hall i (by omega)
  · have h : j = s.size := by have := of_decide_eq_false h; omega
    subst h
    have hall' := all_range.2 hall
    unfold isTermS
    rw [hall']
    refine br_intro (fun h => ⟨?_, rfl⟩) fun h => ⟨?_, rfl⟩
    · have h : 1 ≤ s.size := by have := of_decide_eq_true h; omega
      have e : decide ((s.size : Int) ≤ 16) = decide (s.size ≤ 16) := by rw [Bool.eq_iff_iff]; simp only [decide_eq_true_eq]; omega
      rw [e]; simp [h]
    · have h : ¬ 1 ≤ s.size := by have := of_decide_eq_false h; omega
      simp [h]
set_option maxHeartbeats 1000000 in
theorem d_termsFit (hg : gR (hp w) g x) (hb : okG g) : Run Tryd.prog n_presageref02_termsFit [.agg ⟨x.cells⟩] w fun v w' => (∃ r : Bool, v = .bool r ∧ (r = true ↔ TermsP g)) ∧ Gr w w' := by
  refine run_presageref02_termsFit _ _ _ _ _ _ _ _ _ _ _ _ _ w _ ?_
  refine gbox hg fun k1 w1 gw hg B => ?_
  obtain ⟨b1, b2, b3, b4, b5, b6, b7⟩ := hb
  have tl := hg.t.1
  have ll := hg.l.1
  have no : ∀ {w'}, Gr w1 w' → ¬ TermsP g → (∃ r : Bool, Value.bool false = .bool r ∧ (r = true ↔ TermsP g)) ∧ Gr w w' := fun {w'} gg hn => ⟨⟨false, rfl, ⟨fun h => (by cases h), fun h => absurd h hn⟩⟩, gw.trans gg⟩
  have at' : ∀ {i : Nat}, i < x.tl → ∃ t ad, g.terms[i]? = some t ∧ x.ta = some ad ∧ (∀ w', Gr w1 w' → w'.cell? (ad.add (mulS i 2)) = some (.string t.name)) ∧ (∀ w', Gr w1 w' → w'.cell? ((ad.add (mulS i 2)).add 1) = some (.int .i64 t.level)) := fun {i} hi => by
    obtain ⟨t, ad, vs, h1, h2, h3, h4⟩ := hg.t.get hi
    have h4 : vs = [.string t.name, .int .i64 t.level] := h4
    subst h4
    exact ⟨t, ad, h1, h2, fun w' s => h3.cell0 s, fun w' s => h3.cell s (j := 1) rfl⟩
  refine ⟨fun b w' => (b = false ↔ g.terms[0]? = some ⟨.empty, 0⟩) ∧ w' = w1, ?_, ?_⟩
  · refine ⟨_, _, _, B.c0 (sub.refl _), br_intro (fun h1 => ⟨?_, rfl⟩) fun h1 => ?_⟩
    · have : g.terms = [] := List.eq_nil_of_length_eq_zero (by simp at h1; omega)
      simp [this]
    have h1 : 0 < x.tl := by simp at h1; omega
    obtain ⟨t0, ad, ht1, hta, q1, q2⟩ := at' h1
    have q1 : w1.cell? ad = some (.string t0.name) := by simpa [mulS_eq, Addr.add] using q1 w1 (Gr.refl _)
    have q2 : w1.cell? (ad.add 1) = some (.int .i64 t0.level) := by
      have := q2 w1 (Gr.refl _)
      rw [add_add] at this
      simpa [mulS_eq] using this
    refine ⟨_, _, _, B.c0 (sub.refl _), idx_0 hta h1 ⟨_, q1, br_intro (fun h2 => ⟨?_, rfl⟩) fun h2 => ?_⟩⟩
    · rw [bs_eq] at h2
      have h2 : t0.name ≠ ByteArray.mk (Array.mk []) := by simpa using h2
      rw [ht1]
      simp only [reduceCtorEq, false_iff]
      intro e; cases e; exact h2 rfl
    · rw [bs_eq] at h2
      have h2 : t0.name = ByteArray.mk (Array.mk []) := by simpa using h2
      refine ⟨_, _, _, B.c0 (sub.refl _), idx_0 hta h1 ⟨_, q2, ?_, rfl⟩⟩
      rw [ht1]
      constructor
      · intro e
        have : t0.level = 0 := by simpa using e
        cases t0; simp_all; rfl
      · intro e; cases e; rfl
  rintro _ b w2 ⟨hpre, rfl⟩
  refine br_intro (fun hbt => ?_) fun hbf => ?_
  · subst hbt
    exact no (Gr.refl _) fun h => by have := hpre.2 h.1; cases this
  have p1 := hpre.1 hbf
  have hT : 1 ≤ x.tl := by have := (List.getElem?_eq_some_iff.1 p1).1; omega
  refine ⟨fun n w' => ∃ j : Nat, n = (j : Int) + 1 ∧ j + 1 ≤ x.tl ∧ (∀ t ∈ (g.terms.drop 1).take j, isTermS t.name = true ∧ 0 ≤ t.level ∧ t.level ≤ g.levels.length) ∧ (((g.terms.drop 1).take j).map TermT.name).Nodup ∧ Gr w2 w', fun n _ => x.tl - n.toNat, ⟨0, rfl, by omega, by simp, by simp, Gr.refl _⟩, ?_⟩
  rintro _ n w3 ⟨j, rfl, hj, hok, hnd, g3⟩
  refine ⟨_, _, _, B.c0 g3, br_intro (fun hlt => ?_) fun hlt => ?_⟩
  · have hlt : j + 1 < x.tl := by have := of_decide_eq_true hlt; omega
    obtain ⟨t, ad, ht1, hta, q1, q2⟩ := at' hlt
    have ht1' : (g.terms.drop 1)[j]? = some t := by rw [List.getElem?_drop, Nat.add_comm]; exact ht1
    have htm := List.mem_of_getElem? ht1'
    obtain ⟨u1, u2⟩ := b5 t (List.mem_of_mem_drop htm)
    have et : (g.terms.drop 1).take (j + 1) = (g.terms.drop 1).take j ++ [t] := by rw [List.take_add_one, ht1']; rfl
    have ej : ((j : Int) + 1) = ((j + 1 : Nat) : Int) := by omega
    rw [ej]
    refine ⟨_, _, _, B.c0 g3, idx_n hta hlt ⟨_, q1 _ g3, (d_IsTerm (by omega)).mono ?_⟩⟩
    rintro _ w4 ⟨rfl, rfl⟩
    refine ⟨_, rfl, fun b w' => (b = false ↔ (isTermS t.name = true ∧ 0 ≤ t.level ∧ t.level ≤ g.levels.length)) ∧ Gr w2 w', ?_, ?_⟩
    · intro w5 hd
      have g5 : Gr w2 w5 := g3.trans (Gr.of_eq (hp_drawn hd))
      refine ⟨fun w' => Gr w2 w', g5, br_intro (fun h1 => ⟨?_, g5⟩) fun h1 => ?_⟩
      · have h1 : isTermS t.name = false := by simpa using h1
        simp [h1]
      have h1 : isTermS t.name = true := by simpa using h1
      refine ⟨_, _, _, fun w' s => B.c0 s, idx_n hta hlt ⟨_, fun w' s => q2 _ s, br_intro (fun h2 => ⟨?_, g5⟩) fun h2 => ?_⟩⟩
      · have h2 := of_decide_eq_true h2
        simp [h1]; omega
      have h2 := of_decide_eq_false h2
      refine ⟨_, _, _, fun w' s => B.c0 s, idx_n hta hlt ⟨_, fun w' s => q2 _ s, _, _, _, fun w' s => B.c2 s, ?_, g5⟩⟩
      rw [decide_eq_false_iff_not]
      simp only [h1, true_and]; omega
    rintro _ b3 w11 ⟨hb3, g11⟩
    refine br_intro (fun hbt => ?_) fun hbf => ?_
    · subst hbt
      exact no g11 fun h => by have := hb3.2 (h.2.1 t htm); cases this
    have hokt := hb3.1 hbf
    refine ⟨fun n w' => ∃ k : Nat, n = (k : Int) + 1 ∧ k ≤ j ∧ (∀ u ∈ (g.terms.drop 1).take k, u.name ≠ t.name) ∧ Gr w2 w', fun n _ => x.tl - n.toNat, ⟨0, rfl, by omega, by simp, g11⟩, ?_⟩
    rintro _ n5 w12 ⟨k, rfl, hk, hne, g12⟩
    refine br_intro (fun hlt2 => ?_) fun hlt2 => ?_
    · have hlt2 : k < j := by have := of_decide_eq_true hlt2; omega
      obtain ⟨u, ad', hu1, hua, r1, _⟩ := at' (by omega : k + 1 < x.tl)
      rw [hta] at hua; cases hua
      have hu1' : (g.terms.drop 1)[k]? = some u := by rw [List.getElem?_drop, Nat.add_comm]; exact hu1
      have ek : ((k : Int) + 1) = ((k + 1 : Nat) : Int) := by omega
      intro w13 hd
      have g13 : Gr w2 w13 := g12.trans (Gr.of_eq (hp_drawn hd))
      rw [ek]
      refine ⟨fun w' => Gr w2 w', g13, _, _, _, fun w' s => B.c0 s, idx_n hta (by omega) ⟨_, fun w' s => r1 _ s, _, _, _, fun w' s => B.c0 s, idx_n hta hlt ⟨_, fun w' s => q1 _ s, ?_⟩⟩⟩
      rw [bs_eq]
      refine br_intro (fun h => ?_) fun h => ?_
      · have h := of_decide_eq_true h
        refine no g13 fun hp => ?_
        have hnn := hp.2.2
        have e1 : ((g.terms.drop 1).map TermT.name)[k]? = some t.name := by rw [List.getElem?_map, hu1', ← h]; rfl
        have e2 : ((g.terms.drop 1).map TermT.name)[j]? = some t.name := by rw [List.getElem?_map, ht1']; rfl
        have := (List.getElem?_inj (List.getElem?_eq_some_iff.1 e1).1 hnn).1 (e1.trans e2.symm)
        omega
      · have h := of_decide_eq_false h
        refine ⟨⟨by omega, by omega⟩, ⟨k + 1, by simp, by omega, fun u' hu' => ?_, g13⟩, by dsimp only; omega⟩
        rw [List.take_add_one, hu1'] at hu'
        rcases List.mem_append.1 hu' with hu' | hu'
        · exact hne u' hu'
        · simp at hu'; subst hu'; exact h
    · have hlt2 : k = j := by have := of_decide_eq_false hlt2; omega
      subst hlt2
      refine ⟨⟨by omega, by omega⟩, ⟨k + 1, by simp, by omega, fun t' ht' => ?_, ?_, g12⟩, by dsimp only; omega⟩
      · rw [et] at ht'
        rcases List.mem_append.1 ht' with ht' | ht'
        · exact hok t' ht'
        · simp at ht'; subst ht'; exact hokt
      · rw [et, List.map_append]
        exact nodup_snoc.2 ⟨hnd, fun hm => by obtain ⟨u, hu, e⟩ := List.mem_map.1 hm; exact hne u hu e⟩
  · have hlt : j + 1 = x.tl := by have := of_decide_eq_false hlt; omega
    rw [List.take_of_length_le (by simp; omega)] at hok hnd
    exact ⟨⟨true, rfl, ⟨fun _ => ⟨p1, hok, hnd⟩, fun _ => rfl⟩⟩, gw.trans g3⟩
end
end Go.Proofs.YtaheggomcnbbiaaDoor
