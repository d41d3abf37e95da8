/- The propositions of this seat's functions (written by a program). -/
import Derived.Test.YtcipljcagejjaaaDoorVTab
set_option linter.unusedVariables false
namespace Go.Proofs.YtcipljcagejjaaaDoor
open Go.V
/- presage/presagelaw01.awake -/
abbrev n_presagelaw01_awake : FuncId := 7
def ann_presagelaw01_awake : Ann := { rngs := [], loops := [], joins := [], blocks := [] }
def vc_presagelaw01_awake  (w : World) (R : Value → World → Prop) : Prop :=
  new w (Obj.cells (Array.mk [Value.int IntKind.i64 1, Value.int IntKind.i64 3]) 3) fun (k1 : Nat) (w1 : World) =>
  RunE Proofs.Tryd.prog Ev 8 [Value.int IntKind.i64 4, Value.slice (some (Addr.mk k1 0 none)) 2 2] w1 fun (v1 : Value) (w2 : World) =>
  ∃ (o1 : Option Addr),
  v1 = Value.pointer o1 ∧
  br (!Option.isNone o1)
  (RunE Proofs.Tryd.prog Ev 27 [Value.pointer o1] w2 fun (v2 : Value) (w3 : World) =>
  ∃ (n1 : Int),
  v2 = Value.int IntKind.i64 n1 ∧
  br (n1 == 4)
  (RunE Proofs.Tryd.prog Ev 24 [Value.pointer o1] w3 fun (v3 : Value) (w4 : World) =>
  ∃ (n2 : Int),
  v3 = Value.int IntKind.i64 n2 ∧
  br (n2 == 2)
  (RunE Proofs.Tryd.prog Ev 25 [Value.pointer o1, Value.int IntKind.i64 3] w4 fun (v4 : Value) (w5 : World) =>
  ∃ (b1 : Bool),
  v4 = Value.bool b1 ∧
  br b1
  (RunE Proofs.Tryd.prog Ev 25 [Value.pointer o1, Value.int IntKind.i64 0] w5 fun (v5 : Value) (w6 : World) =>
  ∃ (b2 : Bool),
  v5 = Value.bool b2 ∧
  br (!b2)
  (new w6 (Obj.cells (Array.mk [Value.int IntKind.i64 0, Value.int IntKind.i64 0]) 3) fun (k2 : Nat) (w7 : World) =>
  RunE Proofs.Tryd.prog Ev 13 [Value.pointer o1, Value.slice (some (Addr.mk k2 0 none)) 2 2] w7 fun (v6 : Value) (w8 : World) =>
  ∃ (n3 : Int),
  v6 = Value.int IntKind.i64 n3 ∧
  br (n3 == 1)
  (RunE Proofs.Tryd.prog Ev 24 [Value.pointer o1] w8 fun (v7 : Value) (w9 : World) =>
  ∃ (n4 : Int),
  v7 = Value.int IntKind.i64 n4 ∧
  br (n4 == 3)
  (RunE Proofs.Tryd.prog Ev 11 [Value.pointer o1] w9 fun (v8 : Value) (w10 : World) =>
  ∃ (g1 : FuncId),
  ∃ (x1 : List Value), v8 = Value.func (Fn.func g1) (Array.mk []) (Array.mk x1) ∧ R (Value.bool !false) w10)
  (R (Value.bool false) w9))
  (R (Value.bool false) w8))
  (R (Value.bool false) w6))
  (R (Value.bool false) w5))
  (R (Value.bool false) w4))
  (R (Value.bool false) w3))
  (R (Value.bool false) w2)
set_option maxRecDepth 100000 in
theorem run_presagelaw01_awake  (w : World) (R : Value → World → Prop) (h : vc_presagelaw01_awake  w R) : Run Tryd.prog 7 [] w R :=
  run_ev tyOk fnOk mixed Tryd.func7 ann_presagelaw01_awake ((by kernel_rfl : fnV Tryd.prog Ty Fn Ev ann_presagelaw01_awake Tryd.f7 [] w R = vc_presagelaw01_awake  w R) ▸ h)

/- presage/bits.Of -/
abbrev n_bits_Of : FuncId := 8
def ann_bits_Of : Ann := { rngs := [], loops := [], joins := [], blocks := [] }
def vc_bits_Of (p0size : Int) (p1membersa : Option Addr) (p1membersl : Nat) (p1membersc : Nat) (w : World) (R : Value → World → Prop) : Prop :=
  inI ((if 1024 < if p0size < 0 then 0 else p0size then 1024 else if p0size < 0 then 0 else p0size) + 63) ∧
  nz 64 ∧
  inI (Int.tdiv ((if 1024 < if p0size < 0 then 0 else p0size then 1024 else if p0size < 0 then 0 else p0size) + 63) 64) ∧
  mkOk (Int.tdiv ((if 1024 < if p0size < 0 then 0 else p0size then 1024 else if p0size < 0 then 0 else p0size) + 63) 64)
  (Int.tdiv ((if 1024 < if p0size < 0 then 0 else p0size then 1024 else if p0size < 0 then 0 else p0size) + 63) 64) 8 ∧
  new w
  (Obj.cells
  (Array.mk
  (reps (Int.toNat (Int.tdiv ((if 1024 < if p0size < 0 then 0 else p0size then 1024 else if p0size < 0 then 0 else p0size) + 63) 64)) [Value.int IntKind.u64 0]))
  64)
  fun (k1 : Nat) (w1 : World) =>
  new w1
  (Obj.cells
  (Array.mk
  [Value.slice (some (Addr.mk k1 0 none))
  (Int.toNat (Int.tdiv ((if 1024 < if p0size < 0 then 0 else p0size then 1024 else if p0size < 0 then 0 else p0size) + 63) 64))
  (Int.toNat (Int.tdiv ((if 1024 < if p0size < 0 then 0 else p0size then 1024 else if p0size < 0 then 0 else p0size) + 63) 64)),
  Value.int IntKind.i64 (if 1024 < if p0size < 0 then 0 else p0size then 1024 else if p0size < 0 then 0 else p0size)])
  58)
  fun (k2 : Nat) (w2 : World) =>
  RunE Proofs.Tryd.prog Ev 13 [Value.pointer (some (Addr.mk k2 0 none)), Value.slice p1membersa p1membersl p1membersc] w2 fun (v1 : Value) (w3 : World) =>
  ∃ (n1 : Int), v1 = Value.int IntKind.i64 n1 ∧ R (Value.pointer (some (Addr.mk k2 0 none))) w3
set_option maxRecDepth 100000 in
theorem run_bits_Of (p0size : Int) (p1membersa : Option Addr) (p1membersl : Nat) (p1membersc : Nat) (w : World) (R : Value → World → Prop) (h : vc_bits_Of p0size p1membersa p1membersl p1membersc w R) : Run Tryd.prog 8 [(.int .i64 p0size), (.slice p1membersa p1membersl p1membersc)] w R :=
  run_ev tyOk fnOk mixed Tryd.func8 ann_bits_Of ((by kernel_rfl : fnV Tryd.prog Ty Fn Ev ann_bits_Of Tryd.f8 [(.int .i64 p0size), (.slice p1membersa p1membersl p1membersc)] w R = vc_bits_Of p0size p1membersa p1membersl p1membersc w R) ▸ h)

/- presage/presageref01.Of -/
abbrev n_presageref01_Of : FuncId := 9
def ann_presageref01_Of : Ann := { rngs := [], loops := [], joins := [], blocks := [] }
def vc_presageref01_Of (p0size : Int) (p1membersa : Option Addr) (p1membersl : Nat) (p1membersc : Nat) (w : World) (R : Value → World → Prop) : Prop :=
  mkOk (if 1024 < if p0size < 0 then 0 else p0size then 1024 else if p0size < 0 then 0 else p0size)
  (if 1024 < if p0size < 0 then 0 else p0size then 1024 else if p0size < 0 then 0 else p0size) 1 ∧
  new w (Obj.cells (Array.mk (reps (Int.toNat (if 1024 < if p0size < 0 then 0 else p0size then 1024 else if p0size < 0 then 0 else p0size)) [Value.bool false])) 4)
  fun (k1 : Nat) (w1 : World) =>
  new w1
  (Obj.cells
  (Array.mk
  [Value.slice (some (Addr.mk k1 0 none)) (Int.toNat (if 1024 < if p0size < 0 then 0 else p0size then 1024 else if p0size < 0 then 0 else p0size))
  (Int.toNat (if 1024 < if p0size < 0 then 0 else p0size then 1024 else if p0size < 0 then 0 else p0size))])
  62)
  fun (k2 : Nat) (w2 : World) =>
  RunE Proofs.Tryd.prog Ev 16 [Value.pointer (some (Addr.mk k2 0 none)), Value.slice p1membersa p1membersl p1membersc] w2 fun (v1 : Value) (w3 : World) =>
  ∃ (n1 : Int), v1 = Value.int IntKind.i64 n1 ∧ R (Value.pointer (some (Addr.mk k2 0 none))) w3
set_option maxRecDepth 100000 in
theorem run_presageref01_Of (p0size : Int) (p1membersa : Option Addr) (p1membersl : Nat) (p1membersc : Nat) (w : World) (R : Value → World → Prop) (h : vc_presageref01_Of p0size p1membersa p1membersl p1membersc w R) : Run Tryd.prog 9 [(.int .i64 p0size), (.slice p1membersa p1membersl p1membersc)] w R :=
  run_ev tyOk fnOk mixed Tryd.func9 ann_presageref01_Of ((by kernel_rfl : fnV Tryd.prog Ty Fn Ev ann_presageref01_Of Tryd.f9 [(.int .i64 p0size), (.slice p1membersa p1membersl p1membersc)] w R = vc_presageref01_Of p0size p1membersa p1membersl p1membersc w R) ▸ h)

/- (*presage/presageref01.Set).Members -/
abbrev n_presageref01_Set_Members : FuncId := 10
def ann_presageref01_Set_Members : Ann := { rngs := [], loops := [(3, [(3, (.one .slice)), (4, (.one (.int .i64)))])], joins := [], blocks := [] }
def vc_presageref01_Set_Members (p0s : Option Addr) (w : World) (R : Value → World → Prop) : Prop :=
  ∃ (x1 : arrS (shs [(3, S1.one Cs.slice), (4, S1.one (Cs.int IntKind.i64))]) (World → Prop)),
  ∃ (x2 : arrS (shs [(3, S1.one Cs.slice), (4, S1.one (Cs.int IntKind.i64))]) (World → Nat)),
  x1 none 0 0 0 w ∧
  ∀ (I1 : Nat → Value) (o1 : Option Addr) (k1 k2 : Nat) (n1 : Int) (w1 : World),
  x1 o1 k1 k2 n1 w1 →
  nn p0s fun (a1 : Addr) =>
  ∃ (o2 : Option Addr),
  ∃ (k3 : Nat),
  ∃ (k4 : Nat),
  World.cell? w1 a1 = some (Value.slice o2 k3 k4) ∧
  br (decide (n1 < (↑k3 : Int)))
  (nn p0s fun (a2 : Addr) =>
  ∃ (o3 : Option Addr),
  ∃ (k5 : Nat),
  ∃ (k6 : Nat),
  World.cell? w1 a2 = some (Value.slice o3 k5 k6) ∧
  idx o3 k5 n1 1 fun (a3 : Addr) =>
  ∃ (b1 : Bool),
  World.cell? w1 a3 = some (Value.bool b1) ∧
  br b1
  (new w1 (Obj.cells (Array.mk [Value.int IntKind.i64 n1]) 3) fun (k7 : Nat) (w2 : World) =>
  RunS Proofs.Tryd.prog
  (Builtin.append_ (Array.mk [22, 22]) 22 (Array.mk [Value.slice o1 k1 k2, Value.slice (some (Addr.mk k7 0 none)) 1 1])) w2
  fun (v1 : Value) (w3 : World) =>
  ∃ (o4 : Option Addr),
  ∃ (k8 : Nat),
  ∃ (k9 : Nat), v1 = Value.slice o4 k8 k9 ∧ inI (n1 + 1) ∧ x1 o4 k8 k9 (n1 + 1) w3 ∧ x2 o4 k8 k9 (n1 + 1) w3 < x2 o1 k1 k2 n1 w1)
  (inI (n1 + 1) ∧ x1 o1 k1 k2 (n1 + 1) w1 ∧ x2 o1 k1 k2 (n1 + 1) w1 < x2 o1 k1 k2 n1 w1))
  (R (Value.slice o1 k1 k2) w1)
set_option maxRecDepth 100000 in
theorem run_presageref01_Set_Members (p0s : Option Addr) (w : World) (R : Value → World → Prop) (h : vc_presageref01_Set_Members p0s w R) : Run Tryd.prog 10 [(.pointer p0s)] w R :=
  run_ev tyOk fnOk mixed Tryd.func10 ann_presageref01_Set_Members ((by kernel_rfl : fnV Tryd.prog Ty Fn Ev ann_presageref01_Set_Members Tryd.f10 [(.pointer p0s)] w R = vc_presageref01_Set_Members p0s w R) ▸ h)

/- (*presage/bits.Set).All -/
abbrev n_bits_Set_All : FuncId := 11
def ann_bits_Set_All : Ann := { rngs := [], loops := [], joins := [], blocks := [] }
def vc_bits_Set_All (p0s : Option Addr) (w : World) (R : Value → World → Prop) : Prop :=
  new w (Obj.cells (Array.mk [Value.slice none 0 0]) 56) fun (k1 : Nat) (w1 : World) =>
  br (!Option.isNone p0s)
  (nn p0s fun (a1 : Addr) =>
  ∃ (o1 : Option Addr),
  ∃ (k2 : Nat),
  ∃ (k3 : Nat),
  World.cell? w1 a1 = some (Value.slice o1 k2 k3) ∧
  RunE Proofs.Tryd.prog Ev 28 [Value.slice o1 k2 k3] w1 fun (v1 : Value) (w2 : World) =>
  ∃ (o2 : Option Addr),
  ∃ (k4 : Nat),
  ∃ (k5 : Nat),
  v1 = Value.slice o2 k4 k5 ∧
  st1 w2 (Addr.mk k1 0 none) (Value.slice o2 k4 k5) fun (w3 : World) =>
  R (Value.func (Fn.func 29) (Array.mk []) (Array.mk [Value.pointer (some (Addr.mk k1 0 none))])) w3)
  (R (Value.func (Fn.func 29) (Array.mk []) (Array.mk [Value.pointer (some (Addr.mk k1 0 none))])) w1)
set_option maxRecDepth 100000 in
theorem run_bits_Set_All (p0s : Option Addr) (w : World) (R : Value → World → Prop) (h : vc_bits_Set_All p0s w R) : Run Tryd.prog 11 [(.pointer p0s)] w R :=
  run_ev tyOk fnOk mixed Tryd.func11 ann_bits_Set_All ((by kernel_rfl : fnV Tryd.prog Ty Fn Ev ann_bits_Set_All Tryd.f11 [(.pointer p0s)] w R = vc_bits_Set_All p0s w R) ▸ h)

/- (*presage/bits.Set).Members -/
abbrev n_bits_Set_Members : FuncId := 12
def ann_bits_Set_Members : Ann := { rngs := [], loops := [], joins := [], blocks := [] }
def vc_bits_Set_Members (p0s : Option Addr) (w : World) (R : Value → World → Prop) : Prop :=
  RunE Proofs.Tryd.prog Ev 11 [Value.pointer p0s] w fun (v1 : Value) (w1 : World) =>
  ∃ (g1 : FuncId),
  ∃ (x1 : List Value),
  v1 = Value.func (Fn.func g1) (Array.mk []) (Array.mk x1) ∧
  RunE Proofs.Tryd.prog Ev 31 [Value.func (Fn.func g1) (Array.mk []) (Array.mk x1)] w1 fun (v2 : Value) (w2 : World) =>
  ∃ (o1 : Option Addr), ∃ (k1 : Nat), ∃ (k2 : Nat), v2 = Value.slice o1 k1 k2 ∧ R (Value.slice o1 k1 k2) w2
set_option maxRecDepth 100000 in
theorem run_bits_Set_Members (p0s : Option Addr) (w : World) (R : Value → World → Prop) (h : vc_bits_Set_Members p0s w R) : Run Tryd.prog 12 [(.pointer p0s)] w R :=
  run_ev tyOk fnOk mixed Tryd.func12 ann_bits_Set_Members ((by kernel_rfl : fnV Tryd.prog Ty Fn Ev ann_bits_Set_Members Tryd.f12 [(.pointer p0s)] w R = vc_bits_Set_Members p0s w R) ▸ h)

/- (*presage/bits.Set).Add -/
abbrev n_bits_Set_Add : FuncId := 13
def ann_bits_Set_Add : Ann := { rngs := [], loops := [(3, [(5, (.one (.int .i64))), (10, (.one (.int .i64)))])], joins := [], blocks := [] }
def vc_bits_Set_Add (p0s : Option Addr) (p1membersa : Option Addr) (p1membersl : Nat) (p1membersc : Nat) (w : World) (R : Value → World → Prop) : Prop :=
  ∃ (x1 : arrS (shs [(5, S1.one (Cs.int IntKind.i64)), (10, S1.one (Cs.int IntKind.i64))]) (World → Prop)),
  ∃ (x2 : arrS (shs [(5, S1.one (Cs.int IntKind.i64)), (10, S1.one (Cs.int IntKind.i64))]) (World → Nat)),
  x1 0 0 w ∧
  ∀ (I1 : Nat → Value) (n1 n2 : Int) (w1 : World),
  x1 n1 n2 w1 →
  br (decide (n2 < (↑p1membersl : Int)))
  (idx p1membersa p1membersl n2 1 fun (a1 : Addr) =>
  ∃ (n3 : Int),
  World.cell? w1 a1 = some (Value.int IntKind.i64 n3) ∧
  br (decide (0 ≤ n3))
  (RunE Proofs.Tryd.prog Ev 27 [Value.pointer p0s] w1 fun (v1 : Value) (w2 : World) =>
  ∃ (n4 : Int),
  v1 = Value.int IntKind.i64 n4 ∧
  br (decide (n3 < n4))
  (nn p0s fun (a2 : Addr) =>
  ∃ (o1 : Option Addr),
  ∃ (k1 : Nat),
  ∃ (k2 : Nat),
  World.cell? w2 a2 = some (Value.slice o1 k1 k2) ∧
  RunE Proofs.Tryd.prog Ev 32 [Value.slice o1 k1 k2, Value.int IntKind.i64 n3] w2 fun (v2 : Value) (w3 : World) =>
  ∃ (b1 : Bool),
  v2 = Value.bool b1 ∧
  br (!b1)
  (nn p0s fun (a3 : Addr) =>
  ∃ (o2 : Option Addr),
  ∃ (k3 : Nat),
  ∃ (k4 : Nat),
  World.cell? w3 a3 = some (Value.slice o2 k3 k4) ∧
  RunE Proofs.Tryd.prog Ev 33 [Value.slice o2 k3 k4, Value.int IntKind.i64 n3] w3 fun (v3 : Value) (w4 : World) =>
  v3 = Value.tuple (Array.mk []) ∧
  inI (n1 + 1) ∧ inI (n2 + 1) ∧ x1 (n1 + 1) (n2 + 1) w4 ∧ x2 (n1 + 1) (n2 + 1) w4 < x2 n1 n2 w1)
  (inI (n2 + 1) ∧ x1 n1 (n2 + 1) w3 ∧ x2 n1 (n2 + 1) w3 < x2 n1 n2 w1))
  (inI (n2 + 1) ∧ x1 n1 (n2 + 1) w2 ∧ x2 n1 (n2 + 1) w2 < x2 n1 n2 w1))
  (inI (n2 + 1) ∧ x1 n1 (n2 + 1) w1 ∧ x2 n1 (n2 + 1) w1 < x2 n1 n2 w1))
  (R (Value.int IntKind.i64 n1) w1)
set_option maxRecDepth 100000 in
theorem run_bits_Set_Add (p0s : Option Addr) (p1membersa : Option Addr) (p1membersl : Nat) (p1membersc : Nat) (w : World) (R : Value → World → Prop) (h : vc_bits_Set_Add p0s p1membersa p1membersl p1membersc w R) : Run Tryd.prog 13 [(.pointer p0s), (.slice p1membersa p1membersl p1membersc)] w R :=
  run_ev tyOk fnOk mixed Tryd.func13 ann_bits_Set_Add ((by kernel_rfl : fnV Tryd.prog Ty Fn Ev ann_bits_Set_Add Tryd.f13 [(.pointer p0s), (.slice p1membersa p1membersl p1membersc)] w R = vc_bits_Set_Add p0s p1membersa p1membersl p1membersc w R) ▸ h)

/- (*presage/bits.Set).Drop -/
abbrev n_bits_Set_Drop : FuncId := 14
def ann_bits_Set_Drop : Ann := { rngs := [], loops := [(3, [(5, (.one (.int .i64))), (10, (.one (.int .i64)))])], joins := [], blocks := [] }
def vc_bits_Set_Drop (p0s : Option Addr) (p1membersa : Option Addr) (p1membersl : Nat) (p1membersc : Nat) (w : World) (R : Value → World → Prop) : Prop :=
  ∃ (x1 : arrS (shs [(5, S1.one (Cs.int IntKind.i64)), (10, S1.one (Cs.int IntKind.i64))]) (World → Prop)),
  ∃ (x2 : arrS (shs [(5, S1.one (Cs.int IntKind.i64)), (10, S1.one (Cs.int IntKind.i64))]) (World → Nat)),
  x1 0 0 w ∧
  ∀ (I1 : Nat → Value) (n1 n2 : Int) (w1 : World),
  x1 n1 n2 w1 →
  br (decide (n2 < (↑p1membersl : Int)))
  (idx p1membersa p1membersl n2 1 fun (a1 : Addr) =>
  ∃ (n3 : Int),
  World.cell? w1 a1 = some (Value.int IntKind.i64 n3) ∧
  RunE Proofs.Tryd.prog Ev 25 [Value.pointer p0s, Value.int IntKind.i64 n3] w1 fun (v1 : Value) (w2 : World) =>
  ∃ (b1 : Bool),
  v1 = Value.bool b1 ∧
  br b1
  (nn p0s fun (a2 : Addr) =>
  ∃ (o1 : Option Addr),
  ∃ (k1 : Nat),
  ∃ (k2 : Nat),
  World.cell? w2 a2 = some (Value.slice o1 k1 k2) ∧
  RunE Proofs.Tryd.prog Ev 34 [Value.slice o1 k1 k2, Value.int IntKind.i64 n3] w2 fun (v2 : Value) (w3 : World) =>
  v2 = Value.tuple (Array.mk []) ∧ inI (n1 + 1) ∧ inI (n2 + 1) ∧ x1 (n1 + 1) (n2 + 1) w3 ∧ x2 (n1 + 1) (n2 + 1) w3 < x2 n1 n2 w1)
  (inI (n2 + 1) ∧ x1 n1 (n2 + 1) w2 ∧ x2 n1 (n2 + 1) w2 < x2 n1 n2 w1))
  (R (Value.int IntKind.i64 n1) w1)
set_option maxRecDepth 100000 in
theorem run_bits_Set_Drop (p0s : Option Addr) (p1membersa : Option Addr) (p1membersl : Nat) (p1membersc : Nat) (w : World) (R : Value → World → Prop) (h : vc_bits_Set_Drop p0s p1membersa p1membersl p1membersc w R) : Run Tryd.prog 14 [(.pointer p0s), (.slice p1membersa p1membersl p1membersc)] w R :=
  run_ev tyOk fnOk mixed Tryd.func14 ann_bits_Set_Drop ((by kernel_rfl : fnV Tryd.prog Ty Fn Ev ann_bits_Set_Drop Tryd.f14 [(.pointer p0s), (.slice p1membersa p1membersl p1membersc)] w R = vc_bits_Set_Drop p0s p1membersa p1membersl p1membersc w R) ▸ h)

/- presage/presagelaw01.pick -/
abbrev n_presagelaw01_pick : FuncId := 15
def ann_presagelaw01_pick : Ann := { rngs := [], loops := [], joins := [], blocks := [] }
def vc_presagelaw01_pick (p0c : Int) (p1n : Int) (w : World) (R : Value → World → Prop) : Prop :=
  br (decide (p0c < 0)) (inI (p0c + 1) ∧ inI (0 - (p0c + 1)) ∧ nz p1n ∧ R (Value.int IntKind.i64 (Int.tmod (0 - (p0c + 1)) p1n)) w)
  (nz p1n ∧ R (Value.int IntKind.i64 (Int.tmod p0c p1n)) w)
set_option maxRecDepth 100000 in
theorem run_presagelaw01_pick (p0c : Int) (p1n : Int) (w : World) (R : Value → World → Prop) (h : vc_presagelaw01_pick p0c p1n w R) : Run Tryd.prog 15 [(.int .i64 p0c), (.int .i64 p1n)] w R :=
  run_ev tyOk fnOk mixed Tryd.func15 ann_presagelaw01_pick ((by kernel_rfl : fnV Tryd.prog Ty Fn Ev ann_presagelaw01_pick Tryd.f15 [(.int .i64 p0c), (.int .i64 p1n)] w R = vc_presagelaw01_pick p0c p1n w R) ▸ h)

/- (*presage/presageref01.Set).Add -/
abbrev n_presageref01_Set_Add : FuncId := 16
def ann_presageref01_Set_Add : Ann := { rngs := [], loops := [(3, [(5, (.one (.int .i64))), (6, (.one (.int .i64)))])], joins := [], blocks := [] }
def vc_presageref01_Set_Add (p0s : Option Addr) (p1membersa : Option Addr) (p1membersl : Nat) (p1membersc : Nat) (w : World) (R : Value → World → Prop) : Prop :=
  ∃ (x1 : arrS (shs [(5, S1.one (Cs.int IntKind.i64)), (6, S1.one (Cs.int IntKind.i64))]) (World → Prop)),
  ∃ (x2 : arrS (shs [(5, S1.one (Cs.int IntKind.i64)), (6, S1.one (Cs.int IntKind.i64))]) (World → Nat)),
  x1 0 0 w ∧
  ∀ (I1 : Nat → Value) (n1 n2 : Int) (w1 : World),
  x1 n1 n2 w1 →
  br (decide (n2 < (↑p1membersl : Int)))
  (idx p1membersa p1membersl n2 1 fun (a1 : Addr) =>
  ∃ (n3 : Int),
  World.cell? w1 a1 = some (Value.int IntKind.i64 n3) ∧
  br (decide (0 ≤ n3))
  (nn p0s fun (a2 : Addr) =>
  ∃ (o1 : Option Addr),
  ∃ (k1 : Nat),
  ∃ (k2 : Nat),
  World.cell? w1 a2 = some (Value.slice o1 k1 k2) ∧
  br (decide (n3 < (↑k1 : Int)))
  (nn p0s fun (a3 : Addr) =>
  ∃ (o2 : Option Addr),
  ∃ (k3 : Nat),
  ∃ (k4 : Nat),
  World.cell? w1 a3 = some (Value.slice o2 k3 k4) ∧
  idx o2 k3 n3 1 fun (a4 : Addr) =>
  ∃ (b1 : Bool),
  World.cell? w1 a4 = some (Value.bool b1) ∧
  br (!b1)
  (nn p0s fun (a5 : Addr) =>
  ∃ (o3 : Option Addr),
  ∃ (k5 : Nat),
  ∃ (k6 : Nat),
  World.cell? w1 a5 = some (Value.slice o3 k5 k6) ∧
  idx o3 k5 n3 1 fun (a6 : Addr) =>
  st1 w1 a6 (Value.bool true) fun (w2 : World) =>
  inI (n1 + 1) ∧ inI (n2 + 1) ∧ x1 (n1 + 1) (n2 + 1) w2 ∧ x2 (n1 + 1) (n2 + 1) w2 < x2 n1 n2 w1)
  (inI (n2 + 1) ∧ x1 n1 (n2 + 1) w1 ∧ x2 n1 (n2 + 1) w1 < x2 n1 n2 w1))
  (inI (n2 + 1) ∧ x1 n1 (n2 + 1) w1 ∧ x2 n1 (n2 + 1) w1 < x2 n1 n2 w1))
  (inI (n2 + 1) ∧ x1 n1 (n2 + 1) w1 ∧ x2 n1 (n2 + 1) w1 < x2 n1 n2 w1))
  (R (Value.int IntKind.i64 n1) w1)
set_option maxRecDepth 100000 in
theorem run_presageref01_Set_Add (p0s : Option Addr) (p1membersa : Option Addr) (p1membersl : Nat) (p1membersc : Nat) (w : World) (R : Value → World → Prop) (h : vc_presageref01_Set_Add p0s p1membersa p1membersl p1membersc w R) : Run Tryd.prog 16 [(.pointer p0s), (.slice p1membersa p1membersl p1membersc)] w R :=
  run_ev tyOk fnOk mixed Tryd.func16 ann_presageref01_Set_Add ((by kernel_rfl : fnV Tryd.prog Ty Fn Ev ann_presageref01_Set_Add Tryd.f16 [(.pointer p0s), (.slice p1membersa p1membersl p1membersc)] w R = vc_presageref01_Set_Add p0s p1membersa p1membersl p1membersc w R) ▸ h)

/- (*presage/presageref01.Set).Drop -/
abbrev n_presageref01_Set_Drop : FuncId := 17
def ann_presageref01_Set_Drop : Ann := { rngs := [], loops := [(3, [(5, (.one (.int .i64))), (6, (.one (.int .i64)))])], joins := [], blocks := [] }
def vc_presageref01_Set_Drop (p0s : Option Addr) (p1membersa : Option Addr) (p1membersl : Nat) (p1membersc : Nat) (w : World) (R : Value → World → Prop) : Prop :=
  ∃ (x1 : arrS (shs [(5, S1.one (Cs.int IntKind.i64)), (6, S1.one (Cs.int IntKind.i64))]) (World → Prop)),
  ∃ (x2 : arrS (shs [(5, S1.one (Cs.int IntKind.i64)), (6, S1.one (Cs.int IntKind.i64))]) (World → Nat)),
  x1 0 0 w ∧
  ∀ (I1 : Nat → Value) (n1 n2 : Int) (w1 : World),
  x1 n1 n2 w1 →
  br (decide (n2 < (↑p1membersl : Int)))
  (idx p1membersa p1membersl n2 1 fun (a1 : Addr) =>
  ∃ (n3 : Int),
  World.cell? w1 a1 = some (Value.int IntKind.i64 n3) ∧
  RunE Proofs.Tryd.prog Ev 35 [Value.pointer p0s, Value.int IntKind.i64 n3] w1 fun (v1 : Value) (w2 : World) =>
  ∃ (b1 : Bool),
  v1 = Value.bool b1 ∧
  br b1
  (∀ (w3 : World),
  drawn w2 w3 →
  ∃ (I2 : World → Prop),
  I2 w3 ∧
  nn p0s fun (a2 : Addr) =>
  ∃ (o1 : Option Addr),
  ∃ (k1 : Nat),
  ∃ (k2 : Nat),
  (∀ (w4 : World), I2 w4 → World.cell? w4 a2 = some (Value.slice o1 k1 k2)) ∧
  idx p1membersa p1membersl n2 1 fun (a3 : Addr) =>
  ∃ (n4 : Int),
  (∀ (w5 : World), I2 w5 → World.cell? w5 a3 = some (Value.int IntKind.i64 n4)) ∧
  idx o1 k1 n4 1 fun (a4 : Addr) =>
  st1 w3 a4 (Value.bool false) fun (w6 : World) =>
  inI (n1 + 1) ∧ inI (n2 + 1) ∧ x1 (n1 + 1) (n2 + 1) w6 ∧ x2 (n1 + 1) (n2 + 1) w6 < x2 n1 n2 w1)
  (inI (n2 + 1) ∧ x1 n1 (n2 + 1) w2 ∧ x2 n1 (n2 + 1) w2 < x2 n1 n2 w1))
  (R (Value.int IntKind.i64 n1) w1)
set_option maxRecDepth 100000 in
theorem run_presageref01_Set_Drop (p0s : Option Addr) (p1membersa : Option Addr) (p1membersl : Nat) (p1membersc : Nat) (w : World) (R : Value → World → Prop) (h : vc_presageref01_Set_Drop p0s p1membersa p1membersl p1membersc w R) : Run Tryd.prog 17 [(.pointer p0s), (.slice p1membersa p1membersl p1membersc)] w R :=
  run_ev tyOk fnOk mixed Tryd.func17 ann_presageref01_Set_Drop ((by kernel_rfl : fnV Tryd.prog Ty Fn Ev ann_presageref01_Set_Drop Tryd.f17 [(.pointer p0s), (.slice p1membersa p1membersl p1membersc)] w R = vc_presageref01_Set_Drop p0s p1membersa p1membersl p1membersc w R) ▸ h)

/- presage/presageref01.Ints -/
abbrev n_presageref01_Ints : FuncId := 18
def ann_presageref01_Ints : Ann := { rngs := [], loops := [(4, [(5, (.one (.int .i64)))])], joins := [], blocks := [] }
def vc_presageref01_Ints (p0aa : Option Addr) (p0al : Nat) (p0ac : Nat) (p1ba : Option Addr) (p1bl : Nat) (p1bc : Nat) (w : World) (R : Value → World → Prop) : Prop :=
  br ((↑p0al : Int) != (↑p1bl : Int)) (R (Value.bool false) w)
  (∃ (x1 : arrS (shs [(5, S1.one (Cs.int IntKind.i64))]) (World → Prop)),
  ∃ (x2 : arrS (shs [(5, S1.one (Cs.int IntKind.i64))]) (World → Nat)),
  x1 0 w ∧
  ∀ (I1 : Nat → Value) (n1 : Int) (w1 : World),
  x1 n1 w1 →
  br (decide (n1 < (↑p0al : Int)))
  (∀ (w2 : World),
  drawn w1 w2 →
  ∃ (I2 : World → Prop),
  I2 w2 ∧
  idx p0aa p0al n1 1 fun (a1 : Addr) =>
  ∃ (n2 : Int),
  (∀ (w3 : World), I2 w3 → World.cell? w3 a1 = some (Value.int IntKind.i64 n2)) ∧
  idx p1ba p1bl n1 1 fun (a2 : Addr) =>
  ∃ (n3 : Int),
  (∀ (w4 : World), I2 w4 → World.cell? w4 a2 = some (Value.int IntKind.i64 n3)) ∧
  br (n2 != n3) (R (Value.bool false) w2) (inI (n1 + 1) ∧ x1 (n1 + 1) w2 ∧ x2 (n1 + 1) w2 < x2 n1 w1))
  (R (Value.bool true) w1))
set_option maxRecDepth 100000 in
theorem run_presageref01_Ints (p0aa : Option Addr) (p0al : Nat) (p0ac : Nat) (p1ba : Option Addr) (p1bl : Nat) (p1bc : Nat) (w : World) (R : Value → World → Prop) (h : vc_presageref01_Ints p0aa p0al p0ac p1ba p1bl p1bc w R) : Run Tryd.prog 18 [(.slice p0aa p0al p0ac), (.slice p1ba p1bl p1bc)] w R :=
  run_ev tyOk fnOk mixed Tryd.func18 ann_presageref01_Ints ((by kernel_rfl : fnV Tryd.prog Ty Fn Ev ann_presageref01_Ints Tryd.f18 [(.slice p0aa p0al p0ac), (.slice p1ba p1bl p1bc)] w R = vc_presageref01_Ints p0aa p0al p0ac p1ba p1bl p1bc w R) ▸ h)

/- presage/presagelaw01.is -/
abbrev n_presagelaw01_is : FuncId := 19
def ann_presagelaw01_is : Ann := { rngs := [], loops := [], joins := [], blocks := [] }
def vc_presagelaw01_is (p0x : Option Addr) (p1r : Option Addr) (w : World) (R : Value → World → Prop) : Prop :=
  ∀ (w1 : World),
  drawn w w1 →
  ∃ (I1 : World → Prop),
  I1 w1 ∧
  br (!Option.isNone p0x)
  (nn p1r fun (a1 : Addr) =>
  ∃ (o1 : Option Addr),
  ∃ (k1 : Nat),
  ∃ (k2 : Nat),
  (∀ (w2 : World), I1 w2 → World.cell? w2 a1 = some (Value.slice o1 k1 k2)) ∧
  RunE Proofs.Tryd.prog Ev 27 [Value.pointer p0x] w1 fun (v1 : Value) (w3 : World) =>
  ∃ (n1 : Int),
  v1 = Value.int IntKind.i64 n1 ∧
  I1 w3 ∧
  br (n1 == (↑k1 : Int))
  (RunE Proofs.Tryd.prog Ev 24 [Value.pointer p0x] w3 fun (v2 : Value) (w4 : World) =>
  ∃ (n2 : Int),
  v2 = Value.int IntKind.i64 n2 ∧
  I1 w4 ∧
  RunE Proofs.Tryd.prog Ev 36 [Value.pointer p1r] w4 fun (v3 : Value) (w5 : World) =>
  ∃ (n3 : Int),
  v3 = Value.int IntKind.i64 n3 ∧
  I1 w5 ∧
  br (n2 == n3)
  (RunE Proofs.Tryd.prog Ev 12 [Value.pointer p0x] w5 fun (v4 : Value) (w6 : World) =>
  ∃ (o2 : Option Addr),
  ∃ (k3 : Nat),
  ∃ (k4 : Nat),
  v4 = Value.slice o2 k3 k4 ∧
  I1 w6 ∧
  RunE Proofs.Tryd.prog Ev 10 [Value.pointer p1r] w6 fun (v5 : Value) (w7 : World) =>
  ∃ (o3 : Option Addr),
  ∃ (k5 : Nat),
  ∃ (k6 : Nat),
  v5 = Value.slice o3 k5 k6 ∧
  I1 w7 ∧
  RunE Proofs.Tryd.prog Ev 18 [Value.slice o2 k3 k4, Value.slice o3 k5 k6] w7 fun (v6 : Value) (w8 : World) =>
  ∃ (b1 : Bool), v6 = Value.bool b1 ∧ I1 w8 ∧ R (Value.bool b1) w8)
  (R (Value.bool false) w5))
  (R (Value.bool false) w3))
  (R (Value.bool false) w1)
set_option maxRecDepth 100000 in
theorem run_presagelaw01_is (p0x : Option Addr) (p1r : Option Addr) (w : World) (R : Value → World → Prop) (h : vc_presagelaw01_is p0x p1r w R) : Run Tryd.prog 19 [(.pointer p0x), (.pointer p1r)] w R :=
  run_ev tyOk fnOk mixed Tryd.func19 ann_presagelaw01_is ((by kernel_rfl : fnV Tryd.prog Ty Fn Ev ann_presagelaw01_is Tryd.f19 [(.pointer p0x), (.pointer p1r)] w R = vc_presagelaw01_is p0x p1r w R) ▸ h)

/- (*presage/bits.Set).Copy -/
abbrev n_bits_Set_Copy : FuncId := 21
def ann_bits_Set_Copy : Ann := { rngs := [], loops := [], joins := [], blocks := [] }
def vc_bits_Set_Copy (p0s : Option Addr) (w : World) (R : Value → World → Prop) : Prop :=
  RunE Proofs.Tryd.prog Ev 27 [Value.pointer p0s] w fun (v1 : Value) (w1 : World) =>
  ∃ (n1 : Int),
  v1 = Value.int IntKind.i64 n1 ∧
  RunE Proofs.Tryd.prog Ev 12 [Value.pointer p0s] w1 fun (v2 : Value) (w2 : World) =>
  ∃ (o1 : Option Addr),
  ∃ (k1 : Nat),
  ∃ (k2 : Nat),
  v2 = Value.slice o1 k1 k2 ∧
  RunE Proofs.Tryd.prog Ev 8 [Value.int IntKind.i64 n1, Value.slice o1 k1 k2] w2 fun (v3 : Value) (w3 : World) =>
  ∃ (o2 : Option Addr), v3 = Value.pointer o2 ∧ R (Value.pointer o2) w3
set_option maxRecDepth 100000 in
theorem run_bits_Set_Copy (p0s : Option Addr) (w : World) (R : Value → World → Prop) (h : vc_bits_Set_Copy p0s w R) : Run Tryd.prog 21 [(.pointer p0s)] w R :=
  run_ev tyOk fnOk mixed Tryd.func21 ann_bits_Set_Copy ((by kernel_rfl : fnV Tryd.prog Ty Fn Ev ann_bits_Set_Copy Tryd.f21 [(.pointer p0s)] w R = vc_bits_Set_Copy p0s w R) ▸ h)

/- (*presage/bits.Set).Union -/
abbrev n_bits_Set_Union : FuncId := 22
def ann_bits_Set_Union : Ann := { rngs := [(6, [(17, (.one (.int .i64)))])], loops := [(3, [(11, (.one (.int .i64)))])], joins := [], blocks := [] }
def vc_bits_Set_Union (p0s : Option Addr) (p1othersa : Option Addr) (p1othersl : Nat) (p1othersc : Nat) (w : World) (R : Value → World → Prop) : Prop :=
  new w (Obj.cells (Array.mk [Value.pointer p0s]) 24) fun (k1 : Nat) (w1 : World) =>
  new w1 (Obj.cells (Array.mk [Value.int IntKind.i64 0]) 3) fun (k2 : Nat) (w2 : World) =>
  st1 w2 (Addr.mk k2 0 none) (Value.int IntKind.i64 0) fun (w3 : World) =>
  ∃ (x1 : arrS (shs [(11, S1.one (Cs.int IntKind.i64))]) (World → Prop)),
  ∃ (x2 : arrS (shs [(11, S1.one (Cs.int IntKind.i64))]) (World → Nat)),
  x1 0 w3 ∧
  ∀ (I1 : Nat → Value) (n1 : Int) (w4 : World),
  x1 n1 w4 →
  br (decide (n1 < (↑p1othersl : Int)))
  (idx p1othersa p1othersl n1 1 fun (a1 : Addr) =>
  ∃ (o1 : Option Addr),
  World.cell? w4 a1 = some (Value.pointer o1) ∧
  RunE Proofs.Tryd.prog Ev 11 [Value.pointer o1] w4 fun (v1 : Value) (w5 : World) =>
  ∃ (g1 : FuncId),
  ∃ (x3 : List Value),
  v1 = Value.func (Fn.func g1) (Array.mk []) (Array.mk x3) ∧
  ifT (Proofs.YtcipljcagejjaaaDoor.Fn g1)
  (∃ (x4 : List (List Value)),
  ∃ (x5 : Asn),
  ∃ (x6 : Asn),
  ∃ (I2 : Nat → Asn),
  ∃ (x7 : Asn),
  ∃ (I3 : Nat → Asn),
  ∃ (x8 : List Asn),
  St w5 (I2 0 :: x5 :: x8) ∧
  (∀ (x9 : Hp), starL x8 x9 → x6 x9) ∧
  Itr Proofs.Tryd.prog g1 [] x3 x5 x6 x4 ∧
  (∀ (x10 : List Value), x10 ∈ x4 → ∃ (n2 : Int), x10 = [Value.int IntKind.i64 n2]) ∧
  (∀ (k3 : Nat) (n3 : Int),
  List.get?Internal x4 k3 = some [Value.int IntKind.i64 n3] →
  ∀ (x11 : List Asn) (w6 : World),
  Sup x11 x8 →
  St w6 (I2 k3 :: x11) →
  ∃ (x12 : Asn),
  St w6 (x12 :: x11) ∧
  ∀ (x13 : List Asn) (w7 : World),
  Sup x13 x8 →
  St w7 (x12 :: x13) →
  ∀ (w8 : World),
  drawn w7 w8 →
  ∃ (I4 : World → Prop),
  I4 w8 ∧
  ∃ (n4 : Int),
  (∀ (w9 : World),
  I4 w9 → World.cell? w9 (Addr.mk k2 0 none) = some (Value.int IntKind.i64 n4)) ∧
  ∃ (o2 : Option Addr),
  (∀ (w10 : World),
  I4 w10 → World.cell? w10 (Addr.mk k1 0 none) = some (Value.pointer o2)) ∧
  new w8 (Obj.cells (Array.mk [Value.int IntKind.i64 n3]) 3)
  fun (k4 : Nat) (w11 : World) =>
  I4 w11 ∧
  RunE Proofs.Tryd.prog Ev 13
  [Value.pointer o2, Value.slice (some (Addr.mk k4 0 none)) 1 1] w11
  fun (v2 : Value) (w12 : World) =>
  ∃ (n5 : Int),
  v2 = Value.int IntKind.i64 n5 ∧
  I4 w12 ∧
  inI (n4 + n5) ∧
  st1 w12 (Addr.mk k2 0 none) (Value.int IntKind.i64 (n4 + n5))
  fun (w13 : World) => St w13 (I2 (k3 + 1) :: x13)) ∧
  (∀ (w14 : World),
  St w14 (I2 (List.length x4) :: x5 :: x8) → inI (n1 + 1) ∧ x1 (n1 + 1) w14 ∧ x2 (n1 + 1) w14 < x2 n1 w4) ∧
  (∀ (w15 : World), St w15 (x7 :: x5 :: x8) → ∀ (w16 : World), hp w16 = hp w15 → R (Value.int IntKind.i64 0) w16) ∧ True))
  (∃ (n6 : Int), World.cell? w4 (Addr.mk k2 0 none) = some (Value.int IntKind.i64 n6) ∧ ∀ (w17 : World), hp w17 = hp w4 → R (Value.int IntKind.i64 n6) w17)
set_option maxRecDepth 100000 in
theorem run_bits_Set_Union (p0s : Option Addr) (p1othersa : Option Addr) (p1othersl : Nat) (p1othersc : Nat) (w : World) (R : Value → World → Prop) (h : vc_bits_Set_Union p0s p1othersa p1othersl p1othersc w R) : Run Tryd.prog 22 [(.pointer p0s), (.slice p1othersa p1othersl p1othersc)] w R :=
  run_ev tyOk fnOk mixed Tryd.func22 ann_bits_Set_Union ((by kernel_rfl : fnV Tryd.prog Ty Fn Ev ann_bits_Set_Union Tryd.f22 [(.pointer p0s), (.slice p1othersa p1othersl p1othersc)] w R = vc_bits_Set_Union p0s p1othersa p1othersl p1othersc w R) ▸ h)

/- (*presage/bits.Set).Equal -/
abbrev n_bits_Set_Equal : FuncId := 23
def ann_bits_Set_Equal : Ann := { rngs := [], loops := [], joins := [], blocks := [] }
def vc_bits_Set_Equal (p0s : Option Addr) (p1o : Option Addr) (w : World) (R : Value → World → Prop) : Prop :=
  RunE Proofs.Tryd.prog Ev 27 [Value.pointer p0s] w fun (v1 : Value) (w1 : World) =>
  ∃ (n1 : Int),
  v1 = Value.int IntKind.i64 n1 ∧
  RunE Proofs.Tryd.prog Ev 27 [Value.pointer p1o] w1 fun (v2 : Value) (w2 : World) =>
  ∃ (n2 : Int),
  v2 = Value.int IntKind.i64 n2 ∧
  br (n1 == n2)
  (RunE Proofs.Tryd.prog Ev 12 [Value.pointer p0s] w2 fun (v3 : Value) (w3 : World) =>
  ∃ (o1 : Option Addr),
  ∃ (k1 : Nat),
  ∃ (k2 : Nat),
  v3 = Value.slice o1 k1 k2 ∧
  RunE Proofs.Tryd.prog Ev 12 [Value.pointer p1o] w3 fun (v4 : Value) (w4 : World) =>
  ∃ (o2 : Option Addr),
  ∃ (k3 : Nat),
  ∃ (k4 : Nat),
  v4 = Value.slice o2 k3 k4 ∧
  RunE Proofs.Tryd.prog Ev 44 [Value.slice o1 k1 k2, Value.slice o2 k3 k4] w4 fun (v5 : Value) (w5 : World) =>
  ∃ (b1 : Bool), v5 = Value.bool b1 ∧ R (Value.bool b1) w5)
  (R (Value.bool false) w2)
set_option maxRecDepth 100000 in
theorem run_bits_Set_Equal (p0s : Option Addr) (p1o : Option Addr) (w : World) (R : Value → World → Prop) (h : vc_bits_Set_Equal p0s p1o w R) : Run Tryd.prog 23 [(.pointer p0s), (.pointer p1o)] w R :=
  run_ev tyOk fnOk mixed Tryd.func23 ann_bits_Set_Equal ((by kernel_rfl : fnV Tryd.prog Ty Fn Ev ann_bits_Set_Equal Tryd.f23 [(.pointer p0s), (.pointer p1o)] w R = vc_bits_Set_Equal p0s p1o w R) ▸ h)

/- (*presage/bits.Set).Count -/
abbrev n_bits_Set_Count : FuncId := 24
def ann_bits_Set_Count : Ann := { rngs := [], loops := [(5, [(3, (.one (.int .i64))), (13, (.one (.int .i64)))])], joins := [], blocks := [] }
def vc_bits_Set_Count (p0s : Option Addr) (w : World) (R : Value → World → Prop) : Prop :=
  br (Option.isNone p0s) (R (Value.int IntKind.i64 0) w)
  (nn p0s fun (a1 : Addr) =>
  ∃ (o1 : Option Addr),
  ∃ (k1 : Nat),
  ∃ (k2 : Nat),
  World.cell? w a1 = some (Value.slice o1 k1 k2) ∧
  ∃ (x1 : arrS (shs [(3, S1.one (Cs.int IntKind.i64)), (13, S1.one (Cs.int IntKind.i64))]) (World → Prop)),
  ∃ (x2 : arrS (shs [(3, S1.one (Cs.int IntKind.i64)), (13, S1.one (Cs.int IntKind.i64))]) (World → Nat)),
  x1 0 0 w ∧
  ∀ (I1 : Nat → Value) (n1 n2 : Int) (w1 : World),
  x1 n1 n2 w1 →
  br (decide (n2 < (↑k1 : Int)))
  (idx o1 k1 n2 1 fun (a2 : Addr) =>
  ∃ (n3 : Int),
  World.cell? w1 a2 = some (Value.int IntKind.u64 n3) ∧
  RunE Proofs.Tryd.prog Ev 45 [Value.int IntKind.u64 n3] w1 fun (v1 : Value) (w2 : World) =>
  ∃ (n4 : Int), v1 = Value.int IntKind.i64 n4 ∧ inI (n1 + n4) ∧ inI (n2 + 1) ∧ x1 (n1 + n4) (n2 + 1) w2 ∧ x2 (n1 + n4) (n2 + 1) w2 < x2 n1 n2 w1)
  (R (Value.int IntKind.i64 n1) w1))
set_option maxRecDepth 100000 in
theorem run_bits_Set_Count (p0s : Option Addr) (w : World) (R : Value → World → Prop) (h : vc_bits_Set_Count p0s w R) : Run Tryd.prog 24 [(.pointer p0s)] w R :=
  run_ev tyOk fnOk mixed Tryd.func24 ann_bits_Set_Count ((by kernel_rfl : fnV Tryd.prog Ty Fn Ev ann_bits_Set_Count Tryd.f24 [(.pointer p0s)] w R = vc_bits_Set_Count p0s w R) ▸ h)

/- (*presage/bits.Set).Has -/
abbrev n_bits_Set_Has : FuncId := 25
def ann_bits_Set_Has : Ann := { rngs := [], loops := [], joins := [], blocks := [] }
def vc_bits_Set_Has (p0s : Option Addr) (p1n : Int) (w : World) (R : Value → World → Prop) : Prop :=
  br (decide (0 ≤ p1n))
  (RunE Proofs.Tryd.prog Ev 27 [Value.pointer p0s] w fun (v1 : Value) (w1 : World) =>
  ∃ (n1 : Int),
  v1 = Value.int IntKind.i64 n1 ∧
  br (decide (p1n < n1))
  (nn p0s fun (a1 : Addr) =>
  ∃ (o1 : Option Addr),
  ∃ (k1 : Nat),
  ∃ (k2 : Nat),
  World.cell? w1 a1 = some (Value.slice o1 k1 k2) ∧
  RunE Proofs.Tryd.prog Ev 32 [Value.slice o1 k1 k2, Value.int IntKind.i64 p1n] w1 fun (v2 : Value) (w2 : World) =>
  ∃ (b1 : Bool), v2 = Value.bool b1 ∧ R (Value.bool b1) w2)
  (R (Value.bool false) w1))
  (R (Value.bool false) w)
set_option maxRecDepth 100000 in
theorem run_bits_Set_Has (p0s : Option Addr) (p1n : Int) (w : World) (R : Value → World → Prop) (h : vc_bits_Set_Has p0s p1n w R) : Run Tryd.prog 25 [(.pointer p0s), (.int .i64 p1n)] w R :=
  run_ev tyOk fnOk mixed Tryd.func25 ann_bits_Set_Has ((by kernel_rfl : fnV Tryd.prog Ty Fn Ev ann_bits_Set_Has Tryd.f25 [(.pointer p0s), (.int .i64 p1n)] w R = vc_bits_Set_Has p0s p1n w R) ▸ h)

/- (*presage/bits.Set).Meets -/
abbrev n_bits_Set_Meets : FuncId := 26
def ann_bits_Set_Meets : Ann := { rngs := [(2, [(8, (.one (.int .i64)))])], loops := [], joins := [], blocks := [] }
def vc_bits_Set_Meets (p0s : Option Addr) (p1othersa : Option Addr) (p1othersl : Nat) (p1othersc : Nat) (w : World) (R : Value → World → Prop) : Prop :=
  new w (Obj.cells (Array.mk [Value.slice p1othersa p1othersl p1othersc]) 40) fun (k1 : Nat) (w1 : World) =>
  new w1 (Obj.cells (Array.mk [Value.bool false]) 4) fun (k2 : Nat) (w2 : World) =>
  RunE Proofs.Tryd.prog Ev 11 [Value.pointer p0s] w2 fun (v1 : Value) (w3 : World) =>
  ∃ (g1 : FuncId),
  ∃ (x1 : List Value),
  v1 = Value.func (Fn.func g1) (Array.mk []) (Array.mk x1) ∧
  ifT (Proofs.YtcipljcagejjaaaDoor.Fn g1)
  (∃ (x2 : List (List Value)),
  ∃ (x3 : Asn),
  ∃ (x4 : Asn),
  ∃ (I1 : Nat → Asn),
  ∃ (x5 : Asn),
  ∃ (I2 : Nat → Asn),
  ∃ (x6 : List Asn),
  St w3 (I1 0 :: x3 :: x6) ∧
  (∀ (x7 : Hp), starL x6 x7 → x4 x7) ∧
  Itr Proofs.Tryd.prog g1 [] x1 x3 x4 x2 ∧
  (∀ (x8 : List Value), x8 ∈ x2 → ∃ (n1 : Int), x8 = [Value.int IntKind.i64 n1]) ∧
  (∀ (k3 : Nat) (n2 : Int),
  List.get?Internal x2 k3 = some [Value.int IntKind.i64 n2] →
  ∀ (x9 : List Asn) (w4 : World),
  Sup x9 x6 →
  St w4 (I1 k3 :: x9) →
  new w4 (Obj.cells (Array.mk [Value.int IntKind.i64 0]) 3) fun (k4 : Nat) (w5 : World) =>
  st1 w5 (Addr.mk k4 0 none) (Value.int IntKind.i64 n2) fun (w6 : World) =>
  ∃ (x10 : Asn),
  St w6 (x10 :: x9) ∧
  ∀ (x11 : List Asn) (w7 : World),
  Sup x11 x6 →
  St w7 (x10 :: x11) →
  ∃ (o1 : Option Addr),
  ∃ (k5 : Nat),
  ∃ (k6 : Nat),
  World.cell? w7 (Addr.mk k1 0 none) = some (Value.slice o1 k5 k6) ∧
  RunE Proofs.Tryd.prog Ev 46
  [Value.slice o1 k5 k6,
  Value.func (Fn.func 47) (Array.mk []) (Array.mk [Value.pointer (some (Addr.mk k4 0 none))])]
  w7 fun (v2 : Value) (w8 : World) =>
  ∃ (b1 : Bool),
  v2 = Value.bool b1 ∧
  br (!b1) (st1 w8 (Addr.mk k2 0 none) (Value.bool true) fun (w9 : World) => St w9 (x5 :: x11))
  (St w8 (I1 (k3 + 1) :: x11))) ∧
  (∀ (w10 : World),
  St w10 (I1 (List.length x2) :: x3 :: x6) →
  st1 w10 (Addr.mk k2 0 none) (Value.bool false) fun (w11 : World) =>
  ∃ (b2 : Bool),
  World.cell? w11 (Addr.mk k2 0 none) = some (Value.bool b2) ∧ ∀ (w12 : World), hp w12 = hp w11 → R (Value.bool b2) w12) ∧
  (∀ (w13 : World),
  St w13 (x5 :: x3 :: x6) →
  ∃ (b3 : Bool),
  World.cell? w13 (Addr.mk k2 0 none) = some (Value.bool b3) ∧ ∀ (w14 : World), hp w14 = hp w13 → R (Value.bool b3) w14) ∧
  True)
set_option maxRecDepth 100000 in
theorem run_bits_Set_Meets (p0s : Option Addr) (p1othersa : Option Addr) (p1othersl : Nat) (p1othersc : Nat) (w : World) (R : Value → World → Prop) (h : vc_bits_Set_Meets p0s p1othersa p1othersl p1othersc w R) : Run Tryd.prog 26 [(.pointer p0s), (.slice p1othersa p1othersl p1othersc)] w R :=
  run_ev tyOk fnOk mixed Tryd.func26 ann_bits_Set_Meets ((by kernel_rfl : fnV Tryd.prog Ty Fn Ev ann_bits_Set_Meets Tryd.f26 [(.pointer p0s), (.slice p1othersa p1othersl p1othersc)] w R = vc_bits_Set_Meets p0s p1othersa p1othersl p1othersc w R) ▸ h)

/- (*presage/bits.Set).Size -/
abbrev n_bits_Set_Size : FuncId := 27
def ann_bits_Set_Size : Ann := { rngs := [], loops := [], joins := [], blocks := [] }
def vc_bits_Set_Size (p0s : Option Addr) (w : World) (R : Value → World → Prop) : Prop :=
  br (Option.isNone p0s) (R (Value.int IntKind.i64 0) w)
  (nn p0s fun (a1 : Addr) => ∃ (n1 : Int), World.cell? w (Addr.add a1 1) = some (Value.int IntKind.i64 n1) ∧ R (Value.int IntKind.i64 n1) w)
set_option maxRecDepth 100000 in
theorem run_bits_Set_Size (p0s : Option Addr) (w : World) (R : Value → World → Prop) (h : vc_bits_Set_Size p0s w R) : Run Tryd.prog 27 [(.pointer p0s)] w R :=
  run_ev tyOk fnOk mixed Tryd.func27 ann_bits_Set_Size ((by kernel_rfl : fnV Tryd.prog Ty Fn Ev ann_bits_Set_Size Tryd.f27 [(.pointer p0s)] w R = vc_bits_Set_Size p0s w R) ▸ h)

/- slices.Clone[presage/bits.words,uint64] -/
abbrev n_slices_Clone_bits_words_uint64_ : FuncId := 28
def ann_slices_Clone_bits_words_uint64_ : Ann := { rngs := [], loops := [], joins := [], blocks := [] }
def vc_slices_Clone_bits_words_uint64_ (p0sa : Option Addr) (p0sl : Nat) (p0sc : Nat) (w : World) (R : Value → World → Prop) : Prop :=
  br (Option.isNone p0sa) (R (Value.slice none 0 0) w)
  (new w (Obj.cells (Array.mk []) 64) fun (k1 : Nat) (w1 : World) =>
  RunS Proofs.Tryd.prog (Builtin.append_ (Array.mk [56, 56]) 56 (Array.mk [Value.slice (some (Addr.mk k1 0 none)) 0 0, Value.slice p0sa p0sl p0sc])) w1
  fun (v1 : Value) (w2 : World) => ∃ (o1 : Option Addr), ∃ (k2 : Nat), ∃ (k3 : Nat), v1 = Value.slice o1 k2 k3 ∧ R (Value.slice o1 k2 k3) w2)
set_option maxRecDepth 100000 in
theorem run_slices_Clone_bits_words_uint64_ (p0sa : Option Addr) (p0sl : Nat) (p0sc : Nat) (w : World) (R : Value → World → Prop) (h : vc_slices_Clone_bits_words_uint64_ p0sa p0sl p0sc w R) : Run Tryd.prog 28 [(.slice p0sa p0sl p0sc)] w R :=
  run_ev tyOk fnOk mixed Tryd.func28 ann_slices_Clone_bits_words_uint64_ ((by kernel_rfl : fnV Tryd.prog Ty Fn Ev ann_slices_Clone_bits_words_uint64_ Tryd.f28 [(.slice p0sa p0sl p0sc)] w R = vc_slices_Clone_bits_words_uint64_ p0sa p0sl p0sc w R) ▸ h)

/- (*presage/bits.Set).All$1, its argument a loop's yield -/
abbrev n_bits_Set_All_S1 : FuncId := 29
def ann_bits_Set_All_S1 : Ann := { rngs := [], loops := [(1, [(7, (.one (.int .i64)))]), (3, [(4, (.one (.int .u64)))])], joins := [], blocks := [] }
def vc_bits_Set_All_S1_Y (E : World → World → Prop) (p0yield : Nat) (c0 : Addr) (w : World) (R : Value → World → Prop) : Prop :=
  ∃ (o1 : Option Addr),
  ∃ (k1 : Nat),
  ∃ (k2 : Nat),
  World.cell? w c0 = some (Value.slice o1 k1 k2) ∧
  ∃ (x1 : arrS (shs [(7, S1.one (Cs.int IntKind.i64))]) (World → Prop)),
  ∃ (x2 : arrS (shs [(7, S1.one (Cs.int IntKind.i64))]) (World → Nat)),
  x1 0 w ∧
  ∀ (I1 : Nat → Value) (n1 : Int) (w1 : World),
  x1 n1 w1 →
  br (decide (n1 < (↑k1 : Int)))
  (idx o1 k1 n1 1 fun (a1 : Addr) =>
  ∃ (n2 : Int),
  World.cell? w1 a1 = some (Value.int IntKind.u64 n2) ∧
  ∃ (x3 : arrS (shs [(4, S1.one (Cs.int IntKind.u64))]) (World → Prop)),
  ∃ (x4 : arrS (shs [(4, S1.one (Cs.int IntKind.u64))]) (World → Nat)),
  x3 n2 w1 ∧
  ∀ (I2 : Nat → Value) (n3 : Int) (w2 : World),
  x3 n3 w2 →
  br (n3 != 0)
  (inI (64 * n1) ∧
  RunE Proofs.Tryd.prog E 30 [Value.int IntKind.u64 n3] w2 fun (v1 : Value) (w3 : World) =>
  ∃ (n4 : Int),
  v1 = Value.int IntKind.i64 n4 ∧
  inI (64 * n1 + n4) ∧
  yld Proofs.Tryd.prog E p0yield [Value.int IntKind.i64 (64 * n1 + n4)] w3 fun (v2 : Value) (w4 : World) =>
  ∃ (b1 : Bool),
  v2 = Value.bool b1 ∧
  br (!b1) (R (Value.tuple (Array.mk [])) w4)
  (x3 (bitI BinOp.and IntKind.u64 n3 (IntKind.wrap IntKind.u64 (n3 - 1))) w4 ∧
  x4 (bitI BinOp.and IntKind.u64 n3 (IntKind.wrap IntKind.u64 (n3 - 1))) w4 < x4 n3 w2))
  (inI (n1 + 1) ∧ x1 (n1 + 1) w2 ∧ x2 (n1 + 1) w2 < x2 n1 w1))
  (R (Value.tuple (Array.mk [])) w1)
set_option maxRecDepth 100000 in
theorem run_bits_Set_All_S1_Y (E : World → World → Prop) (p0yield : Nat) (c0 : Addr) (hE : EOk E) (w : World) (R : Value → World → Prop) (h : vc_bits_Set_All_S1_Y E p0yield c0 w R) : RunE Tryd.prog E 29 [(.func (.yield p0yield) #[] #[]), (.pointer (some c0))] w R :=
  run_gen tyOk fnOk mixed Tryd.func29 ann_bits_Set_All_S1 hE (by kernel_rfl) ((by kernel_rfl : fnV Tryd.prog Ty Fn E ann_bits_Set_All_S1 Tryd.f29 [(.func (.yield p0yield) #[] #[]), (.pointer (some c0))] w R = vc_bits_Set_All_S1_Y E p0yield c0 w R) ▸ h)

/- math/bits.TrailingZeros64 -/
abbrev n_math_bits_TrailingZeros64 : FuncId := 30
def ann_math_bits_TrailingZeros64 : Ann := { rngs := [], loops := [], joins := [], blocks := [] }
def vc_math_bits_TrailingZeros64 (p0x : Int) (w : World) (R : Value → World → Prop) : Prop :=
  br (p0x == 0) (R (Value.int IntKind.i64 64) w)
  (ns 58 ∧
  idx (some (Addr.mk 0 0 none)) 64 (shrI IntKind.u64 (IntKind.wrap IntKind.u64 (bitI BinOp.and IntKind.u64 p0x (IntKind.wrap IntKind.u64 (0 - p0x)) * 285870213051353865)) 58) 1
  fun (a1 : Addr) => ∃ (n1 : Int), World.cell? w a1 = some (Value.int IntKind.u8 n1) ∧ inI n1 ∧ R (Value.int IntKind.i64 n1) w)
set_option maxRecDepth 100000 in
theorem run_math_bits_TrailingZeros64 (p0x : Int) (w : World) (R : Value → World → Prop) (h : vc_math_bits_TrailingZeros64 p0x w R) : Run Tryd.prog 30 [(.int .u64 p0x)] w R :=
  run_ev tyOk fnOk mixed Tryd.func30 ann_math_bits_TrailingZeros64 ((by kernel_rfl : fnV Tryd.prog Ty Fn Ev ann_math_bits_TrailingZeros64 Tryd.f30 [(.int .u64 p0x)] w R = vc_math_bits_TrailingZeros64 p0x w R) ▸ h)

/- slices.Collect[int] -/
abbrev n_slices_Collect_int_ : FuncId := 31
def ann_slices_Collect_int_ : Ann := { rngs := [], loops := [], joins := [], blocks := [] }
def vc_slices_Collect_int_ (p0seqg : FuncId) (p0seqc : List Value) (w : World) (R : Value → World → Prop) : Prop :=
  RunE Proofs.Tryd.prog Ev 48 [Value.slice none 0 0, Value.func (Fn.func p0seqg) (Array.mk []) (Array.mk p0seqc)] w fun (v1 : Value) (w1 : World) =>
  ∃ (o1 : Option Addr), ∃ (k1 : Nat), ∃ (k2 : Nat), v1 = Value.slice o1 k1 k2 ∧ R (Value.slice o1 k1 k2) w1
set_option maxRecDepth 100000 in
theorem run_slices_Collect_int_ (p0seqg : FuncId) (p0seqc : List Value) (w : World) (R : Value → World → Prop) (h : vc_slices_Collect_int_ p0seqg p0seqc w R) : Run Tryd.prog 31 [(.func (.func p0seqg) #[] ⟨p0seqc⟩)] w R :=
  run_ev tyOk fnOk mixed Tryd.func31 ann_slices_Collect_int_ ((by kernel_rfl : fnV Tryd.prog Ty Fn Ev ann_slices_Collect_int_ Tryd.f31 [(.func (.func p0seqg) #[] ⟨p0seqc⟩)] w R = vc_slices_Collect_int_ p0seqg p0seqc w R) ▸ h)

/- (presage/bits.words).has -/
abbrev n_bits_words_has : FuncId := 32
def ann_bits_words_has : Ann := { rngs := [], loops := [], joins := [], blocks := [] }
def vc_bits_words_has (p0wa : Option Addr) (p0wl : Nat) (p0wc : Nat) (p1n : Int) (w : World) (R : Value → World → Prop) : Prop :=
  nz 64 ∧
  inI (Int.tdiv p1n 64) ∧
  idx p0wa p0wl (Int.tdiv p1n 64) 1 fun (a1 : Addr) =>
  ∃ (n1 : Int),
  World.cell? w a1 = some (Value.int IntKind.u64 n1) ∧
  nz 64 ∧ ns (Int.tmod p1n 64) ∧ R (Value.bool (bitI BinOp.and IntKind.u64 (shrI IntKind.u64 n1 (Int.tmod p1n 64)) 1 == 1)) w
set_option maxRecDepth 100000 in
theorem run_bits_words_has (p0wa : Option Addr) (p0wl : Nat) (p0wc : Nat) (p1n : Int) (w : World) (R : Value → World → Prop) (h : vc_bits_words_has p0wa p0wl p0wc p1n w R) : Run Tryd.prog 32 [(.slice p0wa p0wl p0wc), (.int .i64 p1n)] w R :=
  run_ev tyOk fnOk mixed Tryd.func32 ann_bits_words_has ((by kernel_rfl : fnV Tryd.prog Ty Fn Ev ann_bits_words_has Tryd.f32 [(.slice p0wa p0wl p0wc), (.int .i64 p1n)] w R = vc_bits_words_has p0wa p0wl p0wc p1n w R) ▸ h)

/- (presage/bits.words).put -/
abbrev n_bits_words_put : FuncId := 33
def ann_bits_words_put : Ann := { rngs := [], loops := [], joins := [], blocks := [] }
def vc_bits_words_put (p0wa : Option Addr) (p0wl : Nat) (p0wc : Nat) (p1n : Int) (w : World) (R : Value → World → Prop) : Prop :=
  ∀ (w1 : World),
  drawn w w1 →
  ∃ (I1 : World → Prop),
  I1 w1 ∧
  nz 64 ∧
  inI (Int.tdiv p1n 64) ∧
  idx p0wa p0wl (Int.tdiv p1n 64) 1 fun (a1 : Addr) =>
  ∃ (n1 : Int),
  (∀ (w2 : World), I1 w2 → World.cell? w2 a1 = some (Value.int IntKind.u64 n1)) ∧
  nz 64 ∧
  ns (Int.tmod p1n 64) ∧
  idx p0wa p0wl (Int.tdiv p1n 64) 1 fun (a2 : Addr) =>
  st1 w1 a2 (Value.int IntKind.u64 (bitI BinOp.or IntKind.u64 n1 (shlI IntKind.u64 1 (Int.tmod p1n 64)))) fun (w3 : World) => R (Value.tuple (Array.mk [])) w3
set_option maxRecDepth 100000 in
theorem run_bits_words_put (p0wa : Option Addr) (p0wl : Nat) (p0wc : Nat) (p1n : Int) (w : World) (R : Value → World → Prop) (h : vc_bits_words_put p0wa p0wl p0wc p1n w R) : Run Tryd.prog 33 [(.slice p0wa p0wl p0wc), (.int .i64 p1n)] w R :=
  run_ev tyOk fnOk mixed Tryd.func33 ann_bits_words_put ((by kernel_rfl : fnV Tryd.prog Ty Fn Ev ann_bits_words_put Tryd.f33 [(.slice p0wa p0wl p0wc), (.int .i64 p1n)] w R = vc_bits_words_put p0wa p0wl p0wc p1n w R) ▸ h)

/- (presage/bits.words).take -/
abbrev n_bits_words_take : FuncId := 34
def ann_bits_words_take : Ann := { rngs := [], loops := [], joins := [], blocks := [] }
def vc_bits_words_take (p0wa : Option Addr) (p0wl : Nat) (p0wc : Nat) (p1n : Int) (w : World) (R : Value → World → Prop) : Prop :=
  ∀ (w1 : World),
  drawn w w1 →
  ∃ (I1 : World → Prop),
  I1 w1 ∧
  nz 64 ∧
  inI (Int.tdiv p1n 64) ∧
  idx p0wa p0wl (Int.tdiv p1n 64) 1 fun (a1 : Addr) =>
  ∃ (n1 : Int),
  (∀ (w2 : World), I1 w2 → World.cell? w2 a1 = some (Value.int IntKind.u64 n1)) ∧
  nz 64 ∧
  ns (Int.tmod p1n 64) ∧
  idx p0wa p0wl (Int.tdiv p1n 64) 1 fun (a2 : Addr) =>
  st1 w1 a2 (Value.int IntKind.u64 (bitI BinOp.andNot IntKind.u64 n1 (shlI IntKind.u64 1 (Int.tmod p1n 64)))) fun (w3 : World) =>
  R (Value.tuple (Array.mk [])) w3
set_option maxRecDepth 100000 in
theorem run_bits_words_take (p0wa : Option Addr) (p0wl : Nat) (p0wc : Nat) (p1n : Int) (w : World) (R : Value → World → Prop) (h : vc_bits_words_take p0wa p0wl p0wc p1n w R) : Run Tryd.prog 34 [(.slice p0wa p0wl p0wc), (.int .i64 p1n)] w R :=
  run_ev tyOk fnOk mixed Tryd.func34 ann_bits_words_take ((by kernel_rfl : fnV Tryd.prog Ty Fn Ev ann_bits_words_take Tryd.f34 [(.slice p0wa p0wl p0wc), (.int .i64 p1n)] w R = vc_bits_words_take p0wa p0wl p0wc p1n w R) ▸ h)

/- (*presage/presageref01.Set).Has -/
abbrev n_presageref01_Set_Has : FuncId := 35
def ann_presageref01_Set_Has : Ann := { rngs := [], loops := [], joins := [], blocks := [] }
def vc_presageref01_Set_Has (p0s : Option Addr) (p1n : Int) (w : World) (R : Value → World → Prop) : Prop :=
  br (decide (0 ≤ p1n))
  (nn p0s fun (a1 : Addr) =>
  ∃ (o1 : Option Addr),
  ∃ (k1 : Nat),
  ∃ (k2 : Nat),
  World.cell? w a1 = some (Value.slice o1 k1 k2) ∧
  br (decide (p1n < (↑k1 : Int)))
  (nn p0s fun (a2 : Addr) =>
  ∃ (o2 : Option Addr),
  ∃ (k3 : Nat),
  ∃ (k4 : Nat),
  World.cell? w a2 = some (Value.slice o2 k3 k4) ∧
  idx o2 k3 p1n 1 fun (a3 : Addr) => ∃ (b1 : Bool), World.cell? w a3 = some (Value.bool b1) ∧ R (Value.bool b1) w)
  (R (Value.bool false) w))
  (R (Value.bool false) w)
set_option maxRecDepth 100000 in
theorem run_presageref01_Set_Has (p0s : Option Addr) (p1n : Int) (w : World) (R : Value → World → Prop) (h : vc_presageref01_Set_Has p0s p1n w R) : Run Tryd.prog 35 [(.pointer p0s), (.int .i64 p1n)] w R :=
  run_ev tyOk fnOk mixed Tryd.func35 ann_presageref01_Set_Has ((by kernel_rfl : fnV Tryd.prog Ty Fn Ev ann_presageref01_Set_Has Tryd.f35 [(.pointer p0s), (.int .i64 p1n)] w R = vc_presageref01_Set_Has p0s p1n w R) ▸ h)

/- (*presage/presageref01.Set).Count -/
abbrev n_presageref01_Set_Count : FuncId := 36
def ann_presageref01_Set_Count : Ann := { rngs := [], loops := [(3, [(3, (.one (.int .i64))), (4, (.one (.int .i64)))])], joins := [], blocks := [] }
def vc_presageref01_Set_Count (p0s : Option Addr) (w : World) (R : Value → World → Prop) : Prop :=
  ∃ (x1 : arrS (shs [(3, S1.one (Cs.int IntKind.i64)), (4, S1.one (Cs.int IntKind.i64))]) (World → Prop)),
  ∃ (x2 : arrS (shs [(3, S1.one (Cs.int IntKind.i64)), (4, S1.one (Cs.int IntKind.i64))]) (World → Nat)),
  x1 0 0 w ∧
  ∀ (I1 : Nat → Value) (n1 n2 : Int) (w1 : World),
  x1 n1 n2 w1 →
  nn p0s fun (a1 : Addr) =>
  ∃ (o1 : Option Addr),
  ∃ (k1 : Nat),
  ∃ (k2 : Nat),
  World.cell? w1 a1 = some (Value.slice o1 k1 k2) ∧
  br (decide (n2 < (↑k1 : Int)))
  (nn p0s fun (a2 : Addr) =>
  ∃ (o2 : Option Addr),
  ∃ (k3 : Nat),
  ∃ (k4 : Nat),
  World.cell? w1 a2 = some (Value.slice o2 k3 k4) ∧
  idx o2 k3 n2 1 fun (a3 : Addr) =>
  ∃ (b1 : Bool),
  World.cell? w1 a3 = some (Value.bool b1) ∧
  br b1 (inI (n1 + 1) ∧ inI (n2 + 1) ∧ x1 (n1 + 1) (n2 + 1) w1 ∧ x2 (n1 + 1) (n2 + 1) w1 < x2 n1 n2 w1)
  (inI (n2 + 1) ∧ x1 n1 (n2 + 1) w1 ∧ x2 n1 (n2 + 1) w1 < x2 n1 n2 w1))
  (R (Value.int IntKind.i64 n1) w1)
set_option maxRecDepth 100000 in
theorem run_presageref01_Set_Count (p0s : Option Addr) (w : World) (R : Value → World → Prop) (h : vc_presageref01_Set_Count p0s w R) : Run Tryd.prog 36 [(.pointer p0s)] w R :=
  run_ev tyOk fnOk mixed Tryd.func36 ann_presageref01_Set_Count ((by kernel_rfl : fnV Tryd.prog Ty Fn Ev ann_presageref01_Set_Count Tryd.f36 [(.pointer p0s)] w R = vc_presageref01_Set_Count p0s w R) ▸ h)

/- presage/presageref01.Lent -/
abbrev n_presageref01_Lent : FuncId := 37
def ann_presageref01_Lent : Ann := { rngs := [], loops := [(4, [(5, (.one (.int .i64)))])], joins := [], blocks := [] }
def vc_presageref01_Lent (p0la : Option Addr) (p0ll : Nat) (p0lc : Nat) (w : World) (R : Value → World → Prop) : Prop :=
  inI ((↑p0ll : Int) + 8) ∧
  mkOk ((↑p0ll : Int) + 8) ((↑p0ll : Int) + 8) 8 ∧
  new w (Obj.cells (Array.mk (reps (Int.toNat ((↑p0ll : Int) + 8)) [Value.int IntKind.i64 0])) 3) fun (k1 : Nat) (w1 : World) =>
  RunS Proofs.Tryd.prog
  (Builtin.copy_ (Array.mk [22, 22]) 3
  (Array.mk [Value.slice (some (Addr.mk k1 0 none)) (Int.toNat ((↑p0ll : Int) + 8)) (Int.toNat ((↑p0ll : Int) + 8)), Value.slice p0la p0ll p0lc]))
  w1 fun (v1 : Value) (w2 : World) =>
  ∃ (n1 : Int),
  v1 = Value.int IntKind.i64 n1 ∧
  ∃ (x1 : arrS (shs [(5, S1.one (Cs.int IntKind.i64))]) (World → Prop)),
  ∃ (x2 : arrS (shs [(5, S1.one (Cs.int IntKind.i64))]) (World → Nat)),
  x1 0 w2 ∧
  ∀ (I1 : Nat → Value) (n2 : Int) (w3 : World),
  x1 n2 w3 →
  br (decide (n2 < 8))
  (inI ((↑p0ll : Int) + n2) ∧
  inI (7000 + n2) ∧
  idx (some (Addr.mk k1 0 none)) (Int.toNat ((↑p0ll : Int) + 8)) ((↑p0ll : Int) + n2) 1 fun (a1 : Addr) =>
  st1 w3 a1 (Value.int IntKind.i64 (7000 + n2)) fun (w4 : World) => inI (n2 + 1) ∧ x1 (n2 + 1) w4 ∧ x2 (n2 + 1) w4 < x2 n2 w3)
  (slc (some (Addr.mk k1 0 none)) (Int.toNat ((↑p0ll : Int) + 8)) (Int.toNat ((↑p0ll : Int) + 8)) none (some (↑p0ll : Int)) none 1 fun (v2 : Value) =>
  R (Value.tuple (Array.mk [v2, Value.slice (some (Addr.mk k1 0 none)) (Int.toNat ((↑p0ll : Int) + 8)) (Int.toNat ((↑p0ll : Int) + 8))])) w3)
set_option maxRecDepth 100000 in
theorem run_presageref01_Lent (p0la : Option Addr) (p0ll : Nat) (p0lc : Nat) (w : World) (R : Value → World → Prop) (h : vc_presageref01_Lent p0la p0ll p0lc w R) : Run Tryd.prog 37 [(.slice p0la p0ll p0lc)] w R :=
  run_ev tyOk fnOk mixed Tryd.func37 ann_presageref01_Lent ((by kernel_rfl : fnV Tryd.prog Ty Fn Ev ann_presageref01_Lent Tryd.f37 [(.slice p0la p0ll p0lc)] w R = vc_presageref01_Lent p0la p0ll p0lc w R) ▸ h)

/- presage/presageref01.Whole -/
abbrev n_presageref01_Whole : FuncId := 38
def ann_presageref01_Whole : Ann := { rngs := [], loops := [(2, [(5, (.one (.int .i64)))])], joins := [], blocks := [] }
def vc_presageref01_Whole (p0alla : Option Addr) (p0alll : Nat) (p0allc : Nat) (p1la : Option Addr) (p1ll : Nat) (p1lc : Nat) (w : World) (R : Value → World → Prop) : Prop :=
  ∃ (x1 : arrS (shs [(5, S1.one (Cs.int IntKind.i64))]) (World → Prop)),
  ∃ (x2 : arrS (shs [(5, S1.one (Cs.int IntKind.i64))]) (World → Nat)),
  x1 0 w ∧
  ∀ (I1 : Nat → Value) (n1 : Int) (w1 : World),
  x1 n1 w1 →
  br (decide (n1 < (↑p0alll : Int)))
  (∀ (w2 : World),
  drawn w1 w2 →
  ∃ (I2 : World → Prop),
  I2 w2 ∧
  br (decide (n1 < (↑p1ll : Int)))
  (idx p0alla p0alll n1 1 fun (a1 : Addr) =>
  ∃ (n2 : Int),
  (∀ (w3 : World), I2 w3 → World.cell? w3 a1 = some (Value.int IntKind.i64 n2)) ∧
  idx p1la p1ll n1 1 fun (a2 : Addr) =>
  ∃ (n3 : Int),
  (∀ (w4 : World), I2 w4 → World.cell? w4 a2 = some (Value.int IntKind.i64 n3)) ∧
  br (n2 != n3) (R (Value.bool false) w2)
  (br (decide ((↑p1ll : Int) ≤ n1))
  (idx p0alla p0alll n1 1 fun (a3 : Addr) =>
  ∃ (n4 : Int),
  (∀ (w5 : World), I2 w5 → World.cell? w5 a3 = some (Value.int IntKind.i64 n4)) ∧
  inI (7000 + n1) ∧
  inI (7000 + n1 - (↑p1ll : Int)) ∧
  br (n4 != 7000 + n1 - (↑p1ll : Int)) (R (Value.bool false) w2) (inI (n1 + 1) ∧ x1 (n1 + 1) w2 ∧ x2 (n1 + 1) w2 < x2 n1 w1))
  (inI (n1 + 1) ∧ x1 (n1 + 1) w2 ∧ x2 (n1 + 1) w2 < x2 n1 w1)))
  (br (decide ((↑p1ll : Int) ≤ n1))
  (idx p0alla p0alll n1 1 fun (a4 : Addr) =>
  ∃ (n5 : Int),
  (∀ (w6 : World), I2 w6 → World.cell? w6 a4 = some (Value.int IntKind.i64 n5)) ∧
  inI (7000 + n1) ∧
  inI (7000 + n1 - (↑p1ll : Int)) ∧
  br (n5 != 7000 + n1 - (↑p1ll : Int)) (R (Value.bool false) w2) (inI (n1 + 1) ∧ x1 (n1 + 1) w2 ∧ x2 (n1 + 1) w2 < x2 n1 w1))
  (inI (n1 + 1) ∧ x1 (n1 + 1) w2 ∧ x2 (n1 + 1) w2 < x2 n1 w1)))
  (R (Value.bool true) w1)
set_option maxRecDepth 100000 in
theorem run_presageref01_Whole (p0alla : Option Addr) (p0alll : Nat) (p0allc : Nat) (p1la : Option Addr) (p1ll : Nat) (p1lc : Nat) (w : World) (R : Value → World → Prop) (h : vc_presageref01_Whole p0alla p0alll p0allc p1la p1ll p1lc w R) : Run Tryd.prog 38 [(.slice p0alla p0alll p0allc), (.slice p1la p1ll p1lc)] w R :=
  run_ev tyOk fnOk mixed Tryd.func38 ann_presageref01_Whole ((by kernel_rfl : fnV Tryd.prog Ty Fn Ev ann_presageref01_Whole Tryd.f38 [(.slice p0alla p0alll p0allc), (.slice p1la p1ll p1lc)] w R = vc_presageref01_Whole p0alla p0alll p0allc p1la p1ll p1lc w R) ▸ h)

/- (*presage/presageref01.Set).Union -/
abbrev n_presageref01_Set_Union : FuncId := 40
def ann_presageref01_Set_Union : Ann := { rngs := [], loops := [(3, [(5, (.one (.int .i64))), (6, (.one (.int .i64)))])], joins := [], blocks := [] }
def vc_presageref01_Set_Union (p0s : Option Addr) (p1othersa : Option Addr) (p1othersl : Nat) (p1othersc : Nat) (w : World) (R : Value → World → Prop) : Prop :=
  ∃ (x1 : arrS (shs [(5, S1.one (Cs.int IntKind.i64)), (6, S1.one (Cs.int IntKind.i64))]) (World → Prop)),
  ∃ (x2 : arrS (shs [(5, S1.one (Cs.int IntKind.i64)), (6, S1.one (Cs.int IntKind.i64))]) (World → Nat)),
  x1 0 0 w ∧
  ∀ (I1 : Nat → Value) (n1 n2 : Int) (w1 : World),
  x1 n1 n2 w1 →
  br (decide (n2 < (↑p1othersl : Int)))
  (idx p1othersa p1othersl n2 1 fun (a1 : Addr) =>
  ∃ (o1 : Option Addr),
  World.cell? w1 a1 = some (Value.pointer o1) ∧
  RunE Proofs.Tryd.prog Ev 10 [Value.pointer o1] w1 fun (v1 : Value) (w2 : World) =>
  ∃ (o2 : Option Addr),
  ∃ (k1 : Nat),
  ∃ (k2 : Nat),
  v1 = Value.slice o2 k1 k2 ∧
  RunE Proofs.Tryd.prog Ev 16 [Value.pointer p0s, Value.slice o2 k1 k2] w2 fun (v2 : Value) (w3 : World) =>
  ∃ (n3 : Int), v2 = Value.int IntKind.i64 n3 ∧ inI (n1 + n3) ∧ inI (n2 + 1) ∧ x1 (n1 + n3) (n2 + 1) w3 ∧ x2 (n1 + n3) (n2 + 1) w3 < x2 n1 n2 w1)
  (R (Value.int IntKind.i64 n1) w1)
set_option maxRecDepth 100000 in
theorem run_presageref01_Set_Union (p0s : Option Addr) (p1othersa : Option Addr) (p1othersl : Nat) (p1othersc : Nat) (w : World) (R : Value → World → Prop) (h : vc_presageref01_Set_Union p0s p1othersa p1othersl p1othersc w R) : Run Tryd.prog 40 [(.pointer p0s), (.slice p1othersa p1othersl p1othersc)] w R :=
  run_ev tyOk fnOk mixed Tryd.func40 ann_presageref01_Set_Union ((by kernel_rfl : fnV Tryd.prog Ty Fn Ev ann_presageref01_Set_Union Tryd.f40 [(.pointer p0s), (.slice p1othersa p1othersl p1othersc)] w R = vc_presageref01_Set_Union p0s p1othersa p1othersl p1othersc w R) ▸ h)

/- (*presage/presageref01.Set).Meets -/
abbrev n_presageref01_Set_Meets : FuncId := 41
def ann_presageref01_Set_Meets : Ann := { rngs := [], loops := [(2, [(5, (.one (.int .i64)))]), (6, [(6, (.one .bool)), (7, (.one (.int .i64)))])], joins := [], blocks := [] }
def vc_presageref01_Set_Meets (p0s : Option Addr) (p1othersa : Option Addr) (p1othersl : Nat) (p1othersc : Nat) (w : World) (R : Value → World → Prop) : Prop :=
  ∃ (x1 : arrS (shs [(5, S1.one (Cs.int IntKind.i64))]) (World → Prop)),
  ∃ (x2 : arrS (shs [(5, S1.one (Cs.int IntKind.i64))]) (World → Nat)),
  x1 0 w ∧
  ∀ (I1 : Nat → Value) (n1 : Int) (w1 : World),
  x1 n1 w1 →
  nn p0s fun (a1 : Addr) =>
  ∃ (o1 : Option Addr),
  ∃ (k1 : Nat),
  ∃ (k2 : Nat),
  World.cell? w1 a1 = some (Value.slice o1 k1 k2) ∧
  br (decide (n1 < (↑k1 : Int)))
  (nn p0s fun (a2 : Addr) =>
  ∃ (o2 : Option Addr),
  ∃ (k3 : Nat),
  ∃ (k4 : Nat),
  World.cell? w1 a2 = some (Value.slice o2 k3 k4) ∧
  idx o2 k3 n1 1 fun (a3 : Addr) =>
  ∃ (b1 : Bool),
  World.cell? w1 a3 = some (Value.bool b1) ∧
  ∃ (x3 : arrS (shs [(6, S1.one Cs.bool), (7, S1.one (Cs.int IntKind.i64))]) (World → Prop)),
  ∃ (x4 : arrS (shs [(6, S1.one Cs.bool), (7, S1.one (Cs.int IntKind.i64))]) (World → Nat)),
  x3 b1 0 w1 ∧
  ∀ (I2 : Nat → Value) (b2 : Bool) (n2 : Int) (w2 : World),
  x3 b2 n2 w2 →
  br (decide (n2 < (↑p1othersl : Int)))
  (br b2
  (idx p1othersa p1othersl n2 1 fun (a4 : Addr) =>
  ∃ (o3 : Option Addr),
  World.cell? w2 a4 = some (Value.pointer o3) ∧
  RunE Proofs.Tryd.prog Ev 35 [Value.pointer o3, Value.int IntKind.i64 n1] w2 fun (v1 : Value) (w3 : World) =>
  ∃ (b3 : Bool), v1 = Value.bool b3 ∧ inI (n2 + 1) ∧ x3 b3 (n2 + 1) w3 ∧ x4 b3 (n2 + 1) w3 < x4 b2 n2 w2)
  (br b2 (R (Value.bool true) w2) (inI (n1 + 1) ∧ x1 (n1 + 1) w2 ∧ x2 (n1 + 1) w2 < x2 n1 w1)))
  (br b2 (R (Value.bool true) w2) (inI (n1 + 1) ∧ x1 (n1 + 1) w2 ∧ x2 (n1 + 1) w2 < x2 n1 w1)))
  (R (Value.bool false) w1)
set_option maxRecDepth 100000 in
theorem run_presageref01_Set_Meets (p0s : Option Addr) (p1othersa : Option Addr) (p1othersl : Nat) (p1othersc : Nat) (w : World) (R : Value → World → Prop) (h : vc_presageref01_Set_Meets p0s p1othersa p1othersl p1othersc w R) : Run Tryd.prog 41 [(.pointer p0s), (.slice p1othersa p1othersl p1othersc)] w R :=
  run_ev tyOk fnOk mixed Tryd.func41 ann_presageref01_Set_Meets ((by kernel_rfl : fnV Tryd.prog Ty Fn Ev ann_presageref01_Set_Meets Tryd.f41 [(.pointer p0s), (.slice p1othersa p1othersl p1othersc)] w R = vc_presageref01_Set_Meets p0s p1othersa p1othersl p1othersc w R) ▸ h)

/- (*presage/presageref01.Set).Equal -/
abbrev n_presageref01_Set_Equal : FuncId := 42
def ann_presageref01_Set_Equal : Ann := { rngs := [], loops := [(4, [(5, (.one (.int .i64)))])], joins := [], blocks := [] }
def vc_presageref01_Set_Equal (p0s : Option Addr) (p1o : Option Addr) (w : World) (R : Value → World → Prop) : Prop :=
  ∀ (w1 : World),
  drawn w w1 →
  ∃ (I1 : World → Prop),
  I1 w1 ∧
  nn p0s fun (a1 : Addr) =>
  ∃ (o1 : Option Addr),
  ∃ (k1 : Nat),
  ∃ (k2 : Nat),
  (∀ (w2 : World), I1 w2 → World.cell? w2 a1 = some (Value.slice o1 k1 k2)) ∧
  nn p1o fun (a2 : Addr) =>
  ∃ (o2 : Option Addr),
  ∃ (k3 : Nat),
  ∃ (k4 : Nat),
  (∀ (w3 : World), I1 w3 → World.cell? w3 a2 = some (Value.slice o2 k3 k4)) ∧
  br ((↑k1 : Int) != (↑k3 : Int)) (R (Value.bool false) w1)
  (∃ (x1 : arrS (shs [(5, S1.one (Cs.int IntKind.i64))]) (World → Prop)),
  ∃ (x2 : arrS (shs [(5, S1.one (Cs.int IntKind.i64))]) (World → Nat)),
  x1 0 w1 ∧
  ∀ (I2 : Nat → Value) (n1 : Int) (w4 : World),
  x1 n1 w4 →
  nn p0s fun (a3 : Addr) =>
  ∃ (o3 : Option Addr),
  ∃ (k5 : Nat),
  ∃ (k6 : Nat),
  World.cell? w4 a3 = some (Value.slice o3 k5 k6) ∧
  br (decide (n1 < (↑k5 : Int)))
  (∀ (w5 : World),
  drawn w4 w5 →
  ∃ (I3 : World → Prop),
  I3 w5 ∧
  nn p0s fun (a4 : Addr) =>
  ∃ (o4 : Option Addr),
  ∃ (k7 : Nat),
  ∃ (k8 : Nat),
  (∀ (w6 : World), I3 w6 → World.cell? w6 a4 = some (Value.slice o4 k7 k8)) ∧
  idx o4 k7 n1 1 fun (a5 : Addr) =>
  ∃ (b1 : Bool),
  (∀ (w7 : World), I3 w7 → World.cell? w7 a5 = some (Value.bool b1)) ∧
  nn p1o fun (a6 : Addr) =>
  ∃ (o5 : Option Addr),
  ∃ (k9 : Nat),
  ∃ (k10 : Nat),
  (∀ (w8 : World), I3 w8 → World.cell? w8 a6 = some (Value.slice o5 k9 k10)) ∧
  idx o5 k9 n1 1 fun (a7 : Addr) =>
  ∃ (b2 : Bool),
  (∀ (w9 : World), I3 w9 → World.cell? w9 a7 = some (Value.bool b2)) ∧
  br (!b1 == b2) (R (Value.bool false) w5)
  (inI (n1 + 1) ∧ x1 (n1 + 1) w5 ∧ x2 (n1 + 1) w5 < x2 n1 w4))
  (R (Value.bool true) w4))
set_option maxRecDepth 100000 in
theorem run_presageref01_Set_Equal (p0s : Option Addr) (p1o : Option Addr) (w : World) (R : Value → World → Prop) (h : vc_presageref01_Set_Equal p0s p1o w R) : Run Tryd.prog 42 [(.pointer p0s), (.pointer p1o)] w R :=
  run_ev tyOk fnOk mixed Tryd.func42 ann_presageref01_Set_Equal ((by kernel_rfl : fnV Tryd.prog Ty Fn Ev ann_presageref01_Set_Equal Tryd.f42 [(.pointer p0s), (.pointer p1o)] w R = vc_presageref01_Set_Equal p0s p1o w R) ▸ h)

/- (*presage/presageref01.Set).Copy -/
abbrev n_presageref01_Set_Copy : FuncId := 43
def ann_presageref01_Set_Copy : Ann := { rngs := [], loops := [], joins := [], blocks := [] }
def vc_presageref01_Set_Copy (p0s : Option Addr) (w : World) (R : Value → World → Prop) : Prop :=
  ∀ (w1 : World),
  drawn w w1 →
  ∃ (I1 : World → Prop),
  I1 w1 ∧
  nn p0s fun (a1 : Addr) =>
  ∃ (o1 : Option Addr),
  ∃ (k1 : Nat),
  ∃ (k2 : Nat),
  (∀ (w2 : World), I1 w2 → World.cell? w2 a1 = some (Value.slice o1 k1 k2)) ∧
  RunE Proofs.Tryd.prog Ev 10 [Value.pointer p0s] w1 fun (v1 : Value) (w3 : World) =>
  ∃ (o2 : Option Addr),
  ∃ (k3 : Nat),
  ∃ (k4 : Nat),
  v1 = Value.slice o2 k3 k4 ∧
  I1 w3 ∧
  RunE Proofs.Tryd.prog Ev 9 [Value.int IntKind.i64 (↑k1 : Int), Value.slice o2 k3 k4] w3 fun (v2 : Value) (w4 : World) =>
  ∃ (o3 : Option Addr), v2 = Value.pointer o3 ∧ I1 w4 ∧ R (Value.pointer o3) w4
set_option maxRecDepth 100000 in
theorem run_presageref01_Set_Copy (p0s : Option Addr) (w : World) (R : Value → World → Prop) (h : vc_presageref01_Set_Copy p0s w R) : Run Tryd.prog 43 [(.pointer p0s)] w R :=
  run_ev tyOk fnOk mixed Tryd.func43 ann_presageref01_Set_Copy ((by kernel_rfl : fnV Tryd.prog Ty Fn Ev ann_presageref01_Set_Copy Tryd.f43 [(.pointer p0s)] w R = vc_presageref01_Set_Copy p0s w R) ▸ h)

/- slices.Equal[[]int,int] -/
abbrev n_slices_Equal_int_int_ : FuncId := 44
def ann_slices_Equal_int_int_ : Ann := { rngs := [], loops := [(4, [(13, (.one (.int .i64)))])], joins := [], blocks := [] }
def vc_slices_Equal_int_int_ (p0s1a : Option Addr) (p0s1l : Nat) (p0s1c : Nat) (p1s2a : Option Addr) (p1s2l : Nat) (p1s2c : Nat) (w : World) (R : Value → World → Prop) : Prop :=
  br ((↑p0s1l : Int) != (↑p1s2l : Int)) (R (Value.bool false) w)
  (∃ (x1 : arrS (shs [(13, S1.one (Cs.int IntKind.i64))]) (World → Prop)),
  ∃ (x2 : arrS (shs [(13, S1.one (Cs.int IntKind.i64))]) (World → Nat)),
  x1 0 w ∧
  ∀ (I1 : Nat → Value) (n1 : Int) (w1 : World),
  x1 n1 w1 →
  br (decide (n1 < (↑p0s1l : Int)))
  (∀ (w2 : World),
  drawn w1 w2 →
  ∃ (I2 : World → Prop),
  I2 w2 ∧
  idx p0s1a p0s1l n1 1 fun (a1 : Addr) =>
  ∃ (n2 : Int),
  (∀ (w3 : World), I2 w3 → World.cell? w3 a1 = some (Value.int IntKind.i64 n2)) ∧
  idx p1s2a p1s2l n1 1 fun (a2 : Addr) =>
  ∃ (n3 : Int),
  (∀ (w4 : World), I2 w4 → World.cell? w4 a2 = some (Value.int IntKind.i64 n3)) ∧
  br (n2 != n3) (R (Value.bool false) w2) (inI (n1 + 1) ∧ x1 (n1 + 1) w2 ∧ x2 (n1 + 1) w2 < x2 n1 w1))
  (R (Value.bool true) w1))
set_option maxRecDepth 100000 in
theorem run_slices_Equal_int_int_ (p0s1a : Option Addr) (p0s1l : Nat) (p0s1c : Nat) (p1s2a : Option Addr) (p1s2l : Nat) (p1s2c : Nat) (w : World) (R : Value → World → Prop) (h : vc_slices_Equal_int_int_ p0s1a p0s1l p0s1c p1s2a p1s2l p1s2c w R) : Run Tryd.prog 44 [(.slice p0s1a p0s1l p0s1c), (.slice p1s2a p1s2l p1s2c)] w R :=
  run_ev tyOk fnOk mixed Tryd.func44 ann_slices_Equal_int_int_ ((by kernel_rfl : fnV Tryd.prog Ty Fn Ev ann_slices_Equal_int_int_ Tryd.f44 [(.slice p0s1a p0s1l p0s1c), (.slice p1s2a p1s2l p1s2c)] w R = vc_slices_Equal_int_int_ p0s1a p0s1l p0s1c p1s2a p1s2l p1s2c w R) ▸ h)

/- slices.ContainsFunc[[]*presage/bits.Set,*presage/bits.Set] -/
abbrev n_slices_ContainsFunc_bits_Set_bits_Set_ : FuncId := 46
def ann_slices_ContainsFunc_bits_Set_bits_Set_ : Ann := { rngs := [], loops := [], joins := [], blocks := [] }
def vc_slices_ContainsFunc_bits_Set_bits_Set_ (p0sa : Option Addr) (p0sl : Nat) (p0sc : Nat) (p1fg : FuncId) (p1fc : List Value) (w : World) (R : Value → World → Prop) : Prop :=
  RunE Proofs.Tryd.prog Ev 49 [Value.slice p0sa p0sl p0sc, Value.func (Fn.func p1fg) (Array.mk []) (Array.mk p1fc)] w fun (v1 : Value) (w1 : World) =>
  ∃ (n1 : Int), v1 = Value.int IntKind.i64 n1 ∧ R (Value.bool (decide (0 ≤ n1))) w1
set_option maxRecDepth 100000 in
theorem run_slices_ContainsFunc_bits_Set_bits_Set_ (p0sa : Option Addr) (p0sl : Nat) (p0sc : Nat) (p1fg : FuncId) (p1fc : List Value) (w : World) (R : Value → World → Prop) (h : vc_slices_ContainsFunc_bits_Set_bits_Set_ p0sa p0sl p0sc p1fg p1fc w R) : Run Tryd.prog 46 [(.slice p0sa p0sl p0sc), (.func (.func p1fg) #[] ⟨p1fc⟩)] w R :=
  run_ev tyOk fnOk mixed Tryd.func46 ann_slices_ContainsFunc_bits_Set_bits_Set_ ((by kernel_rfl : fnV Tryd.prog Ty Fn Ev ann_slices_ContainsFunc_bits_Set_bits_Set_ Tryd.f46 [(.slice p0sa p0sl p0sc), (.func (.func p1fg) #[] ⟨p1fc⟩)] w R = vc_slices_ContainsFunc_bits_Set_bits_Set_ p0sa p0sl p0sc p1fg p1fc w R) ▸ h)

/- (*presage/bits.Set).Meets$1 -/
abbrev n_bits_Set_Meets_S1 : FuncId := 47
def ann_bits_Set_Meets_S1 : Ann := { rngs := [], loops := [], joins := [], blocks := [] }
def vc_bits_Set_Meets_S1 (p0o : Option Addr) (c0 : Addr) (w : World) (R : Value → World → Prop) : Prop :=
  ∃ (n1 : Int),
  World.cell? w c0 = some (Value.int IntKind.i64 n1) ∧
  RunE Proofs.Tryd.prog Ev 25 [Value.pointer p0o, Value.int IntKind.i64 n1] w fun (v1 : Value) (w1 : World) => ∃ (b1 : Bool), v1 = Value.bool b1 ∧ R (Value.bool !b1) w1
set_option maxRecDepth 100000 in
theorem run_bits_Set_Meets_S1 (p0o : Option Addr) (c0 : Addr) (w : World) (R : Value → World → Prop) (h : vc_bits_Set_Meets_S1 p0o c0 w R) : Run Tryd.prog 47 [(.pointer p0o), (.pointer (some c0))] w R :=
  run_ev tyOk fnOk mixed Tryd.func47 ann_bits_Set_Meets_S1 ((by kernel_rfl : fnV Tryd.prog Ty Fn Ev ann_bits_Set_Meets_S1 Tryd.f47 [(.pointer p0o), (.pointer (some c0))] w R = vc_bits_Set_Meets_S1 p0o c0 w R) ▸ h)

/- slices.AppendSeq[[]int,int] -/
abbrev n_slices_AppendSeq_int_int_ : FuncId := 48
def ann_slices_AppendSeq_int_int_ : Ann := { rngs := [(2, [(7, (.one (.int .i64)))])], loops := [], joins := [], blocks := [] }
def vc_slices_AppendSeq_int_int_ (p0sa : Option Addr) (p0sl : Nat) (p0sc : Nat) (p1seqg : FuncId) (p1seqc : List Value) (w : World) (R : Value → World → Prop) : Prop :=
  new w (Obj.cells (Array.mk [Value.slice p0sa p0sl p0sc]) 22) fun (k1 : Nat) (w1 : World) =>
  ifT (Proofs.YtcipljcagejjaaaDoor.Fn p1seqg)
  (∃ (x1 : List (List Value)),
  ∃ (x2 : Asn),
  ∃ (x3 : Asn),
  ∃ (I1 : Nat → Asn),
  ∃ (x4 : Asn),
  ∃ (I2 : Nat → Asn),
  ∃ (x5 : List Asn),
  St w1 (I1 0 :: x2 :: x5) ∧
  (∀ (x6 : Hp), starL x5 x6 → x3 x6) ∧
  Itr Proofs.Tryd.prog p1seqg [] p1seqc x2 x3 x1 ∧
  (∀ (x7 : List Value), x7 ∈ x1 → ∃ (n1 : Int), x7 = [Value.int IntKind.i64 n1]) ∧
  (∀ (k2 : Nat) (n2 : Int),
  List.get?Internal x1 k2 = some [Value.int IntKind.i64 n2] →
  ∀ (x8 : List Asn) (w2 : World),
  Sup x8 x5 →
  St w2 (I1 k2 :: x8) →
  ∃ (x9 : Asn),
  St w2 (x9 :: x8) ∧
  ∀ (x10 : List Asn) (w3 : World),
  Sup x10 x5 →
  St w3 (x9 :: x10) →
  ∃ (o1 : Option Addr),
  ∃ (k3 : Nat),
  ∃ (k4 : Nat),
  World.cell? w3 (Addr.mk k1 0 none) = some (Value.slice o1 k3 k4) ∧
  new w3 (Obj.cells (Array.mk [Value.int IntKind.i64 n2]) 3) fun (k5 : Nat) (w4 : World) =>
  RunS Proofs.Tryd.prog
  (Builtin.append_ (Array.mk [22, 22]) 22 (Array.mk [Value.slice o1 k3 k4, Value.slice (some (Addr.mk k5 0 none)) 1 1]))
  w4 fun (v1 : Value) (w5 : World) =>
  ∃ (o2 : Option Addr),
  ∃ (k6 : Nat),
  ∃ (k7 : Nat),
  v1 = Value.slice o2 k6 k7 ∧
  st1 w5 (Addr.mk k1 0 none) (Value.slice o2 k6 k7) fun (w6 : World) => St w6 (I1 (k2 + 1) :: x10)) ∧
  (∀ (w7 : World),
  St w7 (I1 (List.length x1) :: x2 :: x5) →
  ∃ (o3 : Option Addr),
  ∃ (k8 : Nat),
  ∃ (k9 : Nat),
  World.cell? w7 (Addr.mk k1 0 none) = some (Value.slice o3 k8 k9) ∧ ∀ (w8 : World), hp w8 = hp w7 → R (Value.slice o3 k8 k9) w8) ∧
  (∀ (w9 : World), St w9 (x4 :: x2 :: x5) → ∀ (w10 : World), hp w10 = hp w9 → R (Value.slice none 0 0) w10) ∧ True)
set_option maxRecDepth 100000 in
theorem run_slices_AppendSeq_int_int_ (p0sa : Option Addr) (p0sl : Nat) (p0sc : Nat) (p1seqg : FuncId) (p1seqc : List Value) (w : World) (R : Value → World → Prop) (h : vc_slices_AppendSeq_int_int_ p0sa p0sl p0sc p1seqg p1seqc w R) : Run Tryd.prog 48 [(.slice p0sa p0sl p0sc), (.func (.func p1seqg) #[] ⟨p1seqc⟩)] w R :=
  run_ev tyOk fnOk mixed Tryd.func48 ann_slices_AppendSeq_int_int_ ((by kernel_rfl : fnV Tryd.prog Ty Fn Ev ann_slices_AppendSeq_int_int_ Tryd.f48 [(.slice p0sa p0sl p0sc), (.func (.func p1seqg) #[] ⟨p1seqc⟩)] w R = vc_slices_AppendSeq_int_int_ p0sa p0sl p0sc p1seqg p1seqc w R) ▸ h)

/- slices.IndexFunc[[]*presage/bits.Set,*presage/bits.Set] -/
abbrev n_slices_IndexFunc_bits_Set_bits_Set_ : FuncId := 49
def ann_slices_IndexFunc_bits_Set_bits_Set_ : Ann := { rngs := [], loops := [(2, [(8, (.one (.int .i64)))])], joins := [], blocks := [] }
def vc_slices_IndexFunc_bits_Set_bits_Set_ (p0sa : Option Addr) (p0sl : Nat) (p0sc : Nat) (p1fg : FuncId) (p1fc : List Value) (w : World) (R : Value → World → Prop) : Prop :=
  ∃ (x1 : arrS (shs [(8, S1.one (Cs.int IntKind.i64))]) (World → Prop)),
  ∃ (x2 : arrS (shs [(8, S1.one (Cs.int IntKind.i64))]) (World → Nat)),
  x1 0 w ∧
  ∀ (I1 : Nat → Value) (n1 : Int) (w1 : World),
  x1 n1 w1 →
  br (decide (n1 < (↑p0sl : Int)))
  (idx p0sa p0sl n1 1 fun (a1 : Addr) =>
  ∃ (o1 : Option Addr),
  World.cell? w1 a1 = some (Value.pointer o1) ∧
  ifT (Proofs.YtcipljcagejjaaaDoor.Fn p1fg)
  (RunE Proofs.Tryd.prog Ev p1fg (Value.pointer o1 :: p1fc) w1 fun (v1 : Value) (w2 : World) =>
  ∃ (b1 : Bool), v1 = Value.bool b1 ∧ br b1 (R (Value.int IntKind.i64 n1) w2) (inI (n1 + 1) ∧ x1 (n1 + 1) w2 ∧ x2 (n1 + 1) w2 < x2 n1 w1)))
  (R (Value.int IntKind.i64 (-1)) w1)
set_option maxRecDepth 100000 in
theorem run_slices_IndexFunc_bits_Set_bits_Set_ (p0sa : Option Addr) (p0sl : Nat) (p0sc : Nat) (p1fg : FuncId) (p1fc : List Value) (w : World) (R : Value → World → Prop) (h : vc_slices_IndexFunc_bits_Set_bits_Set_ p0sa p0sl p0sc p1fg p1fc w R) : Run Tryd.prog 49 [(.slice p0sa p0sl p0sc), (.func (.func p1fg) #[] ⟨p1fc⟩)] w R :=
  run_ev tyOk fnOk mixed Tryd.func49 ann_slices_IndexFunc_bits_Set_bits_Set_ ((by kernel_rfl : fnV Tryd.prog Ty Fn Ev ann_slices_IndexFunc_bits_Set_bits_Set_ Tryd.f49 [(.slice p0sa p0sl p0sc), (.func (.func p1fg) #[] ⟨p1fc⟩)] w R = vc_slices_IndexFunc_bits_Set_bits_Set_ p0sa p0sl p0sc p1fg p1fc w R) ▸ h)

/- presage/presagelaw01.BitsGoes -/
abbrev n_presagelaw01_BitsGoes : FuncId := 3
def ann_presagelaw01_BitsGoes : Ann := { rngs := [(27, [(78, (.one (.int .i64)))]), (34, [(97, (.one (.int .i64)))]), (40, [(108, (.one (.int .i64)))])], loops := [(14, [(15, (.one (.int .i64)))]), (18, [(14, (.one .slice)), (16, (.one (.int .i64)))])], joins := [(11, [(45, (.one .bool))]), (32, [])], blocks := [] }
def vc_presagelaw01_BitsGoes (p0size : Int) (p1la : Option Addr) (p1ll : Nat) (p1lc : Nat) (p2morea : Option Addr) (p2morel : Nat) (p2morec : Nat) (p3stop : Int) (w : World) (R : Value → World → Prop) : Prop :=
  new w (Obj.cells (Array.mk [Value.bool false]) 4) fun (k1 : Nat) (w1 : World) =>
  RunE Proofs.Tryd.prog Ev 7 [] w1 fun (v1 : Value) (w2 : World) =>
  ∃ (b1 : Bool),
  v1 = Value.bool b1 ∧
  br (!b1)
  (st1 w2 (Addr.mk k1 0 none) (Value.bool false) fun (w3 : World) =>
  ∃ (b2 : Bool), World.cell? w3 (Addr.mk k1 0 none) = some (Value.bool b2) ∧ ∀ (w4 : World), hp w4 = hp w3 → R (Value.bool b2) w4)
  (RunE Proofs.Tryd.prog Ev 8 [Value.int IntKind.i64 p0size, Value.slice p1la p1ll p1lc] w2 fun (v2 : Value) (w5 : World) =>
  ∃ (o1 : Option Addr),
  v2 = Value.pointer o1 ∧
  RunE Proofs.Tryd.prog Ev 9 [Value.int IntKind.i64 p0size, Value.slice p1la p1ll p1lc] w5 fun (v3 : Value) (w6 : World) =>
  ∃ (o2 : Option Addr),
  v3 = Value.pointer o2 ∧
  br (Option.isNone o1)
  (st1 w6 (Addr.mk k1 0 none) (Value.bool false) fun (w7 : World) =>
  ∃ (b3 : Bool), World.cell? w7 (Addr.mk k1 0 none) = some (Value.bool b3) ∧ ∀ (w8 : World), hp w8 = hp w7 → R (Value.bool b3) w8)
  (RunE Proofs.Tryd.prog Ev 10 [Value.pointer o2] w6 fun (v4 : Value) (w9 : World) =>
  ∃ (o3 : Option Addr),
  ∃ (k2 : Nat),
  ∃ (k3 : Nat),
  v4 = Value.slice o3 k2 k3 ∧
  new w9 (Obj.cells (Array.mk [Value.slice none 0 0]) 22) fun (k4 : Nat) (w10 : World) =>
  st1 w10 (Addr.mk k4 0 none) (Value.slice o3 k2 k3) fun (w11 : World) =>
  RunE Proofs.Tryd.prog Ev 11 [Value.pointer o1] w11 fun (v5 : Value) (w12 : World) =>
  ∃ (g1 : FuncId),
  ∃ (x1 : List Value),
  v5 = Value.func (Fn.func g1) (Array.mk []) (Array.mk x1) ∧
  RunE Proofs.Tryd.prog Ev 11 [Value.pointer o1] w12 fun (v6 : Value) (w13 : World) =>
  ∃ (g2 : FuncId),
  ∃ (x2 : List Value),
  v6 = Value.func (Fn.func g2) (Array.mk []) (Array.mk x2) ∧
  ∃ (x3 : arrS (shs [(45, S1.one Cs.bool)]) (World → Prop)),
  x3 false w13 ∧
  ∀ (I1 : Nat → Value) (b4 : Bool) (w14 : World),
  x3 b4 w14 →
  br b4
  (st1 w14 (Addr.mk k1 0 none) (Value.bool false) fun (w15 : World) =>
  ∃ (b5 : Bool),
  World.cell? w15 (Addr.mk k1 0 none) = some (Value.bool b5) ∧
  ∀ (w16 : World), hp w16 = hp w15 → R (Value.bool b5) w16)
  (RunE Proofs.Tryd.prog Ev 12 [Value.pointer o1] w14 fun (v7 : Value) (w17 : World) =>
  ∃ (o4 : Option Addr),
  ∃ (k5 : Nat),
  ∃ (k6 : Nat),
  v7 = Value.slice o4 k5 k6 ∧
  ∃ (x4 : arrS (shs [(15, S1.one (Cs.int IntKind.i64))]) (World → Prop)),
  ∃ (x5 : arrS (shs [(15, S1.one (Cs.int IntKind.i64))]) (World → Nat)),
  x4 0 w17 ∧
  ∀ (I2 : Nat → Value) (n1 : Int) (w18 : World),
  x4 n1 w18 →
  br (decide (n1 < (↑k5 : Int)))
  (idx o4 k5 n1 1 fun (a1 : Addr) =>
  st1 w18 a1 (Value.int IntKind.i64 (-1)) fun (w19 : World) =>
  inI (n1 + 1) ∧ x4 (n1 + 1) w19 ∧ x5 (n1 + 1) w19 < x5 n1 w18)
  (∃ (x6 :
  arrS (shs [(14, S1.one Cs.slice), (16, S1.one (Cs.int IntKind.i64))]) (World → Prop)),
  ∃ (x7 :
  arrS (shs [(14, S1.one Cs.slice), (16, S1.one (Cs.int IntKind.i64))]) (World → Nat)),
  x6 o4 k5 k6 0 w18 ∧
  ∀ (I3 : Nat → Value) (o5 : Option Addr) (k7 k8 : Nat) (n2 : Int) (w20 : World),
  x6 o5 k7 k8 n2 w20 →
  br (decide (n2 < 4))
  (new w20 (Obj.cells (Array.mk [Value.int IntKind.i64 5]) 3)
  fun (k9 : Nat) (w21 : World) =>
  RunS Proofs.Tryd.prog
  (Builtin.append_ (Array.mk [22, 22]) 22
  (Array.mk
  [Value.slice o5 k7 k8, Value.slice (some (Addr.mk k9 0 none)) 1 1]))
  w21 fun (v8 : Value) (w22 : World) =>
  ∃ (o6 : Option Addr),
  ∃ (k10 : Nat),
  ∃ (k11 : Nat),
  v8 = Value.slice o6 k10 k11 ∧
  inI (n2 + 1) ∧
  x6 o6 k10 k11 (n2 + 1) w22 ∧
  x7 o6 k10 k11 (n2 + 1) w22 < x7 o5 k7 k8 n2 w20)
  (RunE Proofs.Tryd.prog Ev 13
  [Value.pointer o1, Value.slice p2morea p2morel p2morec] w20
  fun (v9 : Value) (w23 : World) =>
  ∃ (n3 : Int),
  v9 = Value.int IntKind.i64 n3 ∧
  RunE Proofs.Tryd.prog Ev 14 [Value.pointer o1, Value.slice p1la p1ll p1lc]
  w23 fun (v10 : Value) (w24 : World) =>
  ∃ (n4 : Int),
  v10 = Value.int IntKind.i64 n4 ∧
  ∃ (o7 : Option Addr),
  ∃ (k12 : Nat),
  ∃ (k13 : Nat),
  World.cell? w24 (Addr.mk k4 0 none) =
  some (Value.slice o7 k12 k13) ∧
  inI ((↑k12 : Int) + 1) ∧
  RunE Proofs.Tryd.prog Ev 15
  [Value.int IntKind.i64 p3stop,
  Value.int IntKind.i64 ((↑k12 : Int) + 1)]
  w24 fun (v11 : Value) (w25 : World) =>
  ∃ (n5 : Int),
  v11 = Value.int IntKind.i64 n5 ∧
  new w25
  (Obj.cells (Array.mk [Value.int IntKind.i64 0]) 3)
  fun (k14 : Nat) (w26 : World) =>
  st1 w26 (Addr.mk k14 0 none)
  (Value.int IntKind.i64 n5) fun (w27 : World) =>
  new w27
  (Obj.cells (Array.mk [Value.int IntKind.i64 0])
  3)
  fun (k15 : Nat) (w28 : World) =>
  st1 w28 (Addr.mk k15 0 none)
  (Value.int IntKind.i64 0) fun (w29 : World) =>
  ∃ (x8 : arrS (shs []) (World → Prop)),
  (∃ (n6 : Int),
  World.cell? w29 (Addr.mk k14 0 none) =
  some (Value.int IntKind.i64 n6) ∧
  br (decide (0 < n6))
  (ifT
  (Proofs.YtcipljcagejjaaaDoor.Fn
  g1)
  (∃ (x9 : List (List Value)),
  ∃ (x10 : Asn),
  ∃ (x11 : Asn),
  ∃ (I4 : Nat → Asn),
  ∃ (x12 : Asn),
  ∃ (I5 : Nat → Asn),
  ∃ (x13 : List Asn),
  St w29
  (I4 0 ::
  x10 :: x13) ∧
  (∀ (x14 : Hp),
  starL x13
  x14 →
  x11 x14) ∧
  Itr
  Proofs.Tryd.prog
  g1 [] x1 x10
  x11 x9 ∧
  (∀
  (x15 :
  List
  Value),
  x15 ∈ x9 →
  ∃ (n7 :
  Int),
  x15 =
  [Value.int
  IntKind.i64
  n7]) ∧
  (∀
  (k16 :
  Nat)
  (n8 :
  Int),
  List.get?Internal
  x9
  k16 =
  some
  [Value.int
  IntKind.i64
  n8] →
  ∀
  (x16 :
  List
  Asn)
  (w30 :
  World),
  Sup
  x16
  x13 →
  St
  w30
  (I4
  k16 ::
  x16) →
  ∃
  (x17
  :
  Asn),
  St
  w30
  (x17 ::
  x16) ∧
  ∀
  (x18 :
  List
  Asn)
  (w31 :
  World),
  Sup
  x18
  x13 →
  St
  w31
  (x17 ::
  x18) →
  ∃
  (n9
  :
  Int),
  World.cell?
  w31
  (Addr.mk
  k15
  0
  none) =
  some
  (Value.int
  IntKind.i64
  n9) ∧
  ∃
  (o8
  :
  Option
  Addr),
  ∃
  (k17
  :
  Nat),
  ∃
  (k18
  :
  Nat),
  World.cell?
  w31
  (Addr.mk
  k4
  0
  none) =
  some
  (Value.slice
  o8
  k17
  k18) ∧
  br
  (decide
  ((↑k17 :
  Int) ≤
  n9))
  (st1
  w31
  (Addr.mk
  k1
  0
  none)
  (Value.bool
  false)
  fun
  (w32 :
  World) =>
  St
  w32
  (x12 ::
  x18))
  (∃
  (o9
  :
  Option
  Addr),
  ∃
  (k19
  :
  Nat),
  ∃
  (k20
  :
  Nat),
  World.cell?
  w31
  (Addr.mk
  k4
  0
  none) =
  some
  (Value.slice
  o9
  k19
  k20) ∧
  ∃
  (n10
  :
  Int),
  World.cell?
  w31
  (Addr.mk
  k15
  0
  none) =
  some
  (Value.int
  IntKind.i64
  n10) ∧
  idx
  o9
  k19
  n10
  1
  fun
  (a2 :
  Addr) =>
  ∃
  (n11
  :
  Int),
  World.cell?
  w31
  a2 =
  some
  (Value.int
  IntKind.i64
  n11) ∧
  br
  (n8 !=
  n11)
  (st1
  w31
  (Addr.mk
  k1
  0
  none)
  (Value.bool
  false)
  fun
  (w33 :
  World) =>
  St
  w33
  (x12 ::
  x18))
  (∃
  (n12
  :
  Int),
  World.cell?
  w31
  (Addr.mk
  k15
  0
  none) =
  some
  (Value.int
  IntKind.i64
  n12) ∧
  inI
  (n12 +
  1) ∧
  st1
  w31
  (Addr.mk
  k15
  0
  none)
  (Value.int
  IntKind.i64
  (n12 +
  1))
  fun
  (w34 :
  World) =>
  ∃
  (n13
  :
  Int),
  World.cell?
  w34
  (Addr.mk
  k15
  0
  none) =
  some
  (Value.int
  IntKind.i64
  n13) ∧
  ∃
  (n14
  :
  Int),
  World.cell?
  w34
  (Addr.mk
  k14
  0
  none) =
  some
  (Value.int
  IntKind.i64
  n14) ∧
  br
  (n13 ==
  n14)
  (St
  w34
  (I5
  4 ::
  x18))
  (St
  w34
  (I4
  (k16 +
  1) ::
  x18))))) ∧
  (∀
  (w35 :
  World),
  St w35
  (I4
  (List.length
  x9) ::
  x10 ::
  x13) →
  x8
  w35) ∧
  (∀
  (w36 :
  World),
  St
  w36
  (x12 ::
  x10 ::
  x13) →
  ∃
  (b6
  :
  Bool),
  World.cell?
  w36
  (Addr.mk
  k1
  0
  none) =
  some
  (Value.bool
  b6) ∧
  ∀
  (w37 :
  World),
  hp
  w37 =
  hp
  w36 →
  R
  (Value.bool
  b6)
  w37) ∧
  ∀
  (w38 :
  World),
  St
  w38
  (I5
  4 ::
  x10 ::
  x13) →
  x8
  w38))
  (x8 w29)) ∧
  ∀ (I6 : Nat → Value) (w39 : World),
  x8 w39 →
  new w39
  (Obj.cells
  (Array.mk [Value.slice none 0 0])
  22)
  fun (k21 : Nat) (w40 : World) =>
  ifT
  (Proofs.YtcipljcagejjaaaDoor.Fn
  g1)
  (∃ (x19 : List (List Value)),
  ∃ (x20 : Asn),
  ∃ (x21 : Asn),
  ∃ (I7 : Nat → Asn),
  ∃ (x22 : Asn),
  ∃ (I8 : Nat → Asn),
  ∃ (x23 : List Asn),
  St w40
  (I7 0 ::
  x20 :: x23) ∧
  (∀ (x24 : Hp),
  starL x23
  x24 →
  x21 x24) ∧
  Itr
  Proofs.Tryd.prog
  g1 [] x1 x20
  x21 x19 ∧
  (∀
  (x25 :
  List
  Value),
  x25 ∈
  x19 →
  ∃ (n15 :
  Int),
  x25 =
  [Value.int
  IntKind.i64
  n15]) ∧
  (∀
  (k22 :
  Nat)
  (n16 :
  Int),
  List.get?Internal
  x19
  k22 =
  some
  [Value.int
  IntKind.i64
  n16] →
  ∀
  (x26 :
  List
  Asn)
  (w41 :
  World),
  Sup
  x26
  x23 →
  St
  w41
  (I7
  k22 ::
  x26) →
  ∃
  (x27
  :
  Asn),
  St
  w41
  (x27 ::
  x26) ∧
  ∀
  (x28 :
  List
  Asn)
  (w42 :
  World),
  Sup
  x28
  x23 →
  St
  w42
  (x27 ::
  x28) →
  ∃
  (o10
  :
  Option
  Addr),
  ∃
  (k23
  :
  Nat),
  ∃
  (k24
  :
  Nat),
  World.cell?
  w42
  (Addr.mk
  k21
  0
  none) =
  some
  (Value.slice
  o10
  k23
  k24) ∧
  new
  w42
  (Obj.cells
  (Array.mk
  [Value.int
  IntKind.i64
  n16])
  3)
  fun
  (k25 :
  Nat)
  (w43 :
  World) =>
  RunS
  Proofs.Tryd.prog
  (Builtin.append_
  (Array.mk
  [22,
  22])
  22
  (Array.mk
  [Value.slice
  o10
  k23
  k24,
  Value.slice
  (some
  (Addr.mk
  k25
  0
  none))
  1
  1]))
  w43
  fun
  (v12 :
  Value)
  (w44 :
  World) =>
  ∃
  (o11
  :
  Option
  Addr),
  ∃
  (k26
  :
  Nat),
  ∃
  (k27
  :
  Nat),
  v12 =
  Value.slice
  o11
  k26
  k27 ∧
  st1
  w44
  (Addr.mk
  k21
  0
  none)
  (Value.slice
  o11
  k26
  k27)
  fun
  (w45 :
  World) =>
  ∃
  (o12
  :
  Option
  Addr),
  ∃
  (k28
  :
  Nat),
  ∃
  (k29
  :
  Nat),
  World.cell?
  w45
  (Addr.mk
  k21
  0
  none) =
  some
  (Value.slice
  o12
  k28
  k29) ∧
  ∃
  (o13
  :
  Option
  Addr),
  ∃
  (k30
  :
  Nat),
  ∃
  (k31
  :
  Nat),
  World.cell?
  w45
  (Addr.mk
  k4
  0
  none) =
  some
  (Value.slice
  o13
  k30
  k31) ∧
  br
  (decide
  ((↑k30 :
  Int) <
  (↑k28 :
  Int)))
  (st1
  w45
  (Addr.mk
  k1
  0
  none)
  (Value.bool
  false)
  fun
  (w46 :
  World) =>
  St
  w46
  (x22 ::
  x28))
  (St
  w45
  (I7
  (k22 +
  1) ::
  x28))) ∧
  (∀
  (w47 :
  World),
  St w47
  (I7
  (List.length
  x19) ::
  x20 ::
  x23) →
  new
  w47
  (Obj.cells
  (Array.mk
  [Value.slice
  none
  0
  0])
  22)
  fun
  (k32 :
  Nat)
  (w48 :
  World) =>
  ifT
  (Proofs.YtcipljcagejjaaaDoor.Fn
  g2)
  (∃
  (x29
  :
  List
  (List
  Value)),
  ∃
  (x30
  :
  Asn),
  ∃
  (x31
  :
  Asn),
  ∃
  (I9
  :
  Nat →
  Asn),
  ∃
  (x32
  :
  Asn),
  ∃
  (I10
  :
  Nat →
  Asn),
  ∃
  (x33
  :
  List
  Asn),
  St
  w48
  (I9
  0 ::
  x30 ::
  x33) ∧
  (∀
  (x34 :
  Hp),
  starL
  x33
  x34 →
  x31
  x34) ∧
  Itr
  Proofs.Tryd.prog
  g2
  []
  x2
  x30
  x31
  x29 ∧
  (∀
  (x35 :
  List
  Value),
  x35 ∈
  x29 →
  ∃
  (n17
  :
  Int),
  x35 =
  [Value.int
  IntKind.i64
  n17]) ∧
  (∀
  (k33 :
  Nat)
  (n18 :
  Int),
  List.get?Internal
  x29
  k33 =
  some
  [Value.int
  IntKind.i64
  n18] →
  ∀
  (x36 :
  List
  Asn)
  (w49 :
  World),
  Sup
  x36
  x33 →
  St
  w49
  (I9
  k33 ::
  x36) →
  ∃
  (x37
  :
  Asn),
  St
  w49
  (x37 ::
  x36) ∧
  ∀
  (x38 :
  List
  Asn)
  (w50 :
  World),
  Sup
  x38
  x33 →
  St
  w50
  (x37 ::
  x38) →
  ∃
  (o14
  :
  Option
  Addr),
  ∃
  (k34
  :
  Nat),
  ∃
  (k35
  :
  Nat),
  World.cell?
  w50
  (Addr.mk
  k32
  0
  none) =
  some
  (Value.slice
  o14
  k34
  k35) ∧
  new
  w50
  (Obj.cells
  (Array.mk
  [Value.int
  IntKind.i64
  n18])
  3)
  fun
  (k36 :
  Nat)
  (w51 :
  World) =>
  RunS
  Proofs.Tryd.prog
  (Builtin.append_
  (Array.mk
  [22,
  22])
  22
  (Array.mk
  [Value.slice
  o14
  k34
  k35,
  Value.slice
  (some
  (Addr.mk
  k36
  0
  none))
  1
  1]))
  w51
  fun
  (v13 :
  Value)
  (w52 :
  World) =>
  ∃
  (o15
  :
  Option
  Addr),
  ∃
  (k37
  :
  Nat),
  ∃
  (k38
  :
  Nat),
  v13 =
  Value.slice
  o15
  k37
  k38 ∧
  st1
  w52
  (Addr.mk
  k32
  0
  none)
  (Value.slice
  o15
  k37
  k38)
  fun
  (w53 :
  World) =>
  ∃
  (o16
  :
  Option
  Addr),
  ∃
  (k39
  :
  Nat),
  ∃
  (k40
  :
  Nat),
  World.cell?
  w53
  (Addr.mk
  k32
  0
  none) =
  some
  (Value.slice
  o16
  k39
  k40) ∧
  ∃
  (o17
  :
  Option
  Addr),
  ∃
  (k41
  :
  Nat),
  ∃
  (k42
  :
  Nat),
  World.cell?
  w53
  (Addr.mk
  k4
  0
  none) =
  some
  (Value.slice
  o17
  k41
  k42) ∧
  br
  (decide
  ((↑k41 :
  Int) <
  (↑k39 :
  Int)))
  (st1
  w53
  (Addr.mk
  k1
  0
  none)
  (Value.bool
  false)
  fun
  (w54 :
  World) =>
  St
  w54
  (x32 ::
  x38))
  (St
  w53
  (I9
  (k33 +
  1) ::
  x38))) ∧
  (∀
  (w55 :
  World),
  St
  w55
  (I9
  (List.length
  x29) ::
  x30 ::
  x33) →
  RunE
  Proofs.Tryd.prog
  Ev
  16
  [Value.pointer
  o2,
  Value.slice
  p2morea
  p2morel
  p2morec]
  w55
  fun
  (v14 :
  Value)
  (w56 :
  World) =>
  ∃
  (n19
  :
  Int),
  v14 =
  Value.int
  IntKind.i64
  n19 ∧
  RunE
  Proofs.Tryd.prog
  Ev
  17
  [Value.pointer
  o2,
  Value.slice
  p1la
  p1ll
  p1lc]
  w56
  fun
  (v15 :
  Value)
  (w57 :
  World) =>
  ∃
  (n20
  :
  Int),
  v15 =
  Value.int
  IntKind.i64
  n20 ∧
  ∃
  (n21
  :
  Int),
  World.cell?
  w57
  (Addr.mk
  k15
  0
  none) =
  some
  (Value.int
  IntKind.i64
  n21) ∧
  ∃
  (n22
  :
  Int),
  World.cell?
  w57
  (Addr.mk
  k14
  0
  none) =
  some
  (Value.int
  IntKind.i64
  n22) ∧
  br
  (n21 ==
  n22)
  (∃
  (o18
  :
  Option
  Addr),
  ∃
  (k43
  :
  Nat),
  ∃
  (k44
  :
  Nat),
  World.cell?
  w57
  (Addr.mk
  k21
  0
  none) =
  some
  (Value.slice
  o18
  k43
  k44) ∧
  ∃
  (o19
  :
  Option
  Addr),
  ∃
  (k45
  :
  Nat),
  ∃
  (k46
  :
  Nat),
  World.cell?
  w57
  (Addr.mk
  k4
  0
  none) =
  some
  (Value.slice
  o19
  k45
  k46) ∧
  RunE
  Proofs.Tryd.prog
  Ev
  18
  [Value.slice
  o18
  k43
  k44,
  Value.slice
  o19
  k45
  k46]
  w57
  fun
  (v16 :
  Value)
  (w58 :
  World) =>
  ∃
  (b7
  :
  Bool),
  v16 =
  Value.bool
  b7 ∧
  br
  b7
  (∃
  (o20
  :
  Option
  Addr),
  ∃
  (k47
  :
  Nat),
  ∃
  (k48
  :
  Nat),
  World.cell?
  w58
  (Addr.mk
  k32
  0
  none) =
  some
  (Value.slice
  o20
  k47
  k48) ∧
  ∃
  (o21
  :
  Option
  Addr),
  ∃
  (k49
  :
  Nat),
  ∃
  (k50
  :
  Nat),
  World.cell?
  w58
  (Addr.mk
  k4
  0
  none) =
  some
  (Value.slice
  o21
  k49
  k50) ∧
  RunE
  Proofs.Tryd.prog
  Ev
  18
  [Value.slice
  o20
  k47
  k48,
  Value.slice
  o21
  k49
  k50]
  w58
  fun
  (v17 :
  Value)
  (w59 :
  World) =>
  ∃
  (b8
  :
  Bool),
  v17 =
  Value.bool
  b8 ∧
  br
  b8
  (RunE
  Proofs.Tryd.prog
  Ev
  19
  [Value.pointer
  o1,
  Value.pointer
  o2]
  w59
  fun
  (v18 :
  Value)
  (w60 :
  World) =>
  ∃
  (b9
  :
  Bool),
  v18 =
  Value.bool
  b9 ∧
  st1
  w60
  (Addr.mk
  k1
  0
  none)
  (Value.bool
  b9)
  fun
  (w61 :
  World) =>
  ∃
  (b10
  :
  Bool),
  World.cell?
  w61
  (Addr.mk
  k1
  0
  none) =
  some
  (Value.bool
  b10) ∧
  ∀
  (w62 :
  World),
  hp
  w62 =
  hp
  w61 →
  R
  (Value.bool
  b10)
  w62)
  (st1
  w59
  (Addr.mk
  k1
  0
  none)
  (Value.bool
  false)
  fun
  (w63 :
  World) =>
  ∃
  (b11
  :
  Bool),
  World.cell?
  w63
  (Addr.mk
  k1
  0
  none) =
  some
  (Value.bool
  b11) ∧
  ∀
  (w64 :
  World),
  hp
  w64 =
  hp
  w63 →
  R
  (Value.bool
  b11)
  w64))
  (st1
  w58
  (Addr.mk
  k1
  0
  none)
  (Value.bool
  false)
  fun
  (w65 :
  World) =>
  ∃
  (b12
  :
  Bool),
  World.cell?
  w65
  (Addr.mk
  k1
  0
  none) =
  some
  (Value.bool
  b12) ∧
  ∀
  (w66 :
  World),
  hp
  w66 =
  hp
  w65 →
  R
  (Value.bool
  b12)
  w66))
  (st1
  w57
  (Addr.mk
  k1
  0
  none)
  (Value.bool
  false)
  fun
  (w67 :
  World) =>
  ∃
  (b13
  :
  Bool),
  World.cell?
  w67
  (Addr.mk
  k1
  0
  none) =
  some
  (Value.bool
  b13) ∧
  ∀
  (w68 :
  World),
  hp
  w68 =
  hp
  w67 →
  R
  (Value.bool
  b13)
  w68)) ∧
  (∀
  (w69 :
  World),
  St
  w69
  (x32 ::
  x30 ::
  x33) →
  ∃
  (b14
  :
  Bool),
  World.cell?
  w69
  (Addr.mk
  k1
  0
  none) =
  some
  (Value.bool
  b14) ∧
  ∀
  (w70 :
  World),
  hp
  w70 =
  hp
  w69 →
  R
  (Value.bool
  b14)
  w70) ∧
  True)) ∧
  (∀
  (w71 :
  World),
  St
  w71
  (x22 ::
  x20 ::
  x23) →
  ∃
  (b15
  :
  Bool),
  World.cell?
  w71
  (Addr.mk
  k1
  0
  none) =
  some
  (Value.bool
  b15) ∧
  ∀
  (w72 :
  World),
  hp
  w72 =
  hp
  w71 →
  R
  (Value.bool
  b15)
  w72) ∧
  True))))))
set_option maxRecDepth 100000 in
theorem run_presagelaw01_BitsGoes (p0size : Int) (p1la : Option Addr) (p1ll : Nat) (p1lc : Nat) (p2morea : Option Addr) (p2morel : Nat) (p2morec : Nat) (p3stop : Int) (w : World) (R : Value → World → Prop) (h : vc_presagelaw01_BitsGoes p0size p1la p1ll p1lc p2morea p2morel p2morec p3stop w R) : Run Tryd.prog 3 [(.int .i64 p0size), (.slice p1la p1ll p1lc), (.slice p2morea p2morel p2morec), (.int .i64 p3stop)] w R :=
  run_ev tyOk fnOk mixed Tryd.func3 ann_presagelaw01_BitsGoes ((by kernel_rfl : fnV Tryd.prog Ty Fn Ev ann_presagelaw01_BitsGoes Tryd.f3 [(.int .i64 p0size), (.slice p1la p1ll p1lc), (.slice p2morea p2morel p2morec), (.int .i64 p3stop)] w R = vc_presagelaw01_BitsGoes p0size p1la p1ll p1lc p2morea p2morel p2morec p3stop w R) ▸ h)

/- presage/presagelaw01.BitsPlays -/
abbrev n_presagelaw01_BitsPlays : FuncId := 4
def ann_presagelaw01_BitsPlays : Ann := { rngs := [], loops := [(5, [(4, (.one (.int .i64)))]), (11, [(5, (.one (.int .i64)))])], joins := [], blocks := [] }
def vc_presagelaw01_BitsPlays (p0scripta : Option Addr) (p0scriptl : Nat) (p0scriptc : Nat) (w : World) (R : Value → World → Prop) : Prop :=
  RunE Proofs.Tryd.prog Ev 7 [] w fun (v1 : Value) (w1 : World) =>
  ∃ (b1 : Bool),
  v1 = Value.bool b1 ∧
  br (!b1) (R (Value.bool false) w1)
  (new w1 (Obj.cells (Array.mk [Value.slice none 0 0, Value.slice none 0 0]) 43) fun (k1 : Nat) (w2 : World) =>
  ∃ (x1 : arrS (shs [(4, S1.one (Cs.int IntKind.i64))]) (World → Prop)),
  ∃ (x2 : arrS (shs [(4, S1.one (Cs.int IntKind.i64))]) (World → Nat)),
  x1 0 w2 ∧
  ∀ (I1 : Nat → Value) (n1 : Int) (w3 : World),
  x1 n1 w3 →
  br (decide (n1 < (↑p0scriptl : Int)))
  (∃ (o1 : Option Addr),
  ∃ (k2 : Nat),
  ∃ (k3 : Nat),
  World.cell? w3 (Addr.mk k1 0 none) = some (Value.slice o1 k2 k3) ∧
  br (decide (64 ≤ (↑k2 : Int)))
  (idx p0scripta p0scriptl n1 4 fun (a1 : Addr) =>
  ∃ (n2 : Int),
  World.cell? w3 a1 = some (Value.int IntKind.i64 n2) ∧
  nz 8 ∧
  br (Int.tmod n2 8 == 0) (inI (n1 + 1) ∧ x1 (n1 + 1) w3 ∧ x2 (n1 + 1) w3 < x2 n1 w3)
  (idx p0scripta p0scriptl n1 4 fun (a2 : Addr) =>
  ∃ (n3 : Int),
  World.cell? w3 a2 = some (Value.int IntKind.i64 n3) ∧
  nz 8 ∧
  br (Int.tmod n3 8 == 6) (inI (n1 + 1) ∧ x1 (n1 + 1) w3 ∧ x2 (n1 + 1) w3 < x2 n1 w3)
  (idx p0scripta p0scriptl n1 4 fun (a3 : Addr) =>
  ∃ (n4 : Int),
  World.cell? w3 a3 = some (Value.int IntKind.i64 n4) ∧
  nz 8 ∧
  br (Int.tmod n4 8 == -6) (inI (n1 + 1) ∧ x1 (n1 + 1) w3 ∧ x2 (n1 + 1) w3 < x2 n1 w3)
  (idx p0scripta p0scriptl n1 4 fun (a4 : Addr) =>
  ∃ (n5 : Int),
  ∃ (n6 : Int),
  ∃ (n7 : Int),
  ∃ (o2 : Option Addr),
  ∃ (k4 : Nat),
  ∃ (k5 : Nat),
  V.rowAt w3 a4 0 4 =
  some
  [Value.int IntKind.i64 n5, Value.int IntKind.i64 n6, Value.int IntKind.i64 n7,
  Value.slice o2 k4 k5] ∧
  RunE Proofs.Tryd.prog Ev 20
  [Value.pointer (some (Addr.mk k1 0 none)),
  Value.agg
  (Array.mk
  [Value.int IntKind.i64 n5, Value.int IntKind.i64 n6, Value.int IntKind.i64 n7,
  Value.slice o2 k4 k5])]
  w3 fun (v2 : Value) (w4 : World) =>
  ∃ (b2 : Bool),
  v2 = Value.bool b2 ∧
  br (!b2) (R (Value.bool false) w4)
  (inI (n1 + 1) ∧ x1 (n1 + 1) w4 ∧ x2 (n1 + 1) w4 < x2 n1 w3)))))
  (idx p0scripta p0scriptl n1 4 fun (a5 : Addr) =>
  ∃ (n8 : Int),
  ∃ (n9 : Int),
  ∃ (n10 : Int),
  ∃ (o3 : Option Addr),
  ∃ (k6 : Nat),
  ∃ (k7 : Nat),
  V.rowAt w3 a5 0 4 = some [Value.int IntKind.i64 n8, Value.int IntKind.i64 n9, Value.int IntKind.i64 n10, Value.slice o3 k6 k7] ∧
  RunE Proofs.Tryd.prog Ev 20
  [Value.pointer (some (Addr.mk k1 0 none)),
  Value.agg (Array.mk [Value.int IntKind.i64 n8, Value.int IntKind.i64 n9, Value.int IntKind.i64 n10, Value.slice o3 k6 k7])]
  w3 fun (v3 : Value) (w5 : World) =>
  ∃ (b3 : Bool),
  v3 = Value.bool b3 ∧ br (!b3) (R (Value.bool false) w5) (inI (n1 + 1) ∧ x1 (n1 + 1) w5 ∧ x2 (n1 + 1) w5 < x2 n1 w3)))
  (∃ (x3 : arrS (shs [(5, S1.one (Cs.int IntKind.i64))]) (World → Prop)),
  ∃ (x4 : arrS (shs [(5, S1.one (Cs.int IntKind.i64))]) (World → Nat)),
  x3 0 w3 ∧
  ∀ (I2 : Nat → Value) (n11 : Int) (w6 : World),
  x3 n11 w6 →
  ∃ (o4 : Option Addr),
  ∃ (k8 : Nat),
  ∃ (k9 : Nat),
  World.cell? w6 (Addr.mk k1 0 none) = some (Value.slice o4 k8 k9) ∧
  br (decide (n11 < (↑k8 : Int)))
  (∀ (w7 : World),
  drawn w6 w7 →
  ∃ (I3 : World → Prop),
  I3 w7 ∧
  ∃ (o5 : Option Addr),
  ∃ (k10 : Nat),
  ∃ (k11 : Nat),
  (∀ (w8 : World), I3 w8 → World.cell? w8 (Addr.mk k1 0 none) = some (Value.slice o5 k10 k11)) ∧
  idx o5 k10 n11 1 fun (a6 : Addr) =>
  ∃ (o6 : Option Addr),
  (∀ (w9 : World), I3 w9 → World.cell? w9 a6 = some (Value.pointer o6)) ∧
  ∃ (o7 : Option Addr),
  ∃ (k12 : Nat),
  ∃ (k13 : Nat),
  (∀ (w10 : World), I3 w10 → World.cell? w10 (Addr.add (Addr.mk k1 0 none) 1) = some (Value.slice o7 k12 k13)) ∧
  idx o7 k12 n11 1 fun (a7 : Addr) =>
  ∃ (o8 : Option Addr),
  (∀ (w11 : World), I3 w11 → World.cell? w11 a7 = some (Value.pointer o8)) ∧
  RunE Proofs.Tryd.prog Ev 19 [Value.pointer o6, Value.pointer o8] w7 fun (v4 : Value) (w12 : World) =>
  ∃ (b4 : Bool),
  v4 = Value.bool b4 ∧
  I3 w12 ∧
  br (!b4) (R (Value.bool false) w12)
  (inI (n11 + 1) ∧ x3 (n11 + 1) w12 ∧ x4 (n11 + 1) w12 < x4 n11 w6))
  (R (Value.bool true) w6)))
set_option maxRecDepth 100000 in
theorem run_presagelaw01_BitsPlays (p0scripta : Option Addr) (p0scriptl : Nat) (p0scriptc : Nat) (w : World) (R : Value → World → Prop) (h : vc_presagelaw01_BitsPlays p0scripta p0scriptl p0scriptc w R) : Run Tryd.prog 4 [(.slice p0scripta p0scriptl p0scriptc)] w R :=
  run_ev tyOk fnOk mixed Tryd.func4 ann_presagelaw01_BitsPlays ((by kernel_rfl : fnV Tryd.prog Ty Fn Ev ann_presagelaw01_BitsPlays Tryd.f4 [(.slice p0scripta p0scriptl p0scriptc)] w R = vc_presagelaw01_BitsPlays p0scripta p0scriptl p0scriptc w R) ▸ h)

/- presage/presagelaw01.BitsUnions -/
abbrev n_presagelaw01_BitsUnions : FuncId := 5
def ann_presagelaw01_BitsUnions : Ann := { rngs := [], loops := [(18, [(97, (.one (.int .i64)))])], joins := [(7, [(40, (.one .bool))]), (11, [(50, (.one .bool))]), (16, [(93, (.one .bool))]), (28, [(152, (.one .bool))])], blocks := [] }
def vc_presagelaw01_BitsUnions (p0size : Int) (p1aa : Option Addr) (p1al : Nat) (p1ac : Nat) (p2ba : Option Addr) (p2bl : Nat) (p2bc : Nat) (p3ca : Option Addr) (p3cl : Nat) (p3cc : Nat) (w : World) (R : Value → World → Prop) : Prop :=
  RunE Proofs.Tryd.prog Ev 7 [] w fun (v1 : Value) (w1 : World) =>
  ∃ (b1 : Bool),
  v1 = Value.bool b1 ∧
  br (!b1) (R (Value.bool false) w1)
  (RunE Proofs.Tryd.prog Ev 8 [Value.int IntKind.i64 p0size, Value.slice p1aa p1al p1ac] w1 fun (v2 : Value) (w2 : World) =>
  ∃ (o1 : Option Addr),
  v2 = Value.pointer o1 ∧
  RunE Proofs.Tryd.prog Ev 8 [Value.int IntKind.i64 p0size, Value.slice p2ba p2bl p2bc] w2 fun (v3 : Value) (w3 : World) =>
  ∃ (o2 : Option Addr),
  v3 = Value.pointer o2 ∧
  RunE Proofs.Tryd.prog Ev 8 [Value.int IntKind.i64 p0size, Value.slice p3ca p3cl p3cc] w3 fun (v4 : Value) (w4 : World) =>
  ∃ (o3 : Option Addr),
  v4 = Value.pointer o3 ∧
  ∃ (x1 : arrS (shs [(40, S1.one Cs.bool)]) (World → Prop)),
  br (Option.isNone o1) (x1 true w4) (br (Option.isNone o2) (x1 true w4) (x1 (Option.isNone o3) w4)) ∧
  ∀ (I1 : Nat → Value) (b2 : Bool) (w5 : World),
  x1 b2 w5 →
  br b2 (R (Value.bool false) w5)
  (RunE Proofs.Tryd.prog Ev 21 [Value.pointer o1] w5 fun (v5 : Value) (w6 : World) =>
  ∃ (o4 : Option Addr),
  v5 = Value.pointer o4 ∧
  RunE Proofs.Tryd.prog Ev 21 [Value.pointer o3] w6 fun (v6 : Value) (w7 : World) =>
  ∃ (o5 : Option Addr),
  v6 = Value.pointer o5 ∧
  ∃ (x2 : arrS (shs [(50, S1.one Cs.bool)]) (World → Prop)),
  br (Option.isNone o4) (x2 true w7) (x2 (Option.isNone o5) w7) ∧
  ∀ (I2 : Nat → Value) (b3 : Bool) (w8 : World),
  x2 b3 w8 →
  br b3 (R (Value.bool false) w8)
  (new w8 (Obj.cells (Array.mk [Value.pointer o2, Value.pointer o3]) 24) fun (k1 : Nat) (w9 : World) =>
  RunE Proofs.Tryd.prog Ev 22 [Value.pointer o4, Value.slice (some (Addr.mk k1 0 none)) 2 2] w9
  fun (v7 : Value) (w10 : World) =>
  ∃ (n1 : Int),
  v7 = Value.int IntKind.i64 n1 ∧
  new w10 (Obj.cells (Array.mk [Value.pointer o2]) 24) fun (k2 : Nat) (w11 : World) =>
  RunE Proofs.Tryd.prog Ev 22 [Value.pointer o5, Value.slice (some (Addr.mk k2 0 none)) 1 1] w11
  fun (v8 : Value) (w12 : World) =>
  ∃ (n2 : Int),
  v8 = Value.int IntKind.i64 n2 ∧
  new w12 (Obj.cells (Array.mk [Value.pointer o1, Value.pointer o1, Value.pointer none]) 24)
  fun (k3 : Nat) (w13 : World) =>
  RunE Proofs.Tryd.prog Ev 22 [Value.pointer o5, Value.slice (some (Addr.mk k3 0 none)) 3 3] w13
  fun (v9 : Value) (w14 : World) =>
  ∃ (n3 : Int),
  v9 = Value.int IntKind.i64 n3 ∧
  ∃ (x3 : arrS (shs [(93, S1.one Cs.bool)]) (World → Prop)),
  (RunE Proofs.Tryd.prog Ev 23 [Value.pointer o4, Value.pointer o5] w14
  fun (v10 : Value) (w15 : World) =>
  ∃ (b4 : Bool),
  v10 = Value.bool b4 ∧
  br (!b4) (x3 true w15)
  (RunE Proofs.Tryd.prog Ev 23 [Value.pointer o5, Value.pointer o4] w15
  fun (v11 : Value) (w16 : World) =>
  ∃ (b5 : Bool),
  v11 = Value.bool b5 ∧
  br (!b5) (x3 true w16)
  (new w16
  (Obj.cells
  (Array.mk
  [Value.pointer o2, Value.pointer o4, Value.pointer o3,
  Value.pointer o1])
  24)
  fun (k4 : Nat) (w17 : World) =>
  RunE Proofs.Tryd.prog Ev 22
  [Value.pointer o4, Value.slice (some (Addr.mk k4 0 none)) 4 4] w17
  fun (v12 : Value) (w18 : World) =>
  ∃ (n4 : Int),
  v12 = Value.int IntKind.i64 n4 ∧
  br (n4 != 0) (x3 true w18)
  (RunE Proofs.Tryd.prog Ev 24 [Value.pointer o4] w18
  fun (v13 : Value) (w19 : World) =>
  ∃ (n5 : Int),
  v13 = Value.int IntKind.i64 n5 ∧
  RunE Proofs.Tryd.prog Ev 24 [Value.pointer o1] w19
  fun (v14 : Value) (w20 : World) =>
  ∃ (n6 : Int),
  v14 = Value.int IntKind.i64 n6 ∧
  inI (n6 + n1) ∧ x3 (n5 != n6 + n1) w20)))) ∧
  ∀ (I3 : Nat → Value) (b6 : Bool) (w21 : World),
  x3 b6 w21 →
  br b6 (R (Value.bool false) w21)
  (RunE Proofs.Tryd.prog Ev 12 [Value.pointer o1] w21 fun (v15 : Value) (w22 : World) =>
  ∃ (o6 : Option Addr),
  ∃ (k5 : Nat),
  ∃ (k6 : Nat),
  v15 = Value.slice o6 k5 k6 ∧
  ∃ (x4 : arrS (shs [(97, S1.one (Cs.int IntKind.i64))]) (World → Prop)),
  ∃ (x5 : arrS (shs [(97, S1.one (Cs.int IntKind.i64))]) (World → Nat)),
  x4 0 w22 ∧
  ∀ (I4 : Nat → Value) (n7 : Int) (w23 : World),
  x4 n7 w23 →
  br (decide (n7 < (↑k5 : Int)))
  (idx o6 k5 n7 1 fun (a1 : Addr) =>
  ∃ (n8 : Int),
  World.cell? w23 a1 = some (Value.int IntKind.i64 n8) ∧
  RunE Proofs.Tryd.prog Ev 25
  [Value.pointer o4, Value.int IntKind.i64 n8] w23
  fun (v16 : Value) (w24 : World) =>
  ∃ (b7 : Bool),
  v16 = Value.bool b7 ∧
  br (!b7) (R (Value.bool false) w24)
  (RunE Proofs.Tryd.prog Ev 25
  [Value.pointer o1, Value.int IntKind.i64 n8] w24
  fun (v17 : Value) (w25 : World) =>
  ∃ (b8 : Bool),
  v17 = Value.bool b8 ∧
  br (!b8) (R (Value.bool false) w25)
  (inI (n7 + 1) ∧
  x4 (n7 + 1) w25 ∧
  x5 (n7 + 1) w25 < x5 n7 w23)))
  (RunE Proofs.Tryd.prog Ev 21 [Value.pointer o1] w23
  fun (v18 : Value) (w26 : World) =>
  ∃ (o7 : Option Addr),
  v18 = Value.pointer o7 ∧
  br (Option.isNone o7) (R (Value.bool false) w26)
  (RunE Proofs.Tryd.prog Ev 12 [Value.pointer o2] w26
  fun (v19 : Value) (w27 : World) =>
  ∃ (o8 : Option Addr),
  ∃ (k7 : Nat),
  ∃ (k8 : Nat),
  v19 = Value.slice o8 k7 k8 ∧
  RunE Proofs.Tryd.prog Ev 14
  [Value.pointer o7, Value.slice o8 k7 k8] w27
  fun (v20 : Value) (w28 : World) =>
  ∃ (n9 : Int),
  v20 = Value.int IntKind.i64 n9 ∧
  ∃ (x6 :
  arrS (shs [(152, S1.one Cs.bool)])
  (World → Prop)),
  (new w28
  (Obj.cells
  (Array.mk [Value.pointer o2]) 24)
  fun (k9 : Nat) (w29 : World) =>
  RunE Proofs.Tryd.prog Ev 26
  [Value.pointer o1,
  Value.slice
  (some (Addr.mk k9 0 none)) 1
  1]
  w29
  fun (v21 : Value) (w30 : World) =>
  ∃ (b9 : Bool),
  v21 = Value.bool b9 ∧
  br (!decide (0 < n9) == b9)
  (x6 true w30)
  (new w30
  (Obj.cells
  (Array.mk
  [Value.pointer o1])
  24)
  fun (k10 : Nat)
  (w31 : World) =>
  RunE Proofs.Tryd.prog Ev
  26
  [Value.pointer o2,
  Value.slice
  (some
  (Addr.mk k10 0
  none))
  1 1]
  w31
  fun (v22 : Value)
  (w32 : World) =>
  ∃ (b10 : Bool),
  v22 = Value.bool b10 ∧
  new w32
  (Obj.cells
  (Array.mk
  [Value.pointer
  o2])
  24)
  fun (k11 : Nat)
  (w33 : World) =>
  RunE
  Proofs.Tryd.prog
  Ev 26
  [Value.pointer
  o1,
  Value.slice
  (some
  (Addr.mk
  k11 0
  none))
  1 1]
  w33
  fun
  (v23 : Value)
  (w34 :
  World) =>
  ∃ (b11 : Bool),
  v23 =
  Value.bool
  b11 ∧
  br
  (!b10 ==
  b11)
  (x6 true
  w34)
  (new w34
  (Obj.cells
  (Array.mk
  [Value.pointer
  o2])
  24)
  fun
  (k12 :
  Nat)
  (w35 :
  World) =>
  RunE
  Proofs.Tryd.prog
  Ev 26
  [Value.pointer
  o7,
  Value.slice
  (some
  (Addr.mk
  k12
  0
  none))
  1
  1]
  w35
  fun
  (v24 :
  Value)
  (w36 :
  World) =>
  ∃ (b12
  :
  Bool),
  v24 =
  Value.bool
  b12 ∧
  br
  b12
  (x6
  true
  w36)
  (RunE
  Proofs.Tryd.prog
  Ev
  24
  [Value.pointer
  o7]
  w36
  fun
  (v25 :
  Value)
  (w37 :
  World) =>
  ∃
  (n10
  :
  Int),
  v25 =
  Value.int
  IntKind.i64
  n10 ∧
  inI
  (n10 +
  n9) ∧
  RunE
  Proofs.Tryd.prog
  Ev
  24
  [Value.pointer
  o1]
  w37
  fun
  (v26 :
  Value)
  (w38 :
  World) =>
  ∃
  (n11
  :
  Int),
  v26 =
  Value.int
  IntKind.i64
  n11 ∧
  x6
  (n10 +
  n9 !=
  n11)
  w38)))) ∧
  ∀ (I5 : Nat → Value) (b13 : Bool)
  (w39 : World),
  x6 b13 w39 →
  br b13 (R (Value.bool false) w39)
  (new w39
  (Obj.cells
  (Array.mk
  [Value.pointer o2])
  24)
  fun (k13 : Nat)
  (w40 : World) =>
  RunE Proofs.Tryd.prog Ev 22
  [Value.pointer o7,
  Value.slice
  (some
  (Addr.mk k13 0 none))
  1 1]
  w40
  fun (v27 : Value)
  (w41 : World) =>
  ∃ (n12 : Int),
  v27 =
  Value.int IntKind.i64
  n12 ∧
  RunE Proofs.Tryd.prog Ev
  21 [Value.pointer o1]
  w41
  fun (v28 : Value)
  (w42 : World) =>
  ∃ (o9 : Option Addr),
  v28 =
  Value.pointer
  o9 ∧
  br
  (Option.isNone
  o9)
  (R
  (Value.bool
  false)
  w42)
  (new w42
  (Obj.cells
  (Array.mk
  [Value.pointer
  o2])
  24)
  fun
  (k14 : Nat)
  (w43 :
  World) =>
  RunE
  Proofs.Tryd.prog
  Ev 22
  [Value.pointer
  o9,
  Value.slice
  (some
  (Addr.mk
  k14
  0
  none))
  1 1]
  w43
  fun
  (v29 :
  Value)
  (w44 :
  World) =>
  ∃ (n13 :
  Int),
  v29 =
  Value.int
  IntKind.i64
  n13 ∧
  RunE
  Proofs.Tryd.prog
  Ev 23
  [Value.pointer
  o7,
  Value.pointer
  o9]
  w44
  fun
  (v30 :
  Value)
  (w45 :
  World) =>
  ∃ (b14
  :
  Bool),
  v30 =
  Value.bool
  b14 ∧
  br
  b14
  (RunE
  Proofs.Tryd.prog
  Ev
  26
  [Value.pointer
  o1,
  Value.slice
  none
  0
  0]
  w45
  fun
  (v31 :
  Value)
  (w46 :
  World) =>
  ∃
  (b15
  :
  Bool),
  v31 =
  Value.bool
  b15 ∧
  RunE
  Proofs.Tryd.prog
  Ev
  24
  [Value.pointer
  o1]
  w46
  fun
  (v32 :
  Value)
  (w47 :
  World) =>
  ∃
  (n14
  :
  Int),
  v32 =
  Value.int
  IntKind.i64
  n14 ∧
  br
  (b15 ==
  decide
  (0 <
  n14))
  (new
  w47
  (Obj.cells
  (Array.mk
  [Value.pointer
  o1,
  Value.pointer
  o4])
  24)
  fun
  (k15 :
  Nat)
  (w48 :
  World) =>
  RunE
  Proofs.Tryd.prog
  Ev
  26
  [Value.pointer
  o1,
  Value.slice
  (some
  (Addr.mk
  k15
  0
  none))
  2
  2]
  w48
  fun
  (v33 :
  Value)
  (w49 :
  World) =>
  ∃
  (b16
  :
  Bool),
  v33 =
  Value.bool
  b16 ∧
  RunE
  Proofs.Tryd.prog
  Ev
  26
  [Value.pointer
  o1,
  Value.slice
  none
  0
  0]
  w49
  fun
  (v34 :
  Value)
  (w50 :
  World) =>
  ∃
  (b17
  :
  Bool),
  v34 =
  Value.bool
  b17 ∧
  R
  (Value.bool
  (b16 ==
  b17))
  w50)
  (R
  (Value.bool
  false)
  w47))
  (R
  (Value.bool
  false)
  w45)))))))))
set_option maxRecDepth 100000 in
theorem run_presagelaw01_BitsUnions (p0size : Int) (p1aa : Option Addr) (p1al : Nat) (p1ac : Nat) (p2ba : Option Addr) (p2bl : Nat) (p2bc : Nat) (p3ca : Option Addr) (p3cl : Nat) (p3cc : Nat) (w : World) (R : Value → World → Prop) (h : vc_presagelaw01_BitsUnions p0size p1aa p1al p1ac p2ba p2bl p2bc p3ca p3cl p3cc w R) : Run Tryd.prog 5 [(.int .i64 p0size), (.slice p1aa p1al p1ac), (.slice p2ba p2bl p2bc), (.slice p3ca p3cl p3cc)] w R :=
  run_ev tyOk fnOk mixed Tryd.func5 ann_presagelaw01_BitsUnions ((by kernel_rfl : fnV Tryd.prog Ty Fn Ev ann_presagelaw01_BitsUnions Tryd.f5 [(.int .i64 p0size), (.slice p1aa p1al p1ac), (.slice p2ba p2bl p2bc), (.slice p3ca p3cl p3cc)] w R = vc_presagelaw01_BitsUnions p0size p1aa p1al p1ac p2ba p2bl p2bc p3ca p3cl p3cc w R) ▸ h)

/- presage/presagelaw01.BitsNothing -/
abbrev n_presagelaw01_BitsNothing : FuncId := 6
def ann_presagelaw01_BitsNothing : Ann := { rngs := [(18, [(137, (.one (.int .i64)))])], loops := [(8, [(9, (.one (.int .i64)))])], joins := [(12, [(114, (.one .bool))]), (16, [(135, (.one .bool))])], blocks := [] }
def vc_presagelaw01_BitsNothing (p0la : Option Addr) (p0ll : Nat) (p0lc : Nat) (p1n : Int) (w : World) (R : Value → World → Prop) : Prop :=
  new w (Obj.cells (Array.mk [Value.bool false]) 4) fun (k1 : Nat) (w1 : World) =>
  RunE Proofs.Tryd.prog Ev 7 [] w1 fun (v1 : Value) (w2 : World) =>
  ∃ (b1 : Bool),
  v1 = Value.bool b1 ∧
  br (!b1)
  (st1 w2 (Addr.mk k1 0 none) (Value.bool false) fun (w3 : World) =>
  ∃ (b2 : Bool), World.cell? w3 (Addr.mk k1 0 none) = some (Value.bool b2) ∧ ∀ (w4 : World), hp w4 = hp w3 → R (Value.bool b2) w4)
  (new w2 (Obj.cells (Array.mk [Value.slice none 0 0, Value.int IntKind.i64 0]) 58) fun (k2 : Nat) (w5 : World) =>
  RunE Proofs.Tryd.prog Ev 8 [Value.int IntKind.i64 (↑p0ll : Int), Value.slice p0la p0ll p0lc] w5 fun (v2 : Value) (w6 : World) =>
  ∃ (o1 : Option Addr),
  v2 = Value.pointer o1 ∧
  new w6 (Obj.cells (Array.mk [Value.pointer none, Value.pointer (some (Addr.mk k2 0 none))]) 24) fun (k3 : Nat) (w7 : World) =>
  ∃ (x1 : arrS (shs [(9, S1.one (Cs.int IntKind.i64))]) (World → Prop)),
  ∃ (x2 : arrS (shs [(9, S1.one (Cs.int IntKind.i64))]) (World → Nat)),
  x1 0 w7 ∧
  ∀ (I1 : Nat → Value) (n1 : Int) (w8 : World),
  x1 n1 w8 →
  br (decide (n1 < (↑2 : Int)))
  (idx (some (Addr.mk k3 0 none)) 2 n1 1 fun (a1 : Addr) =>
  ∃ (o2 : Option Addr),
  World.cell? w8 a1 = some (Value.pointer o2) ∧
  ∃ (x3 : arrS (shs [(114, S1.one Cs.bool)]) (World → Prop)),
  (RunE Proofs.Tryd.prog Ev 13 [Value.pointer o2, Value.slice p0la p0ll p0lc] w8 fun (v3 : Value) (w9 : World) =>
  ∃ (n2 : Int),
  v3 = Value.int IntKind.i64 n2 ∧
  br (n2 != 0) (x3 true w9)
  (RunE Proofs.Tryd.prog Ev 14 [Value.pointer o2, Value.slice p0la p0ll p0lc] w9 fun (v4 : Value) (w10 : World) =>
  ∃ (n3 : Int),
  v4 = Value.int IntKind.i64 n3 ∧
  br (n3 != 0) (x3 true w10)
  (new w10 (Obj.cells (Array.mk [Value.pointer o1, Value.pointer o2]) 24) fun (k4 : Nat) (w11 : World) =>
  RunE Proofs.Tryd.prog Ev 22 [Value.pointer o2, Value.slice (some (Addr.mk k4 0 none)) 2 2] w11
  fun (v5 : Value) (w12 : World) =>
  ∃ (n4 : Int),
  v5 = Value.int IntKind.i64 n4 ∧
  br (n4 != 0) (x3 true w12)
  (RunE Proofs.Tryd.prog Ev 27 [Value.pointer o2] w12 fun (v6 : Value) (w13 : World) =>
  ∃ (n5 : Int),
  v6 = Value.int IntKind.i64 n5 ∧
  br (n5 != 0) (x3 true w13)
  (RunE Proofs.Tryd.prog Ev 24 [Value.pointer o2] w13 fun (v7 : Value) (w14 : World) =>
  ∃ (n6 : Int),
  v7 = Value.int IntKind.i64 n6 ∧
  br (n6 != 0) (x3 true w14)
  (RunE Proofs.Tryd.prog Ev 25 [Value.pointer o2, Value.int IntKind.i64 p1n] w14
  fun (v8 : Value) (w15 : World) =>
  ∃ (b3 : Bool),
  v8 = Value.bool b3 ∧
  br b3 (x3 true w15)
  (RunE Proofs.Tryd.prog Ev 26 [Value.pointer o2, Value.slice none 0 0] w15
  fun (v9 : Value) (w16 : World) =>
  ∃ (b4 : Bool),
  v9 = Value.bool b4 ∧
  br b4 (x3 true w16)
  (new w16 (Obj.cells (Array.mk [Value.pointer o1]) 24)
  fun (k5 : Nat) (w17 : World) =>
  RunE Proofs.Tryd.prog Ev 26
  [Value.pointer o2, Value.slice (some (Addr.mk k5 0 none)) 1 1] w17
  fun (v10 : Value) (w18 : World) =>
  ∃ (b5 : Bool),
  v10 = Value.bool b5 ∧
  br b5 (x3 true w18)
  (new w18 (Obj.cells (Array.mk [Value.pointer o2]) 24)
  fun (k6 : Nat) (w19 : World) =>
  RunE Proofs.Tryd.prog Ev 26
  [Value.pointer o1, Value.slice (some (Addr.mk k6 0 none)) 1 1] w19
  fun (v11 : Value) (w20 : World) =>
  ∃ (b6 : Bool),
  v11 = Value.bool b6 ∧
  br b6 (x3 true w20)
  (RunE Proofs.Tryd.prog Ev 12 [Value.pointer o2] w20
  fun (v12 : Value) (w21 : World) =>
  ∃ (o3 : Option Addr),
  ∃ (k7 : Nat),
  ∃ (k8 : Nat),
  v12 = Value.slice o3 k7 k8 ∧
  br ((↑k7 : Int) != 0) (x3 true w21)
  (RunE Proofs.Tryd.prog Ev 23
  [Value.pointer o2, Value.pointer none] w21
  fun (v13 : Value) (w22 : World) =>
  ∃ (b7 : Bool),
  v13 = Value.bool b7 ∧
  br (!b7) (x3 true w22)
  (RunE Proofs.Tryd.prog Ev 23
  [Value.pointer o2,
  Value.pointer
  (some (Addr.mk k2 0 none))]
  w22 fun (v14 : Value) (w23 : World) =>
  ∃ (b8 : Bool),
  v14 = Value.bool b8 ∧
  br (!b8) (x3 true w23)
  (RunE Proofs.Tryd.prog Ev 23
  [Value.pointer
  (some
  (Addr.mk k2 0 none)),
  Value.pointer o2]
  w23
  fun (v15 : Value)
  (w24 : World) =>
  ∃ (b9 : Bool),
  v15 = Value.bool b9 ∧
  br (!b9) (x3 true w24)
  (RunE Proofs.Tryd.prog
  Ev 23
  [Value.pointer o2,
  Value.pointer o1]
  w24
  fun (v16 : Value)
  (w25 : World) =>
  ∃ (b10 : Bool),
  v16 =
  Value.bool b10 ∧
  x3
  (!b10 ==
  ((↑p0ll :
  Int) ==
  0))
  w25)))))))))))))) ∧
  ∀ (I2 : Nat → Value) (b11 : Bool) (w26 : World),
  x3 b11 w26 →
  br b11
  (st1 w26 (Addr.mk k1 0 none) (Value.bool false) fun (w27 : World) =>
  ∃ (b12 : Bool),
  World.cell? w27 (Addr.mk k1 0 none) = some (Value.bool b12) ∧ ∀ (w28 : World), hp w28 = hp w27 → R (Value.bool b12) w28)
  (RunE Proofs.Tryd.prog Ev 21 [Value.pointer o2] w26 fun (v17 : Value) (w29 : World) =>
  ∃ (o4 : Option Addr),
  v17 = Value.pointer o4 ∧
  RunE Proofs.Tryd.prog Ev 11 [Value.pointer o2] w29 fun (v18 : Value) (w30 : World) =>
  ∃ (g1 : FuncId),
  ∃ (x4 : List Value),
  v18 = Value.func (Fn.func g1) (Array.mk []) (Array.mk x4) ∧
  ∃ (x5 : arrS (shs [(135, S1.one Cs.bool)]) (World → Prop)),
  br (Option.isNone o4) (x5 true w30)
  (RunE Proofs.Tryd.prog Ev 23 [Value.pointer o4, Value.pointer o2] w30 fun (v19 : Value) (w31 : World) =>
  ∃ (b13 : Bool),
  v19 = Value.bool b13 ∧
  br (!b13) (x5 true w31)
  (RunE Proofs.Tryd.prog Ev 27 [Value.pointer o4] w31 fun (v20 : Value) (w32 : World) =>
  ∃ (n7 : Int), v20 = Value.int IntKind.i64 n7 ∧ x5 (n7 != 0) w32)) ∧
  ∀ (I3 : Nat → Value) (b14 : Bool) (w33 : World),
  x5 b14 w33 →
  br b14
  (st1 w33 (Addr.mk k1 0 none) (Value.bool false) fun (w34 : World) =>
  ∃ (b15 : Bool),
  World.cell? w34 (Addr.mk k1 0 none) = some (Value.bool b15) ∧
  ∀ (w35 : World), hp w35 = hp w34 → R (Value.bool b15) w35)
  (ifT (Proofs.YtcipljcagejjaaaDoor.Fn g1)
  (∃ (x6 : List (List Value)),
  ∃ (x7 : Asn),
  ∃ (x8 : Asn),
  ∃ (I4 : Nat → Asn),
  ∃ (x9 : Asn),
  ∃ (I5 : Nat → Asn),
  ∃ (x10 : List Asn),
  St w33 (I4 0 :: x7 :: x10) ∧
  (∀ (x11 : Hp), starL x10 x11 → x8 x11) ∧
  Itr Proofs.Tryd.prog g1 [] x4 x7 x8 x6 ∧
  (∀ (x12 : List Value), x12 ∈ x6 → ∃ (n8 : Int), x12 = [Value.int IntKind.i64 n8]) ∧
  (∀ (k9 : Nat) (n9 : Int),
  List.get?Internal x6 k9 = some [Value.int IntKind.i64 n9] →
  ∀ (x13 : List Asn) (w36 : World),
  Sup x13 x10 →
  St w36 (I4 k9 :: x13) →
  ∃ (x14 : Asn),
  St w36 (x14 :: x13) ∧
  ∀ (x15 : List Asn) (w37 : World),
  Sup x15 x10 →
  St w37 (x14 :: x15) →
  st1 w37 (Addr.mk k1 0 none) (Value.bool false)
  fun (w38 : World) => St w38 (x9 :: x15)) ∧
  (∀ (w39 : World),
  St w39 (I4 (List.length x6) :: x7 :: x10) →
  inI (n1 + 1) ∧ x1 (n1 + 1) w39 ∧ x2 (n1 + 1) w39 < x2 n1 w8) ∧
  (∀ (w40 : World),
  St w40 (x9 :: x7 :: x10) →
  ∃ (b16 : Bool),
  World.cell? w40 (Addr.mk k1 0 none) = some (Value.bool b16) ∧
  ∀ (w41 : World), hp w41 = hp w40 → R (Value.bool b16) w41) ∧
  True))))
  (st1 w8 (Addr.mk k1 0 none) (Value.bool true) fun (w42 : World) =>
  ∃ (b17 : Bool), World.cell? w42 (Addr.mk k1 0 none) = some (Value.bool b17) ∧ ∀ (w43 : World), hp w43 = hp w42 → R (Value.bool b17) w43))
set_option maxRecDepth 100000 in
theorem run_presagelaw01_BitsNothing (p0la : Option Addr) (p0ll : Nat) (p0lc : Nat) (p1n : Int) (w : World) (R : Value → World → Prop) (h : vc_presagelaw01_BitsNothing p0la p0ll p0lc p1n w R) : Run Tryd.prog 6 [(.slice p0la p0ll p0lc), (.int .i64 p1n)] w R :=
  run_ev tyOk fnOk mixed Tryd.func6 ann_presagelaw01_BitsNothing ((by kernel_rfl : fnV Tryd.prog Ty Fn Ev ann_presagelaw01_BitsNothing Tryd.f6 [(.slice p0la p0ll p0lc), (.int .i64 p1n)] w R = vc_presagelaw01_BitsNothing p0la p0ll p0lc p1n w R) ▸ h)

/- (*presage/presagelaw01.world).step -/
abbrev n_presagelaw01_world_step : FuncId := 20
def ann_presagelaw01_world_step : Ann := { rngs := [], loops := [], joins := [(2, [(33, (.one .bool))]), (38, []), (13, [(131, (.one .bool))]), (18, [(160, (.one .bool))]), (23, [(189, (.one .bool))]), (28, [(212, (.one .bool))]), (32, [(229, (.one .bool))]), (35, [(251, (.one .bool))])], blocks := [] }
def vc_presagelaw01_world_step (p0w : Option Addr) (p1o_0 : Int) (p1o_1 : Int) (p1o_2 : Int) (p1o_3a : Option Addr) (p1o_3l : Nat) (p1o_3c : Nat) (w : World) (R : Value → World → Prop) : Prop :=
  new w (Obj.cells (Array.mk [Value.int IntKind.i64 p1o_0, Value.int IntKind.i64 p1o_1, Value.int IntKind.i64 p1o_2, Value.slice p1o_3a p1o_3l p1o_3c]) 45)
  fun (k1 : Nat) (w1 : World) =>
  ∃ (x1 : arrS (shs [(33, S1.one Cs.bool)]) (World → Prop)),
  (∃ (n1 : Int),
  World.cell? w1 (Addr.mk k1 0 none) = some (Value.int IntKind.i64 n1) ∧
  nz 8 ∧
  br (Int.tmod n1 8 == 0) (x1 true w1)
  (nn p0w fun (a1 : Addr) => ∃ (o1 : Option Addr), ∃ (k2 : Nat), ∃ (k3 : Nat), World.cell? w1 a1 = some (Value.slice o1 k2 k3) ∧ x1 ((↑k2 : Int) == 0) w1)) ∧
  ∀ (I1 : Nat → Value) (b1 : Bool) (w2 : World),
  x1 b1 w2 →
  br b1
  (∃ (o2 : Option Addr),
  ∃ (k4 : Nat),
  ∃ (k5 : Nat),
  World.cell? w2 (Addr.add (Addr.mk k1 0 none) 3) = some (Value.slice o2 k4 k5) ∧
  RunE Proofs.Tryd.prog Ev 37 [Value.slice o2 k4 k5] w2 fun (v1 : Value) (w3 : World) =>
  ∃ (o3 : Option Addr),
  ∃ (k6 : Nat),
  ∃ (k7 : Nat),
  ∃ (o4 : Option Addr),
  ∃ (k8 : Nat),
  ∃ (k9 : Nat),
  v1 = Value.tuple (Array.mk [Value.slice o3 k6 k7, Value.slice o4 k8 k9]) ∧
  ∀ (w4 : World),
  drawn w3 w4 →
  ∃ (I2 : World → Prop),
  I2 w4 ∧
  nn p0w fun (a2 : Addr) =>
  ∃ (o5 : Option Addr),
  ∃ (k10 : Nat),
  ∃ (k11 : Nat),
  (∀ (w5 : World), I2 w5 → World.cell? w5 a2 = some (Value.slice o5 k10 k11)) ∧
  ∃ (n2 : Int),
  (∀ (w6 : World), I2 w6 → World.cell? w6 (Addr.add (Addr.mk k1 0 none) 1) = some (Value.int IntKind.i64 n2)) ∧
  RunE Proofs.Tryd.prog Ev 8 [Value.int IntKind.i64 n2, Value.slice o3 k6 k7] w4 fun (v2 : Value) (w7 : World) =>
  ∃ (o6 : Option Addr),
  v2 = Value.pointer o6 ∧
  I2 w7 ∧
  new w7 (Obj.cells (Array.mk [Value.pointer o6]) 24) fun (k12 : Nat) (w8 : World) =>
  I2 w8 ∧
  RunS Proofs.Tryd.prog
  (Builtin.append_ (Array.mk [40, 40]) 40
  (Array.mk [Value.slice o5 k10 k11, Value.slice (some (Addr.mk k12 0 none)) 1 1]))
  w8 fun (v3 : Value) (w9 : World) =>
  ∃ (o7 : Option Addr),
  ∃ (k13 : Nat),
  ∃ (k14 : Nat),
  v3 = Value.slice o7 k13 k14 ∧
  I2 w9 ∧
  nn p0w fun (a3 : Addr) =>
  st1 w9 a3 (Value.slice o7 k13 k14) fun (w10 : World) =>
  ∀ (w11 : World),
  drawn w10 w11 →
  ∃ (I3 : World → Prop),
  I3 w11 ∧
  nn p0w fun (a4 : Addr) =>
  ∃ (o8 : Option Addr),
  ∃ (k15 : Nat),
  ∃ (k16 : Nat),
  (∀ (w12 : World),
  I3 w12 →
  World.cell? w12 (Addr.add a4 1) = some (Value.slice o8 k15 k16)) ∧
  ∃ (n3 : Int),
  (∀ (w13 : World),
  I3 w13 →
  World.cell? w13 (Addr.add (Addr.mk k1 0 none) 1) =
  some (Value.int IntKind.i64 n3)) ∧
  ∃ (o9 : Option Addr),
  ∃ (k17 : Nat),
  ∃ (k18 : Nat),
  (∀ (w14 : World),
  I3 w14 →
  World.cell? w14 (Addr.add (Addr.mk k1 0 none) 3) =
  some (Value.slice o9 k17 k18)) ∧
  RunE Proofs.Tryd.prog Ev 9
  [Value.int IntKind.i64 n3, Value.slice o9 k17 k18] w11
  fun (v4 : Value) (w15 : World) =>
  ∃ (o10 : Option Addr),
  v4 = Value.pointer o10 ∧
  I3 w15 ∧
  new w15 (Obj.cells (Array.mk [Value.pointer o10]) 26)
  fun (k19 : Nat) (w16 : World) =>
  I3 w16 ∧
  RunS Proofs.Tryd.prog
  (Builtin.append_ (Array.mk [41, 41]) 41
  (Array.mk
  [Value.slice o8 k15 k16,
  Value.slice (some (Addr.mk k19 0 none)) 1
  1]))
  w16 fun (v5 : Value) (w17 : World) =>
  ∃ (o11 : Option Addr),
  ∃ (k20 : Nat),
  ∃ (k21 : Nat),
  v5 = Value.slice o11 k20 k21 ∧
  I3 w17 ∧
  nn p0w fun (a5 : Addr) =>
  st1 w17 (Addr.add a5 1)
  (Value.slice o11 k20 k21)
  fun (w18 : World) =>
  ∀ (w19 : World),
  drawn w18 w19 →
  ∃ (I4 : World → Prop),
  I4 w19 ∧
  ∃ (o12 : Option Addr),
  ∃ (k22 : Nat),
  ∃ (k23 : Nat),
  (∀ (w20 : World),
  I4 w20 →
  World.cell? w20
  (Addr.add
  (Addr.mk
  k1 0
  none)
  3) =
  some
  (Value.slice
  o12 k22
  k23)) ∧
  RunE
  Proofs.Tryd.prog
  Ev 38
  [Value.slice o4 k8
  k9,
  Value.slice o12
  k22 k23]
  w19
  fun (v6 : Value)
  (w21 : World) =>
  ∃ (b2 : Bool),
  v6 =
  Value.bool
  b2 ∧
  I4 w21 ∧
  br b2
  (nn p0w
  fun
  (a6 :
  Addr) =>
  ∃ (o13 :
  Option
  Addr),
  ∃ (k24
  :
  Nat),
  ∃
  (k25
  :
  Nat),
  (∀
  (w22 :
  World),
  I4
  w22 →
  World.cell?
  w22
  a6 =
  some
  (Value.slice
  o13
  k24
  k25)) ∧
  nn
  p0w
  fun
  (a7 :
  Addr) =>
  ∃
  (o14
  :
  Option
  Addr),
  ∃
  (k26
  :
  Nat),
  ∃
  (k27
  :
  Nat),
  (∀
  (w23 :
  World),
  I4
  w23 →
  World.cell?
  w23
  a7 =
  some
  (Value.slice
  o14
  k26
  k27)) ∧
  inI
  ((↑k26 :
  Int) -
  1) ∧
  idx
  o13
  k24
  ((↑k26 :
  Int) -
  1)
  1
  fun
  (a8 :
  Addr) =>
  ∃
  (o15
  :
  Option
  Addr),
  (∀
  (w24 :
  World),
  I4
  w24 →
  World.cell?
  w24
  a8 =
  some
  (Value.pointer
  o15)) ∧
  nn
  p0w
  fun
  (a9 :
  Addr) =>
  ∃
  (o16
  :
  Option
  Addr),
  ∃
  (k28
  :
  Nat),
  ∃
  (k29
  :
  Nat),
  (∀
  (w25 :
  World),
  I4
  w25 →
  World.cell?
  w25
  (Addr.add
  a9
  1) =
  some
  (Value.slice
  o16
  k28
  k29)) ∧
  nn
  p0w
  fun
  (a10 :
  Addr) =>
  ∃
  (o17
  :
  Option
  Addr),
  ∃
  (k30
  :
  Nat),
  ∃
  (k31
  :
  Nat),
  (∀
  (w26 :
  World),
  I4
  w26 →
  World.cell?
  w26
  (Addr.add
  a10
  1) =
  some
  (Value.slice
  o17
  k30
  k31)) ∧
  inI
  ((↑k30 :
  Int) -
  1) ∧
  idx
  o16
  k28
  ((↑k30 :
  Int) -
  1)
  1
  fun
  (a11 :
  Addr) =>
  ∃
  (o18
  :
  Option
  Addr),
  (∀
  (w27 :
  World),
  I4
  w27 →
  World.cell?
  w27
  a11 =
  some
  (Value.pointer
  o18)) ∧
  RunE
  Proofs.Tryd.prog
  Ev
  19
  [Value.pointer
  o15,
  Value.pointer
  o18]
  w21
  fun
  (v7 :
  Value)
  (w28 :
  World) =>
  ∃
  (b3
  :
  Bool),
  v7 =
  Value.bool
  b3 ∧
  I4
  w28 ∧
  R
  (Value.bool
  b3)
  w28)
  (R
  (Value.bool
  false)
  w21))
  (∀ (w29 : World),
  drawn w2 w29 →
  ∃ (I5 : World → Prop),
  I5 w29 ∧
  ∃ (n4 : Int),
  (∀ (w30 : World), I5 w30 → World.cell? w30 (Addr.add (Addr.mk k1 0 none) 1) = some (Value.int IntKind.i64 n4)) ∧
  nn p0w fun (a12 : Addr) =>
  ∃ (o19 : Option Addr),
  ∃ (k32 : Nat),
  ∃ (k33 : Nat),
  (∀ (w31 : World), I5 w31 → World.cell? w31 a12 = some (Value.slice o19 k32 k33)) ∧
  RunE Proofs.Tryd.prog Ev 15 [Value.int IntKind.i64 n4, Value.int IntKind.i64 (↑k32 : Int)] w29 fun (v8 : Value) (w32 : World) =>
  ∃ (n5 : Int),
  v8 = Value.int IntKind.i64 n5 ∧
  I5 w32 ∧
  ∀ (w33 : World),
  drawn w32 w33 →
  ∃ (I6 : World → Prop),
  I6 w33 ∧
  ∃ (n6 : Int),
  (∀ (w34 : World), I6 w34 → World.cell? w34 (Addr.add (Addr.mk k1 0 none) 2) = some (Value.int IntKind.i64 n6)) ∧
  nn p0w fun (a13 : Addr) =>
  ∃ (o20 : Option Addr),
  ∃ (k34 : Nat),
  ∃ (k35 : Nat),
  (∀ (w35 : World), I6 w35 → World.cell? w35 a13 = some (Value.slice o20 k34 k35)) ∧
  RunE Proofs.Tryd.prog Ev 15 [Value.int IntKind.i64 n6, Value.int IntKind.i64 (↑k34 : Int)] w33
  fun (v9 : Value) (w36 : World) =>
  ∃ (n7 : Int),
  v9 = Value.int IntKind.i64 n7 ∧
  I6 w36 ∧
  nn p0w fun (a14 : Addr) =>
  ∃ (o21 : Option Addr),
  ∃ (k36 : Nat),
  ∃ (k37 : Nat),
  World.cell? w36 a14 = some (Value.slice o21 k36 k37) ∧
  idx o21 k36 n5 1 fun (a15 : Addr) =>
  ∃ (o22 : Option Addr),
  World.cell? w36 a15 = some (Value.pointer o22) ∧
  nn p0w fun (a16 : Addr) =>
  ∃ (o23 : Option Addr),
  ∃ (k38 : Nat),
  ∃ (k39 : Nat),
  World.cell? w36 (Addr.add a16 1) = some (Value.slice o23 k38 k39) ∧
  idx o23 k38 n5 1 fun (a17 : Addr) =>
  ∃ (o24 : Option Addr),
  World.cell? w36 a17 = some (Value.pointer o24) ∧
  ∃ (x2 : arrS (shs []) (World → Prop)),
  (∃ (n8 : Int),
  World.cell? w36 (Addr.mk k1 0 none) =
  some (Value.int IntKind.i64 n8) ∧
  nz 8 ∧
  ∃ (x3 : arrS (shs [(131, S1.one Cs.bool)]) (World → Prop)),
  br (Int.tmod n8 8 == 1) (x3 (Int.tmod n8 8 == 1) w36)
  (x3 (Int.tmod n8 8 == -1) w36) ∧
  ∀ (I7 : Nat → Value) (b4 : Bool) (w37 : World),
  x3 b4 w37 →
  br b4
  (∃ (o25 : Option Addr),
  ∃ (k40 : Nat),
  ∃ (k41 : Nat),
  World.cell? w37 (Addr.add (Addr.mk k1 0 none) 3) =
  some (Value.slice o25 k40 k41) ∧
  RunE Proofs.Tryd.prog Ev 37
  [Value.slice o25 k40 k41] w37
  fun (v10 : Value) (w38 : World) =>
  ∃ (o26 : Option Addr),
  ∃ (k42 : Nat),
  ∃ (k43 : Nat),
  ∃ (o27 : Option Addr),
  ∃ (k44 : Nat),
  ∃ (k45 : Nat),
  v10 =
  Value.tuple
  (Array.mk
  [Value.slice o26 k42 k43,
  Value.slice o27 k44
  k45]) ∧
  RunE Proofs.Tryd.prog Ev 13
  [Value.pointer o22,
  Value.slice o26 k42 k43]
  w38
  fun (v11 : Value)
  (w39 : World) =>
  ∃ (n9 : Int),
  v11 =
  Value.int IntKind.i64
  n9 ∧
  ∃ (o28 : Option Addr),
  ∃ (k46 : Nat),
  ∃ (k47 : Nat),
  World.cell? w39
  (Addr.add
  (Addr.mk k1
  0 none)
  3) =
  some
  (Value.slice
  o28 k46
  k47) ∧
  RunE
  Proofs.Tryd.prog
  Ev 16
  [Value.pointer
  o24,
  Value.slice
  o28 k46 k47]
  w39
  fun
  (v12 : Value)
  (w40 :
  World) =>
  ∃ (n10 : Int),
  v12 =
  Value.int
  IntKind.i64
  n10 ∧
  br
  (n9 ==
  n10)
  (∃ (o29 :
  Option
  Addr),
  ∃ (k48 :
  Nat),
  ∃ (k49
  :
  Nat),
  World.cell?
  w40
  (Addr.add
  (Addr.mk
  k1
  0
  none)
  3) =
  some
  (Value.slice
  o29
  k48
  k49) ∧
  RunE
  Proofs.Tryd.prog
  Ev
  38
  [Value.slice
  o27
  k44
  k45,
  Value.slice
  o29
  k48
  k49]
  w40
  fun
  (v13 :
  Value)
  (w41 :
  World) =>
  ∃
  (b5
  :
  Bool),
  v13 =
  Value.bool
  b5 ∧
  br
  b5
  (RunE
  Proofs.Tryd.prog
  Ev
  19
  [Value.pointer
  o22,
  Value.pointer
  o24]
  w41
  fun
  (v14 :
  Value)
  (w42 :
  World) =>
  ∃
  (b6
  :
  Bool),
  v14 =
  Value.bool
  b6 ∧
  R
  (Value.bool
  b6)
  w42)
  (R
  (Value.bool
  false)
  w41))
  (R
  (Value.bool
  false)
  w40))
  (∃ (x4 :
  arrS (shs [(160, S1.one Cs.bool)]) (World → Prop)),
  br (Int.tmod n8 8 == 2) (x4 (Int.tmod n8 8 == 2) w37)
  (x4 (Int.tmod n8 8 == -2) w37) ∧
  ∀ (I8 : Nat → Value) (b7 : Bool) (w43 : World),
  x4 b7 w43 →
  br b7
  (∃ (o30 : Option Addr),
  ∃ (k50 : Nat),
  ∃ (k51 : Nat),
  World.cell? w43
  (Addr.add (Addr.mk k1 0 none) 3) =
  some (Value.slice o30 k50 k51) ∧
  RunE Proofs.Tryd.prog Ev 37
  [Value.slice o30 k50 k51] w43
  fun (v15 : Value) (w44 : World) =>
  ∃ (o31 : Option Addr),
  ∃ (k52 : Nat),
  ∃ (k53 : Nat),
  ∃ (o32 : Option Addr),
  ∃ (k54 : Nat),
  ∃ (k55 : Nat),
  v15 =
  Value.tuple
  (Array.mk
  [Value.slice o31
  k52 k53,
  Value.slice
  o32 k54
  k55]) ∧
  RunE Proofs.Tryd.prog
  Ev 14
  [Value.pointer o22,
  Value.slice o31
  k52 k53]
  w44
  fun (v16 : Value)
  (w45 : World) =>
  ∃ (n11 : Int),
  v16 =
  Value.int
  IntKind.i64
  n11 ∧
  ∃ (o33 :
  Option Addr),
  ∃ (k56 : Nat),
  ∃ (k57 :
  Nat),
  World.cell?
  w45
  (Addr.add
  (Addr.mk
  k1
  0
  none)
  3) =
  some
  (Value.slice
  o33
  k56
  k57) ∧
  RunE
  Proofs.Tryd.prog
  Ev 17
  [Value.pointer
  o24,
  Value.slice
  o33
  k56
  k57]
  w45
  fun
  (v17 :
  Value)
  (w46 :
  World) =>
  ∃ (n12
  :
  Int),
  v17 =
  Value.int
  IntKind.i64
  n12 ∧
  br
  (n11 ==
  n12)
  (∃
  (o34
  :
  Option
  Addr),
  ∃
  (k58
  :
  Nat),
  ∃
  (k59
  :
  Nat),
  World.cell?
  w46
  (Addr.add
  (Addr.mk
  k1
  0
  none)
  3) =
  some
  (Value.slice
  o34
  k58
  k59) ∧
  RunE
  Proofs.Tryd.prog
  Ev
  38
  [Value.slice
  o32
  k54
  k55,
  Value.slice
  o34
  k58
  k59]
  w46
  fun
  (v18 :
  Value)
  (w47 :
  World) =>
  ∃
  (b8
  :
  Bool),
  v18 =
  Value.bool
  b8 ∧
  br
  b8
  (RunE
  Proofs.Tryd.prog
  Ev
  19
  [Value.pointer
  o22,
  Value.pointer
  o24]
  w47
  fun
  (v19 :
  Value)
  (w48 :
  World) =>
  ∃
  (b9
  :
  Bool),
  v19 =
  Value.bool
  b9 ∧
  R
  (Value.bool
  b9)
  w48)
  (R
  (Value.bool
  false)
  w47))
  (R
  (Value.bool
  false)
  w46))
  (∃ (x5 :
  arrS (shs [(189, S1.one Cs.bool)])
  (World → Prop)),
  br (Int.tmod n8 8 == 3)
  (x5 (Int.tmod n8 8 == 3) w43)
  (x5 (Int.tmod n8 8 == -3) w43) ∧
  ∀ (I9 : Nat → Value) (b10 : Bool)
  (w49 : World),
  x5 b10 w49 →
  br b10
  (∃ (o35 : Option Addr),
  ∃ (k60 : Nat),
  ∃ (k61 : Nat),
  World.cell? w49
  (Addr.add
  (Addr.mk k1 0 none)
  3) =
  some
  (Value.slice o35 k60
  k61) ∧
  RunE Proofs.Tryd.prog Ev 39
  [Value.pointer p0w,
  Value.slice o35 k60 k61]
  w49
  fun (v20 : Value)
  (w50 : World) =>
  ∃ (o36 : Option Addr),
  ∃ (k62 : Nat),
  ∃ (k63 : Nat),
  ∃ (o37 :
  Option Addr),
  ∃ (k64 : Nat),
  ∃ (k65 : Nat),
  v20 =
  Value.tuple
  (Array.mk
  [Value.slice
  o36
  k62
  k63,
  Value.slice
  o37
  k64
  k65]) ∧
  RunE
  Proofs.Tryd.prog
  Ev 22
  [Value.pointer
  o22,
  Value.slice
  o36
  k62
  k63]
  w50
  fun
  (v21 :
  Value)
  (w51 :
  World) =>
  ∃ (n13 :
  Int),
  v21 =
  Value.int
  IntKind.i64
  n13 ∧
  RunE
  Proofs.Tryd.prog
  Ev
  40
  [Value.pointer
  o24,
  Value.slice
  o37
  k64
  k65]
  w51
  fun
  (v22 :
  Value)
  (w52 :
  World) =>
  ∃
  (n14
  :
  Int),
  v22 =
  Value.int
  IntKind.i64
  n14 ∧
  br
  (n13 ==
  n14)
  (RunE
  Proofs.Tryd.prog
  Ev
  19
  [Value.pointer
  o22,
  Value.pointer
  o24]
  w52
  fun
  (v23 :
  Value)
  (w53 :
  World) =>
  ∃
  (b11
  :
  Bool),
  v23 =
  Value.bool
  b11 ∧
  R
  (Value.bool
  b11)
  w53)
  (R
  (Value.bool
  false)
  w52))
  (∃ (x6 :
  arrS (shs [(212, S1.one Cs.bool)])
  (World → Prop)),
  br (Int.tmod n8 8 == 4)
  (x6 (Int.tmod n8 8 == 4) w49)
  (x6 (Int.tmod n8 8 == -4)
  w49) ∧
  ∀ (I10 : Nat → Value)
  (b12 : Bool) (w54 : World),
  x6 b12 w54 →
  br b12
  (∃ (o38 : Option Addr),
  ∃ (k66 : Nat),
  ∃ (k67 : Nat),
  World.cell? w54
  (Addr.add
  (Addr.mk k1
  0 none)
  3) =
  some
  (Value.slice
  o38 k66
  k67) ∧
  RunE
  Proofs.Tryd.prog
  Ev 39
  [Value.pointer
  p0w,
  Value.slice
  o38 k66 k67]
  w54
  fun
  (v24 : Value)
  (w55 :
  World) =>
  ∃ (o39 :
  Option Addr),
  ∃ (k68 : Nat),
  ∃ (k69 :
  Nat),
  ∃ (o40 :
  Option
  Addr),
  ∃ (k70 :
  Nat),
  ∃ (k71
  :
  Nat),
  v24 =
  Value.tuple
  (Array.mk
  [Value.slice
  o39
  k68
  k69,
  Value.slice
  o40
  k70
  k71]) ∧
  RunE
  Proofs.Tryd.prog
  Ev
  26
  [Value.pointer
  o22,
  Value.slice
  o39
  k68
  k69]
  w55
  fun
  (v25 :
  Value)
  (w56 :
  World) =>
  ∃
  (b13
  :
  Bool),
  v25 =
  Value.bool
  b13 ∧
  RunE
  Proofs.Tryd.prog
  Ev
  41
  [Value.pointer
  o24,
  Value.slice
  o40
  k70
  k71]
  w56
  fun
  (v26 :
  Value)
  (w57 :
  World) =>
  ∃
  (b14
  :
  Bool),
  v26 =
  Value.bool
  b14 ∧
  R
  (Value.bool
  (b13 ==
  b14))
  w57)
  (∃ (x7 :
  arrS
  (shs
  [(229,
  S1.one
  Cs.bool)])
  (World → Prop)),
  br (Int.tmod n8 8 == 5)
  (x7
  (Int.tmod n8 8 ==
  5)
  w54)
  (x7
  (Int.tmod n8 8 ==
  -5)
  w54) ∧
  ∀ (I11 : Nat → Value)
  (b15 : Bool)
  (w58 : World),
  x7 b15 w58 →
  br b15
  (∀
  (w59 : World),
  drawn w58
  w59 →
  ∃ (I12 :
  World →
  Prop),
  I12 w59 ∧
  nn p0w
  fun
  (a18 :
  Addr) =>
  ∃ (o41
  :
  Option
  Addr),
  ∃
  (k72
  :
  Nat),
  ∃
  (k73
  :
  Nat),
  (∀
  (w60 :
  World),
  I12
  w60 →
  World.cell?
  w60
  a18 =
  some
  (Value.slice
  o41
  k72
  k73)) ∧
  idx
  o41
  k72
  n7
  1
  fun
  (a19 :
  Addr) =>
  ∃
  (o42
  :
  Option
  Addr),
  (∀
  (w61 :
  World),
  I12
  w61 →
  World.cell?
  w61
  a19 =
  some
  (Value.pointer
  o42)) ∧
  nn
  p0w
  fun
  (a20 :
  Addr) =>
  ∃
  (o43
  :
  Option
  Addr),
  ∃
  (k74
  :
  Nat),
  ∃
  (k75
  :
  Nat),
  (∀
  (w62 :
  World),
  I12
  w62 →
  World.cell?
  w62
  (Addr.add
  a20
  1) =
  some
  (Value.slice
  o43
  k74
  k75)) ∧
  idx
  o43
  k74
  n7
  1
  fun
  (a21 :
  Addr) =>
  ∃
  (o44
  :
  Option
  Addr),
  (∀
  (w63 :
  World),
  I12
  w63 →
  World.cell?
  w63
  a21 =
  some
  (Value.pointer
  o44)) ∧
  RunE
  Proofs.Tryd.prog
  Ev
  23
  [Value.pointer
  o22,
  Value.pointer
  o42]
  w59
  fun
  (v27 :
  Value)
  (w64 :
  World) =>
  ∃
  (b16
  :
  Bool),
  v27 =
  Value.bool
  b16 ∧
  I12
  w64 ∧
  RunE
  Proofs.Tryd.prog
  Ev
  42
  [Value.pointer
  o24,
  Value.pointer
  o44]
  w64
  fun
  (v28 :
  Value)
  (w65 :
  World) =>
  ∃
  (b17
  :
  Bool),
  v28 =
  Value.bool
  b17 ∧
  I12
  w65 ∧
  R
  (Value.bool
  (b16 ==
  b17))
  w65)
  (∃ (x8 :
  arrS
  (shs
  [(251,
  S1.one
  Cs.bool)])
  (World →
  Prop)),
  br
  (Int.tmod
  n8
  8 ==
  6)
  (x8
  (Int.tmod
  n8
  8 ==
  6)
  w58)
  (x8
  (Int.tmod
  n8
  8 ==
  -6)
  w58) ∧
  ∀
  (I13 :
  Nat →
  Value)
  (b18 :
  Bool)
  (w66 :
  World),
  x8 b18
  w66 →
  br b18
  (∀
  (w67 :
  World),
  drawn
  w66
  w67 →
  ∃
  (I14
  :
  World →
  Prop),
  I14
  w67 ∧
  nn
  p0w
  fun
  (a22 :
  Addr) =>
  ∃
  (o45
  :
  Option
  Addr),
  ∃
  (k76
  :
  Nat),
  ∃
  (k77
  :
  Nat),
  (∀
  (w68 :
  World),
  I14
  w68 →
  World.cell?
  w68
  a22 =
  some
  (Value.slice
  o45
  k76
  k77)) ∧
  RunE
  Proofs.Tryd.prog
  Ev
  21
  [Value.pointer
  o22]
  w67
  fun
  (v29 :
  Value)
  (w69 :
  World) =>
  ∃
  (o46
  :
  Option
  Addr),
  v29 =
  Value.pointer
  o46 ∧
  I14
  w69 ∧
  new
  w69
  (Obj.cells
  (Array.mk
  [Value.pointer
  o46])
  24)
  fun
  (k78 :
  Nat)
  (w70 :
  World) =>
  I14
  w70 ∧
  RunS
  Proofs.Tryd.prog
  (Builtin.append_
  (Array.mk
  [40,
  40])
  40
  (Array.mk
  [Value.slice
  o45
  k76
  k77,
  Value.slice
  (some
  (Addr.mk
  k78
  0
  none))
  1
  1]))
  w70
  fun
  (v30 :
  Value)
  (w71 :
  World) =>
  ∃
  (o47
  :
  Option
  Addr),
  ∃
  (k79
  :
  Nat),
  ∃
  (k80
  :
  Nat),
  v30 =
  Value.slice
  o47
  k79
  k80 ∧
  I14
  w71 ∧
  nn
  p0w
  fun
  (a23 :
  Addr) =>
  st1
  w71
  a23
  (Value.slice
  o47
  k79
  k80)
  fun
  (w72 :
  World) =>
  ∀
  (w73 :
  World),
  drawn
  w72
  w73 →
  ∃
  (I15
  :
  World →
  Prop),
  I15
  w73 ∧
  nn
  p0w
  fun
  (a24 :
  Addr) =>
  ∃
  (o48
  :
  Option
  Addr),
  ∃
  (k81
  :
  Nat),
  ∃
  (k82
  :
  Nat),
  (∀
  (w74 :
  World),
  I15
  w74 →
  World.cell?
  w74
  (Addr.add
  a24
  1) =
  some
  (Value.slice
  o48
  k81
  k82)) ∧
  RunE
  Proofs.Tryd.prog
  Ev
  43
  [Value.pointer
  o24]
  w73
  fun
  (v31 :
  Value)
  (w75 :
  World) =>
  ∃
  (o49
  :
  Option
  Addr),
  v31 =
  Value.pointer
  o49 ∧
  I15
  w75 ∧
  new
  w75
  (Obj.cells
  (Array.mk
  [Value.pointer
  o49])
  26)
  fun
  (k83 :
  Nat)
  (w76 :
  World) =>
  I15
  w76 ∧
  RunS
  Proofs.Tryd.prog
  (Builtin.append_
  (Array.mk
  [41,
  41])
  41
  (Array.mk
  [Value.slice
  o48
  k81
  k82,
  Value.slice
  (some
  (Addr.mk
  k83
  0
  none))
  1
  1]))
  w76
  fun
  (v32 :
  Value)
  (w77 :
  World) =>
  ∃
  (o50
  :
  Option
  Addr),
  ∃
  (k84
  :
  Nat),
  ∃
  (k85
  :
  Nat),
  v32 =
  Value.slice
  o50
  k84
  k85 ∧
  I15
  w77 ∧
  nn
  p0w
  fun
  (a25 :
  Addr) =>
  st1
  w77
  (Addr.add
  a25
  1)
  (Value.slice
  o50
  k84
  k85)
  fun
  (w78 :
  World) =>
  ∀
  (w79 :
  World),
  drawn
  w78
  w79 →
  ∃
  (I16
  :
  World →
  Prop),
  I16
  w79 ∧
  nn
  p0w
  fun
  (a26 :
  Addr) =>
  ∃
  (o51
  :
  Option
  Addr),
  ∃
  (k86
  :
  Nat),
  ∃
  (k87
  :
  Nat),
  (∀
  (w80 :
  World),
  I16
  w80 →
  World.cell?
  w80
  a26 =
  some
  (Value.slice
  o51
  k86
  k87)) ∧
  nn
  p0w
  fun
  (a27 :
  Addr) =>
  ∃
  (o52
  :
  Option
  Addr),
  ∃
  (k88
  :
  Nat),
  ∃
  (k89
  :
  Nat),
  (∀
  (w81 :
  World),
  I16
  w81 →
  World.cell?
  w81
  a27 =
  some
  (Value.slice
  o52
  k88
  k89)) ∧
  inI
  ((↑k88 :
  Int) -
  1) ∧
  idx
  o51
  k86
  ((↑k88 :
  Int) -
  1)
  1
  fun
  (a28 :
  Addr) =>
  ∃
  (o53
  :
  Option
  Addr),
  (∀
  (w82 :
  World),
  I16
  w82 →
  World.cell?
  w82
  a28 =
  some
  (Value.pointer
  o53)) ∧
  RunE
  Proofs.Tryd.prog
  Ev
  19
  [Value.pointer
  o53,
  Value.pointer
  o24]
  w79
  fun
  (v33 :
  Value)
  (w83 :
  World) =>
  ∃
  (b19
  :
  Bool),
  v33 =
  Value.bool
  b19 ∧
  I16
  w83 ∧
  R
  (Value.bool
  b19)
  w83)
  (x2
  w66))))))) ∧
  ∀ (I17 : Nat → Value) (w84 : World),
  x2 w84 →
  ∀ (w85 : World),
  drawn w84 w85 →
  ∃ (I18 : World → Prop),
  I18 w85 ∧
  ∃ (n15 : Int),
  (∀ (w86 : World),
  I18 w86 →
  World.cell? w86 (Addr.add (Addr.mk k1 0 none) 2) =
  some (Value.int IntKind.i64 n15)) ∧
  ∃ (n16 : Int),
  (∀ (w87 : World),
  I18 w87 →
  World.cell? w87
  (Addr.add (Addr.mk k1 0 none) 2) =
  some (Value.int IntKind.i64 n16)) ∧
  RunE Proofs.Tryd.prog Ev 25
  [Value.pointer o22, Value.int IntKind.i64 n15] w85
  fun (v34 : Value) (w88 : World) =>
  ∃ (b20 : Bool),
  v34 = Value.bool b20 ∧
  I18 w88 ∧
  RunE Proofs.Tryd.prog Ev 35
  [Value.pointer o24,
  Value.int IntKind.i64 n16]
  w88 fun (v35 : Value) (w89 : World) =>
  ∃ (b21 : Bool),
  v35 = Value.bool b21 ∧
  I18 w89 ∧
  R (Value.bool (b20 == b21)) w89)
set_option maxRecDepth 100000 in
theorem run_presagelaw01_world_step (p0w : Option Addr) (p1o_0 : Int) (p1o_1 : Int) (p1o_2 : Int) (p1o_3a : Option Addr) (p1o_3l : Nat) (p1o_3c : Nat) (w : World) (R : Value → World → Prop) (h : vc_presagelaw01_world_step p0w p1o_0 p1o_1 p1o_2 p1o_3a p1o_3l p1o_3c w R) : Run Tryd.prog 20 [(.pointer p0w), (.agg #[(.int .i64 p1o_0), (.int .i64 p1o_1), (.int .i64 p1o_2), (.slice p1o_3a p1o_3l p1o_3c)])] w R :=
  run_ev tyOk fnOk mixed Tryd.func20 ann_presagelaw01_world_step ((by kernel_rfl : fnV Tryd.prog Ty Fn Ev ann_presagelaw01_world_step Tryd.f20 [(.pointer p0w), (.agg #[(.int .i64 p1o_0), (.int .i64 p1o_1), (.int .i64 p1o_2), (.slice p1o_3a p1o_3l p1o_3c)])] w R = vc_presagelaw01_world_step p0w p1o_0 p1o_1 p1o_2 p1o_3a p1o_3l p1o_3c w R) ▸ h)

/- (*presage/presagelaw01.world).some -/
abbrev n_presagelaw01_world_some : FuncId := 39
def ann_presagelaw01_world_some : Ann := { rngs := [], loops := [(4, [(6, (.one .slice)), (7, (.one .slice)), (8, (.one (.int .i64)))])], joins := [], blocks := [] }
def vc_presagelaw01_world_some (p0w : Option Addr) (p1la : Option Addr) (p1ll : Nat) (p1lc : Nat) (w : World) (R : Value → World → Prop) : Prop :=
  ∃ (x1 : arrS (shs [(6, S1.one Cs.slice), (7, S1.one Cs.slice), (8, S1.one (Cs.int IntKind.i64))]) (World → Prop)),
  ∃ (x2 : arrS (shs [(6, S1.one Cs.slice), (7, S1.one Cs.slice), (8, S1.one (Cs.int IntKind.i64))]) (World → Nat)),
  x1 none 0 0 none 0 0 0 w ∧
  ∀ (I1 : Nat → Value) (o1 : Option Addr) (k1 k2 : Nat) (o2 : Option Addr) (k3 k4 : Nat) (n1 : Int) (w1 : World),
  x1 o1 k1 k2 o2 k3 k4 n1 w1 →
  br (decide (n1 < (↑p1ll : Int)))
  (∀ (w2 : World),
  drawn w1 w2 →
  ∃ (I2 : World → Prop),
  I2 w2 ∧
  idx p1la p1ll n1 1 fun (a1 : Addr) =>
  ∃ (n2 : Int),
  (∀ (w3 : World), I2 w3 → World.cell? w3 a1 = some (Value.int IntKind.i64 n2)) ∧
  nn p0w fun (a2 : Addr) =>
  ∃ (o3 : Option Addr),
  ∃ (k5 : Nat),
  ∃ (k6 : Nat),
  (∀ (w4 : World), I2 w4 → World.cell? w4 a2 = some (Value.slice o3 k5 k6)) ∧
  inI ((↑k5 : Int) + 1) ∧
  RunE Proofs.Tryd.prog Ev 15 [Value.int IntKind.i64 n2, Value.int IntKind.i64 ((↑k5 : Int) + 1)] w2 fun (v1 : Value) (w5 : World) =>
  ∃ (n3 : Int),
  v1 = Value.int IntKind.i64 n3 ∧
  I2 w5 ∧
  nn p0w fun (a3 : Addr) =>
  ∃ (o4 : Option Addr),
  ∃ (k7 : Nat),
  ∃ (k8 : Nat),
  World.cell? w5 a3 = some (Value.slice o4 k7 k8) ∧
  br (n3 == (↑k7 : Int))
  (new w5 (Obj.cells (Array.mk [Value.pointer none]) 24) fun (k9 : Nat) (w6 : World) =>
  RunS Proofs.Tryd.prog
  (Builtin.append_ (Array.mk [40, 40]) 40 (Array.mk [Value.slice o1 k1 k2, Value.slice (some (Addr.mk k9 0 none)) 1 1]))
  w6 fun (v2 : Value) (w7 : World) =>
  ∃ (o5 : Option Addr),
  ∃ (k10 : Nat),
  ∃ (k11 : Nat),
  v2 = Value.slice o5 k10 k11 ∧
  new w7 (Obj.cells (Array.mk [Value.slice none 0 0]) 62) fun (k12 : Nat) (w8 : World) =>
  new w8 (Obj.cells (Array.mk [Value.pointer (some (Addr.mk k12 0 none))]) 26) fun (k13 : Nat) (w9 : World) =>
  RunS Proofs.Tryd.prog
  (Builtin.append_ (Array.mk [41, 41]) 41
  (Array.mk [Value.slice o2 k3 k4, Value.slice (some (Addr.mk k13 0 none)) 1 1]))
  w9 fun (v3 : Value) (w10 : World) =>
  ∃ (o6 : Option Addr),
  ∃ (k14 : Nat),
  ∃ (k15 : Nat),
  v3 = Value.slice o6 k14 k15 ∧
  inI (n1 + 1) ∧
  x1 o5 k10 k11 o6 k14 k15 (n1 + 1) w10 ∧
  x2 o5 k10 k11 o6 k14 k15 (n1 + 1) w10 < x2 o1 k1 k2 o2 k3 k4 n1 w1)
  (nn p0w fun (a4 : Addr) =>
  ∃ (o7 : Option Addr),
  ∃ (k16 : Nat),
  ∃ (k17 : Nat),
  World.cell? w5 a4 = some (Value.slice o7 k16 k17) ∧
  idx o7 k16 n3 1 fun (a5 : Addr) =>
  ∃ (o8 : Option Addr),
  World.cell? w5 a5 = some (Value.pointer o8) ∧
  new w5 (Obj.cells (Array.mk [Value.pointer o8]) 24) fun (k18 : Nat) (w11 : World) =>
  RunS Proofs.Tryd.prog
  (Builtin.append_ (Array.mk [40, 40]) 40
  (Array.mk [Value.slice o1 k1 k2, Value.slice (some (Addr.mk k18 0 none)) 1 1]))
  w11 fun (v4 : Value) (w12 : World) =>
  ∃ (o9 : Option Addr),
  ∃ (k19 : Nat),
  ∃ (k20 : Nat),
  v4 = Value.slice o9 k19 k20 ∧
  nn p0w fun (a6 : Addr) =>
  ∃ (o10 : Option Addr),
  ∃ (k21 : Nat),
  ∃ (k22 : Nat),
  World.cell? w12 (Addr.add a6 1) = some (Value.slice o10 k21 k22) ∧
  idx o10 k21 n3 1 fun (a7 : Addr) =>
  ∃ (o11 : Option Addr),
  World.cell? w12 a7 = some (Value.pointer o11) ∧
  new w12 (Obj.cells (Array.mk [Value.pointer o11]) 26)
  fun (k23 : Nat) (w13 : World) =>
  RunS Proofs.Tryd.prog
  (Builtin.append_ (Array.mk [41, 41]) 41
  (Array.mk
  [Value.slice o2 k3 k4, Value.slice (some (Addr.mk k23 0 none)) 1 1]))
  w13 fun (v5 : Value) (w14 : World) =>
  ∃ (o12 : Option Addr),
  ∃ (k24 : Nat),
  ∃ (k25 : Nat),
  v5 = Value.slice o12 k24 k25 ∧
  inI (n1 + 1) ∧
  x1 o9 k19 k20 o12 k24 k25 (n1 + 1) w14 ∧
  x2 o9 k19 k20 o12 k24 k25 (n1 + 1) w14 <
  x2 o1 k1 k2 o2 k3 k4 n1 w1))
  (R (Value.tuple (Array.mk [Value.slice o1 k1 k2, Value.slice o2 k3 k4])) w1)
set_option maxRecDepth 100000 in
theorem run_presagelaw01_world_some (p0w : Option Addr) (p1la : Option Addr) (p1ll : Nat) (p1lc : Nat) (w : World) (R : Value → World → Prop) (h : vc_presagelaw01_world_some p0w p1la p1ll p1lc w R) : Run Tryd.prog 39 [(.pointer p0w), (.slice p1la p1ll p1lc)] w R :=
  run_ev tyOk fnOk mixed Tryd.func39 ann_presagelaw01_world_some ((by kernel_rfl : fnV Tryd.prog Ty Fn Ev ann_presagelaw01_world_some Tryd.f39 [(.pointer p0w), (.slice p1la p1ll p1lc)] w R = vc_presagelaw01_world_some p0w p1la p1ll p1lc w R) ▸ h)

/- math/bits.OnesCount64 -/
abbrev n_math_bits_OnesCount64 : FuncId := 45
def ann_math_bits_OnesCount64 : Ann := { rngs := [], loops := [], joins := [], blocks := [] }
def vc_math_bits_OnesCount64 (p0x : Int) (w : World) (R : Value → World → Prop) : Prop :=
  ns 1 ∧
  ns 2 ∧
  ns 4 ∧
  ns 8 ∧
  ns 16 ∧
  ns 32 ∧
  inI
  (IntKind.wrap IntKind.u64
  (IntKind.wrap IntKind.u64
  (IntKind.wrap IntKind.u64
  (bitI BinOp.and IntKind.u64
  (IntKind.wrap IntKind.u64
  (shrI IntKind.u64
  (IntKind.wrap IntKind.u64
  (bitI BinOp.and IntKind.u64
  (shrI IntKind.u64
  (IntKind.wrap IntKind.u64
  (bitI BinOp.and IntKind.u64 (shrI IntKind.u64 p0x 1) 6148914691236517205 + bitI BinOp.and IntKind.u64 p0x 6148914691236517205))
  2)
  3689348814741910323 +
  bitI BinOp.and IntKind.u64
  (IntKind.wrap IntKind.u64
  (bitI BinOp.and IntKind.u64 (shrI IntKind.u64 p0x 1) 6148914691236517205 + bitI BinOp.and IntKind.u64 p0x 6148914691236517205))
  3689348814741910323))
  4 +
  IntKind.wrap IntKind.u64
  (bitI BinOp.and IntKind.u64
  (shrI IntKind.u64
  (IntKind.wrap IntKind.u64
  (bitI BinOp.and IntKind.u64 (shrI IntKind.u64 p0x 1) 6148914691236517205 + bitI BinOp.and IntKind.u64 p0x 6148914691236517205))
  2)
  3689348814741910323 +
  bitI BinOp.and IntKind.u64
  (IntKind.wrap IntKind.u64
  (bitI BinOp.and IntKind.u64 (shrI IntKind.u64 p0x 1) 6148914691236517205 + bitI BinOp.and IntKind.u64 p0x 6148914691236517205))
  3689348814741910323)))
  1085102592571150095 +
  shrI IntKind.u64
  (bitI BinOp.and IntKind.u64
  (IntKind.wrap IntKind.u64
  (shrI IntKind.u64
  (IntKind.wrap IntKind.u64
  (bitI BinOp.and IntKind.u64
  (shrI IntKind.u64
  (IntKind.wrap IntKind.u64
  (bitI BinOp.and IntKind.u64 (shrI IntKind.u64 p0x 1) 6148914691236517205 + bitI BinOp.and IntKind.u64 p0x 6148914691236517205))
  2)
  3689348814741910323 +
  bitI BinOp.and IntKind.u64
  (IntKind.wrap IntKind.u64
  (bitI BinOp.and IntKind.u64 (shrI IntKind.u64 p0x 1) 6148914691236517205 + bitI BinOp.and IntKind.u64 p0x 6148914691236517205))
  3689348814741910323))
  4 +
  IntKind.wrap IntKind.u64
  (bitI BinOp.and IntKind.u64
  (shrI IntKind.u64
  (IntKind.wrap IntKind.u64
  (bitI BinOp.and IntKind.u64 (shrI IntKind.u64 p0x 1) 6148914691236517205 + bitI BinOp.and IntKind.u64 p0x 6148914691236517205))
  2)
  3689348814741910323 +
  bitI BinOp.and IntKind.u64
  (IntKind.wrap IntKind.u64
  (bitI BinOp.and IntKind.u64 (shrI IntKind.u64 p0x 1) 6148914691236517205 + bitI BinOp.and IntKind.u64 p0x 6148914691236517205))
  3689348814741910323)))
  1085102592571150095)
  8) +
  shrI IntKind.u64
  (IntKind.wrap IntKind.u64
  (bitI BinOp.and IntKind.u64
  (IntKind.wrap IntKind.u64
  (shrI IntKind.u64
  (IntKind.wrap IntKind.u64
  (bitI BinOp.and IntKind.u64
  (shrI IntKind.u64
  (IntKind.wrap IntKind.u64
  (bitI BinOp.and IntKind.u64 (shrI IntKind.u64 p0x 1) 6148914691236517205 + bitI BinOp.and IntKind.u64 p0x 6148914691236517205))
  2)
  3689348814741910323 +
  bitI BinOp.and IntKind.u64
  (IntKind.wrap IntKind.u64
  (bitI BinOp.and IntKind.u64 (shrI IntKind.u64 p0x 1) 6148914691236517205 + bitI BinOp.and IntKind.u64 p0x 6148914691236517205))
  3689348814741910323))
  4 +
  IntKind.wrap IntKind.u64
  (bitI BinOp.and IntKind.u64
  (shrI IntKind.u64
  (IntKind.wrap IntKind.u64
  (bitI BinOp.and IntKind.u64 (shrI IntKind.u64 p0x 1) 6148914691236517205 + bitI BinOp.and IntKind.u64 p0x 6148914691236517205))
  2)
  3689348814741910323 +
  bitI BinOp.and IntKind.u64
  (IntKind.wrap IntKind.u64
  (bitI BinOp.and IntKind.u64 (shrI IntKind.u64 p0x 1) 6148914691236517205 + bitI BinOp.and IntKind.u64 p0x 6148914691236517205))
  3689348814741910323)))
  1085102592571150095 +
  shrI IntKind.u64
  (bitI BinOp.and IntKind.u64
  (IntKind.wrap IntKind.u64
  (shrI IntKind.u64
  (IntKind.wrap IntKind.u64
  (bitI BinOp.and IntKind.u64
  (shrI IntKind.u64
  (IntKind.wrap IntKind.u64
  (bitI BinOp.and IntKind.u64 (shrI IntKind.u64 p0x 1) 6148914691236517205 + bitI BinOp.and IntKind.u64 p0x 6148914691236517205))
  2)
  3689348814741910323 +
  bitI BinOp.and IntKind.u64
  (IntKind.wrap IntKind.u64
  (bitI BinOp.and IntKind.u64 (shrI IntKind.u64 p0x 1) 6148914691236517205 + bitI BinOp.and IntKind.u64 p0x 6148914691236517205))
  3689348814741910323))
  4 +
  IntKind.wrap IntKind.u64
  (bitI BinOp.and IntKind.u64
  (shrI IntKind.u64
  (IntKind.wrap IntKind.u64
  (bitI BinOp.and IntKind.u64 (shrI IntKind.u64 p0x 1) 6148914691236517205 + bitI BinOp.and IntKind.u64 p0x 6148914691236517205))
  2)
  3689348814741910323 +
  bitI BinOp.and IntKind.u64
  (IntKind.wrap IntKind.u64
  (bitI BinOp.and IntKind.u64 (shrI IntKind.u64 p0x 1) 6148914691236517205 + bitI BinOp.and IntKind.u64 p0x 6148914691236517205))
  3689348814741910323)))
  1085102592571150095)
  8))
  16) +
  shrI IntKind.u64
  (IntKind.wrap IntKind.u64
  (IntKind.wrap IntKind.u64
  (bitI BinOp.and IntKind.u64
  (IntKind.wrap IntKind.u64
  (shrI IntKind.u64
  (IntKind.wrap IntKind.u64
  (bitI BinOp.and IntKind.u64
  (shrI IntKind.u64
  (IntKind.wrap IntKind.u64
  (bitI BinOp.and IntKind.u64 (shrI IntKind.u64 p0x 1) 6148914691236517205 + bitI BinOp.and IntKind.u64 p0x 6148914691236517205))
  2)
  3689348814741910323 +
  bitI BinOp.and IntKind.u64
  (IntKind.wrap IntKind.u64
  (bitI BinOp.and IntKind.u64 (shrI IntKind.u64 p0x 1) 6148914691236517205 + bitI BinOp.and IntKind.u64 p0x 6148914691236517205))
  3689348814741910323))
  4 +
  IntKind.wrap IntKind.u64
  (bitI BinOp.and IntKind.u64
  (shrI IntKind.u64
  (IntKind.wrap IntKind.u64
  (bitI BinOp.and IntKind.u64 (shrI IntKind.u64 p0x 1) 6148914691236517205 + bitI BinOp.and IntKind.u64 p0x 6148914691236517205))
  2)
  3689348814741910323 +
  bitI BinOp.and IntKind.u64
  (IntKind.wrap IntKind.u64
  (bitI BinOp.and IntKind.u64 (shrI IntKind.u64 p0x 1) 6148914691236517205 + bitI BinOp.and IntKind.u64 p0x 6148914691236517205))
  3689348814741910323)))
  1085102592571150095 +
  shrI IntKind.u64
  (bitI BinOp.and IntKind.u64
  (IntKind.wrap IntKind.u64
  (shrI IntKind.u64
  (IntKind.wrap IntKind.u64
  (bitI BinOp.and IntKind.u64
  (shrI IntKind.u64
  (IntKind.wrap IntKind.u64
  (bitI BinOp.and IntKind.u64 (shrI IntKind.u64 p0x 1) 6148914691236517205 + bitI BinOp.and IntKind.u64 p0x 6148914691236517205))
  2)
  3689348814741910323 +
  bitI BinOp.and IntKind.u64
  (IntKind.wrap IntKind.u64
  (bitI BinOp.and IntKind.u64 (shrI IntKind.u64 p0x 1) 6148914691236517205 + bitI BinOp.and IntKind.u64 p0x 6148914691236517205))
  3689348814741910323))
  4 +
  IntKind.wrap IntKind.u64
  (bitI BinOp.and IntKind.u64
  (shrI IntKind.u64
  (IntKind.wrap IntKind.u64
  (bitI BinOp.and IntKind.u64 (shrI IntKind.u64 p0x 1) 6148914691236517205 + bitI BinOp.and IntKind.u64 p0x 6148914691236517205))
  2)
  3689348814741910323 +
  bitI BinOp.and IntKind.u64
  (IntKind.wrap IntKind.u64
  (bitI BinOp.and IntKind.u64 (shrI IntKind.u64 p0x 1) 6148914691236517205 + bitI BinOp.and IntKind.u64 p0x 6148914691236517205))
  3689348814741910323)))
  1085102592571150095)
  8) +
  shrI IntKind.u64
  (IntKind.wrap IntKind.u64
  (bitI BinOp.and IntKind.u64
  (IntKind.wrap IntKind.u64
  (shrI IntKind.u64
  (IntKind.wrap IntKind.u64
  (bitI BinOp.and IntKind.u64
  (shrI IntKind.u64
  (IntKind.wrap IntKind.u64
  (bitI BinOp.and IntKind.u64 (shrI IntKind.u64 p0x 1) 6148914691236517205 + bitI BinOp.and IntKind.u64 p0x 6148914691236517205))
  2)
  3689348814741910323 +
  bitI BinOp.and IntKind.u64
  (IntKind.wrap IntKind.u64
  (bitI BinOp.and IntKind.u64 (shrI IntKind.u64 p0x 1) 6148914691236517205 + bitI BinOp.and IntKind.u64 p0x 6148914691236517205))
  3689348814741910323))
  4 +
  IntKind.wrap IntKind.u64
  (bitI BinOp.and IntKind.u64
  (shrI IntKind.u64
  (IntKind.wrap IntKind.u64
  (bitI BinOp.and IntKind.u64 (shrI IntKind.u64 p0x 1) 6148914691236517205 + bitI BinOp.and IntKind.u64 p0x 6148914691236517205))
  2)
  3689348814741910323 +
  bitI BinOp.and IntKind.u64
  (IntKind.wrap IntKind.u64
  (bitI BinOp.and IntKind.u64 (shrI IntKind.u64 p0x 1) 6148914691236517205 + bitI BinOp.and IntKind.u64 p0x 6148914691236517205))
  3689348814741910323)))
  1085102592571150095 +
  shrI IntKind.u64
  (bitI BinOp.and IntKind.u64
  (IntKind.wrap IntKind.u64
  (shrI IntKind.u64
  (IntKind.wrap IntKind.u64
  (bitI BinOp.and IntKind.u64
  (shrI IntKind.u64
  (IntKind.wrap IntKind.u64
  (bitI BinOp.and IntKind.u64 (shrI IntKind.u64 p0x 1) 6148914691236517205 + bitI BinOp.and IntKind.u64 p0x 6148914691236517205))
  2)
  3689348814741910323 +
  bitI BinOp.and IntKind.u64
  (IntKind.wrap IntKind.u64
  (bitI BinOp.and IntKind.u64 (shrI IntKind.u64 p0x 1) 6148914691236517205 + bitI BinOp.and IntKind.u64 p0x 6148914691236517205))
  3689348814741910323))
  4 +
  IntKind.wrap IntKind.u64
  (bitI BinOp.and IntKind.u64
  (shrI IntKind.u64
  (IntKind.wrap IntKind.u64
  (bitI BinOp.and IntKind.u64 (shrI IntKind.u64 p0x 1) 6148914691236517205 + bitI BinOp.and IntKind.u64 p0x 6148914691236517205))
  2)
  3689348814741910323 +
  bitI BinOp.and IntKind.u64
  (IntKind.wrap IntKind.u64
  (bitI BinOp.and IntKind.u64 (shrI IntKind.u64 p0x 1) 6148914691236517205 + bitI BinOp.and IntKind.u64 p0x 6148914691236517205))
  3689348814741910323)))
  1085102592571150095)
  8))
  16))
  32)) ∧
  R
  (Value.int IntKind.i64
  (bitI BinOp.and IntKind.i64
  (IntKind.wrap IntKind.u64
  (IntKind.wrap IntKind.u64
  (IntKind.wrap IntKind.u64
  (bitI BinOp.and IntKind.u64
  (IntKind.wrap IntKind.u64
  (shrI IntKind.u64
  (IntKind.wrap IntKind.u64
  (bitI BinOp.and IntKind.u64
  (shrI IntKind.u64
  (IntKind.wrap IntKind.u64
  (bitI BinOp.and IntKind.u64 (shrI IntKind.u64 p0x 1) 6148914691236517205 + bitI BinOp.and IntKind.u64 p0x 6148914691236517205))
  2)
  3689348814741910323 +
  bitI BinOp.and IntKind.u64
  (IntKind.wrap IntKind.u64
  (bitI BinOp.and IntKind.u64 (shrI IntKind.u64 p0x 1) 6148914691236517205 + bitI BinOp.and IntKind.u64 p0x 6148914691236517205))
  3689348814741910323))
  4 +
  IntKind.wrap IntKind.u64
  (bitI BinOp.and IntKind.u64
  (shrI IntKind.u64
  (IntKind.wrap IntKind.u64
  (bitI BinOp.and IntKind.u64 (shrI IntKind.u64 p0x 1) 6148914691236517205 + bitI BinOp.and IntKind.u64 p0x 6148914691236517205))
  2)
  3689348814741910323 +
  bitI BinOp.and IntKind.u64
  (IntKind.wrap IntKind.u64
  (bitI BinOp.and IntKind.u64 (shrI IntKind.u64 p0x 1) 6148914691236517205 + bitI BinOp.and IntKind.u64 p0x 6148914691236517205))
  3689348814741910323)))
  1085102592571150095 +
  shrI IntKind.u64
  (bitI BinOp.and IntKind.u64
  (IntKind.wrap IntKind.u64
  (shrI IntKind.u64
  (IntKind.wrap IntKind.u64
  (bitI BinOp.and IntKind.u64
  (shrI IntKind.u64
  (IntKind.wrap IntKind.u64
  (bitI BinOp.and IntKind.u64 (shrI IntKind.u64 p0x 1) 6148914691236517205 + bitI BinOp.and IntKind.u64 p0x 6148914691236517205))
  2)
  3689348814741910323 +
  bitI BinOp.and IntKind.u64
  (IntKind.wrap IntKind.u64
  (bitI BinOp.and IntKind.u64 (shrI IntKind.u64 p0x 1) 6148914691236517205 + bitI BinOp.and IntKind.u64 p0x 6148914691236517205))
  3689348814741910323))
  4 +
  IntKind.wrap IntKind.u64
  (bitI BinOp.and IntKind.u64
  (shrI IntKind.u64
  (IntKind.wrap IntKind.u64
  (bitI BinOp.and IntKind.u64 (shrI IntKind.u64 p0x 1) 6148914691236517205 + bitI BinOp.and IntKind.u64 p0x 6148914691236517205))
  2)
  3689348814741910323 +
  bitI BinOp.and IntKind.u64
  (IntKind.wrap IntKind.u64
  (bitI BinOp.and IntKind.u64 (shrI IntKind.u64 p0x 1) 6148914691236517205 + bitI BinOp.and IntKind.u64 p0x 6148914691236517205))
  3689348814741910323)))
  1085102592571150095)
  8) +
  shrI IntKind.u64
  (IntKind.wrap IntKind.u64
  (bitI BinOp.and IntKind.u64
  (IntKind.wrap IntKind.u64
  (shrI IntKind.u64
  (IntKind.wrap IntKind.u64
  (bitI BinOp.and IntKind.u64
  (shrI IntKind.u64
  (IntKind.wrap IntKind.u64
  (bitI BinOp.and IntKind.u64 (shrI IntKind.u64 p0x 1) 6148914691236517205 + bitI BinOp.and IntKind.u64 p0x 6148914691236517205))
  2)
  3689348814741910323 +
  bitI BinOp.and IntKind.u64
  (IntKind.wrap IntKind.u64
  (bitI BinOp.and IntKind.u64 (shrI IntKind.u64 p0x 1) 6148914691236517205 + bitI BinOp.and IntKind.u64 p0x 6148914691236517205))
  3689348814741910323))
  4 +
  IntKind.wrap IntKind.u64
  (bitI BinOp.and IntKind.u64
  (shrI IntKind.u64
  (IntKind.wrap IntKind.u64
  (bitI BinOp.and IntKind.u64 (shrI IntKind.u64 p0x 1) 6148914691236517205 + bitI BinOp.and IntKind.u64 p0x 6148914691236517205))
  2)
  3689348814741910323 +
  bitI BinOp.and IntKind.u64
  (IntKind.wrap IntKind.u64
  (bitI BinOp.and IntKind.u64 (shrI IntKind.u64 p0x 1) 6148914691236517205 + bitI BinOp.and IntKind.u64 p0x 6148914691236517205))
  3689348814741910323)))
  1085102592571150095 +
  shrI IntKind.u64
  (bitI BinOp.and IntKind.u64
  (IntKind.wrap IntKind.u64
  (shrI IntKind.u64
  (IntKind.wrap IntKind.u64
  (bitI BinOp.and IntKind.u64
  (shrI IntKind.u64
  (IntKind.wrap IntKind.u64
  (bitI BinOp.and IntKind.u64 (shrI IntKind.u64 p0x 1) 6148914691236517205 +
  bitI BinOp.and IntKind.u64 p0x 6148914691236517205))
  2)
  3689348814741910323 +
  bitI BinOp.and IntKind.u64
  (IntKind.wrap IntKind.u64
  (bitI BinOp.and IntKind.u64 (shrI IntKind.u64 p0x 1) 6148914691236517205 + bitI BinOp.and IntKind.u64 p0x 6148914691236517205))
  3689348814741910323))
  4 +
  IntKind.wrap IntKind.u64
  (bitI BinOp.and IntKind.u64
  (shrI IntKind.u64
  (IntKind.wrap IntKind.u64
  (bitI BinOp.and IntKind.u64 (shrI IntKind.u64 p0x 1) 6148914691236517205 + bitI BinOp.and IntKind.u64 p0x 6148914691236517205))
  2)
  3689348814741910323 +
  bitI BinOp.and IntKind.u64
  (IntKind.wrap IntKind.u64
  (bitI BinOp.and IntKind.u64 (shrI IntKind.u64 p0x 1) 6148914691236517205 + bitI BinOp.and IntKind.u64 p0x 6148914691236517205))
  3689348814741910323)))
  1085102592571150095)
  8))
  16) +
  shrI IntKind.u64
  (IntKind.wrap IntKind.u64
  (IntKind.wrap IntKind.u64
  (bitI BinOp.and IntKind.u64
  (IntKind.wrap IntKind.u64
  (shrI IntKind.u64
  (IntKind.wrap IntKind.u64
  (bitI BinOp.and IntKind.u64
  (shrI IntKind.u64
  (IntKind.wrap IntKind.u64
  (bitI BinOp.and IntKind.u64 (shrI IntKind.u64 p0x 1) 6148914691236517205 + bitI BinOp.and IntKind.u64 p0x 6148914691236517205))
  2)
  3689348814741910323 +
  bitI BinOp.and IntKind.u64
  (IntKind.wrap IntKind.u64
  (bitI BinOp.and IntKind.u64 (shrI IntKind.u64 p0x 1) 6148914691236517205 + bitI BinOp.and IntKind.u64 p0x 6148914691236517205))
  3689348814741910323))
  4 +
  IntKind.wrap IntKind.u64
  (bitI BinOp.and IntKind.u64
  (shrI IntKind.u64
  (IntKind.wrap IntKind.u64
  (bitI BinOp.and IntKind.u64 (shrI IntKind.u64 p0x 1) 6148914691236517205 + bitI BinOp.and IntKind.u64 p0x 6148914691236517205))
  2)
  3689348814741910323 +
  bitI BinOp.and IntKind.u64
  (IntKind.wrap IntKind.u64
  (bitI BinOp.and IntKind.u64 (shrI IntKind.u64 p0x 1) 6148914691236517205 + bitI BinOp.and IntKind.u64 p0x 6148914691236517205))
  3689348814741910323)))
  1085102592571150095 +
  shrI IntKind.u64
  (bitI BinOp.and IntKind.u64
  (IntKind.wrap IntKind.u64
  (shrI IntKind.u64
  (IntKind.wrap IntKind.u64
  (bitI BinOp.and IntKind.u64
  (shrI IntKind.u64
  (IntKind.wrap IntKind.u64
  (bitI BinOp.and IntKind.u64 (shrI IntKind.u64 p0x 1) 6148914691236517205 +
  bitI BinOp.and IntKind.u64 p0x 6148914691236517205))
  2)
  3689348814741910323 +
  bitI BinOp.and IntKind.u64
  (IntKind.wrap IntKind.u64
  (bitI BinOp.and IntKind.u64 (shrI IntKind.u64 p0x 1) 6148914691236517205 + bitI BinOp.and IntKind.u64 p0x 6148914691236517205))
  3689348814741910323))
  4 +
  IntKind.wrap IntKind.u64
  (bitI BinOp.and IntKind.u64
  (shrI IntKind.u64
  (IntKind.wrap IntKind.u64
  (bitI BinOp.and IntKind.u64 (shrI IntKind.u64 p0x 1) 6148914691236517205 + bitI BinOp.and IntKind.u64 p0x 6148914691236517205))
  2)
  3689348814741910323 +
  bitI BinOp.and IntKind.u64
  (IntKind.wrap IntKind.u64
  (bitI BinOp.and IntKind.u64 (shrI IntKind.u64 p0x 1) 6148914691236517205 + bitI BinOp.and IntKind.u64 p0x 6148914691236517205))
  3689348814741910323)))
  1085102592571150095)
  8) +
  shrI IntKind.u64
  (IntKind.wrap IntKind.u64
  (bitI BinOp.and IntKind.u64
  (IntKind.wrap IntKind.u64
  (shrI IntKind.u64
  (IntKind.wrap IntKind.u64
  (bitI BinOp.and IntKind.u64
  (shrI IntKind.u64
  (IntKind.wrap IntKind.u64
  (bitI BinOp.and IntKind.u64 (shrI IntKind.u64 p0x 1) 6148914691236517205 +
  bitI BinOp.and IntKind.u64 p0x 6148914691236517205))
  2)
  3689348814741910323 +
  bitI BinOp.and IntKind.u64
  (IntKind.wrap IntKind.u64
  (bitI BinOp.and IntKind.u64 (shrI IntKind.u64 p0x 1) 6148914691236517205 + bitI BinOp.and IntKind.u64 p0x 6148914691236517205))
  3689348814741910323))
  4 +
  IntKind.wrap IntKind.u64
  (bitI BinOp.and IntKind.u64
  (shrI IntKind.u64
  (IntKind.wrap IntKind.u64
  (bitI BinOp.and IntKind.u64 (shrI IntKind.u64 p0x 1) 6148914691236517205 + bitI BinOp.and IntKind.u64 p0x 6148914691236517205))
  2)
  3689348814741910323 +
  bitI BinOp.and IntKind.u64
  (IntKind.wrap IntKind.u64
  (bitI BinOp.and IntKind.u64 (shrI IntKind.u64 p0x 1) 6148914691236517205 + bitI BinOp.and IntKind.u64 p0x 6148914691236517205))
  3689348814741910323)))
  1085102592571150095 +
  shrI IntKind.u64
  (bitI BinOp.and IntKind.u64
  (IntKind.wrap IntKind.u64
  (shrI IntKind.u64
  (IntKind.wrap IntKind.u64
  (bitI BinOp.and IntKind.u64
  (shrI IntKind.u64
  (IntKind.wrap IntKind.u64
  (bitI BinOp.and IntKind.u64 (shrI IntKind.u64 p0x 1) 6148914691236517205 +
  bitI BinOp.and IntKind.u64 p0x 6148914691236517205))
  2)
  3689348814741910323 +
  bitI BinOp.and IntKind.u64
  (IntKind.wrap IntKind.u64
  (bitI BinOp.and IntKind.u64 (shrI IntKind.u64 p0x 1) 6148914691236517205 +
  bitI BinOp.and IntKind.u64 p0x 6148914691236517205))
  3689348814741910323))
  4 +
  IntKind.wrap IntKind.u64
  (bitI BinOp.and IntKind.u64
  (shrI IntKind.u64
  (IntKind.wrap IntKind.u64
  (bitI BinOp.and IntKind.u64 (shrI IntKind.u64 p0x 1) 6148914691236517205 +
  bitI BinOp.and IntKind.u64 p0x 6148914691236517205))
  2)
  3689348814741910323 +
  bitI BinOp.and IntKind.u64
  (IntKind.wrap IntKind.u64
  (bitI BinOp.and IntKind.u64 (shrI IntKind.u64 p0x 1) 6148914691236517205 + bitI BinOp.and IntKind.u64 p0x 6148914691236517205))
  3689348814741910323)))
  1085102592571150095)
  8))
  16))
  32))
  127))
  w
set_option maxRecDepth 100000 in
theorem run_math_bits_OnesCount64 (p0x : Int) (w : World) (R : Value → World → Prop) (h : vc_math_bits_OnesCount64 p0x w R) : Run Tryd.prog 45 [(.int .u64 p0x)] w R :=
  run_ev tyOk fnOk mixed Tryd.func45 ann_math_bits_OnesCount64 ((by kernel_rfl : fnV Tryd.prog Ty Fn Ev ann_math_bits_OnesCount64 Tryd.f45 [(.int .u64 p0x)] w R = vc_math_bits_OnesCount64 p0x w R) ▸ h)

end Go.Proofs.YtcipljcagejjaaaDoor
