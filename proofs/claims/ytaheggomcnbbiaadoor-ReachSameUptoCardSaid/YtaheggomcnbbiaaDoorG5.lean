/- Texts of this claim, one behind the other. -/
import Derived.Test.YtaheggomcnbbiaaDoorG1
import Derived.Test.YtaheggomcnbbiaaDoorG4
import Derived.Test.YtaheggomcnbbiaaDoorG2
import Derived.Test.YtaheggomcnbbiaaDoorCards
import Derived.Test.YtaheggomcnbbiaaDoorTie
import Derived.WalkKit
import Derived.ProofKit
import Derived.OpenShut
import Derived.Carry
import Derived.OpenVars
import Derived.Deep.DeepHandedRow
import Derived.Lib.LaidTab
set_option linter.unusedVariables false
namespace Go.Proofs.YtaheggomcnbbiaaDoor
open Go.V
abbrev n_presagelaw06_awake : FuncId := 34
def ann_presagelaw06_awake : Ann := { rngs := [], loops := [], joins := [], blocks := [] }
set_option maxRecDepth 100000 in
def vc_presagelaw06_awake  (w : World) (R : Value → World → Prop) : Prop :=
  new w (Obj.cells (Array.mk [Value.string (ByteArray.mk (Array.mk [])), Value.int IntKind.i64 0, Value.string (ByteArray.mk (Array.mk [97])), Value.int IntKind.i64 0]) 81)
  fun (k1 : Nat) (w1 : World) =>
  new w1 (Obj.cells (Array.mk [Value.string (ByteArray.mk (Array.mk [83])), Value.string (ByteArray.mk (Array.mk [88]))]) 9) fun (k2 : Nat) (w2 : World) =>
  new w2 (Obj.cells (Array.mk [Value.int IntKind.i64 1]) 3) fun (k3 : Nat) (w3 : World) =>
  new w3 (Obj.cells (Array.mk [Value.int IntKind.i64 3]) 3) fun (k4 : Nat) (w4 : World) =>
  new w4 (Obj.cells (Array.mk [Value.int IntKind.i64 3, Value.int IntKind.i64 1]) 3) fun (k5 : Nat) (w5 : World) =>
  new w5
  (Obj.cells
  (Array.mk
  [Value.int IntKind.i64 2, Value.slice (some (Addr.mk k3 0 none)) 1 1, Value.int IntKind.i64 0, Value.int IntKind.i64 2, Value.slice (some (Addr.mk k4 0 none)) 1 1,
  Value.int IntKind.i64 0, Value.int IntKind.i64 3, Value.slice (some (Addr.mk k5 0 none)) 2 2, Value.int IntKind.i64 0])
  51)
  fun (k6 : Nat) (w6 : World) =>
  new w6 (Obj.cells (Array.mk [Value.slice none 0 0, Value.slice none 0 0, Value.slice none 0 0, Value.int IntKind.i64 0, Value.slice none 0 0]) 27)
  fun (k7 : Nat) (w7 : World) =>
  stR w7 (Addr.mk k7 0 none)
  [Value.slice (some (Addr.mk k1 0 none)) 2 2, Value.slice (some (Addr.mk k2 0 none)) 2 2, Value.slice none 0 0, Value.int IntKind.i64 2,
  Value.slice (some (Addr.mk k6 0 none)) 3 3]
  fun (w8 : World) =>
  ∃ (o1 : Option Addr),
  ∃ (k8 : Nat),
  ∃ (k9 : Nat),
  ∃ (o2 : Option Addr),
  ∃ (k10 : Nat),
  ∃ (k11 : Nat),
  ∃ (o3 : Option Addr),
  ∃ (k12 : Nat),
  ∃ (k13 : Nat),
  ∃ (n1 : Int),
  ∃ (o4 : Option Addr),
  ∃ (k14 : Nat),
  ∃ (k15 : Nat),
  V.rowAt w8 (Addr.mk k7 0 none) 0 5 =
  some [Value.slice o1 k8 k9, Value.slice o2 k10 k11, Value.slice o3 k12 k13, Value.int IntKind.i64 n1, Value.slice o4 k14 k15] ∧
  RunE Proofs.Tryd.prog Ev 38
  [Value.agg
  (Array.mk
  [Value.slice o1 k8 k9, Value.slice o2 k10 k11, Value.slice o3 k12 k13, Value.int IntKind.i64 n1, Value.slice o4 k14 k15])]
  w8 fun (v1 : Value) (w9 : World) =>
  ∃ (o5 : Option Addr),
  ∃ (k16 : Nat),
  ∃ (k17 : Nat),
  ∃ (n2 : Int),
  v1 = Value.tuple (Array.mk [Value.slice o5 k16 k17, Value.int IntKind.i64 n2]) ∧
  ∃ (o6 : Option Addr),
  ∃ (k18 : Nat),
  ∃ (k19 : Nat),
  ∃ (o7 : Option Addr),
  ∃ (k20 : Nat),
  ∃ (k21 : Nat),
  ∃ (o8 : Option Addr),
  ∃ (k22 : Nat),
  ∃ (k23 : Nat),
  ∃ (n3 : Int),
  ∃ (o9 : Option Addr),
  ∃ (k24 : Nat),
  ∃ (k25 : Nat),
  V.rowAt w9 (Addr.mk k7 0 none) 0 5 =
  some
  [Value.slice o6 k18 k19, Value.slice o7 k20 k21, Value.slice o8 k22 k23,
  Value.int IntKind.i64 n3, Value.slice o9 k24 k25] ∧
  RunE Proofs.Tryd.prog Ev 31
  [Value.agg
  (Array.mk
  [Value.slice o6 k18 k19, Value.slice o7 k20 k21, Value.slice o8 k22 k23,
  Value.int IntKind.i64 n3, Value.slice o9 k24 k25])]
  w9 fun (v2 : Value) (w10 : World) =>
  ∃ (o10 : Option Addr),
  ∃ (k26 : Nat),
  ∃ (k27 : Nat),
  ∃ (o11 : Option Addr),
  ∃ (k28 : Nat),
  ∃ (k29 : Nat),
  ∃ (o12 : Option Addr),
  ∃ (k30 : Nat),
  ∃ (k31 : Nat),
  ∃ (n4 : Int),
  ∃ (o13 : Option Addr),
  ∃ (k32 : Nat),
  ∃ (k33 : Nat),
  ∃ (n5 : Int),
  v2 =
  Value.tuple
  (Array.mk
  [Value.agg
  (Array.mk
  [Value.slice o10 k26 k27, Value.slice o11 k28 k29,
  Value.slice o12 k30 k31, Value.int IntKind.i64 n4,
  Value.slice o13 k32 k33]),
  Value.int IntKind.i64 n5]) ∧
  new w10
  (Obj.cells
  (Array.mk
  [Value.slice none 0 0, Value.slice none 0 0,
  Value.slice none 0 0, Value.int IntKind.i64 0,
  Value.slice none 0 0])
  27)
  fun (k34 : Nat) (w11 : World) =>
  stR w11 (Addr.mk k34 0 none)
  [Value.slice o10 k26 k27, Value.slice o11 k28 k29,
  Value.slice o12 k30 k31, Value.int IntKind.i64 n4,
  Value.slice o13 k32 k33]
  fun (w12 : World) =>
  br (n2 == 0)
  (br (n5 == 0)
  (br ((↑k16 : Int) == 2)
  (idx o5 k16 0 1 fun (a1 : Addr) =>
  ∃ (b1 : Bool),
  World.cell? w12 a1 = some (Value.bool b1) ∧
  br b1
  (idx o5 k16 1 1 fun (a2 : Addr) =>
  ∃ (b2 : Bool),
  World.cell? w12 a2 =
  some (Value.bool b2) ∧
  br (!b2)
  (∃ (o14 : Option Addr),
  ∃ (k35 : Nat),
  ∃ (k36 : Nat),
  World.cell? w12
  (Addr.add
  (Addr.mk k34 0 none)
  1) =
  some
  (Value.slice o14 k35
  k36) ∧
  br ((↑k35 : Int) == 2)
  (∃ (o15 : Option Addr),
  ∃ (k37 : Nat),
  ∃ (k38 : Nat),
  World.cell? w12
  (Addr.add
  (Addr.mk k34 0
  none)
  1) =
  some
  (Value.slice o15
  k37 k38) ∧
  idx o15 k37 1 1
  fun (a3 : Addr) =>
  ∃ (s1 :
  ByteArray),
  World.cell? w12
  a3 =
  some
  (Value.string
  s1) ∧
  br
  (ByteArray.toList
  s1 ==
  ByteArray.toList
  (ByteArray.mk
  (Array.mk
  [83])))
  (∃ (o16 :
  Option
  Addr),
  ∃ (k39 :
  Nat),
  ∃ (k40 :
  Nat),
  World.cell?
  w12
  (Addr.add
  (Addr.mk
  k34
  0
  none)
  4) =
  some
  (Value.slice
  o16
  k39
  k40) ∧
  br
  ((↑k39 :
  Int) ==
  2)
  (∃
  (n6
  :
  Int),
  World.cell?
  w12
  (Addr.add
  (Addr.mk
  k34
  0
  none)
  3) =
  some
  (Value.int
  IntKind.i64
  n6) ∧
  R
  (Value.bool
  (n6 ==
  3))
  w12)
  (R
  (Value.bool
  false)
  w12))
  (R
  (Value.bool
  false)
  w12))
  (R (Value.bool false) w12))
  (R (Value.bool false) w12))
  (R (Value.bool false) w12))
  (R (Value.bool false) w12))
  (R (Value.bool false) w12))
  (R (Value.bool false) w12)
set_option maxRecDepth 100000 in
theorem run_presagelaw06_awake  (w : World) (R : Value → World → Prop) (h : vc_presagelaw06_awake  w R) : Run Tryd.prog 34 [] w R :=
  run_ev tyOk fnOk mixed Tryd.func34 ann_presagelaw06_awake ((by kernel_rfl : fnV Tryd.prog Ty Fn Ev ann_presagelaw06_awake Tryd.f34 [] w R = vc_presagelaw06_awake  w R) ▸ h)

abbrev n_presagelaw06_ReachSame : FuncId := 9
def ann_presagelaw06_ReachSame : Ann := { rngs := [], loops := [], joins := [(8, [(40, (.one .bool))])], blocks := [] }
set_option maxRecDepth 100000 in
def vc_presagelaw06_ReachSame (p0g_0a : Option Addr) (p0g_0l : Nat) (p0g_0c : Nat) (p0g_1a : Option Addr) (p0g_1l : Nat) (p0g_1c : Nat) (p0g_2a : Option Addr) (p0g_2l : Nat) (p0g_2c : Nat) (p0g_3 : Int) (p0g_4a : Option Addr) (p0g_4l : Nat) (p0g_4c : Nat) (p1rawa : Option Addr) (p1rawl : Nat) (p1rawc : Nat) (w : World) (R : Value → World → Prop) : Prop :=
  new w
  (Obj.cells
  (Array.mk [Value.slice p0g_0a p0g_0l p0g_0c, Value.slice p0g_1a p0g_1l p0g_1c, Value.slice p0g_2a p0g_2l p0g_2c, Value.int IntKind.i64 p0g_3, Value.slice p0g_4a p0g_4l p0g_4c])
  27)
  fun (k1 : Nat) (w1 : World) =>
  ∃ (o1 : Option Addr),
  ∃ (k2 : Nat),
  ∃ (k3 : Nat),
  ∃ (o2 : Option Addr),
  ∃ (k4 : Nat),
  ∃ (k5 : Nat),
  ∃ (o3 : Option Addr),
  ∃ (k6 : Nat),
  ∃ (k7 : Nat),
  ∃ (n1 : Int),
  ∃ (o4 : Option Addr),
  ∃ (k8 : Nat),
  ∃ (k9 : Nat),
  V.rowAt w1 (Addr.mk k1 0 none) 0 5 =
  some [Value.slice o1 k2 k3, Value.slice o2 k4 k5, Value.slice o3 k6 k7, Value.int IntKind.i64 n1, Value.slice o4 k8 k9] ∧
  RunE Proofs.Tryd.prog Ev 14
  [Value.agg (Array.mk [Value.slice o1 k2 k3, Value.slice o2 k4 k5, Value.slice o3 k6 k7, Value.int IntKind.i64 n1, Value.slice o4 k8 k9])] w1
  fun (v1 : Value) (w2 : World) =>
  ∃ (o5 : Option Addr),
  ∃ (k10 : Nat),
  ∃ (k11 : Nat),
  ∃ (o6 : Option Addr),
  ∃ (k12 : Nat),
  ∃ (k13 : Nat),
  ∃ (o7 : Option Addr),
  ∃ (k14 : Nat),
  ∃ (k15 : Nat),
  ∃ (n2 : Int),
  ∃ (o8 : Option Addr),
  ∃ (k16 : Nat),
  ∃ (k17 : Nat),
  v1 =
  Value.agg
  (Array.mk
  [Value.slice o5 k10 k11, Value.slice o6 k12 k13, Value.slice o7 k14 k15, Value.int IntKind.i64 n2,
  Value.slice o8 k16 k17]) ∧
  RunE Proofs.Tryd.prog Ev 31
  [Value.agg
  (Array.mk
  [Value.slice o5 k10 k11, Value.slice o6 k12 k13, Value.slice o7 k14 k15, Value.int IntKind.i64 n2,
  Value.slice o8 k16 k17])]
  w2 fun (v2 : Value) (w3 : World) =>
  ∃ (o9 : Option Addr),
  ∃ (k18 : Nat),
  ∃ (k19 : Nat),
  ∃ (o10 : Option Addr),
  ∃ (k20 : Nat),
  ∃ (k21 : Nat),
  ∃ (o11 : Option Addr),
  ∃ (k22 : Nat),
  ∃ (k23 : Nat),
  ∃ (n3 : Int),
  ∃ (o12 : Option Addr),
  ∃ (k24 : Nat),
  ∃ (k25 : Nat),
  ∃ (n4 : Int),
  v2 =
  Value.tuple
  (Array.mk
  [Value.agg
  (Array.mk
  [Value.slice o9 k18 k19, Value.slice o10 k20 k21, Value.slice o11 k22 k23,
  Value.int IntKind.i64 n3, Value.slice o12 k24 k25]),
  Value.int IntKind.i64 n4]) ∧
  new w3
  (Obj.cells
  (Array.mk
  [Value.slice none 0 0, Value.slice none 0 0, Value.slice none 0 0,
  Value.int IntKind.i64 0, Value.slice none 0 0])
  27)
  fun (k26 : Nat) (w4 : World) =>
  stR w4 (Addr.mk k26 0 none)
  [Value.slice o9 k18 k19, Value.slice o10 k20 k21, Value.slice o11 k22 k23,
  Value.int IntKind.i64 n3, Value.slice o12 k24 k25]
  fun (w5 : World) =>
  ∃ (o13 : Option Addr),
  ∃ (k27 : Nat),
  ∃ (k28 : Nat),
  ∃ (o14 : Option Addr),
  ∃ (k29 : Nat),
  ∃ (k30 : Nat),
  ∃ (o15 : Option Addr),
  ∃ (k31 : Nat),
  ∃ (k32 : Nat),
  ∃ (n5 : Int),
  ∃ (o16 : Option Addr),
  ∃ (k33 : Nat),
  ∃ (k34 : Nat),
  V.rowAt w5 (Addr.mk k1 0 none) 0 5 =
  some
  [Value.slice o13 k27 k28, Value.slice o14 k29 k30,
  Value.slice o15 k31 k32, Value.int IntKind.i64 n5,
  Value.slice o16 k33 k34] ∧
  RunE Proofs.Tryd.prog Ev 28
  [Value.agg
  (Array.mk
  [Value.slice o13 k27 k28,
  Value.slice o14 k29 k30,
  Value.slice o15 k31 k32,
  Value.int IntKind.i64 n5,
  Value.slice o16 k33 k34])]
  w5 fun (v3 : Value) (w6 : World) =>
  ∃ (b1 : Bool),
  v3 = Value.bool b1 ∧
  br (!b1)
  (br (n4 == 1)
  (RunE Proofs.Tryd.prog Ev 34 [] w6
  fun (v4 : Value) (w7 : World) =>
  ∃ (b2 : Bool),
  v4 = Value.bool b2 ∧ R (Value.bool b2) w7)
  (R (Value.bool false) w6))
  (∃ (o17 : Option Addr),
  ∃ (k35 : Nat),
  ∃ (k36 : Nat),
  ∃ (o18 : Option Addr),
  ∃ (k37 : Nat),
  ∃ (k38 : Nat),
  ∃ (o19 : Option Addr),
  ∃ (k39 : Nat),
  ∃ (k40 : Nat),
  ∃ (n6 : Int),
  ∃ (o20 : Option Addr),
  ∃ (k41 : Nat),
  ∃ (k42 : Nat),
  V.rowAt w6
  (Addr.mk k1 0
  none)
  0 5 =
  some
  [Value.slice o17
  k35 k36,
  Value.slice
  o18 k37 k38,
  Value.slice
  o19 k39 k40,
  Value.int
  IntKind.i64
  n6,
  Value.slice
  o20 k41
  k42] ∧
  RunE
  Proofs.Tryd.prog
  Ev 35
  [Value.agg
  (Array.mk
  [Value.slice
  o17 k35
  k36,
  Value.slice
  o18 k37
  k38,
  Value.slice
  o19 k39
  k40,
  Value.int
  IntKind.i64
  n6,
  Value.slice
  o20 k41
  k42]),
  Value.slice
  p1rawa p1rawl
  p1rawc,
  Value.int
  IntKind.i64
  12]
  w6
  fun (v5 : Value)
  (w8 : World) =>
  ∃ (o21 :
  Option Addr),
  ∃ (k43 : Nat),
  ∃ (k44 : Nat),
  v5 =
  Value.slice
  o21
  k43
  k44 ∧
  br
  (n4 ==
  12)
  (∃ (o22
  :
  Option
  Addr),
  ∃ (k45
  :
  Nat),
  ∃
  (k46
  :
  Nat),
  ∃
  (o23
  :
  Option
  Addr),
  ∃
  (k47
  :
  Nat),
  ∃
  (k48
  :
  Nat),
  ∃
  (o24
  :
  Option
  Addr),
  ∃
  (k49
  :
  Nat),
  ∃
  (k50
  :
  Nat),
  ∃
  (n7
  :
  Int),
  ∃
  (o25
  :
  Option
  Addr),
  ∃
  (k51
  :
  Nat),
  ∃
  (k52
  :
  Nat),
  V.rowAt
  w8
  (Addr.mk
  k1
  0
  none)
  0
  5 =
  some
  [Value.slice
  o22
  k45
  k46,
  Value.slice
  o23
  k47
  k48,
  Value.slice
  o24
  k49
  k50,
  Value.int
  IntKind.i64
  n7,
  Value.slice
  o25
  k51
  k52] ∧
  RunE
  Proofs.Tryd.prog
  Ev
  36
  [Value.agg
  (Array.mk
  [Value.slice
  o22
  k45
  k46,
  Value.slice
  o23
  k47
  k48,
  Value.slice
  o24
  k49
  k50,
  Value.int
  IntKind.i64
  n7,
  Value.slice
  o25
  k51
  k52]),
  Value.slice
  o21
  k43
  k44]
  w8
  fun
  (v6 :
  Value)
  (w9 :
  World) =>
  ∃
  (b3
  :
  Bool),
  v6 =
  Value.bool
  b3 ∧
  br
  (!b3)
  (RunE
  Proofs.Tryd.prog
  Ev
  34
  []
  w9
  fun
  (v7 :
  Value)
  (w10 :
  World) =>
  ∃
  (b4
  :
  Bool),
  v7 =
  Value.bool
  b4 ∧
  R
  (Value.bool
  b4)
  w10)
  (R
  (Value.bool
  false)
  w9))
  (∃ (x1 :
  arrS
  (shs
  [(40,
  S1.one
  Cs.bool)])
  (World →
  Prop)),
  br
  (n4 !=
  0)
  (x1
  true
  w8)
  (∃
  (o26
  :
  Option
  Addr),
  ∃
  (k53
  :
  Nat),
  ∃
  (k54
  :
  Nat),
  ∃
  (o27
  :
  Option
  Addr),
  ∃
  (k55
  :
  Nat),
  ∃
  (k56
  :
  Nat),
  ∃
  (o28
  :
  Option
  Addr),
  ∃
  (k57
  :
  Nat),
  ∃
  (k58
  :
  Nat),
  ∃
  (n8
  :
  Int),
  ∃
  (o29
  :
  Option
  Addr),
  ∃
  (k59
  :
  Nat),
  ∃
  (k60
  :
  Nat),
  V.rowAt
  w8
  (Addr.mk
  k26
  0
  none)
  0
  5 =
  some
  [Value.slice
  o26
  k53
  k54,
  Value.slice
  o27
  k55
  k56,
  Value.slice
  o28
  k57
  k58,
  Value.int
  IntKind.i64
  n8,
  Value.slice
  o29
  k59
  k60] ∧
  RunE
  Proofs.Tryd.prog
  Ev
  29
  [Value.agg
  (Array.mk
  [Value.slice
  o26
  k53
  k54,
  Value.slice
  o27
  k55
  k56,
  Value.slice
  o28
  k57
  k58,
  Value.int
  IntKind.i64
  n8,
  Value.slice
  o29
  k59
  k60])]
  w8
  fun
  (v8 :
  Value)
  (w11 :
  World) =>
  ∃
  (b5
  :
  Bool),
  v8 =
  Value.bool
  b5 ∧
  x1
  (!b5)
  w11) ∧
  ∀
  (I1 :
  Nat →
  Value)
  (b6 :
  Bool)
  (w12 :
  World),
  x1
  b6
  w12 →
  br
  b6
  (R
  (Value.bool
  false)
  w12)
  (∀
  (w13 :
  World),
  drawn
  w12
  w13 →
  ∃
  (I2
  :
  World →
  Prop),
  I2
  w13 ∧
  ∃
  (o30
  :
  Option
  Addr),
  ∃
  (k61
  :
  Nat),
  ∃
  (k62
  :
  Nat),
  ∃
  (o31
  :
  Option
  Addr),
  ∃
  (k63
  :
  Nat),
  ∃
  (k64
  :
  Nat),
  ∃
  (o32
  :
  Option
  Addr),
  ∃
  (k65
  :
  Nat),
  ∃
  (k66
  :
  Nat),
  ∃
  (n9
  :
  Int),
  ∃
  (o33
  :
  Option
  Addr),
  ∃
  (k67
  :
  Nat),
  ∃
  (k68
  :
  Nat),
  (∀
  (w14 :
  World),
  I2
  w14 →
  V.rowAt
  w14
  (Addr.mk
  k1
  0
  none)
  0
  5 =
  some
  [Value.slice
  o30
  k61
  k62,
  Value.slice
  o31
  k63
  k64,
  Value.slice
  o32
  k65
  k66,
  Value.int
  IntKind.i64
  n9,
  Value.slice
  o33
  k67
  k68]) ∧
  ∃
  (o34
  :
  Option
  Addr),
  ∃
  (k69
  :
  Nat),
  ∃
  (k70
  :
  Nat),
  ∃
  (o35
  :
  Option
  Addr),
  ∃
  (k71
  :
  Nat),
  ∃
  (k72
  :
  Nat),
  ∃
  (o36
  :
  Option
  Addr),
  ∃
  (k73
  :
  Nat),
  ∃
  (k74
  :
  Nat),
  ∃
  (n10
  :
  Int),
  ∃
  (o37
  :
  Option
  Addr),
  ∃
  (k75
  :
  Nat),
  ∃
  (k76
  :
  Nat),
  (∀
  (w15 :
  World),
  I2
  w15 →
  V.rowAt
  w15
  (Addr.mk
  k26
  0
  none)
  0
  5 =
  some
  [Value.slice
  o34
  k69
  k70,
  Value.slice
  o35
  k71
  k72,
  Value.slice
  o36
  k73
  k74,
  Value.int
  IntKind.i64
  n10,
  Value.slice
  o37
  k75
  k76]) ∧
  RunE
  Proofs.Tryd.prog
  Ev
  36
  [Value.agg
  (Array.mk
  [Value.slice
  o30
  k61
  k62,
  Value.slice
  o31
  k63
  k64,
  Value.slice
  o32
  k65
  k66,
  Value.int
  IntKind.i64
  n9,
  Value.slice
  o33
  k67
  k68]),
  Value.slice
  o21
  k43
  k44]
  w13
  fun
  (v9 :
  Value)
  (w16 :
  World) =>
  ∃
  (b7
  :
  Bool),
  v9 =
  Value.bool
  b7 ∧
  ∃
  (I3
  :
  World →
  Prop),
  I3
  w16 ∧
  (∀
  (w17 :
  World),
  I3
  w17 →
  I2
  w17) ∧
  RunE
  Proofs.Tryd.prog
  Ev
  36
  [Value.agg
  (Array.mk
  [Value.slice
  o34
  k69
  k70,
  Value.slice
  o35
  k71
  k72,
  Value.slice
  o36
  k73
  k74,
  Value.int
  IntKind.i64
  n10,
  Value.slice
  o37
  k75
  k76]),
  Value.slice
  o21
  k43
  k44]
  w16
  fun
  (v10 :
  Value)
  (w18 :
  World) =>
  ∃
  (b8
  :
  Bool),
  v10 =
  Value.bool
  b8 ∧
  ∃
  (I4
  :
  World →
  Prop),
  I4
  w18 ∧
  (∀
  (w19 :
  World),
  I4
  w19 →
  I3
  w19) ∧
  br
  (b7 ==
  b8)
  (∃
  (o38
  :
  Option
  Addr),
  ∃
  (k77
  :
  Nat),
  ∃
  (k78
  :
  Nat),
  ∃
  (o39
  :
  Option
  Addr),
  ∃
  (k79
  :
  Nat),
  ∃
  (k80
  :
  Nat),
  ∃
  (o40
  :
  Option
  Addr),
  ∃
  (k81
  :
  Nat),
  ∃
  (k82
  :
  Nat),
  ∃
  (n11
  :
  Int),
  ∃
  (o41
  :
  Option
  Addr),
  ∃
  (k83
  :
  Nat),
  ∃
  (k84
  :
  Nat),
  (∀
  (w20 :
  World),
  I4
  w20 →
  V.rowAt
  w20
  (Addr.mk
  k1
  0
  none)
  0
  5 =
  some
  [Value.slice
  o38
  k77
  k78,
  Value.slice
  o39
  k79
  k80,
  Value.slice
  o40
  k81
  k82,
  Value.int
  IntKind.i64
  n11,
  Value.slice
  o41
  k83
  k84]) ∧
  ∃
  (o42
  :
  Option
  Addr),
  ∃
  (k85
  :
  Nat),
  ∃
  (k86
  :
  Nat),
  ∃
  (o43
  :
  Option
  Addr),
  ∃
  (k87
  :
  Nat),
  ∃
  (k88
  :
  Nat),
  ∃
  (o44
  :
  Option
  Addr),
  ∃
  (k89
  :
  Nat),
  ∃
  (k90
  :
  Nat),
  ∃
  (n12
  :
  Int),
  ∃
  (o45
  :
  Option
  Addr),
  ∃
  (k91
  :
  Nat),
  ∃
  (k92
  :
  Nat),
  (∀
  (w21 :
  World),
  I4
  w21 →
  V.rowAt
  w21
  (Addr.mk
  k26
  0
  none)
  0
  5 =
  some
  [Value.slice
  o42
  k85
  k86,
  Value.slice
  o43
  k87
  k88,
  Value.slice
  o44
  k89
  k90,
  Value.int
  IntKind.i64
  n12,
  Value.slice
  o45
  k91
  k92]) ∧
  RunE
  Proofs.Tryd.prog
  Ev
  37
  [Value.agg
  (Array.mk
  [Value.slice
  o38
  k77
  k78,
  Value.slice
  o39
  k79
  k80,
  Value.slice
  o40
  k81
  k82,
  Value.int
  IntKind.i64
  n11,
  Value.slice
  o41
  k83
  k84]),
  Value.slice
  o21
  k43
  k44]
  w18
  fun
  (v11 :
  Value)
  (w22 :
  World) =>
  ∃
  (b9
  :
  Bool),
  v11 =
  Value.bool
  b9 ∧
  I4
  w22 ∧
  RunE
  Proofs.Tryd.prog
  Ev
  37
  [Value.agg
  (Array.mk
  [Value.slice
  o42
  k85
  k86,
  Value.slice
  o43
  k87
  k88,
  Value.slice
  o44
  k89
  k90,
  Value.int
  IntKind.i64
  n12,
  Value.slice
  o45
  k91
  k92]),
  Value.slice
  o21
  k43
  k44]
  w22
  fun
  (v12 :
  Value)
  (w23 :
  World) =>
  ∃
  (b10
  :
  Bool),
  v12 =
  Value.bool
  b10 ∧
  I4
  w23 ∧
  br
  (b9 ==
  b10)
  (RunE
  Proofs.Tryd.prog
  Ev
  34
  []
  w23
  fun
  (v13 :
  Value)
  (w24 :
  World) =>
  ∃
  (b11
  :
  Bool),
  v13 =
  Value.bool
  b11 ∧
  I4
  w24 ∧
  R
  (Value.bool
  b11)
  w24)
  (R
  (Value.bool
  false)
  w23))
  (R
  (Value.bool
  false)
  w18))))
set_option maxRecDepth 100000 in
theorem run_presagelaw06_ReachSame (p0g_0a : Option Addr) (p0g_0l : Nat) (p0g_0c : Nat) (p0g_1a : Option Addr) (p0g_1l : Nat) (p0g_1c : Nat) (p0g_2a : Option Addr) (p0g_2l : Nat) (p0g_2c : Nat) (p0g_3 : Int) (p0g_4a : Option Addr) (p0g_4l : Nat) (p0g_4c : Nat) (p1rawa : Option Addr) (p1rawl : Nat) (p1rawc : Nat) (w : World) (R : Value → World → Prop) (h : vc_presagelaw06_ReachSame p0g_0a p0g_0l p0g_0c p0g_1a p0g_1l p0g_1c p0g_2a p0g_2l p0g_2c p0g_3 p0g_4a p0g_4l p0g_4c p1rawa p1rawl p1rawc w R) : Run Tryd.prog 9 [(.agg #[(.slice p0g_0a p0g_0l p0g_0c), (.slice p0g_1a p0g_1l p0g_1c), (.slice p0g_2a p0g_2l p0g_2c), (.int .i64 p0g_3), (.slice p0g_4a p0g_4l p0g_4c)]), (.slice p1rawa p1rawl p1rawc)] w R :=
  run_ev tyOk fnOk mixed Tryd.func9 ann_presagelaw06_ReachSame ((by kernel_rfl : fnV Tryd.prog Ty Fn Ev ann_presagelaw06_ReachSame Tryd.f9 [(.agg #[(.slice p0g_0a p0g_0l p0g_0c), (.slice p0g_1a p0g_1l p0g_1c), (.slice p0g_2a p0g_2l p0g_2c), (.int .i64 p0g_3), (.slice p0g_4a p0g_4l p0g_4c)]), (.slice p1rawa p1rawl p1rawc)] w R = vc_presagelaw06_ReachSame p0g_0a p0g_0l p0g_0c p0g_1a p0g_1l p0g_1c p0g_2a p0g_2l p0g_2c p0g_3 p0g_4a p0g_4l p0g_4c p1rawa p1rawl p1rawc w R) ▸ h)

end Go.Proofs.YtaheggomcnbbiaaDoor
set_option linter.unusedVariables false
namespace Go.V
def PdRes (g : GramT) (e : Int) (nn : List Bool) : Prop := (¬ EitherP g ∧ e = 1 ∧ nn = []) ∨ (EitherP g ∧ e = 0 ∧ PnP g nn)
def UsRes (g : GramT) (e : Int) (nn : List Bool) : Prop := (¬ EitherP g ∧ e = 1 ∧ nn = []) ∨ (EitherP g ∧ e = 0 ∧ UnP g nn)
theorem PdRes.inj {g : GramT} {e e' : Int} {nn nn' : List Bool} (h : PdRes g e nn) (k : PdRes g e' nn') : e = e' ∧ nn = nn' := by
  rcases h with ⟨h1, rfl, rfl⟩ | ⟨h1, rfl, h2⟩ <;> rcases k with ⟨k1, rfl, rfl⟩ | ⟨k1, rfl, k2⟩
  · exact ⟨rfl, rfl⟩
  · exact absurd k1 h1
  · exact absurd h1 k1
  · exact ⟨rfl, h2.inj k2⟩
theorem UsRes.inj {g : GramT} {e e' : Int} {nn nn' : List Bool} (h : UsRes g e nn) (k : UsRes g e' nn') : e = e' ∧ nn = nn' := by
  rcases h with ⟨h1, rfl, rfl⟩ | ⟨h1, rfl, h2⟩ <;> rcases k with ⟨k1, rfl, rfl⟩ | ⟨k1, rfl, k2⟩
  · exact ⟨rfl, rfl⟩
  · exact absurd k1 h1
  · exact absurd h1 k1
  · exact ⟨rfl, h2.inj k2⟩
theorem PdRes.le {g : GramT} {e : Int} {nn : List Bool} (h : PdRes g e nn) : nn.length ≤ 65 := by
  rcases h with ⟨_, _, rfl⟩ | ⟨he, _, h1, h2⟩
  · simp
  · obtain ⟨iG, bT, bN, pN, pT, bP⟩ := inG he
    omega
theorem UsRes.le {g : GramT} {e : Int} {nn : List Bool} (h : UsRes g e nn) : nn.length ≤ 65 := by
  rcases h with ⟨_, _, rfl⟩ | ⟨he, _, h1, h2⟩
  · simp
  · obtain ⟨iG, bT, bN, pN, pT, bP⟩ := inG he
    omega
theorem own_cel {w : World} {L : List Asn} {k n : Nat} {nn : List Bool} (h : St w (cel k (bv nn) :: L)) (hl : nn.length = n) : St w (own 1 (some ⟨k, 0, none⟩) n n (bv nn) :: L) :=
  own_some (cs := []) (vs := bv nn) (by rw [List.append_nil]; exact h) (by rw [bv_len, hl, Nat.mul_one]) (by rw [List.append_nil, bv_len, hl, Nat.mul_one]) (Nat.le_refl _)
end Go.V
namespace Go.Proofs.YtaheggomcnbbiaaDoor
open Go.V
section
variable {w : World} {L : List Asn} {g : GramT} {x : GA} {a a2 : Option Addr} {l l2 c c2 : Nat} {bs : List Bool}
set_option maxHeartbeats 1000000 in
theorem r_Productive2 (hg : gR (hp w) g x) (hb : okG g) (ht : tabA (hp w)) : Run Tryd.prog n_reach_Productive [.agg ⟨x.cells⟩] w fun v w' => ∃ (o : Option Addr) (n c : Nat) (e : Int) (nn : List Bool), v = .tuple #[.slice o n c, .int .i64 e] ∧ nn.length = n ∧ PdRes g e nn ∧ St w' (own 1 o n c (bv nn) :: all w) := by
  refine run_reach_Productive _ _ _ _ _ _ _ _ _ _ _ _ _ w _ ?_
  refine gbox hg fun k1 w1 gw hg B => ?_
  refine ⟨_, _, _, _, _, _, _, _, _, _, _, _, _, B.row (sub.refl _), (g_Valid (x := x) hg hb).mono ?_⟩
  rintro _ w2 ⟨⟨r1, rfl, e1⟩, g2⟩
  refine ⟨_, rfl, br_intro (fun h1 => ?_) fun h1 => ?_⟩
  · refine ⟨_, _, _, _, _, _, _, _, _, _, _, _, _, B.row g2, (g_Closed (x := x) (hg.mono g2) hb).mono ?_⟩
    rintro _ w2' ⟨⟨r2, rfl, e2⟩, g2'⟩
    have s2 : Gr w1 w2' := g2.trans g2'
    refine ⟨_, rfl, br_intro (fun h2 => ?_) fun h2 => ?_⟩
    · have hn : ¬ EitherP g := by
        rintro (h | h)
        · rw [e1.2 h] at h1; cases h1
        · rw [e2.2 h] at h2; cases h2
      exact ⟨_, _, _, _, [], rfl, rfl, .inl ⟨hn, rfl, rfl⟩, own_nil 1 (has_i (gw.trans s2))⟩
    have he : EitherP g := .inr (e2.1 (by simpa using h2))
    obtain ⟨iG, bT, bN, pN, pT, bP⟩ := inG he
    refine ⟨_, _, _, _, _, _, _, _, _, _, _, _, _, B.row s2, (r_productive (x := x) (hg.mono s2) hb he).mono ?_⟩
    rintro _ w4 ⟨pb, bs, rfl, hbs, h4⟩
    have g4 : Gr w2' w4 := h4.gone1
    refine ⟨_, _, rfl, (r_nons h4.setR hbs.1 bN bT (rdV.mono ((gw.trans s2).trans g4) ht)).mono ?_⟩
    rintro _ w5 ⟨k, rfl, h5⟩
    have h5 : St w5 (cel k (bv (bs.drop g.T)) :: all w) := h5.on1 (has_i ((gw.trans s2).trans g4))
    exact ⟨_, _, _, rfl, _, _, _, _, _, rfl, hbs.nons.1, .inr ⟨he, rfl, hbs.nons⟩, own_cel h5 hbs.nons.1⟩
  · have he : EitherP g := .inl (e1.1 (by simpa using h1))
    obtain ⟨iG, bT, bN, pN, pT, bP⟩ := inG he
    have s2 : Gr w1 w2 := g2
    refine ⟨_, _, _, _, _, _, _, _, _, _, _, _, _, B.row s2, (r_productive (x := x) (hg.mono s2) hb he).mono ?_⟩
    rintro _ w4 ⟨pb, bs, rfl, hbs, h4⟩
    have g4 : Gr w2 w4 := h4.gone1
    refine ⟨_, _, rfl, (r_nons h4.setR hbs.1 bN bT (rdV.mono ((gw.trans s2).trans g4) ht)).mono ?_⟩
    rintro _ w5 ⟨k, rfl, h5⟩
    have h5 : St w5 (cel k (bv (bs.drop g.T)) :: all w) := h5.on1 (has_i ((gw.trans s2).trans g4))
    exact ⟨_, _, _, rfl, _, _, _, _, _, rfl, hbs.nons.1, .inr ⟨he, rfl, hbs.nons⟩, own_cel h5 hbs.nons.1⟩
end
end Go.Proofs.YtaheggomcnbbiaaDoor
set_option linter.unusedVariables false
namespace Go.V
def exG : GramT := ⟨[⟨⟨⟨[]⟩⟩, 0⟩, ⟨by1 97, 0⟩], [by1 83, by1 88], [], 2, [⟨2, [1], 0⟩, ⟨2, [3], 0⟩, ⟨3, [3, 1], 0⟩]⟩
theorem ex_valid : ValidP exG := by
  refine ⟨⟨rfl, by decide, by decide, by decide, by decide, ?_, ?_, ?_, ?_, ?_⟩, ⟨by decide, by decide, ?_, by decide, by decide, by decide⟩, ?_⟩
  · decide
  · intro i v h; simp [exG] at h
  · decide
  · decide
  · decide
  · intro p hp
    simp only [List.drop_zero, exG, List.mem_cons, List.not_mem_nil, or_false] at hp
    unfold prodOk symOk
    rcases hp with rfl | rfl | rfl <;> refine ⟨by decide, ?_⟩ <;> intro s hs <;> simp at hs
    · subst hs; decide
    · subst hs; decide
    · rcases hs with rfl | rfl <;> decide
  · intro i x y hx hy
    have e : leftsG exG 0 = [2, 3] := by decide
    rw [e] at hx hy
    match i, hx, hy with
    | 0, hx, hy => cases hx; cases hy; decide
    | 1, _, hy => cases hy
    | i + 2, hx, _ => cases hx
theorem ex_in : InG exG := (inG (.inl ex_valid)).1
theorem ex_no : ∀ s, Pd exG s → s ≠ 3 := fun s h => by
  induction h with
  | tm t h => have : t < 2 := h; omega
  | mk p hp _ ih =>
    simp only [exG, List.mem_cons, List.not_mem_nil, or_false] at hp
    rcases hp with rfl | rfl | rfl
    · decide
    · decide
    · exact absurd rfl (ih 3 (by simp))
theorem ex_p2 : Pd exG 2 := .mk ⟨2, [1], 0⟩ (by simp [exG]) fun s hs => by
  simp at hs; subst hs; exact .tm 1 (by decide)
theorem ex_u : ∀ s, Us exG s → s ≠ 3 := fun s h => by
  cases h with
  | start _ => decide
  | zero _ _ => decide
  | pr p s hp _ hr hs => exact ex_no s (hr s hs)
theorem ex_pn : PnP exG [true, false] := ⟨rfl, fun i => by
  match i with
  | 0 => exact ⟨fun _ => ex_p2, fun _ => rfl⟩
  | 1 => exact ⟨fun h => absurd h (by decide), fun h => absurd rfl (ex_no _ h)⟩
  | i + 2 =>
    refine ⟨fun h => (by rw [fnB_out (by simp)] at h; exact absurd h (by decide)), fun h => ?_⟩
    have := (h.in ex_in).2
    have e : (exG.T : Int) + exG.N = 4 := rfl
    rw [e] at this
    have e2 : exG.T = 2 := rfl
    rw [e2] at this; omega⟩
theorem ex_un : UnP exG [true, false] := ⟨rfl, fun i => by
  match i with
  | 0 => exact ⟨fun _ => .start ex_p2, fun _ => rfl⟩
  | 1 => exact ⟨fun h => absurd h (by decide), fun h => absurd rfl (ex_u _ h)⟩
  | i + 2 =>
    refine ⟨fun h => (by rw [fnB_out (by simp)] at h; exact absurd h (by decide)), fun h => ?_⟩
    have := (h.in (.inl ex_valid)).2
    have e : (exG.T : Int) + exG.N = 4 := rfl
    rw [e] at this
    have e2 : exG.T = 2 := rfl
    rw [e2] at this; omega⟩
theorem ex_ok : okG exG := by
  refine ⟨by decide, by decide, by decide, by decide, ?_, by decide, by decide⟩
  intro t ht
  simp only [exG, List.mem_cons, List.not_mem_nil, or_false] at ht
  unfold anyI
  rcases ht with rfl | rfl <;> decide
def exR : GramT := ⟨[⟨⟨⟨[]⟩⟩, 0⟩, ⟨by1 97, 0⟩], [.empty, by1 83], [], 3, [⟨2, [3], 0⟩, ⟨3, [1], 0⟩]⟩
theorem ex_red : redG exG [true, false] [true, false] = exR := by rfl
end Go.V
namespace Go.Proofs.YtaheggomcnbbiaaDoor
open Go.V
section
variable {w : World} {L : List Asn} {g : GramT} {x : GA}
set_option maxHeartbeats 2000000 in
theorem l_awake6 (ht : tabA (hp w)) : Run Tryd.prog n_presagelaw06_awake [] w fun v w' => v = .bool true ∧ Gr w w' := by
  refine run_presagelaw06_awake w _ ?_
  refine newC_i (St.all w) fun k1 w1 h => newC_i h fun k2 w2 h => newC_i h fun k3 w3 h => newC_i h fun k4 w4 h => newC_i h fun k5 w5 h => newC_i h fun k6 w6 h => newC_i h fun k7 w7 h => stR_i h rfl (by intro v hv; simp at hv; rcases hv with rfl | rfl | rfl | rfl | rfl <;> rfl) fun w8 h => ?_
  have r7 : rowH (hp w8) ⟨k7, 0, none⟩ _ := rdCel 0 h.l
  have r6 : rowH (hp w8) ⟨k6, 0, none⟩ _ := rdCel 1 h.l
  have r5 : rowH (hp w8) ⟨k5, 0, none⟩ _ := rdCel 2 h.l
  have r4 : rowH (hp w8) ⟨k4, 0, none⟩ _ := rdCel 3 h.l
  have r3 : rowH (hp w8) ⟨k3, 0, none⟩ _ := rdCel 4 h.l
  have r2 : rowH (hp w8) ⟨k2, 0, none⟩ _ := rdCel 5 h.l
  have r1 : rowH (hp w8) ⟨k1, 0, none⟩ _ := rdCel 6 h.l
  have g8 : sub (hp w) (hp w8) := rdH 7 h.l
  have p3 : rdS (hp w8) ([1] : List Int) (some ⟨k3, 0, none⟩) 1 := rdI_of rfl (.inr ⟨_, rfl, r3⟩)
  have p4 : rdS (hp w8) ([3] : List Int) (some ⟨k4, 0, none⟩) 1 := rdI_of rfl (.inr ⟨_, rfl, r4⟩)
  have p5 : rdS (hp w8) ([3, 1] : List Int) (some ⟨k5, 0, none⟩) 2 := rdI_of rfl (.inr ⟨_, rfl, r5⟩)
  have p0 : rdS (hp w8) ([] : List Int) none 0 := rdI_of rfl (.inl rfl)
  obtain ⟨x, hx⟩ : ∃ x : GA, x = ⟨some ⟨k1, 0, none⟩, 2, 2, some ⟨k2, 0, none⟩, 2, 2, none, 0, 0, 2, some ⟨k6, 0, none⟩, 3, 3⟩ := ⟨_, rfl⟩
  have hg : gR (hp w8) exG x := by
    rw [hx]
    refine ⟨?_, ?_, ?_, rfl, ?_, Nat.le_refl _, Nat.le_refl _, Nat.le_refl _, Nat.le_refl _⟩
    · refine rdS_lit (xs := exG.terms) r1 fun i t hi => ?_
      match i, hi with
      | 0, hi => cases hi; rfl
      | 1, hi => cases hi; rfl
      | i + 2, hi => cases hi
    · exact rdS_of_row (xs := exG.nons) rfl (.inr ⟨_, rfl, r2⟩)
    · exact p0
    · refine rdS_lit (xs := exG.prods) r6 fun i t hi => ?_
      match i, hi with
      | 0, hi => cases hi; exact ⟨_, _, _, rfl, Nat.le_refl _, p3⟩
      | 1, hi => cases hi; exact ⟨_, _, _, rfl, Nat.le_refl _, p4⟩
      | 2, hi => cases hi; exact ⟨_, _, _, rfl, Nat.le_refl _, p5⟩
      | i + 3, hi => cases hi
  have B : GB (hp w8) k7 x := by rw [hx]; exact gb_of r7
  have ht8 : tabA (hp w8) := rdV.mono g8 ht
  clear h
  refine ⟨_, _, _, _, _, _, _, _, _, _, _, _, _, B.row (sub.refl _), (r_Productive2 (x := x) hg ex_ok ht8).mono ?_⟩
  rintro _ w9 ⟨o9, n9, c9, e9, nn, rfl, hnl, hn, h9⟩
  rcases hn with ⟨hn, _⟩ | ⟨_, rfl, hn⟩
  · exact absurd (.inl ex_valid) hn
  have := hn.inj ex_pn
  subst this
  have hnl : 2 = n9 := hnl
  subst hnl
  have g9 : Gr w8 w9 := h9.gone1
  have r9 : rdS (hp w9) [true, false] o9 2 := rdB_of rfl (rdOwn 0 h9.l)
  refine ⟨_, _, _, _, rfl, _, _, _, _, _, _, _, _, _, _, _, _, _, B.row g9, (r_Reduce (x := x) (hg.mono g9) ex_ok (rdV.mono g9 ht8)).mono ?_⟩
  rintro _ w10 ⟨y, G, os, e, rfl, hy, hos, hR, h10⟩
  rcases hR with ⟨hn, _⟩ | ⟨_, hn, _⟩ | ⟨_, _, rfl, pds, uns, h1, h2, rfl⟩
  · exact absurd ex_valid hn
  · exact absurd ex_p2 hn
  rw [h1.inj ex_pn, h2.inj ex_un, ex_red] at hy h10 hos
  have gR10 := ownG_gR hy hos h10
  have g10 : Gr w9 w10 := rdH 5 h10.l
  obtain ⟨q1, q2, q3, q4, q5⟩ := hy
  refine ⟨_, _, _, _, _, _, _, _, _, _, _, _, _, _, rfl, newC_i (St.all w10) fun k34 w11 h11 => stR_i h11 rfl (by intro v hv; simp at hv; rcases hv with rfl | rfl | rfl | rfl | rfl <;> rfl) fun w12 h12 => ?_⟩
  have C : GB (hp w12) k34 y := gb_of h12.row
  have g12 : Gr w10 w12 := h12.gone1
  have gall : Gr w w12 := (g8.trans g9).trans (g10.trans g12)
  obtain ⟨a0, ad0, u0, v0, w0⟩ := r9.get1 (i := 0) (by decide)
  obtain ⟨a1, ad1, u1, v1, w1'⟩ := r9.get1 (i := 1) (by decide)
  cases u0; cases u1
  have s9 : sub (hp w9) (hp w12) := g10.trans g12
  have yn : y.nl = 2 := q2
  have yp : y.pl = 2 := q5
  obtain ⟨s, ads, us, vs, ws⟩ := gR10.n.get1 (i := 1) (by omega)
  cases us
  refine br_intro (fun _ => br_intro (fun _ => br_intro (fun _ => idx_0 v0 (by decide) ⟨_, w0 _ s9, br_intro (fun _ => ?_) fun h => absurd h (by decide)⟩) fun h => absurd h (by decide)) fun h => absurd h (by decide)) fun h => absurd h (by decide)
  show idx _ _ ((1 : Nat) : Int) 1 _
  refine idx_i v1 (by decide) ⟨_, w1' _ s9, br_intro (fun _ => ⟨_, _, _, C.c1 (sub.refl _), br_intro (fun _ => ⟨_, _, _, C.c1 (sub.refl _), ?_⟩) fun h => ?_⟩) fun h => absurd h (by decide)⟩
  · show idx _ _ ((1 : Nat) : Int) 1 _
    refine idx_i vs (by omega) ⟨_, ws _ g12, br_intro (fun _ => ⟨_, _, _, C.c4 (sub.refl _), br_intro (fun _ => ⟨_, C.c3 (sub.refl _), ?_, gall⟩) fun h => ?_⟩) fun h => ?_⟩
    · rw [q4]; rfl
    · rw [yp] at h; exact absurd h (by decide)
    · rw [bs_eq] at h; exact absurd (show by1 83 = ⟨⟨[83]⟩⟩ from rfl) (of_decide_eq_false h)
  · rw [yn] at h; exact absurd h (by decide)
end
end Go.Proofs.YtaheggomcnbbiaaDoor
set_option linter.unusedVariables false
namespace Go.V
end Go.V
namespace Go.Proofs.YtaheggomcnbbiaaDoor
open Go.V
section
variable {w : World} {L : List Asn} {g : GramT} {x : GA}
end
end Go.Proofs.YtaheggomcnbbiaaDoor
set_option linter.unusedVariables false
namespace Go.V
theorem fnB_symT {T : Nat} {nn : List Bool} (i : Nat) : fnB (List.replicate T true ++ nn) i = (decide (i < T) || fnB nn (i - T)) := by
  unfold fnB
  rw [List.getD_eq_getElem?_getD, List.getD_eq_getElem?_getD]
  by_cases h : i < T
  · rw [List.getElem?_append_left (by simpa using h), List.getElem?_replicate, if_pos h]; simp [h]
  · rw [List.getElem?_append_right (by simp; omega), List.length_replicate]; simp [h]
theorem UnP.sym {g : GramT} (he : EitherP g) {uns : List Bool} (h : UnP g uns) : UsP g (List.replicate g.T true ++ uns) ∧ (List.replicate g.T true ++ uns).drop g.T = uns := by
  refine ⟨⟨by simp [h.1], fun i => ?_⟩, by rw [List.drop_left' (by simp)]⟩
  rw [fnB_symT, Bool.or_eq_true, decide_eq_true_eq, h.2]
  constructor
  · rintro (h | h)
    · exact .inl h
    · by_cases hi : i < g.T
      · exact .inl hi
      · rw [show g.T + (i - g.T) = i from by omega] at h; exact .inr h
  · rintro (h | h)
    · exact .inl h
    · by_cases hi : i < g.T
      · exact .inl hi
      · right; rw [show g.T + (i - g.T) = i from by omega]; exact h
theorem keep_fit {g : GramT} {pds uns : List Bool} {p : ProdT} : keepU g pds uns p = true ↔ fnB uns (p.left.toNat - g.T) = true ∧ FitP g pds p.right := by
  unfold keepU FitP
  rw [Bool.and_eq_true, List.all_eq_true]
  simp only [Bool.or_eq_true, decide_eq_true_eq]
end Go.V
namespace Go.Proofs.YtaheggomcnbbiaaDoor
open Go.V
section
variable {w : World} {g : GramT} {x : GA}
end
end Go.Proofs.YtaheggomcnbbiaaDoor
set_option linter.unusedVariables false
namespace Go.V
end Go.V
namespace Go.Proofs.YtaheggomcnbbiaaDoor
open Go.V
section
variable {w : World} {G : GramT} {x : GA} {os : List (Option Addr × Nat)} {H : Hp}
end
end Go.Proofs.YtaheggomcnbbiaaDoor
set_option linter.unusedVariables false
namespace Go.V
theorem nodup_map_on {α β : Type} {f : α → β} {l : List α} (hf : ∀ a ∈ l, ∀ b ∈ l, f a = f b → a = b) (h : l.Nodup) : (l.map f).Nodup := by
  unfold List.Nodup at *
  rw [List.pairwise_map]
  exact h.imp_of_mem fun {a b} ha hb hab e => hab (hf a ha b hb e)
theorem rank_at {uns : List Bool} {n k : Nat} (hk : k < n) (hu : fnB uns k = true) : ∃ i, (membs n (fnB uns))[i]? = some k ∧ i = cnt k (fnB uns) ∧ i < cnt n (fnB uns) := by
  have hm : k ∈ membs n (fnB uns) := by unfold membs; rw [List.mem_filter, List.mem_range]; exact ⟨hk, hu⟩
  obtain ⟨i, hi, e⟩ := List.mem_iff_getElem.1 hm
  have hg : (membs n (fnB uns))[i]? = some k := by rw [← e]; exact List.getElem?_eq_getElem hi
  obtain ⟨_, _, h3⟩ := membs_get hg
  have hl := congrArg List.length h3
  rw [List.length_take, membs_len, membs_len] at hl
  rw [membs_len] at hi
  exact ⟨i, hg, by omega, hi⟩
theorem at_rank {uns : List Bool} {n i : Nat} (hi : i < cnt n (fnB uns)) : ∃ k, k < n ∧ fnB uns k = true ∧ cnt k (fnB uns) = i := by
  have hl : i < (membs n (fnB uns)).length := by rw [membs_len]; exact hi
  obtain ⟨h1, h2, h3⟩ := membs_get (List.getElem?_eq_getElem hl)
  have he := congrArg List.length h3
  rw [List.length_take, membs_len, membs_len] at he
  exact ⟨_, h2, h1, by omega⟩
theorem Us.pd {g : GramT} (hv : ValidP g) {s : Int} (h : Us g s) : Pd g s := by
  cases h with
  | start h => exact h
  | zero hc _ => exact absurd hc.1 (valid_sizes hv).2.2.2
  | pr p s hp _ hr hs => exact hr s hs
theorem Us.nt {g : GramT} (hv : ValidP g) {s : Int} (h : Pd g s) (hT : (g.T : Int) ≤ s) : ∃ p ∈ g.prods, p.left = s ∧ PdR g p.right := by
  cases h with
  | tm t ht => omega
  | mk p hp hr => exact ⟨p, hp, rfl, hr⟩
section
variable {g : GramT} {pds uns : List Bool}
theorem red_N : (redG g pds uns).N = 1 + cnt g.N (fnB uns) := by
  show (nonsU g uns).length = _
  unfold nonsU
  rw [List.length_cons, List.length_map, membs_len]; omega
theorem num_us (hun : UnP g uns) {s : Int} (hT : (g.T : Int) ≤ s) (h : Us g s) : numU g.T uns s = (g.T : Int) + 1 + (cnt (s.toNat - g.T) (fnB uns) : Int) ∧ fnB uns (s.toNat - g.T) = true := by
  have hu : fnB uns (s.toNat - g.T) = true := (hun.2 _).2 (by rw [subT hT]; exact h)
  unfold numU
  rw [if_neg (by omega), if_pos hu]
  exact ⟨rfl, hu⟩
theorem num_in (he : EitherP g) (hun : UnP g uns) {s : Int} (hT : (g.T : Int) ≤ s) (h : Us g s) : (g.T : Int) + 1 ≤ numU g.T uns s ∧ numU g.T uns s < (g.T : Int) + 1 + cnt g.N (fnB uns) := by
  obtain ⟨e, hu⟩ := num_us hun hT h
  have := (h.in he).2
  obtain ⟨i, _, h2, h3⟩ := rank_at (n := g.N) (k := s.toNat - g.T) (by omega) hu
  rw [e]; omega
theorem kept_us (hpd : PnP g pds) (hun : UnP g uns) (iG : InG g) {p : ProdT} (hp : p ∈ g.prods) : keepU g pds uns p = true ↔ Us g p.left ∧ PdR g p.right := by
  obtain ⟨hl, hr⟩ := iG p hp
  rw [keep_fit, hun.2, subT hl.1, hpd.fit hr]
theorem red_closed (hv : ValidP g) (hp : Pd g g.start) (hpd : PnP g pds) (hun : UnP g uns) : ClosedP (redG g pds uns) := by
  have he : EitherP g := .inl hv
  obtain ⟨iG, bT, bN, pN, pT, bP⟩ := inG he
  obtain ⟨sg1, sg2⟩ := start_in he
  obtain ⟨⟨a1, a2, a3, a4, a5, a6, a7, a8, a9, a10⟩, ⟨c1, c2, c3, c4, c5, c6⟩, _⟩ := id hv
  have hN' : g.N = g.nons.length := rfl
  have hst : Us g g.start := .start hp
  have hsr := num_in he hun sg1 hst
  have hcn : cnt g.N (fnB uns) ≤ g.N := cnt_le _ _
  have hc0 : 0 < cnt g.N (fnB uns) := by omega
  have hRN := red_N (g := g) (pds := pds) (uns := uns)
  have hRN' : (redG g pds uns).nons.length = 1 + cnt g.N (fnB uns) := hRN
  have mem_d : ∀ q, q ∈ (redG g pds uns).prods.drop 1 ↔ ∃ p ∈ g.prods, (Us g p.left ∧ PdR g p.right) ∧ q = prodU g uns p := fun q => by
    show q ∈ keptU g pds uns g.prods ↔ _
    unfold keptU
    rw [List.mem_map]
    constructor
    · rintro ⟨p, hp', rfl⟩
      rw [List.mem_filter] at hp'
      exact ⟨p, hp'.1, (kept_us hpd hun iG hp'.1).1 hp'.2, rfl⟩
    · rintro ⟨p, hp', hk, rfl⟩
      exact ⟨p, List.mem_filter.2 ⟨hp', (kept_us hpd hun iG hp').2 hk⟩, rfl⟩
  have hkl : ∀ {n : Nat}, n = (keptU g pds uns g.prods).length → n ≤ g.prods.length := fun h => by
    rw [h]; unfold keptU; rw [List.length_map]; exact List.length_filter_le _ _
  have hname : ∀ k, k < g.N → g.nons[k]? = some (nameU g k) := fun k hk => by
    unfold nameU
    rw [List.getD_eq_getElem?_getD, List.getElem?_eq_getElem hk]; rfl
  refine ⟨rfl, ⟨a1, by show 1 < (redG g pds uns).nons.length; omega, a3, by show (redG g pds uns).nons.length ≤ 64 + 1; omega, by show g.terms.length - 1 + ((redG g pds uns).nons.length - 1) ≤ 64; omega, a6, a7, a8, ?_, ?_⟩, ⟨?_, ?_, ?_, ?_, ?_, ?_⟩, ⟨firstU g uns, rfl, rfl, rfl, rfl⟩⟩
  · show ((membs g.N (fnB uns)).map (nameU g)).Nodup
    have hnd : (membs g.N (fnB uns)).Nodup := by unfold membs; exact List.nodup_range.filter _
    refine nodup_map_on ?_ hnd
    intro i hi j hj e
    unfold membs at hi hj
    rw [List.mem_filter, List.mem_range] at hi hj
    have h1 := hname i hi.1
    have h2 := hname j hj.1
    have hnn : g.nons.Nodup := by simpa using a9
    have l1 : i < g.nons.length := hi.1
    have l2 : j < g.nons.length := hj.1
    rw [List.getElem?_eq_getElem l1] at h1
    rw [List.getElem?_eq_getElem l2] at h2
    have e' : g.nons[i] = g.nons[j] := by rw [Option.some.inj h1, Option.some.inj h2]; exact e
    have hpw := List.pairwise_iff_getElem.1 hnn
    rcases Nat.lt_trichotomy i j with h | h | h
    · exact absurd e' (hpw i j l1 l2 h)
    · exact h
    · exact absurd e'.symm (hpw j i l2 l1 h)
  · intro s hs
    have hs : s ∈ (membs g.N (fnB uns)).map (nameU g) := hs
    obtain ⟨k, hk, rfl⟩ := List.mem_map.1 hs
    unfold membs at hk
    rw [List.mem_filter, List.mem_range] at hk
    exact a10 _ (by rw [List.drop_zero]; exact List.mem_of_getElem? (hname k hk.1))
  · obtain ⟨p, hp1, hp2, hp3⟩ := Us.nt hv hp sg1
    have : prodU g uns p ∈ (redG g pds uns).prods.drop 1 := (mem_d _).2 ⟨p, hp1, ⟨by rw [hp2]; exact hst, hp3⟩, rfl⟩
    have := List.length_pos_of_mem this
    rw [List.length_drop] at this
    omega
  · show (firstU g uns :: keptU g pds uns g.prods).length ≤ 96 + 1
    have := hkl rfl
    rw [List.length_cons]; omega
  · intro q hq
    obtain ⟨p, hp1, ⟨hu, hr⟩, rfl⟩ := (mem_d q).1 hq
    obtain ⟨hl1, hl2⟩ := iG p hp1
    have hn := num_in he hun hl1.1 hu
    have hpo := c3 p (by rw [List.drop_zero]; exact hp1)
    refine ⟨⟨hn.1, ?_, hpo.1.2.2.1, hpo.1.2.2.2⟩, fun s hs => ?_⟩
    · show numU g.T uns p.left < ((redG g pds uns).T : Int) + (redG g pds uns).N
      rw [hRN]
      have : (redG g pds uns).T = g.T := rfl
      rw [this]; omega
    · obtain ⟨y, hy, rfl⟩ := List.mem_map.1 hs
      have hyo := hpo.2 y hy
      have hT' : (redG g pds uns).T = g.T := rfl
      unfold symOk
      rw [hRN, hT']
      by_cases hT : y < (g.T : Int)
      · have : numU g.T uns y = y := by unfold numU; rw [if_pos hT]
        rw [this]
        exact ⟨hyo.1, by omega, by omega⟩
      · have hyU : Us g y := .pr p y hp1 hu hr hy
        have := num_in he hun (by omega) hyU
        exact ⟨by omega, by omega, by omega⟩
  · show ((leftsL (((redG g pds uns).prods.drop 1).map ProdT.left)).length : Int) = _
    have hmem : ∀ y, y ∈ leftsL (((redG g pds uns).prods.drop 1).map ProdT.left) ↔ y ∈ (List.range (cnt g.N (fnB uns))).map fun (c : Nat) => (g.T : Int) + 1 + (c : Int) := fun y => by
      rw [mem_leftsL, List.mem_map, List.mem_map]
      constructor
      · rintro ⟨q, hq, rfl⟩
        obtain ⟨p, hp1, ⟨hu, hr⟩, rfl⟩ := (mem_d q).1 hq
        have hl1 := (iG p hp1).1
        obtain ⟨e, hu'⟩ := num_us hun hl1.1 hu
        obtain ⟨i, _, h2, h3⟩ := rank_at (n := g.N) (k := p.left.toNat - g.T) (by omega) hu'
        exact ⟨i, List.mem_range.2 h3, by show _ = numU g.T uns p.left; rw [e, h2]⟩
      · rintro ⟨c, hc, rfl⟩
        obtain ⟨k, hk1, hk2, hk3⟩ := at_rank (List.mem_range.1 hc)
        have hU : Us g ((g.T + k : Nat) : Int) := (hun.2 k).1 hk2
        obtain ⟨p, hp1, hp2, hp3⟩ := Us.nt hv (hU.pd hv) (by omega)
        refine ⟨prodU g uns p, (mem_d _).2 ⟨p, hp1, ⟨by rw [hp2]; exact hU, hp3⟩, rfl⟩, ?_⟩
        show numU g.T uns p.left = _
        rw [hp2, (num_us hun (by omega) hU).1, show ((g.T + k : Nat) : Int).toNat - g.T = k from by omega, hk3]
    have hnd : ((List.range (cnt g.N (fnB uns))).map fun (c : Nat) => (g.T : Int) + 1 + (c : Int)).Nodup :=
      nodup_map_on (fun a _ b _ h => by omega) List.nodup_range
    have h1 := nodup_le (leftsL_nodup _) fun y hy => (hmem y).1 hy
    have h2 := nodup_le hnd fun y hy => (hmem y).2 hy
    rw [List.length_map, List.length_range] at h1 h2
    rw [hRN]; omega
  · show (g.T : Int) + (1 : Nat) ≤ numU g.T uns g.start
    omega
  · show numU g.T uns g.start < ((redG g pds uns).T : Int) + (redG g pds uns).N
    rw [hRN]
    have : (redG g pds uns).T = g.T := rfl
    rw [this]; omega
theorem red_ok (hv : ValidP g) (hb : okG g) : okG (redG g pds uns) := by
  obtain ⟨iG, bT, bN, pN, pT, bP⟩ := inG (.inl hv)
  obtain ⟨b1, b2, b3, b4, b5, b6, b7⟩ := id hb
  have hcn : cnt g.N (fnB uns) ≤ g.N := cnt_le _ _
  have hRN' : (redG g pds uns).nons.length = 1 + cnt g.N (fnB uns) := red_N
  refine ⟨b1, by omega, b3, ?_, b5, fun s hs => ?_, fun p hp => ?_⟩
  · show (firstU g uns :: keptU g pds uns g.prods).length * 40 ≤ _
    have : (keptU g pds uns g.prods).length ≤ g.prods.length := by unfold keptU; rw [List.length_map]; exact List.length_filter_le _ _
    rw [List.length_cons]; omega
  · have hs : s ∈ ByteArray.empty :: (membs g.N (fnB uns)).map (nameU g) := hs
    rcases List.mem_cons.1 hs with rfl | hs
    · show (0 : Nat) ≤ _; omega
    · obtain ⟨k, hk, rfl⟩ := List.mem_map.1 hs
      unfold membs at hk
      rw [List.mem_filter, List.mem_range] at hk
      refine b6 _ ?_
      have l : k < g.nons.length := hk.1
      unfold nameU
      rw [List.getD_eq_getElem?_getD, List.getElem?_eq_getElem l]
      exact List.getElem_mem l
  · have hp : p ∈ firstU g uns :: keptU g pds uns g.prods := hp
    rcases List.mem_cons.1 hp with rfl | hp
    · show (1 : Nat) ≤ _; omega
    · unfold keptU at hp
      obtain ⟨q, hq, rfl⟩ := List.mem_map.1 hp
      rw [List.mem_filter] at hq
      show (q.right.map _).length ≤ _
      rw [List.length_map]; exact b7 q hq.1
theorem empty_ok : okG emptyG := ⟨by decide, by decide, by decide, by decide, fun _ h => (by simp [emptyG] at h), fun _ h => (by simp [emptyG] at h), fun _ h => (by simp [emptyG] at h)⟩
theorem RedRes.ok {e : Int} {G : GramT} (h : RedRes g e G) (hb : okG g) : okG G := by
  rcases h with ⟨_, _, rfl⟩ | ⟨_, _, _, rfl⟩ | ⟨hv, _, _, pds, uns, _, _, rfl⟩
  · exact empty_ok
  · exact empty_ok
  · exact red_ok hv hb
end
end Go.V
set_option linter.unusedVariables false
namespace Go.Proofs.YtaheggomcnbbiaaDoor
open Go.V
section
variable {w : World} {L : List Asn} {g : GramT} {x : GA}
end
end Go.Proofs.YtaheggomcnbbiaaDoor
set_option linter.unusedVariables false
namespace Go.V
def nmAt (g : GramT) (s : Int) : Option ByteArray := g.nons[s.toNat - g.T]?
structure LikeP (g : GramT) (p : ProdT) (G : GramT) (q : ProdT) : Prop where
  l : p.right.length = q.right.length
  v : p.level = q.level
  n : nmAt g p.left = nmAt G q.left
  s : ∀ (i : Nat) a b, p.right[i]? = some a → q.right[i]? = some b → ((a < (g.T : Int) ∨ b < (G.T : Int)) → a = b) ∧ ((g.T : Int) ≤ a → (G.T : Int) ≤ b → nmAt g a = nmAt G b)
end Go.V
namespace Go.Proofs.YtaheggomcnbbiaaDoor
open Go.V
section
variable {w : World} {L : List Asn} {g G : GramT} {x y : GA} {p q : ProdT} {a b : Option Addr} {l m c d : Nat}
end
end Go.Proofs.YtaheggomcnbbiaaDoor
set_option linter.unusedVariables false
namespace Go.V
section
variable {g : GramT} {pds uns : List Bool}
theorem num_lo {T : Nat} {s : Int} (h : s < (T : Int)) : numU T uns s = s := by unfold numU; rw [if_pos h]
theorem prodU_mem (hpd : PnP g pds) (hun : UnP g uns) (iG : InG g) {p : ProdT} (hp : p ∈ g.prods) (hu : Us g p.left) (hr : PdR g p.right) : prodU g uns p ∈ (redG g pds uns).prods := by
  refine List.mem_cons_of_mem _ ?_
  show prodU g uns p ∈ keptU g pds uns g.prods
  unfold keptU
  exact List.mem_map.2 ⟨p, List.mem_filter.2 ⟨hp, (kept_us hpd hun iG hp).2 ⟨hu, hr⟩⟩, rfl⟩
theorem red_pd (hpd : PnP g pds) (hun : UnP g uns) (iG : InG g) {s : Int} (h : Pd g s) : (s < (g.T : Int) ∨ Us g s) → Pd (redG g pds uns) (numU g.T uns s) := by
  induction h with
  | tm t ht => intro _; rw [num_lo (by omega)]; exact .tm t ht
  | mk p hp hr ih =>
    intro hu
    have hl := (iG p hp).1
    have hu : Us g p.left := hu.resolve_left (by omega)
    refine .mk (prodU g uns p) (prodU_mem hpd hun iG hp hu hr) fun y hy => ?_
    obtain ⟨s, hs, rfl⟩ := List.mem_map.1 hy
    exact ih s hs (.inr (.pr p s hp hu hr hs))
end
end Go.V
set_option linter.unusedVariables false
namespace Go.Proofs.YtaheggomcnbbiaaDoor
open Go.V
section
variable {w : World} {L : List Asn} {g : GramT} {x : GA}
end
end Go.Proofs.YtaheggomcnbbiaaDoor
set_option linter.unusedVariables false
namespace Go.V
inductive ItV (ps : List ProdT) (st : Int) (row : List Int) : Nat → ProdT → Nat → Nat → Prop
  | init (p : ProdT) : p ∈ ps → p.left = st → ItV ps st row 0 p 0 0
  | pred (k : Nat) (p : ProdT) (d f : Nat) (q : ProdT) : ItV ps st row k p d f → p.right[d]? = some q.left → q ∈ ps → ItV ps st row k q 0 k
  | scan (k : Nat) (p : ProdT) (d f : Nat) (a : Int) : ItV ps st row k p d f → p.right[d]? = some a → row[k]? = some a → ItV ps st row (k + 1) p (d + 1) f
  | comp (k : Nat) (p : ProdT) (f : Nat) (q : ProdT) (d f' : Nat) : ItV ps st row k p p.right.length f → ItV ps st row f q d f' → q.right[d]? = some p.left → ItV ps st row k q (d + 1) f'
def SenP (ps : List ProdT) (st : Int) (row : List Int) : Prop := ∃ p, p.left = st ∧ ItV ps st row row.length p p.right.length 0
def BegP (ps : List ProdT) (st : Int) (row : List Int) : Prop := ∃ p d f, ItV ps st row row.length p d f
section
variable {ps : List ProdT} {st : Int} {row : List Int}
theorem ItV.mem {k d f : Nat} {p : ProdT} (h : ItV ps st row k p d f) : p ∈ ps := by
  induction h with
  | init p h _ => exact h
  | pred k p d f q _ _ h _ => exact h
  | scan k p d f a _ _ _ ih => exact ih
  | comp k p f q d f' _ _ _ _ ih => exact ih
theorem ItV.dot {k d f : Nat} {p : ProdT} (h : ItV ps st row k p d f) : d ≤ p.right.length ∧ f ≤ k := by
  induction h with
  | init p _ _ => exact ⟨Nat.zero_le _, Nat.le_refl _⟩
  | pred k p d f q _ _ _ _ => exact ⟨Nat.zero_le _, Nat.le_refl _⟩
  | scan k p d f a _ h _ ih => exact ⟨by have := (List.getElem?_eq_some_iff.1 h).1; omega, by omega⟩
  | comp k p f q d f' _ _ h ih1 ih2 => exact ⟨by have := (List.getElem?_eq_some_iff.1 h).1; omega, by omega⟩
theorem ItV.prev {k d f : Nat} {p : ProdT} (h : ItV ps st row k p d f) : ∀ j, j ≤ k → ∃ p d f, ItV ps st row j p d f := by
  induction h with
  | init p h1 h2 => intro j hj; have : j = 0 := by omega
                    subst this; exact ⟨_, _, _, .init p h1 h2⟩
  | pred k p d f q _ _ _ ih => exact ih
  | scan k p d f a h1 h2 h3 ih =>
    intro j hj
    by_cases e : j = k + 1
    · subst e; exact ⟨_, _, _, .scan k p d f a h1 h2 h3⟩
    · exact ih j (by omega)
  | comp k p f q d f' _ _ _ ih1 _ => exact ih1
end
section
variable {g : GramT} {pds uns : List Bool} {row : List Int}
def useP (g : GramT) (pds : List Bool) : List ProdT := g.prods.filter fun p => p.right.all fun s => decide (s < (g.T : Int)) || fnB pds (s.toNat - g.T)
theorem mem_use (iG : InG g) (hpd : PnP g pds) {p : ProdT} : p ∈ useP g pds ↔ p ∈ g.prods ∧ PdR g p.right := by
  unfold useP
  rw [List.mem_filter]
  refine and_congr_right fun hp => ?_
  rw [← hpd.fit (iG p hp).2, List.all_eq_true]
  unfold FitP
  simp only [Bool.or_eq_true, decide_eq_true_eq]
theorem num_inj (he : EitherP g) (hun : UnP g uns) {s t : Int} (hs : (g.T : Int) ≤ s) (ht : (g.T : Int) ≤ t) (us : Us g s) (ut : Us g t) (e : numU g.T uns s = numU g.T uns t) : s = t := by
  obtain ⟨e1, h1⟩ := num_us hun hs us
  obtain ⟨e2, h2⟩ := num_us hun ht ut
  have l1 := (us.in he).2
  have l2 := (ut.in he).2
  obtain ⟨i, m1, r1, _⟩ := rank_at (n := g.N) (k := s.toNat - g.T) (by omega) h1
  obtain ⟨j, m2, r2, _⟩ := rank_at (n := g.N) (k := t.toNat - g.T) (by omega) h2
  have : i = j := by omega
  subst this
  rw [m1] at m2
  have := Option.some.inj m2
  omega
theorem num_sym (he : EitherP g) (hun : UnP g uns) {s t : Int} (hs : s < (g.T : Int) ∨ Us g s) (ht : (g.T : Int) ≤ t) (ut : Us g t) (e : numU g.T uns s = numU g.T uns t) : s = t := by
  have h2 := num_in he hun ht ut
  by_cases hT : s < (g.T : Int)
  · rw [num_lo hT] at e; omega
  · exact num_inj he hun (by omega) ht (hs.resolve_left hT) ut e
theorem use_all (hv : ValidP g) (hp : Pd g g.start) (hpd : PnP g pds) (hun : UnP g uns) {pdc : List Bool} (hpc : PnP (redG g pds uns) pdc) : useP (redG g pds uns) pdc = (redG g pds uns).prods := by
  have he : EitherP g := .inl hv
  obtain ⟨iG, bT, bN, pN, pT, bP⟩ := inG he
  have hcl := red_closed hv hp hpd hun
  obtain ⟨iGR, _⟩ := inG (.inr hcl)
  unfold useP
  rw [List.filter_eq_self]
  intro q hq
  have hm : q ∈ useP (redG g pds uns) pdc ↔ _ := mem_use iGR hpc
  have hpr : PdR (redG g pds uns) q.right := by
    have hq : q ∈ firstU g uns :: keptU g pds uns g.prods := hq
    rcases List.mem_cons.1 hq with rfl | hq
    · intro s hs
      have hs : s ∈ [numU g.T uns g.start] := hs
      rw [List.mem_singleton] at hs
      rw [hs]; exact red_pd hpd hun iG hp (.inr (.start hp))
    · unfold keptU at hq
      obtain ⟨p, hp1, rfl⟩ := List.mem_map.1 hq
      rw [List.mem_filter] at hp1
      obtain ⟨hu, hr⟩ := (kept_us hpd hun iG hp1.1).1 hp1.2
      intro s hs
      obtain ⟨z, hz, rfl⟩ := List.mem_map.1 hs
      exact red_pd hpd hun iG (hr z hz) (.inr (.pr p z hp1.1 hu hr hz))
  have := hm.2 ⟨hq, hpr⟩
  unfold useP at this
  exact (List.mem_filter.1 this).2
theorem it_to (hv : ValidP g) (hst : Pd g g.start) (hpd : PnP g pds) (hun : UnP g uns) (hrow : ∀ a ∈ row, a < (g.T : Int)) {k d f : Nat} {p : ProdT} (h : ItV (useP g pds) g.start row k p d f) : Us g p.left ∧ ItV (redG g pds uns).prods (numU g.T uns g.start) row k (prodU g uns p) d f := by
  obtain ⟨iG, bT, bN, pN, pT, bP⟩ := inG (.inl hv)
  have um : ∀ {p}, p ∈ useP g pds → Us g p.left → prodU g uns p ∈ (redG g pds uns).prods := fun hp hu => by
    obtain ⟨h1, h2⟩ := (mem_use iG hpd).1 hp
    exact prodU_mem hpd hun iG h1 hu h2
  have rg : ∀ {p : ProdT} {d : Nat} {a : Int}, p.right[d]? = some a → (prodU g uns p).right[d]? = some (numU g.T uns a) := fun h => by
    show (List.map _ _)[_]? = _
    rw [List.getElem?_map, h]; rfl
  induction h with
  | init p hp he =>
    have hu : Us g p.left := by rw [he]; exact .start hst
    exact ⟨hu, .init _ (um hp hu) (by show numU g.T uns p.left = _; rw [he])⟩
  | pred k p d f q h1 h2 h3 ih =>
    obtain ⟨hu, hi⟩ := ih
    obtain ⟨m1, m2⟩ := (mem_use iG hpd).1 h1.mem
    have huq : Us g q.left := .pr p q.left m1 hu m2 (List.mem_of_getElem? h2)
    exact ⟨huq, .pred k _ d f _ hi (rg h2) (um h3 huq)⟩
  | scan k p d f a h1 h2 h3 ih =>
    obtain ⟨hu, hi⟩ := ih
    have ha := hrow a (List.mem_of_getElem? h3)
    refine ⟨hu, .scan k _ d f a hi ?_ h3⟩
    have := rg h2
    rwa [num_lo ha] at this
  | comp k p f q d f' h1 h2 h3 ih1 ih2 =>
    obtain ⟨hu, hi⟩ := ih1
    obtain ⟨hu2, hi2⟩ := ih2
    have el : (prodU g uns p).right.length = p.right.length := by show (p.right.map _).length = _; rw [List.length_map]
    exact ⟨hu2, .comp k (prodU g uns p) f _ d f' (by rw [el]; exact hi) hi2 (rg h3)⟩
theorem it_from (hv : ValidP g) (hst : Pd g g.start) (hpd : PnP g pds) (hun : UnP g uns) (hrow : ∀ a ∈ row, a < (g.T : Int)) {k d f : Nat} {P : ProdT} (h : ItV (redG g pds uns).prods (numU g.T uns g.start) row k P d f) : ∃ p, P = prodU g uns p ∧ Us g p.left ∧ ItV (useP g pds) g.start row k p d f := by
  have he : EitherP g := .inl hv
  obtain ⟨iG, bT, bN, pN, pT, bP⟩ := inG he
  obtain ⟨sg1, sg2⟩ := start_in he
  have hsr := num_in he hun sg1 (.start hst)
  have mem : ∀ {Q}, Q ∈ (redG g pds uns).prods → Q.left ≠ (g.T : Int) → ∃ q, Q = prodU g uns q ∧ Us g q.left ∧ q ∈ useP g pds := fun {Q} hQ hl => by
    have hQ : Q ∈ firstU g uns :: keptU g pds uns g.prods := hQ
    rcases List.mem_cons.1 hQ with rfl | hQ
    · exact absurd rfl hl
    · unfold keptU at hQ
      obtain ⟨q, hq1, rfl⟩ := List.mem_map.1 hQ
      rw [List.mem_filter] at hq1
      obtain ⟨hu, hr⟩ := (kept_us hpd hun iG hq1.1).1 hq1.2
      exact ⟨q, rfl, hu, (mem_use iG hpd).2 ⟨hq1.1, hr⟩⟩
  have rg : ∀ {p : ProdT} {d : Nat} {b : Int}, (prodU g uns p).right[d]? = some b → ∃ a, p.right[d]? = some a ∧ b = numU g.T uns a := fun {p d b} h => by
    have h : (p.right.map (numU g.T uns))[d]? = some b := h
    rw [List.getElem?_map] at h
    cases ha : p.right[d]? with
    | none => rw [ha] at h; cases h
    | some a => rw [ha] at h; cases h; exact ⟨a, rfl, rfl⟩
  have usy : ∀ {p : ProdT} {d : Nat} {a : Int}, p ∈ useP g pds → Us g p.left → p.right[d]? = some a → Us g a := fun hp hu ha => by
    obtain ⟨m1, m2⟩ := (mem_use iG hpd).1 hp
    exact .pr _ _ m1 hu m2 (List.mem_of_getElem? ha)
  have nT : ∀ {a : Int}, Us g a → numU g.T uns a ≠ (g.T : Int) := fun {a} hu => by
    by_cases hT : a < (g.T : Int)
    · rw [num_lo hT]; omega
    · have := num_in he hun (by omega) hu; omega
  induction h with
  | init P hP hl =>
    obtain ⟨p, rfl, hu, hm⟩ := mem hP (by rw [hl]; omega)
    have hl : numU g.T uns p.left = numU g.T uns g.start := hl
    have hpl := (iG p ((mem_use iG hpd).1 hm).1).1.1
    exact ⟨p, rfl, hu, .init p hm (num_inj he hun hpl sg1 hu (.start hst) hl)⟩
  | pred k P d f Q h1 h2 h3 ih =>
    obtain ⟨p, rfl, hu, hi⟩ := ih
    obtain ⟨a, ha, e⟩ := rg h2
    have hua := usy hi.mem hu ha
    obtain ⟨q, rfl, huq, hmq⟩ := mem h3 (by rw [e]; exact nT hua)
    have hql := (iG q ((mem_use iG hpd).1 hmq).1).1.1
    have e : numU g.T uns q.left = numU g.T uns a := e
    have := num_sym he hun (.inr hua) hql huq e.symm
    subst this
    exact ⟨q, rfl, huq, .pred k p d f q hi ha hmq⟩
  | scan k P d f a h1 h2 h3 ih =>
    obtain ⟨p, rfl, hu, hi⟩ := ih
    obtain ⟨b, hb, e⟩ := rg h2
    have ha := hrow a (List.mem_of_getElem? h3)
    have hub := usy hi.mem hu hb
    have : b = a := by
      by_cases hT : b < (g.T : Int)
      · rw [num_lo hT] at e; exact e.symm
      · have := num_in he hun (by omega) hub; omega
    subst this
    exact ⟨p, rfl, hu, .scan k p d f b hi hb h3⟩
  | comp k P f Q d f' h1 h2 h3 ih1 ih2 =>
    obtain ⟨p, rfl, hu, hi⟩ := ih1
    obtain ⟨q, rfl, huq, hiq⟩ := ih2
    obtain ⟨a, ha, e⟩ := rg h3
    have hua := usy hiq.mem huq ha
    have e : numU g.T uns p.left = numU g.T uns a := e
    have hpl := (iG p ((mem_use iG hpd).1 hi.mem).1).1.1
    have := num_sym he hun (.inr hua) hpl hu e.symm
    subst this
    have el : (prodU g uns p).right.length = p.right.length := by show (p.right.map _).length = _; rw [List.length_map]
    rw [el] at hi
    exact ⟨q, rfl, huq, .comp k p f q d f' hi hiq ha⟩
theorem sen_same (hv : ValidP g) (hst : Pd g g.start) (hpd : PnP g pds) (hun : UnP g uns) (hrow : ∀ a ∈ row, a < (g.T : Int)) : SenP (useP g pds) g.start row ↔ SenP (redG g pds uns).prods (numU g.T uns g.start) row := by
  have he : EitherP g := .inl hv
  obtain ⟨iG, bT, bN, pN, pT, bP⟩ := inG he
  obtain ⟨sg1, sg2⟩ := start_in he
  have el : ∀ p, (prodU g uns p).right.length = p.right.length := fun p => by show (p.right.map _).length = _; rw [List.length_map]
  constructor
  · rintro ⟨p, hl, hi⟩
    exact ⟨prodU g uns p, by show numU g.T uns p.left = _; rw [hl], by rw [el]; exact (it_to hv hst hpd hun hrow hi).2⟩
  · rintro ⟨P, hl, hi⟩
    obtain ⟨p, rfl, hu, hi⟩ := it_from hv hst hpd hun hrow hi
    have hl : numU g.T uns p.left = numU g.T uns g.start := hl
    have hpl := (iG p ((mem_use iG hpd).1 hi.mem).1).1.1
    rw [el] at hi
    exact ⟨p, num_inj he hun hpl sg1 hu (.start hst) hl, hi⟩
theorem beg_same (hv : ValidP g) (hst : Pd g g.start) (hpd : PnP g pds) (hun : UnP g uns) (hrow : ∀ a ∈ row, a < (g.T : Int)) : BegP (useP g pds) g.start row ↔ BegP (redG g pds uns).prods (numU g.T uns g.start) row := by
  constructor
  · rintro ⟨p, d, f, hi⟩
    exact ⟨_, d, f, (it_to hv hst hpd hun hrow hi).2⟩
  · rintro ⟨P, d, f, hi⟩
    obtain ⟨p, rfl, _, hi⟩ := it_from hv hst hpd hun hrow hi
    exact ⟨p, d, f, hi⟩
theorem sen_none (iG : InG g) (hn : ¬ Pd g g.start) (hpd : PnP g pds) : ¬ SenP (useP g pds) g.start row := by
  rintro ⟨p, hl, hi⟩
  obtain ⟨m1, m2⟩ := (mem_use iG hpd).1 hi.mem
  exact hn (hl ▸ .mk p m1 m2)
end
end Go.V
set_option linter.unusedVariables false
namespace Go.V
structure Spot where
  prod : Nat
  dot : Nat
  frm : Nat
def spV (s : Spot) : List Value := [.int .i64 (s.prod : Int), .int .i64 (s.dot : Int), .int .i64 (s.frm : Int)]
def spsV (l : List Spot) : List Value := l.flatMap spV
theorem spsV_snoc (l : List Spot) (s : Spot) : spsV l ++ spV s = spsV (l ++ [s]) := by simp [spsV]
theorem spsV_get : ∀ {l : List Spot} {k : Nat} {s : Spot}, l[k]? = some s → ∀ j v, (spV s)[j]? = some v → (spsV l)[k * 3 + j]? = some v
  | [], k, s, h, j, v, hv => by simp at h
  | x :: l, 0, s, h, j, v, hv => by
    simp at h; subst h
    show (spV x ++ spsV l)[0 * 3 + j]? = _
    rw [List.getElem?_append_left (by have := (List.getElem?_eq_some_iff.1 hv).1; omega)]
    simpa using hv
  | x :: l, k + 1, s, h, j, v, hv => by
    show (spV x ++ spsV l)[(k + 1) * 3 + j]? = _
    rw [List.getElem?_append_right (by simp [spV]; omega), show (k + 1) * 3 + j - (spV x).length = k * 3 + j from by simp [spV]; omega]
    exact spsV_get (by simpa using h) j v hv
theorem spot_row {h : Hp} {a : Option Addr} {l : List Spot} {k : Nat} {s : Spot} (r : rdV a (spsV l) h) (hk : l[k]? = some s) : ∃ ad, a = some ad ∧ rowH h (ad.add (mulS k 3)) (spV s) := by
  rcases r with e | ⟨ad, e, hc⟩
  · have := spsV_get hk 0 _ rfl
    rw [e] at this; simp at this
  · refine ⟨ad, e, fun j v hv => ?_⟩
    rw [add_add, mulS_eq]
    exact hc _ _ (spsV_get hk j v hv)
theorem zip_set2 {α β γ : Type} (f : α → β → γ) : ∀ (xs : List α) (bs : List β) (i : Nat) (a : α) (b : β), (List.zipWith f xs bs).set i (f a b) = List.zipWith f (xs.set i a) (bs.set i b)
  | [], bs, i, a, b => by simp
  | x :: xs, [], i, a, b => by cases i <;> simp
  | x :: xs, y :: bs, 0, a, b => by simp
  | x :: xs, y :: bs, i + 1, a, b => by simp [zip_set2 f xs bs i a b]
theorem rdS.atw {α : Type} [Rep1 α] {w : World} {xs : List α} {a : Option Addr} {l i : Nat} {x : α} {ad : Addr} (r : rdS (hp w) xs a l) (ha : a = some ad) (hx : xs[i]? = some x) : w.cell? (ad.add i) = some (Rep1.val x) := by
  obtain ⟨ad', e, hh⟩ := r.at hx
  rw [ha] at e; cases e; exact hh w (sub.refl _)
def bse (ps : List ProdT) (i : Nat) : Nat := ((ps.take i).map fun p => p.right.length + 1).sum
def bases (ps : List ProdT) (m : Nat) : List Int := (List.range m).map fun i => (bse ps i : Int)
theorem bse_succ {ps : List ProdT} {i : Nat} {p : ProdT} (h : ps[i]? = some p) : bse ps (i + 1) = bse ps i + (p.right.length + 1) := by
  unfold bse; rw [List.take_add_one, h]; simp
theorem bse_mono {ps : List ProdT} {i : Nat} : ∀ {j : Nat}, i ≤ j → bse ps i ≤ bse ps j
  | 0, h => by rw [show i = 0 from by omega]; exact Nat.le_refl _
  | j + 1, h => by
    by_cases e : i = j + 1
    · rw [e]; exact Nat.le_refl _
    · refine Nat.le_trans (bse_mono (j := j) (by omega)) ?_
      cases hp : ps[j]? with
      | none => unfold bse; rw [List.take_add_one, hp]; simp
      | some p => rw [bse_succ hp]; omega
theorem bases_get {ps : List ProdT} {m i : Nat} (h : i < m) : (bases ps m)[i]? = some (bse ps i : Int) := by
  unfold bases; rw [List.getElem?_map, List.getElem?_range h]; rfl
structure Ch where
  kc : Nat
  x : GA
  ps : List ProdT
  had : Addr
  hcp : Nat
  kat : Nat
  n : Nat
  ba : Option Addr
  bc : Nat
  kbs : List Nat
def Ch.al (c : Ch) : Nat := bse c.ps c.ps.length
def Ch.M (c : Ch) : Nat := c.al * c.n
def Ch.code (c : Ch) (s : Spot) : Nat := (bse c.ps s.prod + s.dot) * c.n + s.frm
def Ch.cells (c : Ch) : List Value := [.slice c.x.ta c.x.tl c.x.tc, .slice c.x.na c.x.nl c.x.nc, .slice c.x.la c.x.ll c.x.lc, .int .i64 c.x.s, .slice c.x.pa c.ps.length c.x.pc, .slice (some c.had) c.n c.hcp, .slice (some ⟨c.kat, 0, none⟩) c.n c.n, .slice c.ba c.ps.length c.bc, .int .i64 (c.al : Int)]
structure ChR (h : Hp) (c : Ch) : Prop where
  row : rowH h ⟨c.kc, 0, none⟩ c.cells
  p : rdS h c.ps c.x.pa c.ps.length
  b : rdS h (bases c.ps c.ps.length) c.ba c.ps.length
  hs : rowH h c.had (c.kbs.map (slT c.M))
theorem ChR.mono {h h' : Hp} {c : Ch} (s : sub h h') (r : ChR h c) : ChR h' c := ⟨r.row.mono s, r.p.mono s, r.b.mono s, r.hs.mono s⟩
structure Rng (c : Ch) (s : Spot) : Prop where
  p : ∃ p, c.ps[s.prod]? = some p ∧ s.dot ≤ p.right.length
  f : s.frm < c.n
theorem Rng.lt {c : Ch} {s : Spot} (r : Rng c s) : c.code s < c.M := by
  obtain ⟨⟨p, hp, hd⟩, hf⟩ := r
  have h1 := bse_succ hp
  have h2 : bse c.ps (s.prod + 1) ≤ c.al := bse_mono (by have := (List.getElem?_eq_some_iff.1 hp).1; omega)
  unfold Ch.code Ch.M
  have h3 : (bse c.ps s.prod + s.dot + 1) * c.n ≤ c.al * c.n := Nat.mul_le_mul_right _ (by omega)
  rw [Nat.add_mul] at h3
  omega
theorem Rng.inj {c : Ch} {s t : Spot} (r : Rng c s) (q : Rng c t) (e : c.code s = c.code t) : s = t := by
  obtain ⟨⟨p, hp, hd⟩, hf⟩ := r
  obtain ⟨⟨p', hp', hd'⟩, hf'⟩ := q
  unfold Ch.code at e
  have hn : 0 < c.n := by omega
  have e1 := congrArg (· / c.n) e
  have e2 := congrArg (· % c.n) e
  simp only [Nat.mul_comm _ c.n, Nat.mul_add_div hn, Nat.div_eq_of_lt hf, Nat.div_eq_of_lt hf', Nat.mul_add_mod, Nat.mod_eq_of_lt hf, Nat.mod_eq_of_lt hf'] at e1 e2
  have h1 := bse_succ hp
  have h1' := bse_succ hp'
  have e3 : s.prod = t.prod := by
    rcases Nat.lt_trichotomy s.prod t.prod with h | h | h
    · have := bse_mono (ps := c.ps) (show s.prod + 1 ≤ t.prod from h); omega
    · exact h
    · have := bse_mono (ps := c.ps) (show t.prod + 1 ≤ s.prod from h); omega
  cases s; cases t
  simp only at e3 e1 e2 ⊢
  subst e3
  simp only [Spot.mk.injEq, true_and]
  omega
def slS (os : List (Option Addr × Nat)) (ats : List (List Spot)) : List Value := List.zipWith (fun o l => .slice o.1 l.length o.2) os ats
def ownsS (os : List (Option Addr × Nat)) (ats : List (List Spot)) : List Asn := List.zipWith (fun o l => own 3 o.1 l.length o.2 (spsV l)) os ats
structure ChI (c : Ch) (os : List (Option Addr × Nat)) (ats : List (List Spot)) (vss : List (List Bool)) : Prop where
  la : ats.length = c.n
  lo : os.length = c.n
  lv : vss.length = c.n
  lk : c.kbs.length = c.n
  M : c.M ≤ 1099511627776
  len : ∀ (k : Nat) l v, ats[k]? = some l → vss[k]? = some v → v.length = c.M ∧ l.length = cntB v
  rg : ∀ (k : Nat) l, ats[k]? = some l → ∀ s ∈ l, Rng c s
  bit : ∀ (k : Nat) l v, ats[k]? = some l → vss[k]? = some v → ∀ s, Rng c s → (fnB v (c.code s) = true ↔ s ∈ l)
theorem slS_set {os : List (Option Addr × Nat)} {ats : List (List Spot)} {k : Nat} {o : Option Addr × Nat} {l : List Spot} : (slS os ats).set k (.slice o.1 l.length o.2) = slS (os.set k o) (ats.set k l) := zip_set2 _ _ _ _ _ _
theorem ownsS_set {os : List (Option Addr × Nat)} {ats : List (List Spot)} {k : Nat} {o : Option Addr × Nat} {l : List Spot} : (ownsS os ats).set k (own 3 o.1 l.length o.2 (spsV l)) = ownsS (os.set k o) (ats.set k l) := zip_set2 (fun (o : Option Addr × Nat) (l : List Spot) => own 3 o.1 l.length o.2 (spsV l)) _ _ _ _ _
theorem cntB_set {v : List Bool} {k : Nat} (hk : k < v.length) (hf : fnB v k = false) : cntB (v.set k true) = cntB v + 1 := by
  have h1 := opn_set hk hf
  have h2 := cntB_le v
  have h3 := cntB_le (v.set k true)
  unfold opn at h1
  rw [List.length_set] at h1 h3
  omega
theorem ChI.add {c : Ch} {os : List (Option Addr × Nat)} {ats : List (List Spot)} {vss : List (List Bool)} (I : ChI c os ats vss) {k : Nat} {l : List Spot} {v : List Bool} {s : Spot} {o : Option Addr × Nat} (hl : ats[k]? = some l) (hv : vss[k]? = some v) (hs : Rng c s) (hf : fnB v (c.code s) = false) :
    ChI c (os.set k o) (ats.set k (l ++ [s])) (vss.set k (v.set (c.code s) true)) := by
  have hkn := (List.getElem?_eq_some_iff.1 hl).1
  have hkv := (List.getElem?_eq_some_iff.1 hv).1
  obtain ⟨e1, e2⟩ := I.len k l v hl hv
  have hlt := hs.lt
  have ga : ∀ {j : Nat} {l'}, (ats.set k (l ++ [s]))[j]? = some l' → (j = k ∧ l' = l ++ [s]) ∨ (j ≠ k ∧ ats[j]? = some l') := fun {j l'} h => by
    rw [List.getElem?_set] at h
    split at h
    · rename_i e; subst e; first | rw [if_pos hkn] at h | skip
      exact .inl ⟨rfl, (Option.some.inj h).symm⟩
    · rename_i e; exact .inr ⟨fun h => e h.symm, h⟩
  have gv : ∀ {j : Nat} {v'}, (vss.set k (v.set (c.code s) true))[j]? = some v' → (j = k ∧ v' = v.set (c.code s) true) ∨ (j ≠ k ∧ vss[j]? = some v') := fun {j v'} h => by
    rw [List.getElem?_set] at h
    split at h
    · rename_i e; subst e; first | rw [if_pos hkv] at h | skip
      exact .inl ⟨rfl, (Option.some.inj h).symm⟩
    · rename_i e; exact .inr ⟨fun h => e h.symm, h⟩
  refine ⟨by rw [List.length_set]; exact I.la, by rw [List.length_set]; exact I.lo, by rw [List.length_set]; exact I.lv, I.lk, I.M, fun j l' v' h1 h2 => ?_, fun j l' h1 t ht => ?_, fun j l' v' h1 h2 t ht => ?_⟩
  · rcases ga h1 with ⟨rfl, rfl⟩ | ⟨n1, h1⟩ <;> rcases gv h2 with ⟨e, rfl⟩ | ⟨n2, h2⟩
    · exact ⟨by rw [List.length_set]; exact e1, by rw [cntB_set (by omega) hf, List.length_append, e2]; rfl⟩
    · exact absurd rfl n2
    · exact absurd e n1
    · exact I.len j l' v' h1 h2
  · rcases ga h1 with ⟨rfl, rfl⟩ | ⟨n1, h1⟩
    · rcases List.mem_append.1 ht with ht | ht
      · exact I.rg _ l hl t ht
      · simp at ht; subst ht; exact hs
    · exact I.rg j l' h1 t ht
  · rcases ga h1 with ⟨rfl, rfl⟩ | ⟨n1, h1⟩ <;> rcases gv h2 with ⟨e, rfl⟩ | ⟨n2, h2⟩
    · rw [fnB_setT (by omega), Bool.or_eq_true, beq_iff_eq, I.bit _ l v hl hv t ht, List.mem_append, List.mem_singleton]
      exact or_congr_right ⟨fun h => ht.inj hs h, fun h => by rw [h]⟩
    · exact absurd rfl n2
    · exact absurd e n1
    · exact I.bit j l' v' h1 h2 t ht
end Go.V
namespace Go.Proofs.YtaheggomcnbbiaaDoor
open Go.V
section
variable {w : World} {L : List Asn} {c : Ch} {os : List (Option Addr × Nat)} {ats : List (List Spot)} {vss : List (List Bool)} {k : Nat} {s : Spot}
set_option maxHeartbeats 4000000 in
theorem d_add (h : St w (cel c.kat (slS os ats) :: sta (ownsS os ats) :: sta (celsA c.kbs vss) :: L)) (hc : ∀ h, starL L h → ChR h c) (I : ChI c os ats vss) (hk : k < c.n) (hs : Rng c s) :
    Run Tryd.prog n_presageref06_chart_add [.pointer (some ⟨c.kc, 0, none⟩), .int .i64 (k : Int), .agg ⟨spV s⟩] w fun v w' => ∃ (b : Bool) (os' : List (Option Addr × Nat)) (ats' : List (List Spot)) (vss' : List (List Bool)), v = .bool b ∧ ChI c os' ats' vss' ∧ St w' (cel c.kat (slS os' ats') :: sta (ownsS os' ats') :: sta (celsA c.kbs vss') :: L) ∧
      ∃ l v, ats[k]? = some l ∧ vss[k]? = some v ∧ (b = false → ats' = ats ∧ vss' = vss ∧ s ∈ l) ∧ (b = true → s ∉ l ∧ ats' = ats.set k (l ++ [s]) ∧ vss' = vss.set k (v.set (c.code s) true) ∧ fnB v (c.code s) = false) := by
  refine run_presageref06_chart_add _ _ _ _ _ w _ ?_
  refine newC_i h fun k1 w1 h => fun w2 hd => ?_
  have h := h.drawn hd
  have hC := hc _ (h.pick 4 []).l
  obtain ⟨⟨p, hq, hdt⟩, hf⟩ := id hs
  have hpl := (List.getElem?_eq_some_iff.1 hq).1
  have hlt := hs.lt
  have hM := I.M
  obtain ⟨cd, hcd⟩ : ∃ cd, cd = c.code s := ⟨_, rfl⟩
  rw [← hcd] at hlt
  have ecd : ((bse c.ps s.prod : Int) + s.dot) * (c.n : Int) + s.frm = (cd : Int) := by rw [hcd]; unfold Ch.code; simp
  have hbx := bases_get (ps := c.ps) hpl
  obtain ⟨bad, hba, _⟩ := hC.b.at hbx
  have hbn : bse c.ps s.prod + s.dot ≤ cd := by
    rw [hcd]; unfold Ch.code
    have : (bse c.ps s.prod + s.dot) * 1 ≤ (bse c.ps s.prod + s.dot) * c.n := Nat.mul_le_mul_left _ (by omega)
    omega
  have hmn : 0 ≤ ((bse c.ps s.prod : Int) + s.dot) * (c.n : Int) := Int.mul_nonneg (by omega) (by omega)
  obtain ⟨l, hl⟩ : ∃ l, ats[k]? = some l := ⟨ats[k]'(by rw [I.la]; exact hk), List.getElem?_eq_getElem _⟩
  obtain ⟨v, hv⟩ : ∃ v, vss[k]? = some v := ⟨vss[k]'(by rw [I.lv]; exact hk), List.getElem?_eq_getElem _⟩
  obtain ⟨kb, hkb⟩ : ∃ kb, c.kbs[k]? = some kb := ⟨c.kbs[k]'(by rw [I.lk]; exact hk), List.getElem?_eq_getElem _⟩
  obtain ⟨o, ho⟩ : ∃ o, os[k]? = some o := ⟨os[k]'(by rw [I.lo]; exact hk), List.getElem?_eq_getElem _⟩
  obtain ⟨vl, ll⟩ := I.len k l v hl hv
  have hbit := I.bit k l v hl hv s hs
  rw [← hcd] at hbit
  have hcs : ∀ {w : World}, ChR (hp w) c → w.cell? (c.had.add k) = some (slT c.M kb) := fun r => r.hs.cell (sub.refl _) (j := k) (by rw [List.getElem?_map, hkb]; rfl)
  refine ⟨fun w => rowH (hp w) ⟨k1, 0, none⟩ (spV s) ∧ ChR (hp w) c, ⟨rdCel 0 h.l, hC⟩, _, _, _, fun w q => q.2.row.cell (sub.refl _) (j := 7) rfl, _, fun w q => q.1.cell0 (sub.refl _), idx_i hba hpl ⟨_, fun w q => q.2.b.atw hba hbx, _, fun w q => q.1.cell (sub.refl _) (j := 1) rfl, ⟨by omega, by omega⟩, _, _, _, fun w q => q.2.row.cell (sub.refl _) (j := 6) rfl, ⟨by omega, by omega⟩, _, fun w q => q.1.cell (sub.refl _) (j := 2) rfl, ⟨by omega, by omega⟩, _, _, _, hC.row.cell (sub.refl _) (j := 5) rfl, idx_i rfl hk ⟨_, _, _, hcs hC, ?_⟩⟩⟩
  rw [ecd]
  have rbit : w2.cell? ((⟨kb, 0, none⟩ : Addr).add cd) = some (.bool (fnB v cd)) := cel_bit (rdCC 3 h.l hkb hv) (by omega)
  refine idx_i rfl hlt ⟨_, rbit, br_intro (fun hb => ?_) fun hb => ?_⟩
  · exact ⟨false, os, ats, vss, rfl, I, h.pick 4 [1, 2, 3], l, v, hl, hv, fun _ => ⟨rfl, rfl, hbit.1 hb⟩, fun h => by cases h⟩
  refine ⟨_, _, _, hC.row.cell (sub.refl _) (j := 5) rfl, idx_i rfl hk ⟨_, _, _, hcs hC, idx_i rfl hlt ?_⟩⟩
  rw [add_lit0]
  have gS : (celsA c.kbs vss)[k]? = some (cel kb (bv v)) := by unfold celsA; rw [List.getElem?_zipWith, hkb, hv]
  have gO : (ownsS os ats)[k]? = some (own 3 o.1 l.length o.2 (spsV l)) := by unfold ownsS; rw [List.getElem?_zipWith, ho, hl]
  have gA : (slS os ats)[k]? = some (.slice o.1 l.length o.2) := by unfold slS; rw [List.getElem?_zipWith, ho, hl]
  refine st1_i (St.out (h.pick 4 [3, 0, 1, 2]) gS) (by rw [bv_len]; omega) fun w9 h => fun w10 hd => ?_
  rw [bv_setL] at h
  have h := (St.back h gS).drawn hd
  have eS : (celsA c.kbs vss).set k (cel kb (bv (v.set cd true))) = celsA c.kbs (vss.set k (v.set cd true)) := zip_set (fun p v => cel p (bv v)) hkb
  rw [eS] at h
  have hC := hc _ (h.pick 4 []).l
  refine ⟨fun w => rowH (hp w) ⟨k1, 0, none⟩ (spV s) ∧ rowH (hp w) ⟨c.kat, 0, none⟩ (slS os ats) ∧ ChR (hp w) c, ⟨rdCel 1 h.l, rdCel 2 h.l, hC⟩, _, _, _, fun w q => q.2.2.row.cell (sub.refl _) (j := 6) rfl, _, _, _, fun w q => q.2.2.row.cell (sub.refl _) (j := 6) rfl, idx_i rfl hk ⟨_, _, _, fun w q => q.2.1.cell (sub.refl _) (j := k) gA, _, _, _, fun w q => q.1.at (sub.refl _) rfl, newC_i h fun k20 w15 h => ⟨⟨rdCel 2 h.l, rdCel 3 h.l, hc _ (h.pick 5 []).l⟩, ?_⟩⟩⟩
  refine (app_one tyOk (rfl : kdOfT Ty _ = .slice _) (rfl : kdOfT Ty _ = .slice _) rfl rfl rfl ((St.out (h.pick 5 [4, 0, 1, 2, 3]) gO).pick 3 [2, 0, 1]) rfl (by simp [oneC, spV]) (by show (l.length + 1) * 24 ≤ _; have := cntB_le v; omega) (by have := cntB_le v; omega)).mono ?_
  rintro _ w16 ⟨a', c', rfl, h⟩
  have h : St w16 (sta ((ownsS os ats).set k (own 3 a' (l.length + 1) c' (spsV l ++ spV s))) :: cel k20 (spV s) :: sta (celsA c.kbs (vss.set k (v.set cd true))) :: cel k1 (spV s) :: cel c.kat (slS os ats) :: L) := St.back (h.pick 3 [0, 2, 1]) gO
  rw [spsV_snoc, show l.length + 1 = (l ++ [s]).length from by simp] at h
  have eO := ownsS_set (os := os) (ats := ats) (k := k) (o := (a', c')) (l := l ++ [s])
  dsimp only at eO
  rw [eO] at h
  refine ⟨_, _, _, rfl, ⟨rdCel 3 h.l, rdCel 4 h.l, hc _ (h.pick 5 []).l⟩, idx_i rfl hk ?_⟩
  rw [add_lit0]
  refine st1_i (h.pick 5 [4, 0, 2]) (by unfold slS; rw [List.length_zipWith, I.la, I.lo]; omega) fun w17 h => ?_
  have eA := slS_set (os := os) (ats := ats) (k := k) (o := (a', c')) (l := l ++ [s])
  dsimp only at eA
  rw [show l.length + 1 = (l ++ [s]).length from by simp, eA] at h
  refine ⟨true, _, _, _, rfl, I.add hl hv hs (hcd ▸ hb), hcd ▸ h, l, v, hl, hv, fun h => (by cases h), fun _ => ⟨fun hm => ?_, rfl, rfl, hcd ▸ hb⟩⟩
  rw [hbit.2 hm] at hb; cases hb
end
end Go.Proofs.YtaheggomcnbbiaaDoor
set_option linter.unusedVariables false
namespace Go.V
def InA (ats : List (List Spot)) (k : Nat) (s : Spot) : Prop := ∃ l, ats[k]? = some l ∧ s ∈ l
def opnAt (vss : List (List Bool)) (k : Nat) : Nat := opn (vss.getD k [])
structure FS (c : Ch) (k : Nat) (T : Nat → Spot → Prop) (ats0 : List (List Spot)) (os : List (Option Addr × Nat)) (ats : List (List Spot)) (vss : List (List Bool)) : Prop where
  I : ChI c os ats vss
  t : ∀ (j : Nat) s, InA ats j s → T j s
  o : ∀ j : Nat, j ≠ k → ats[j]? = ats0[j]?
  s : ∀ x, InA ats0 k x → InA ats k x
def ClS (c : Ch) (k : Nat) (ats : List (List Spot)) (s : Spot) : Prop := ∀ p, c.ps[s.prod]? = some p → (∀ (q : ProdT) (j : Nat), p.right[s.dot]? = some q.left → c.ps[j]? = some q → InA ats k ⟨j, 0, k⟩) ∧
  (s.dot = p.right.length → ∀ t r, InA ats s.frm t → c.ps[t.prod]? = some r → r.right[t.dot]? = some p.left → InA ats k ⟨t.prod, t.dot + 1, t.frm⟩)
def ClF (c : Ch) (k : Nat) (ats : List (List Spot)) : Prop := ∀ s, InA ats k s → ClS c k ats s
structure RuT (c : Ch) (k : Nat) (T : Nat → Spot → Prop) : Prop where
  pr : ∀ s p q (j : Nat), T k s → c.ps[s.prod]? = some p → p.right[s.dot]? = some q.left → c.ps[j]? = some q → T k ⟨j, 0, k⟩
  co : ∀ s p t r, T k s → c.ps[s.prod]? = some p → s.dot = p.right.length → T s.frm t → c.ps[t.prod]? = some r → r.right[t.dot]? = some p.left → T k ⟨t.prod, t.dot + 1, t.frm⟩
end Go.V
namespace Go.Proofs.YtaheggomcnbbiaaDoor
open Go.V
section
variable {w : World} {L : List Asn} {H : Hp} {c : Ch} {os : List (Option Addr × Nat)} {ats ats0 : List (List Spot)} {vss : List (List Bool)} {k : Nat} {s : Spot} {T : Nat → Spot → Prop}
theorem d_add2 (h : St w (cel c.kat (slS os ats) :: sta (ownsS os ats) :: sta (celsA c.kbs vss) :: L)) (hH : ∀ h, starL L h → sub H h) (hC : ChR H c) (F : FS c k T ats0 os ats vss) (hk : k < c.n) (hs : Rng c s) (hT : T k s) :
    Run Tryd.prog n_presageref06_chart_add [.pointer (some ⟨c.kc, 0, none⟩), .int .i64 (k : Int), .agg ⟨spV s⟩] w fun v w' => ∃ (b : Bool) (os' : List (Option Addr × Nat)) (ats' : List (List Spot)) (vss' : List (List Bool)), v = .bool b ∧ FS c k T ats0 os' ats' vss' ∧ St w' (cel c.kat (slS os' ats') :: sta (ownsS os' ats') :: sta (celsA c.kbs vss') :: L) ∧
      InA ats' k s ∧ (b = false → ats' = ats) ∧ opnAt vss' k + (if b then 1 else 0) = opnAt vss k := by
  refine (d_add h (fun h hh => hC.mono (hH h hh)) F.I hk hs).mono ?_
  rintro _ w' ⟨b, os', ats', vss', rfl, I', h', l, v, hl, hv, hf, ht⟩
  have hkn := (List.getElem?_eq_some_iff.1 hl).1
  have hkv := (List.getElem?_eq_some_iff.1 hv).1
  cases b with
  | false =>
    obtain ⟨rfl, rfl, hm⟩ := hf rfl
    exact ⟨false, os', _, _, rfl, ⟨I', F.t, F.o, F.s⟩, h', ⟨l, hl, hm⟩, fun _ => rfl, by simp⟩
  | true =>
    obtain ⟨hn, rfl, rfl, hb⟩ := ht rfl
    have hat : (ats.set k (l ++ [s]))[k]? = some (l ++ [s]) := by rw [List.getElem?_set_self hkn]
    have inn : ∀ {x}, InA (ats.set k (l ++ [s])) k x ↔ InA ats k x ∨ x = s := fun {x} => by
      constructor
      · rintro ⟨l', e, hm⟩
        rw [hat] at e; cases e
        rcases List.mem_append.1 hm with hm | hm
        · exact .inl ⟨l, hl, hm⟩
        · exact .inr (List.mem_singleton.1 hm)
      · rintro (⟨l', e, hm⟩ | rfl)
        · rw [hl] at e; cases e; exact ⟨_, hat, List.mem_append_left _ hm⟩
        · exact ⟨_, hat, by simp⟩
    refine ⟨true, os', _, _, rfl, ⟨I', fun j x hx => ?_, fun j hj => ?_, fun x hx => inn.2 (.inl (F.s x hx))⟩, h', inn.2 (.inr rfl), fun h => (by cases h), ?_⟩
    · by_cases e : j = k
      · subst e
        rcases inn.1 hx with hx | rfl
        · exact F.t _ x hx
        · exact hT
      · obtain ⟨l', e', hm⟩ := hx
        rw [List.getElem?_set_ne (fun h => e h.symm)] at e'
        exact F.t j x ⟨l', e', hm⟩
    · rw [List.getElem?_set_ne (fun h => hj h.symm)]; exact F.o j hj
    · have hlt := hs.lt
      have := opn_set (nl := v) (k := c.code s) (by rw [(F.I.len k l v hl hv).1]; exact hlt) hb
      unfold opnAt
      rw [getD_setV hkv, if_pos rfl, List.getD_eq_getElem?_getD, hv]
      simpa using this
set_option maxHeartbeats 8000000 in
theorem d_fill (h : St w (cel c.kat (slS os ats) :: sta (ownsS os ats) :: sta (celsA c.kbs vss) :: L)) (hH : ∀ h, starL L h → sub H h) (hC : ChR H c) (I : ChI c os ats vss) (ht : ∀ (j : Nat) s, InA ats j s → T j s) (hT : RuT c k T) (hk : k < c.n) (hps : c.ps.length ≤ 1048576) (hrl : ∀ p ∈ c.ps, p.right.length ≤ 1099511627776) :
    Run Tryd.prog n_presageref06_chart_fill [.pointer (some ⟨c.kc, 0, none⟩), .int .i64 (k : Int)] w fun v w' => v = .tuple ⟨[]⟩ ∧ ∃ (os' : List (Option Addr × Nat)) (ats' : List (List Spot)) (vss' : List (List Bool)), FS c k T ats os' ats' vss' ∧ ClF c k ats' ∧ St w' (cel c.kat (slS os' ats') :: sta (ownsS os' ats') :: sta (celsA c.kbs vss') :: L) := by
  refine run_presageref06_chart_fill _ _ w _ ?_
  have F0 : FS c k T ats os ats vss := ⟨I, ht, fun _ _ => rfl, fun _ h => h⟩
  obtain ⟨Q, hQ⟩ := name_it (fun (b : Bool) (w : World) (m : Nat) => ∃ (os' : List (Option Addr × Nat)) (ats' : List (List Spot)) (vss' : List (List Bool)), FS c k T ats os' ats' vss' ∧ m = opnAt vss' k + (if b then 1 else 0) ∧ (b = false → ClF c k ats') ∧ St w (cel c.kat (slS os' ats') :: sta (ownsS os' ats') :: sta (celsA c.kbs vss') :: L))
  obtain ⟨μ, mu1, mu2⟩ := least_fn (fun (y : Bool × World) m => Q y.1 y.2 m)
  refine ⟨fun b w' => ∃ m, Q b w' m, fun b w => μ (b, w), ⟨opnAt vss k + 1, ?_⟩, ?_⟩
  · rw [hQ]
    exact ⟨os, ats, vss, F0, rfl, fun h => absurd h (by decide), h⟩
  clear h F0 I ht
  intro _ b1 w1 hP
  have hP := mu2 (b1, w1) hP
  dsimp only at hP
  generalize hμ : μ (b1, w1) = μ0 at *
  rw [hQ] at hP
  obtain ⟨os0, ats0, vss0, F, hmu, hcl, h⟩ := hP
  refine br_intro (fun hb1 => ?_) fun hb1 => ⟨rfl, os0, ats0, vss0, F, hcl hb1, h⟩
  subst hb1
  rw [if_pos rfl] at hmu
  refine ⟨fun b n w' => ∃ (i : Nat) (os' : List (Option Addr × Nat)) (ats' : List (List Spot)) (vss' : List (List Bool)), n = i ∧ i ≤ c.M ∧ FS c k T ats os' ats' vss' ∧ opnAt vss' k + (if b then 1 else 0) ≤ opnAt vss0 k ∧ (b = false → ∀ l, ats'[k]? = some l → ∀ s ∈ l.take i, ClS c k ats' s) ∧ St w' (cel c.kat (slS os' ats') :: sta (ownsS os' ats') :: sta (celsA c.kbs vss') :: L), fun _ n _ => c.M + 1 - n.toNat, ⟨0, os0, ats0, vss0, rfl, Nat.zero_le _, F, by simp, by simp, h⟩, ?_⟩
  clear h F hcl
  rintro _ b2 n1 w2 ⟨i, os1, ats1, vss1, rfl, hiM, F, hm2, hc2, h⟩
  have M1 := F.I.M
  have hrC : ∀ {w : World}, sub H (hp w) → rowH (hp w) ⟨c.kc, 0, none⟩ c.cells := fun s => hC.row.mono s
  obtain ⟨l, hl⟩ : ∃ l, ats1[k]? = some l := ⟨ats1[k]'(by rw [F.I.la]; exact hk), List.getElem?_eq_getElem _⟩
  obtain ⟨v, hv⟩ : ∃ v, vss1[k]? = some v := ⟨vss1[k]'(by rw [F.I.lv]; exact hk), List.getElem?_eq_getElem _⟩
  obtain ⟨o, ho⟩ : ∃ o, os1[k]? = some o := ⟨os1[k]'(by rw [F.I.lo]; exact hk), List.getElem?_eq_getElem _⟩
  obtain ⟨vl, ll⟩ := F.I.len k l v hl hv
  have hlM : l.length ≤ c.M := by rw [ll, ← vl]; exact cntB_le v
  have gA : (slS os1 ats1)[k]? = some (.slice o.1 l.length o.2) := by unfold slS; rw [List.getElem?_zipWith, ho, hl]
  have rA := rdCel 0 h.l
  have sH : sub H (hp w2) := hH _ (h.pick 3 []).l
  refine ⟨_, _, _, (hrC sH).cell (sub.refl _) (j := 6) rfl, idx_i rfl hk ⟨_, _, _, rA.cell (sub.refl _) (j := k) gA, br_intro (fun hlt => ?_) fun hlt => ?_⟩⟩
  rotate_left
  · have hlt : l.length ≤ i := by have := of_decide_eq_false hlt; omega
    have key : Q b2 w2 (opnAt vss1 k + (if b2 then 1 else 0)) := by
      rw [hQ]; exact ⟨os1, ats1, vss1, F, rfl, fun hb s hs => by
        obtain ⟨l', e, hm⟩ := hs
        rw [hl] at e; cases e
        exact hc2 hb l hl s (by rw [List.take_of_length_le hlt]; exact hm), h⟩
    refine ⟨⟨_, key⟩, ?_⟩
    have := mu1 (b2, w2) _ key
    dsimp only
    rw [hμ]
    omega
  have hlt : i < l.length := by have := of_decide_eq_true hlt; omega
  obtain ⟨s, hs⟩ : ∃ s, l[i]? = some s := ⟨l[i], List.getElem?_eq_getElem hlt⟩
  have hsm := List.mem_of_getElem? hs
  have gO : ownsS os1 ats1 = ownsS os1 ats1 := rfl
  have rdO : ∀ {w : World} {L' : List Asn} {os' ats'} {k' : Nat} {o l}, St w (sta (ownsS os' ats') :: L') → os'[k']? = some o → ats'[k']? = some l → rdV o.1 (spsV l) (hp w) := fun {w L' os' ats' k' o l} h h1 h2 => by
    obtain ⟨g1, s1, ha⟩ := sta_nth h (A := own 3 o.1 l.length o.2 (spsV l)) (List.mem_of_getElem? (i := k') (by unfold ownsS; rw [List.getElem?_zipWith, h1, h2]))
    exact rdV.mono s1 (own_rdVh ha)
  obtain ⟨sad, hsa, hsr⟩ := spot_row (rdO (h.pick 2 [1]) ho hl) hs
  refine ⟨_, _, _, (hrC sH).cell (sub.refl _) (j := 6) rfl, idx_i rfl hk ⟨_, _, _, rA.cell (sub.refl _) (j := k) gA, idx_n hsa hlt ⟨_, _, _, hsr.at (sub.refl _) rfl, newC_i h fun k9 w3 h => stR_i h rfl (by simp [oneC]) fun w4 h => fun w5 hd => ?_⟩⟩⟩
  have h : St w5 (cel k9 (spV s) :: cel c.kat (slS os1 ats1) :: sta (ownsS os1 ats1) :: sta (celsA c.kbs vss1) :: L) := h.drawn hd
  have sH : sub H (hp w5) := hH _ (h.pick 4 []).l
  have r9 : rowH (hp w5) ⟨k9, 0, none⟩ (spV s) := rdCel 0 h.l
  have hRs := F.I.rg k l hl s hsm
  obtain ⟨⟨p0, hq0, hdt⟩, hfr⟩ := id hRs
  have hpl := (List.getElem?_eq_some_iff.1 hq0).1
  obtain ⟨p, ad, pvs, hp1, hpa, hp2, ra, rl, rc, rfl, hrc, hp3⟩ := hC.p.get (i := s.prod) hpl
  rw [hq0] at hp1; cases hp1
  have rl1 := hp3.1
  have hrlp := hrl p0 (List.mem_of_getElem? hq0)
  -- what goes on behind a spot
  have nx : ∀ {w' : World} {b' : Bool} {os' : List (Option Addr × Nat)} {ats' : List (List Spot)} {vss' : List (List Bool)}, FS c k T ats os' ats' vss' → opnAt vss' k + (if b' then 1 else 0) ≤ opnAt vss0 k → (b' = false → b2 = false ∧ ats' = ats1 ∧ ClS c k ats' s) → St w' (cel c.kat (slS os' ats') :: sta (ownsS os' ats') :: sta (celsA c.kbs vss') :: L) →
      inI ((i : Int) + 1) ∧ (∃ (i' : Nat) (os' : List (Option Addr × Nat)) (ats' : List (List Spot)) (vss' : List (List Bool)), (i : Int) + 1 = i' ∧ i' ≤ c.M ∧ FS c k T ats os' ats' vss' ∧ opnAt vss' k + (if b' then 1 else 0) ≤ opnAt vss0 k ∧ (b' = false → ∀ l, ats'[k]? = some l → ∀ s ∈ l.take i', ClS c k ats' s) ∧ St w' (cel c.kat (slS os' ats') :: sta (ownsS os' ats') :: sta (celsA c.kbs vss') :: L)) ∧ c.M + 1 - ((i : Int) + 1).toNat < c.M + 1 - (i : Int).toNat := fun {w' b' os' ats' vss'} F' m' c' h' => by
    refine ⟨⟨by omega, by omega⟩, ⟨i + 1, os', ats', vss', by simp, by omega, F', m', fun hb l' hl' x hx => ?_, h'⟩, by omega⟩
    obtain ⟨e1, e2, e3⟩ := c' hb
    subst e2
    rw [hl] at hl'; cases hl'
    rw [List.take_add_one, hs] at hx
    rcases List.mem_append.1 hx with hx | hx
    · exact hc2 e1 l hl x hx
    · simp at hx; subst hx; exact e3
  refine ⟨fun w => rowH (hp w) ⟨k9, 0, none⟩ (spV s) ∧ sub H (hp w), ⟨r9, sH⟩, _, _, _, fun w q => (hrC q.2).cell (sub.refl _) (j := 4) rfl, _, fun w q => q.1.cell0 (sub.refl _), idx_n hpa hpl ⟨_, _, _, fun w q => hp2.cell q.2 (j := 1) rfl, _, r9.cell (sub.refl _) (j := 1) rfl, br_intro (fun hdl => ?_) fun hdl => ?_⟩⟩
  · -- a symbol stands behind the dot
    have hdl : s.dot < rl := by have := of_decide_eq_true hdl; omega
    refine ⟨fun b n w' => ∃ (j : Nat) (os' : List (Option Addr × Nat)) (ats' : List (List Spot)) (vss' : List (List Bool)), n = j ∧ j ≤ c.ps.length ∧ FS c k T ats os' ats' vss' ∧ opnAt vss' k + (if b then 1 else 0) ≤ opnAt vss0 k ∧ (b = false → b2 = false ∧ ats' = ats1 ∧ ∀ (j' : Nat) q, j' < j → p0.right[s.dot]? = some q.left → c.ps[j']? = some q → InA ats' k ⟨j', 0, k⟩) ∧ St w' (cel c.kat (slS os' ats') :: sta (ownsS os' ats') :: sta (celsA c.kbs vss') :: cel k9 (spV s) :: L), fun _ n _ => c.ps.length - n.toNat, ⟨0, os1, ats1, vss1, rfl, Nat.zero_le _, F, hm2, fun hb => ⟨hb, rfl, fun _ _ h => absurd h (Nat.not_lt_zero _)⟩, h.pick 4 [1, 2, 3, 0]⟩, ?_⟩
    clear h r9 sH hd
    rintro _ b3 n7 w9 ⟨j, os2, ats2, vss2, rfl, hj, F2, hm3, hc3, h⟩
    have sH : sub H (hp w9) := hH _ (h.pick 4 []).l
    refine ⟨_, _, _, (hrC sH).cell (sub.refl _) (j := 4) rfl, br_intro (fun hlt => ?_) fun hlt => ?_⟩
    rotate_left
    · have hlt : j = c.ps.length := by have := of_decide_eq_false hlt; omega
      refine nx F2 hm3 (fun hb => ?_) (h.pick 4 [0, 1, 2])
      obtain ⟨e1, e2, e3⟩ := hc3 hb
      refine ⟨e1, e2, fun p' hp' => ⟨fun q j' hr hq => ?_, fun hd => ?_⟩⟩
      · rw [hq0] at hp'; cases hp'
        exact e3 j' q (by rw [hlt]; exact (List.getElem?_eq_some_iff.1 hq).1) hr hq
      · rw [hq0] at hp'; cases hp'; omega
    have hlt : j < c.ps.length := by have := of_decide_eq_true hlt; omega
    obtain ⟨q, qad, qvs, hq1, hqa, hq2, rb, ql, qc, rfl, hqc, hq3⟩ := hC.p.get hlt
    intro w10 hd
    have h := h.drawn hd
    have sH : sub H (hp w10) := hH _ (h.pick 4 []).l
    have r9 : rowH (hp w10) ⟨k9, 0, none⟩ (spV s) := rdCel 3 h.l
    obtain ⟨y, yad, hy1, hya, hy2⟩ := hp3.get1 hdl
    have nj : ∀ {w' : World} {b' : Bool} {os' : List (Option Addr × Nat)} {ats' : List (List Spot)} {vss' : List (List Bool)}, FS c k T ats os' ats' vss' → opnAt vss' k + (if b' then 1 else 0) ≤ opnAt vss0 k → (b' = false → b3 = false ∧ ats' = ats2 ∧ (q.left = y → InA ats' k ⟨j, 0, k⟩)) → St w' (cel c.kat (slS os' ats') :: sta (ownsS os' ats') :: sta (celsA c.kbs vss') :: cel k9 (spV s) :: L) →
        inI ((j : Int) + 1) ∧ (∃ (j' : Nat) (os' : List (Option Addr × Nat)) (ats' : List (List Spot)) (vss' : List (List Bool)), (j : Int) + 1 = j' ∧ j' ≤ c.ps.length ∧ FS c k T ats os' ats' vss' ∧ opnAt vss' k + (if b' then 1 else 0) ≤ opnAt vss0 k ∧ (b' = false → b2 = false ∧ ats' = ats1 ∧ ∀ (j'' : Nat) q, j'' < j' → p0.right[s.dot]? = some q.left → c.ps[j'']? = some q → InA ats' k ⟨j'', 0, k⟩) ∧ St w' (cel c.kat (slS os' ats') :: sta (ownsS os' ats') :: sta (celsA c.kbs vss') :: cel k9 (spV s) :: L)) ∧ c.ps.length - ((j : Int) + 1).toNat < c.ps.length - (j : Int).toNat := fun {w' b' os' ats' vss'} F' m' c' h' => by
      refine ⟨⟨by omega, by omega⟩, ⟨j + 1, os', ats', vss', by simp, by omega, F', m', fun hb => ?_, h'⟩, msr hlt⟩
      obtain ⟨e1, e2, e3⟩ := c' hb
      obtain ⟨d1, d2, d3⟩ := hc3 e1
      subst e2
      refine ⟨d1, d2, fun j'' q' hj'' hr hq => ?_⟩
      by_cases e : j'' = j
      · subst e
        rw [hq1] at hq; cases hq
        rw [hy1] at hr
        exact e3 (Option.some.inj hr).symm
      · exact d3 j'' q' (by omega) hr hq
    refine ⟨fun w => rowH (hp w) ⟨k9, 0, none⟩ (spV s) ∧ sub H (hp w), ⟨r9, sH⟩, _, _, _, fun w q => (hrC q.2).cell (sub.refl _) (j := 4) rfl, idx_n hqa hlt ⟨_, fun w q => hq2.cell0 q.2, _, fun w q => q.1.cell (sub.refl _) (j := 1) rfl, idx_i hya hdl ⟨_, fun w q => hy2 _ q.2, br_intro (fun he => ?_) fun he => ?_⟩⟩⟩
    rotate_left
    · refine nj F2 hm3 (fun hb => ⟨hb, rfl, fun e => ?_⟩) h
      rw [e] at he; simp at he
    have he : q.left = y := by simpa using he
    have hsT : T k s := F.t k s ⟨l, hl, hsm⟩
    refine (d_add2 (s := ⟨j, 0, k⟩) (ats0 := ats) h (fun h hh => hH h (starL_tail hh)) hC F2 hk ⟨⟨q, hq1, Nat.zero_le _⟩, hk⟩ (hT.pr s p0 q j hsT hq0 (by rw [hy1, he]) hq1)).mono ?_
    rintro _ w15 ⟨b4, os3, ats3, vss3, rfl, F3, h, hin, hbf, hms⟩
    refine ⟨_, rfl, ⟨rdCel 3 h.l, hH _ (h.pick 4 []).l⟩, br_intro (fun hb4 => ?_) fun hb4 => ?_⟩
    · subst hb4
      refine nj F3 ?_ (fun hb => by cases hb) h
      rw [if_pos rfl] at hms ⊢
      split at hm3 <;> omega
    · subst hb4
      refine nj F3 ?_ (fun hb => ⟨hb, hbf rfl, fun _ => hin⟩) h
      simp only [Bool.false_eq_true, if_false, Nat.add_zero] at hms
      omega
  · -- the dot stands at the end
    have hdl : s.dot = p0.right.length := by have := of_decide_eq_false hdl; omega
    intro w16 hd16
    have h := h.drawn hd16
    refine ⟨fun w => rowH (hp w) ⟨k9, 0, none⟩ (spV s) ∧ sub H (hp w), ⟨rdCel 0 h.l, hH _ (h.pick 4 []).l⟩, _, _, _, fun w q => (hrC q.2).cell (sub.refl _) (j := 4) rfl, _, fun w q => q.1.cell0 (sub.refl _), idx_n hpa hpl ⟨_, fun w q => hp2.cell0 q.2, ?_⟩⟩
    refine ⟨fun b n w' => ∃ (m : Nat) (os' : List (Option Addr × Nat)) (ats' : List (List Spot)) (vss' : List (List Bool)), n = m ∧ m ≤ c.M ∧ FS c k T ats os' ats' vss' ∧ opnAt vss' k + (if b then 1 else 0) ≤ opnAt vss0 k ∧ (b = false → b2 = false ∧ ats' = ats1 ∧ ∀ l', ats1[s.frm]? = some l' → ∀ t ∈ l'.take m, ∀ r, c.ps[t.prod]? = some r → r.right[t.dot]? = some p0.left → InA ats' k ⟨t.prod, t.dot + 1, t.frm⟩) ∧ St w' (cel c.kat (slS os' ats') :: sta (ownsS os' ats') :: sta (celsA c.kbs vss') :: cel k9 (spV s) :: L), fun _ n _ => c.M + 1 - n.toNat, ⟨0, os1, ats1, vss1, rfl, Nat.zero_le _, F, hm2, fun hb => ⟨hb, rfl, fun _ _ t ht => by simp at ht⟩, h.pick 4 [1, 2, 3, 0]⟩, ?_⟩
    clear h r9 sH hd hd16
    rintro _ b5 n13 w20 ⟨m, os2, ats2, vss2, rfl, hmM, F2, hm3, hc3, h⟩
    intro w21 hd21
    have h := h.drawn hd21
    obtain ⟨lf, hlf⟩ : ∃ lf, ats2[s.frm]? = some lf := ⟨ats2[s.frm]'(by rw [F2.I.la]; exact hfr), List.getElem?_eq_getElem _⟩
    obtain ⟨vf, hvf⟩ : ∃ vf, vss2[s.frm]? = some vf := ⟨vss2[s.frm]'(by rw [F2.I.lv]; exact hfr), List.getElem?_eq_getElem _⟩
    obtain ⟨of, hof⟩ : ∃ of, os2[s.frm]? = some of := ⟨os2[s.frm]'(by rw [F2.I.lo]; exact hfr), List.getElem?_eq_getElem _⟩
    obtain ⟨vfl, lfl⟩ := F2.I.len _ lf vf hlf hvf
    have hlfM : lf.length ≤ c.M := by rw [lfl, ← vfl]; exact cntB_le vf
    have gA2 : (slS os2 ats2)[s.frm]? = some (.slice of.1 lf.length of.2) := by unfold slS; rw [List.getElem?_zipWith, hof, hlf]
    refine ⟨fun w => rowH (hp w) ⟨k9, 0, none⟩ (spV s) ∧ rowH (hp w) ⟨c.kat, 0, none⟩ (slS os2 ats2) ∧ sub H (hp w), ⟨rdCel 3 h.l, rdCel 0 h.l, hH _ (h.pick 4 []).l⟩, _, _, _, fun w q => (hrC q.2.2).cell (sub.refl _) (j := 6) rfl, _, fun w q => q.1.cell (sub.refl _) (j := 2) rfl, idx_i rfl hfr ⟨_, _, _, fun w q => q.2.1.cell (sub.refl _) (j := s.frm) gA2, br_intro (fun hlt => ?_) fun hlt => ?_⟩⟩
    rotate_left
    · have hlt : lf.length ≤ m := by have := of_decide_eq_false hlt; omega
      refine nx F2 hm3 (fun hb => ?_) (h.pick 4 [0, 1, 2])
      obtain ⟨e1, e2, e3⟩ := hc3 hb
      subst e2
      refine ⟨e1, rfl, fun p' hp' => ⟨fun q j' hr hq => ?_, fun hd t r ht hr hrl => ?_⟩⟩
      · rw [hq0] at hp'; cases hp'
        rw [hdl] at hr; simp at hr
      · rw [hq0] at hp'; cases hp'
        obtain ⟨l', e, hm⟩ := ht
        rw [hlf] at e; cases e
        exact e3 lf hlf t (by rw [List.take_of_length_le hlt]; exact hm) r hr hrl
    have hlt : m < lf.length := by have := of_decide_eq_true hlt; omega
    obtain ⟨t, ht⟩ : ∃ t, lf[m]? = some t := ⟨lf[m], List.getElem?_eq_getElem hlt⟩
    have htm := List.mem_of_getElem? ht
    have hRt := F2.I.rg _ lf hlf t htm
    obtain ⟨⟨r, hr0, hrd⟩, hrf⟩ := id hRt
    have hrpl := (List.getElem?_eq_some_iff.1 hr0).1
    obtain ⟨r', rad, rvs, hr1, hra, hr2, rra, rrl, rrc, rfl, hrrc, hr3⟩ := hC.p.get (i := t.prod) hrpl
    rw [hr0] at hr1; cases hr1
    have rrl1 := hr3.1
    have hrlr := hrl r (List.mem_of_getElem? hr0)
    have nm : ∀ {w' : World} {b' : Bool} {os' : List (Option Addr × Nat)} {ats' : List (List Spot)} {vss' : List (List Bool)}, FS c k T ats os' ats' vss' → opnAt vss' k + (if b' then 1 else 0) ≤ opnAt vss0 k → (b' = false → b5 = false ∧ ats' = ats2 ∧ (r.right[t.dot]? = some p0.left → InA ats' k ⟨t.prod, t.dot + 1, t.frm⟩)) → St w' (cel c.kat (slS os' ats') :: sta (ownsS os' ats') :: sta (celsA c.kbs vss') :: cel k9 (spV s) :: L) →
        inI ((m : Int) + 1) ∧ (∃ (m' : Nat) (os' : List (Option Addr × Nat)) (ats' : List (List Spot)) (vss' : List (List Bool)), (m : Int) + 1 = m' ∧ m' ≤ c.M ∧ FS c k T ats os' ats' vss' ∧ opnAt vss' k + (if b' then 1 else 0) ≤ opnAt vss0 k ∧ (b' = false → b2 = false ∧ ats' = ats1 ∧ ∀ l', ats1[s.frm]? = some l' → ∀ t ∈ l'.take m', ∀ r, c.ps[t.prod]? = some r → r.right[t.dot]? = some p0.left → InA ats' k ⟨t.prod, t.dot + 1, t.frm⟩) ∧ St w' (cel c.kat (slS os' ats') :: sta (ownsS os' ats') :: sta (celsA c.kbs vss') :: cel k9 (spV s) :: L)) ∧ c.M + 1 - ((m : Int) + 1).toNat < c.M + 1 - (m : Int).toNat := fun {w' b' os' ats' vss'} F' m' c' h' => by
      refine ⟨⟨by omega, by omega⟩, ⟨m + 1, os', ats', vss', by simp, by omega, F', m', fun hb => ?_, h'⟩, by omega⟩
      obtain ⟨e1, e2, e3⟩ := c' hb
      obtain ⟨d1, d2, d3⟩ := hc3 e1
      subst e2
      refine ⟨d1, d2, fun l' hl' t' ht' r' hr' hrr => ?_⟩
      rw [← d2, hlf] at hl'; cases hl'
      rw [List.take_add_one, ht] at ht'
      rcases List.mem_append.1 ht' with ht' | ht'
      · exact d3 lf (by rw [← d2]; exact hlf) t' ht' r' hr' hrr
      · simp at ht'; subst ht'
        rw [hr0] at hr'; cases hr'
        exact e3 hrr
    obtain ⟨tad, hta, htr⟩ := spot_row (rdO (h.pick 2 [1]) hof hlf) ht
    intro w25 hd25
    have e25 : hp w25 = hp w21 := hp_drawn hd25
    have h := h.drawn hd25
    rw [← e25] at htr
    have rfO : ∀ {w : World} {L'}, St w (sta (ownsS os2 ats2) :: L') → rowH (hp w) (tad.add (mulS m 3)) (spV t) := fun {w L'} h => by
      obtain ⟨tad', e, r⟩ := spot_row (rdO h hof hlf) ht
      rw [hta] at e; cases e; exact r
    refine ⟨fun w => rowH (hp w) ⟨k9, 0, none⟩ (spV s) ∧ rowH (hp w) ⟨c.kat, 0, none⟩ (slS os2 ats2) ∧ rowH (hp w) (tad.add (mulS m 3)) (spV t) ∧ sub H (hp w), ⟨rdCel 3 h.l, rdCel 0 h.l, htr, hH _ (h.pick 4 []).l⟩, _, _, _, fun w q => (hrC q.2.2.2).cell (sub.refl _) (j := 6) rfl, _, fun w q => q.1.cell (sub.refl _) (j := 2) rfl, idx_i rfl hfr ⟨_, _, _, fun w q => q.2.1.cell (sub.refl _) (j := s.frm) gA2, idx_n hta hlt ⟨_, _, _, fun w q => q.2.2.1.at (sub.refl _) rfl, newC_i h fun k28 w30 h => ⟨⟨rdCel 4 h.l, rdCel 1 h.l, rfO (h.pick 3 [2]), hH _ (h.pick 5 []).l⟩, stR_i h rfl (by simp [oneC]) fun w31 h => fun w32 hd32 => ?_⟩⟩⟩⟩
    have h : St w32 (cel k28 (spV t) :: cel c.kat (slS os2 ats2) :: sta (ownsS os2 ats2) :: sta (celsA c.kbs vss2) :: cel k9 (spV s) :: L) := h.drawn hd32
    have r28 : rowH (hp w32) ⟨k28, 0, none⟩ (spV t) := rdCel 0 h.l
    have sH : sub H (hp w32) := hH _ (h.pick 5 []).l
    refine ⟨fun w => rowH (hp w) ⟨k28, 0, none⟩ (spV t) ∧ sub H (hp w), ⟨r28, sH⟩, _, _, _, fun w q => (hrC q.2).cell (sub.refl _) (j := 4) rfl, _, fun w q => q.1.cell0 (sub.refl _), idx_n hra hrpl ⟨_, _, _, fun w q => hr2.cell q.2 (j := 1) rfl, _, r28.cell (sub.refl _) (j := 1) rfl, br_intro (fun hdr => ?_) fun hdr => ?_⟩⟩
    rotate_left
    · have hdr : ¬ t.dot < rrl := by have := of_decide_eq_false hdr; omega
      refine nm F2 hm3 (fun hb => ⟨hb, rfl, fun e => ?_⟩) (h.pick 5 [1, 2, 3, 4])
      have := (List.getElem?_eq_some_iff.1 e).1; omega
    have hdr : t.dot < rrl := by have := of_decide_eq_true hdr; omega
    obtain ⟨y, yad, hy1, hya, hy2⟩ := hr3.get1 hdr
    refine ⟨_, r28.cell (sub.refl _) (j := 1) rfl, idx_i hya hdr ⟨_, hy2 _ sH, br_intro (fun he => ?_) fun he => ?_⟩⟩
    rotate_left
    · refine nm F2 hm3 (fun hb => ⟨hb, rfl, fun e => ?_⟩) (h.pick 5 [1, 2, 3, 4])
      rw [hy1] at e; cases e; simp at he
    have he : y = p0.left := by simpa using he
    refine ⟨_, r28.cell0 (sub.refl _), _, r28.cell (sub.refl _) (j := 1) rfl, ⟨by omega, by omega⟩, _, r28.cell (sub.refl _) (j := 2) rfl, ?_⟩
    have hsT : T k s := F.t k s ⟨l, hl, hsm⟩
    have htT : T s.frm t := F2.t _ t ⟨lf, hlf, htm⟩
    refine (d_add2 (s := ⟨t.prod, t.dot + 1, t.frm⟩) (ats0 := ats) (h.pick 5 [1, 2, 3, 4]) (fun h hh => hH h (starL_tail hh)) hC F2 hk ⟨⟨r, hr0, by show t.dot + 1 ≤ _; omega⟩, hrf⟩ (hT.co s p0 t r hsT hq0 hdl htT hr0 (by rw [hy1, he]))).mono ?_
    rintro _ w36 ⟨b6, os3, ats3, vss3, rfl, F3, h, hin, hbf, hms⟩
    refine ⟨_, rfl, br_intro (fun hb6 => ?_) fun hb6 => ?_⟩
    · subst hb6
      refine nm F3 ?_ (fun hb => by cases hb) h
      rw [if_pos rfl] at hms ⊢
      split at hm3 <;> omega
    · subst hb6
      refine nm F3 ?_ (fun hb => ⟨hb, hbf rfl, fun _ => hin⟩) h
      simp only [Bool.false_eq_true, if_false, Nat.add_zero] at hms
      omega
end
end Go.Proofs.YtaheggomcnbbiaaDoor
set_option linter.unusedVariables false
namespace Go.V
def TrT (ps : List ProdT) (st : Int) (row : List Int) (k : Nat) (s : Spot) : Prop := ∃ p, ps[s.prod]? = some p ∧ ItV ps st row k p s.dot s.frm
section
variable {c : Ch} {st : Int} {row : List Int} {ats ats' : List (List Spot)} {k : Nat}
theorem TrT.rule (k : Nat) : RuT c k (TrT c.ps st row) where
  pr := by
    rintro s p q j ⟨p', e, h⟩ hp hr hq
    rw [hp] at e; cases e
    exact ⟨q, hq, .pred k p _ _ q h hr (List.mem_of_getElem? hq)⟩
  co := by
    rintro s p t r ⟨p', e, h⟩ hp hd ⟨r', e', h'⟩ hr hrr
    rw [hp] at e; cases e
    rw [hr] at e'; cases e'
    rw [hd] at h
    exact ⟨r, hr, .comp k p _ r _ _ h h' hrr⟩
theorem ClF.mono (h : ClF c k ats) (ht : ∀ s, InA ats k s → TrT c.ps st row k s) (he : ∀ j, j ≤ k → ats'[j]? = ats[j]?) : ClF c k ats' := by
  have inn : ∀ {j s}, j ≤ k → (InA ats' j s ↔ InA ats j s) := fun {j s} hj => by unfold InA; rw [he j hj]
  intro s hs p hp
  rw [inn (Nat.le_refl _)] at hs
  obtain ⟨h1, h2⟩ := h s hs p hp
  obtain ⟨p', _, hI⟩ := ht s hs
  have hf := hI.dot.2
  exact ⟨fun q j hr hq => (inn (Nat.le_refl _)).2 (h1 q j hr hq), fun hd t r hi hr hrr => (inn (Nat.le_refl _)).2 (h2 hd t r ((inn hf).1 hi) hr hrr)⟩
def ScC (c : Ch) (row : List Int) (i : Nat) (ats : List (List Spot)) : Prop := ∀ s p, InA ats i s → c.ps[s.prod]? = some p → ∀ a, p.right[s.dot]? = some a → row[i]? = some a → InA ats (i + 1) ⟨s.prod, s.dot + 1, s.frm⟩
def InC (c : Ch) (st : Int) (ats : List (List Spot)) : Prop := ∀ (j : Nat) p, c.ps[j]? = some p → p.left = st → InA ats 0 ⟨j, 0, 0⟩
theorem cpl (h0 : InC c st ats) (hc : ∀ j, j ≤ k → ClF c j ats) (hs : ∀ i, i < k → ScC c row i ats) {j : Nat} {p : ProdT} {d f : Nat} (h : ItV c.ps st row j p d f) : j ≤ k → ∀ i : Nat, c.ps[i]? = some p → InA ats j ⟨i, d, f⟩ := by
  have ix : ∀ {j p d f}, ItV c.ps st row j p d f → ∃ i : Nat, c.ps[i]? = some p := fun h => List.getElem?_of_mem h.mem
  induction h with
  | init p hp he => intro _ i hi; exact h0 i p hi he
  | pred k' p d f q h1 h2 h3 ih =>
    intro hj i hi
    obtain ⟨i0, hi0⟩ := ix h1
    exact (hc k' hj ⟨i0, d, f⟩ (ih hj i0 hi0) p hi0).1 q i h2 hi
  | scan k' p d f a h1 h2 h3 ih =>
    intro hj i hi
    exact hs k' (by omega) ⟨i, d, f⟩ p (ih (by omega) i hi) hi a h2 h3
  | comp k' p f q d f' h1 h2 h3 ih1 ih2 =>
    intro hj i hi
    obtain ⟨i0, hi0⟩ := ix h1
    have hf := h1.dot.2
    exact (hc k' hj ⟨i0, _, f⟩ (ih1 hj i0 hi0) p hi0).2 rfl ⟨i, d, f'⟩ q (ih2 (by omega) i hi) hi h3
def RdP (c : Ch) (st : Int) (row : List Int) (ats : List (List Spot)) (m : Nat) : Prop :=
  (m = row.length ∧ ∀ s, InA ats m s ↔ TrT c.ps st row m s) ∨ (m < row.length ∧ ∀ s, ¬ TrT c.ps st row row.length s)
theorem rdP_stop (h0 : InC c st ats) (hc : ∀ j, j ≤ k → ClF c j ats) (hs : ∀ i, i < k + 1 → ScC c row i ats) (hk : k < row.length) (he : ∀ s, ¬ InA ats (k + 1) s) : RdP c st row ats k := by
  refine .inr ⟨hk, fun s hT => ?_⟩
  obtain ⟨p, hp, h⟩ := hT
  -- the first of place k+1 comes of a scan
  have key : ∀ {j p d f}, ItV c.ps st row j p d f → j ≠ k + 1 := by
    intro j p d f h
    have ix : ∀ {j p d f}, ItV c.ps st row j p d f → ∃ i : Nat, c.ps[i]? = some p := fun h => List.getElem?_of_mem h.mem
    induction h with
    | init p hp he => omega
    | pred k' p d f q h1 h2 h3 ih => exact ih
    | scan k' p d f a h1 h2 h3 ih =>
      intro e
      have e : k' = k := by omega
      subst e
      obtain ⟨i0, hi0⟩ := ix h1
      exact he _ (hs k' (by omega) ⟨i0, d, f⟩ p (cpl h0 hc (fun i hi => hs i (by omega)) h1 (Nat.le_refl _) i0 hi0) hi0 a h2 h3)
    | comp k' p f q d f' h1 h2 h3 ih1 ih2 => exact ih1
  obtain ⟨p', d', f', h'⟩ := h.prev (k + 1) (by omega)
  exact key h' rfl
theorem rdP_end (h0 : InC c st ats) (hc : ∀ j, j ≤ row.length → ClF c j ats) (hs : ∀ i, i < row.length → ScC c row i ats) (ht : ∀ (j : Nat) s, InA ats j s → TrT c.ps st row j s) : RdP c st row ats row.length :=
  .inl ⟨rfl, fun s => ⟨ht _ s, fun ⟨p, hp, h⟩ => cpl h0 hc hs h (Nat.le_refl _) _ hp⟩⟩
end
end Go.V
set_option linter.unusedVariables false
namespace Go.V
theorem flat3_get {α : Type} {f : α → List Value} : ∀ {K : List α} (hK : ∀ x ∈ K, (f x).length = 3) {i : Nat} {x : α}, K[i]? = some x → ∀ j v, (f x)[j]? = some v → (K.flatMap f)[i * 3 + j]? = some v
  | [], _, i, x, h, j, v, hv => by simp at h
  | y :: K, hK, 0, x, h, j, v, hv => by
    simp at h; subst h
    show (f y ++ K.flatMap f)[0 * 3 + j]? = _
    rw [List.getElem?_append_left (by have := (List.getElem?_eq_some_iff.1 hv).1; omega)]
    simpa using hv
  | y :: K, hK, i + 1, x, h, j, v, hv => by
    show (f y ++ K.flatMap f)[(i + 1) * 3 + j]? = _
    have hy := hK y (by simp)
    rw [List.getElem?_append_right (by omega), show (i + 1) * 3 + j - (f y).length = i * 3 + j from by omega]
    exact flat3_get (fun x hx => hK x (by simp [hx])) (by simpa using h) j v hv
theorem rdK_of {h H : Hp} {K : List (ProdT × List Value)} {o : Option Addr} (hs : sub H h) (hK : ∀ y ∈ K, rd H y.1 y.2) (r : rdV o (K.flatMap Prod.snd) h) : rdS h (K.map Prod.fst) o K.length := by
  refine ⟨by simp, fun i x hx => ?_⟩
  rw [List.getElem?_map] at hx
  cases hy : K[i]? with
  | none => rw [hy] at hx; cases hx
  | some y =>
    rw [hy] at hx; cases hx
    have hm := hK y (List.mem_of_getElem? hy)
    have hl : ∀ x ∈ K, (Prod.snd x).length = 3 := fun x hx => Rep.len (hK x hx)
    have g := flat3_get (f := Prod.snd) hl hy
    rcases r with e | ⟨ad, e, hc⟩
    · have := g 0 (y.2[0]'(by rw [hl y (List.mem_of_getElem? hy)]; omega)) (List.getElem?_eq_getElem _)
      rw [e] at this; simp at this
    · refine ⟨ad, y.2, e, fun j v hv => ?_, Rep.mono hs hm⟩
      rw [add_add, mulS_eq]
      exact hc _ _ (g j v hv)
def keepF (g : GramT) (pds : List Bool) (p : ProdT) : Bool := p.right.all fun s => decide (s < (g.T : Int)) || fnB pds (s.toNat - g.T)
theorem keepF_fit {g : GramT} {pds : List Bool} {p : ProdT} : keepF g pds p = true ↔ FitP g pds p.right := by
  unfold keepF FitP
  rw [List.all_eq_true]
  simp only [Bool.or_eq_true, decide_eq_true_eq]
structure Upto (c : Ch) (st : Int) (row : List Int) (i : Nat) (ats : List (List Spot)) : Prop where
  h0 : InC c st ats
  hc : ∀ j, j ≤ i → ClF c j ats
  hs : ∀ j, j < i → ScC c row j ats
theorem Upto.mono {c : Ch} {st : Int} {row : List Int} {i : Nat} {ats ats' : List (List Spot)} (U : Upto c st row i ats) (ht : ∀ (j : Nat) s, InA ats j s → TrT c.ps st row j s) (he : ∀ j, j ≤ i → ats'[j]? = ats[j]?) : Upto c st row i ats' := by
  have inn : ∀ {j s}, j ≤ i → (InA ats' j s ↔ InA ats j s) := fun {j s} hj => by unfold InA; rw [he j hj]
  exact ⟨fun j p h1 h2 => (inn (Nat.zero_le _)).2 (U.h0 j p h1 h2), fun j hj => (U.hc j hj).mono (ht j) fun m hm => he m (by omega), fun j hj s p h1 h2 a h3 h4 => (inn (by omega)).2 (U.hs j hj s p ((inn (by omega)).1 h1) h2 a h3 h4)⟩
theorem Upto.next {c : Ch} {st : Int} {row : List Int} {i : Nat} {ats : List (List Spot)} (U : Upto c st row i ats) (sc : ScC c row i ats) (cl : ClF c (i + 1) ats) : Upto c st row (i + 1) ats :=
  ⟨U.h0, fun j hj => by
    by_cases e : j = i + 1
    · rw [e]; exact cl
    · exact U.hc j (by omega), fun j hj => by
    by_cases e : j = i
    · rw [e]; exact sc
    · exact U.hs j (by omega)⟩
theorem ownsS_nil {w : World} {L : List Asn} (h : St w L) : ∀ n : Nat, St w (sta (ownsS (List.replicate n (none, 0)) (List.replicate n [])) :: L)
  | 0 => St.flat.2 h
  | n + 1 => by
    have h1 := ownsS_nil h n
    have h2 := St.snoc (own_nil 3 h1)
    have e : ownsS (List.replicate n (none, 0)) (List.replicate n []) ++ [own 3 none 0 0 []] = ownsS (List.replicate (n + 1) (none, 0)) (List.replicate (n + 1) []) := by
      unfold ownsS; rw [List.replicate_succ', List.replicate_succ', List.zipWith_append (by simp)]; rfl
    rw [e] at h2; exact h2
theorem slS_nil (n : Nat) : List.replicate n (Value.slice none 0 0) = slS (List.replicate n (none, 0)) (List.replicate n []) := by
  unfold slS; simp [List.zipWith_replicate]
theorem bases_succ (ps : List ProdT) (j : Nat) : bases ps (j + 1) = bases ps j ++ [(bse ps j : Int)] := by simp [bases, List.range_succ]
theorem bases_len (ps : List ProdT) (j : Nat) : (bases ps j).length = j := by simp [bases]
theorem bse_le {ps : List ProdT} {N : Nat} (h : ∀ p ∈ ps, p.right.length ≤ N) : ∀ j : Nat, bse ps j ≤ j * (N + 1)
  | 0 => by simp [bse]
  | j + 1 => by
    have := bse_le h j
    rw [Nat.add_mul]
    cases hp : ps[j]? with
    | none => unfold bse at this ⊢; rw [List.take_add_one, hp]; simp at this ⊢; omega
    | some p => rw [bse_succ hp]; have := h p (List.mem_of_getElem? hp); omega
def C9 (x : GA) (o : Option Addr) (m co : Nat) (hs at_ ba : Value) (al : Nat) : List Value := [.slice x.ta x.tl x.tc, .slice x.na x.nl x.nc, .slice none 0 0, .int .i64 x.s, .slice o m co, hs, at_, ba, .int .i64 (al : Int)]
theorem cntB_zero {bs : List Bool} (h : ∀ k, fnB bs k = false) : cntB bs = 0 := by
  unfold cntB cnt
  rw [List.filter_eq_nil_iff.2 (fun k _ => by rw [h k]; simp)]; rfl
theorem rep_some {α : Type} {n k : Nat} {a b : α} (h : (List.replicate n a)[k]? = some b) : k < n ∧ b = a := by
  rw [List.getElem?_replicate] at h
  split at h
  · rename_i e; exact ⟨e, (Option.some.inj h).symm⟩
  · cases h
theorem ChI.init {c : Ch} (lk : c.kbs.length = c.n) (hM : c.M ≤ 1099511627776) : ChI c (List.replicate c.n (none, 0)) (List.replicate c.n []) (List.replicate c.n (List.replicate c.M false)) := by
  refine ⟨by simp, by simp, by simp, lk, hM, fun k l v h1 h2 => ?_, fun k l h1 s hs => ?_, fun k l v h1 h2 s hs => ?_⟩
  · obtain ⟨_, rfl⟩ := rep_some h1
    obtain ⟨_, rfl⟩ := rep_some h2
    exact ⟨by simp, by rw [cntB_zero fun k => fnB_rep _ k]; rfl⟩
  · obtain ⟨_, rfl⟩ := rep_some h1
    simp at hs
  · obtain ⟨_, rfl⟩ := rep_some h1
    obtain ⟨_, rfl⟩ := rep_some h2
    rw [fnB_rep]; simp
theorem FS.self {c : Ch} {k : Nat} {T : Nat → Spot → Prop} {ats : List (List Spot)} {os : List (Option Addr × Nat)} {vss : List (List Bool)} (I : ChI c os ats vss) (t : ∀ (j : Nat) s, InA ats j s → T j s) : FS c k T ats os ats vss := ⟨I, t, fun _ _ => rfl, fun _ h => h⟩
theorem FS.trans {c : Ch} {k : Nat} {T : Nat → Spot → Prop} {a0 ats ats2 : List (List Spot)} {os os2 : List (Option Addr × Nat)} {vss vss2 : List (List Bool)} (F : FS c k T a0 os ats vss) (G : FS c k T ats os2 ats2 vss2) : FS c k T a0 os2 ats2 vss2 :=
  ⟨G.I, G.t, fun j hj => (G.o j hj).trans (F.o j hj), fun x hx => G.s x (F.s x hx)⟩
theorem rdOwns {w : World} {L : List Asn} {os : List (Option Addr × Nat)} {ats : List (List Spot)} {k : Nat} {o : Option Addr × Nat} {l : List Spot} (h : St w (sta (ownsS os ats) :: L)) (h1 : os[k]? = some o) (h2 : ats[k]? = some l) : rdV o.1 (spsV l) (hp w) := by
  obtain ⟨g1, s1, ha⟩ := sta_nth h (A := own 3 o.1 l.length o.2 (spsV l)) (List.mem_of_getElem? (i := k) (by unfold ownsS; rw [List.getElem?_zipWith, h1, h2]))
  exact rdV.mono s1 (own_rdVh ha)
end Go.V
namespace Go.Proofs.YtaheggomcnbbiaaDoor
open Go.V
section
variable {w : World} {L : List Asn} {g : GramT} {x : GA} {a : Option Addr} {l cc : Nat} {row : List Int}
set_option maxHeartbeats 8000000 in
theorem d_read (hg : gR (hp w) g x) (hb : okG g) (he : EitherP g) (hr : rdS (hp w) row a l) (hl64 : l ≤ 64) (hsm : ∀ p ∈ g.prods, p.right.length ≤ 1048576) :
    Run Tryd.prog n_presageref06_read [.agg ⟨x.cells⟩, .slice a l cc] w fun v w' => ∃ (c : Ch) (os : List (Option Addr × Nat)) (ats : List (List Spot)) (vss : List (List Bool)) (m : Nat) (pds : List Bool) (H2 : Hp), v = .tuple #[.pointer (some ⟨c.kc, 0, none⟩), .int .i64 (m : Int)] ∧
      PnP g pds ∧ c.ps = useP g pds ∧ c.n = l + 1 ∧ m ≤ l ∧ ChI c os ats vss ∧ ChR H2 c ∧ RdP c g.start row ats m ∧ sub (hp w) H2 ∧ St w' [cel c.kat (slS os ats), sta (ownsS os ats), sta (celsA c.kbs vss), has H2] := by
  refine run_presageref06_read _ _ _ _ _ _ _ _ _ _ _ _ _ _ _ _ w _ ?_
  refine gbox hg fun k1 w1 gw hg B => ?_
  obtain ⟨iG, bT, bN, pN, pT, bP⟩ := inG he
  have tl : g.T = x.tl := hg.t.1
  have nl : g.N = x.nl := hg.n.1
  have pl := hg.p.1
  have hsx := hg.s
  have gs : sub (hp w) (hp w1) := gw
  have rlen := hr.1
  refine ⟨_, _, _, _, _, _, _, _, _, _, _, _, _, B.row (sub.refl _), (d_Marks (x := x) hg hb he).mono ?_⟩
  rintro _ w2 ⟨km, pds, rfl, hpd, h2⟩
  have sHH : sub (hp w1) (hp w2) := h2.gone1
  have rkm0 : rowH (hp w2) ⟨km, 0, none⟩ (bv pds) := h2.row
  have B : GB (hp w2) k1 x := ⟨fun s => B.c0 (sub.trans sHH s), fun s => B.c1 (sub.trans sHH s), fun s => B.c2 (sub.trans sHH s), fun s => B.c3 (sub.trans sHH s), fun s => B.c4 (sub.trans sHH s), fun s => B.row (sub.trans sHH s)⟩
  have hg := hg.mono sHH
  have gs : sub (hp w) (hp w2) := sub.trans gs sHH
  have hr := hr.mono gs
  have h := St.all w2
  unfold V.all at h
  clear h2 sHH
  generalize hH : hp w2 = H at *
  have hpdl := hpd.1
  refine ⟨_, _, _, rfl, _, _, _, B.c0 (rdH 0 h.l), _, _, _, B.c1 (rdH 0 h.l), _, B.c3 (rdH 0 h.l), newC_i h fun k16 w3 h => stR_i h rfl (by simp [oneC]) fun w4 h => ?_⟩
  -- the productions that count
  refine ⟨fun n w' => ∃ (i : Nat) (o : Option Addr) (c : Nat) (K : List (ProdT × List Value)), n = i ∧ i ≤ g.prods.length ∧ K.length ≤ i ∧ K.map Prod.fst = (g.prods.take i).filter (keepF g pds) ∧ (∀ y ∈ K, rd H y.1 y.2) ∧ St w' [cel k16 [.slice x.ta x.tl x.tc, .slice x.na x.nl x.nc, .slice none 0 0, .int .i64 x.s, .slice o K.length c], own 3 o K.length c (K.flatMap Prod.snd), has H], fun n _ => g.prods.length - n.toNat, ⟨0, none, 0, [], rfl, Nat.zero_le _, Nat.zero_le _, rfl, by simp, (own_nil 3 h).swap⟩, ?_⟩
  clear h
  rintro _ n3 w5 ⟨i, o, co, K, rfl, hi, hKi, hK, hKr, h⟩
  refine ⟨_, _, _, B.c4 (rdH 2 h.l), br_intro (fun hlt => ?_) fun hlt => ?_⟩
  · have hlt : i < g.prods.length := by have := of_decide_eq_true hlt; omega
    obtain ⟨p, ad, pvs, hp1, hpa, hp2, hp3'⟩ := hg.p.get (i := i) (by omega)
    obtain ⟨ra, rl, rc, rfl, hrc, hp3⟩ := id hp3'
    have hpm := List.mem_of_getElem? hp1
    obtain ⟨hpl, hpr⟩ := iG p hpm
    have rl1 := hp3.1
    have hrl := hsm p hpm
    have et : g.prods.take (i + 1) = g.prods.take i ++ [p] := by rw [List.take_add_one, hp1]; rfl
    have nx : ∀ {w' : World} {o' : Option Addr} {c' : Nat} {K' : List (ProdT × List Value)}, K'.length ≤ i + 1 → K'.map Prod.fst = (g.prods.take (i + 1)).filter (keepF g pds) → (∀ y ∈ K', rd H y.1 y.2) → St w' [cel k16 [.slice x.ta x.tl x.tc, .slice x.na x.nl x.nc, .slice none 0 0, .int .i64 x.s, .slice o' K'.length c'], own 3 o' K'.length c' (K'.flatMap Prod.snd), has H] →
        inI ((i : Int) + 1) ∧ (∃ (i' : Nat) (o : Option Addr) (c : Nat) (K : List (ProdT × List Value)), (i : Int) + 1 = i' ∧ i' ≤ g.prods.length ∧ K.length ≤ i' ∧ K.map Prod.fst = (g.prods.take i').filter (keepF g pds) ∧ (∀ y ∈ K, rd H y.1 y.2) ∧ St w' [cel k16 [.slice x.ta x.tl x.tc, .slice x.na x.nl x.nc, .slice none 0 0, .int .i64 x.s, .slice o K.length c], own 3 o K.length c (K.flatMap Prod.snd), has H]) ∧ g.prods.length - ((i : Int) + 1).toNat < g.prods.length - (i : Int).toNat :=
      fun {w' o' c' K'} e1 e2 e3 e4 => ⟨⟨by omega, by omega⟩, ⟨i + 1, o', c', K', by simp, by omega, e1, e2, e3, e4⟩, msr hlt⟩
    intro w6 hd
    have h := h.drawn hd
    have rn : rdS (hp w6) pds (some ⟨km, 0, none⟩) g.N := rdB_of hpdl (.inr ⟨_, rfl, rkm0.mono (rdH 2 h.l)⟩)
    refine ⟨fun w => sub H (hp w), rdH 2 h.l, _, _, _, _, _, _, _, _, _, _, _, _, _, fun w s => B.row s, _, _, _, fun w s => B.c4 s, idx_n hpa (by omega) ⟨_, _, _, fun w s => hp2.cell s (j := 1) rfl, (d_Fits (x := x) (hg.mono (rdH 2 h.l)) rn hpdl (hp3.mono (rdH 2 h.l)) (fun s hs => ⟨(hpr s hs).1, (hpr s hs).2⟩) (by omega) bT bN).mono ?_⟩⟩
    rintro _ w10 ⟨⟨r, rfl, hrf⟩, g10⟩
    have h := h.gr g10
    rw [← keepF_fit] at hrf
    refine ⟨_, rfl, br_intro (fun hbr => ?_) fun hbr => ?_⟩
    rotate_left
    · have hk : keepF g pds p = false := by
        cases e : keepF g pds p
        · rfl
        · rw [hrf.2 e] at hbr; cases hbr
      refine nx (by omega) ?_ hKr h
      rw [et, List.filter_append, List.filter_cons_of_neg (by simp [hk]), hK]; simp
    have hk : keepF g pds p = true := hrf.1 hbr
    intro w11 hd11
    have h := h.drawn hd11
    refine ⟨fun w => rowH (hp w) ⟨k16, 0, none⟩ [.slice x.ta x.tl x.tc, .slice x.na x.nl x.nc, .slice none 0 0, .int .i64 x.s, .slice o K.length co] ∧ sub H (hp w), ⟨rdCel 0 h.l, rdH 2 h.l⟩, _, _, _, fun w q => q.1.cell (sub.refl _) (j := 4) rfl, _, _, _, fun w q => B.c4 q.2, idx_n hpa (by omega) ⟨_, _, _, _, _, fun w q => hp2.at q.2 rfl, newC_i h fun k37 w15 h => ⟨⟨rdCel 1 h.l, rdH 3 h.l⟩, ?_⟩⟩⟩
    refine (app_one tyOk (rfl : kdOfT Ty _ = .slice _) (rfl : kdOfT Ty _ = .slice _) rfl rfl rfl (h.pick 4 [0, 2, 1, 3]) rfl (by simp [oneC]) (by show (K.length + 1) * 40 ≤ _; omega) (by omega)).mono ?_
    rintro _ w16 ⟨o', c', rfl, h⟩
    refine ⟨_, _, _, rfl, ⟨rdCel 2 h.l, rdH 3 h.l⟩, ?_⟩
    rw [add_lit0]
    refine st1_i (h.pick 4 [2, 0, 3]) (by simp) fun w17 h => ?_
    refine nx (K' := K ++ [(p, [.int .i64 p.left, .slice ra rl rc, .int .i64 p.level])]) (o' := o') (c' := c') (by simp; omega) ?_ (fun y hy => ?_) ?_
    · rw [et, List.filter_append, List.filter_cons_of_pos hk, List.map_append, hK]; simp
    · rcases List.mem_append.1 hy with hy | hy
      · exact hKr y hy
      · rw [List.mem_singleton.1 hy]; exact hp3'
    · have e1 : (K ++ [(p, [Value.int .i64 p.left, .slice ra rl rc, .int .i64 p.level])]).length = K.length + 1 := by simp
      have e2 : (K ++ [(p, [Value.int .i64 p.left, .slice ra rl rc, .int .i64 p.level])]).flatMap Prod.snd = K.flatMap Prod.snd ++ [Value.int .i64 p.left, .slice ra rl rc, .int .i64 p.level] := by simp
      rw [e1, e2]; exact h
  have hlt : i = g.prods.length := by have := of_decide_eq_false hlt; omega
  subst hlt
  rw [List.take_length] at hK
  obtain ⟨ps, hps⟩ : ∃ ps, ps = useP g pds := ⟨_, rfl⟩
  have hKu : K.map Prod.fst = ps := by rw [hK, hps]; rfl
  have hKl : K.length = ps.length := by rw [← hKu]; simp
  have r16 : rowH (hp w5) ⟨k16, 0, none⟩ [.slice x.ta x.tl x.tc, .slice x.na x.nl x.nc, .slice none 0 0, .int .i64 x.s, .slice o K.length co] := rdCel 0 h.l
  have rP : rdS (hp w5) (K.map Prod.fst) o K.length := rdK_of (rdH 2 h.l) hKr (rdOwn 1 h.l)
  rw [hKl] at r16
  rw [hKu, hKl] at rP
  have s01 : sub H (hp w5) := rdH 2 h.l
  refine ⟨_, _, _, _, _, _, _, _, _, _, _, _, _, r16.at (sub.refl _) rfl, ?_⟩
  have hsmu : ∀ p ∈ ps, p.right.length ≤ 1048576 := fun p hp => hsm p (by rw [hps] at hp; exact (List.mem_filter.1 hp).1)
  have hpsl : ps.length ≤ 97 := by omega
  clear h
  have h := St.all w5
  unfold V.all at h
  generalize hH1 : hp w5 = H1 at *
  refine newC_i h fun k48 w18 h => ?_
  have h : St w18 [cel k48 (C9 x o ps.length co (.slice none 0 0) (.slice none 0 0) (.slice none 0 0) (bse ps 0)), has H1] := h
  -- where the spots begin
  refine ⟨fun n w' => ∃ (j : Nat) (ob : Option Addr) (cb : Nat), n = j ∧ j ≤ ps.length ∧ St w' [cel k48 (C9 x o ps.length co (.slice none 0 0) (.slice none 0 0) (.slice ob j cb) (bse ps j)), own 1 ob j cb (iv (bases ps j)), has H1], fun n _ => ps.length - n.toNat, ⟨0, none, 0, rfl, Nat.zero_le _, (own_nil 1 h).swap⟩, ?_⟩
  clear h
  rintro _ n8 w19 ⟨j, ob, cb, rfl, hj, h⟩
  have hbl := bse_le hsmu j
  have hbl2 : j * (1048576 + 1) ≤ 97 * (1048576 + 1) := Nat.mul_le_mul_right _ (by omega)
  refine ⟨_, _, _, r16.cell (rdH 2 h.l) (j := 4) rfl, br_intro (fun hlt => ?_) fun hlt => ?_⟩
  · have hlt : j < ps.length := by have := of_decide_eq_true hlt; omega
    obtain ⟨p, ad, pvs, hp1, hpa, hp2, ra, rl, rc, rfl, hrc, hp3⟩ := rP.get hlt
    have rl1 := hp3.1
    have hrl := hsmu p (List.mem_of_getElem? hp1)
    intro w20 hd
    have h := h.drawn hd
    refine ⟨fun w => rowH (hp w) ⟨k48, 0, none⟩ (C9 x o ps.length co (.slice none 0 0) (.slice none 0 0) (.slice ob j cb) (bse ps j)) ∧ sub H1 (hp w), ⟨rdCel 0 h.l, rdH 2 h.l⟩, _, _, _, fun w q => q.1.cell (sub.refl _) (j := 7) rfl, _, fun w q => q.1.cell (sub.refl _) (j := 8) rfl, newC_i h fun k53 w23 h => ⟨⟨rdCel 1 h.l, rdH 3 h.l⟩, ?_⟩⟩
    refine (app_one tyOk (rfl : kdOfT Ty _ = .slice _) (rfl : kdOfT Ty _ = .slice _) rfl rfl rfl (h.pick 4 [0, 2, 1, 3]) rfl (by simp [oneC]) (by show (j + 1) * 8 ≤ _; omega) (by omega)).mono ?_
    rintro _ w24 ⟨o', c', rfl, h⟩
    refine ⟨_, _, _, rfl, ⟨rdCel 2 h.l, rdH 3 h.l⟩, ?_⟩
    rw [add_lit0]
    refine st1_i (h.pick 4 [2, 0, 3]) (by simp [C9]) fun w25 h => fun w26 hd => ?_
    have h : St w26 [cel k48 (C9 x o ps.length co (.slice none 0 0) (.slice none 0 0) (.slice o' (j + 1) c') (bse ps j)), own 1 o' (j + 1) c' (iv (bases ps j) ++ [.int .i64 (bse ps j)]), has H1] := h.drawn hd
    refine ⟨fun w => rowH (hp w) ⟨k48, 0, none⟩ (C9 x o ps.length co (.slice none 0 0) (.slice none 0 0) (.slice o' (j + 1) c') (bse ps j)) ∧ sub H1 (hp w), ⟨rdCel 0 h.l, rdH 2 h.l⟩, _, fun w q => q.1.cell (sub.refl _) (j := 8) rfl, _, _, _, fun w q => r16.cell q.2 (j := 4) rfl, idx_n hpa hlt ⟨_, _, _, fun w q => hp2.cell q.2 (j := 1) rfl, ⟨by omega, by omega⟩, ⟨by omega, by omega⟩, ?_⟩⟩
    rw [add_lit0]
    have e1 : (bse ps j : Int) + (rl : Int) + 1 = ((bse ps (j + 1) : Nat) : Int) := by rw [bse_succ hp1]; omega
    rw [e1]
    refine st1_i h (by simp [C9]) fun w30 h => ?_
    refine ⟨⟨by omega, by omega⟩, ⟨j + 1, o', c', by simp, by omega, ?_⟩, msr hlt⟩
    have e2 : iv (bases ps j) ++ [Value.int .i64 (bse ps j : Int)] = iv (bases ps (j + 1)) := by rw [bases_succ]; simp [iv]
    rw [e2] at h; exact h
  have hlt : j = ps.length := by have := of_decide_eq_false hlt; omega
  subst hlt
  have en : (l : Int) + 1 = ((l + 1 : Nat) : Int) := by simp
  rw [en]
  obtain ⟨n, hn⟩ : ∃ n, n = l + 1 := ⟨_, rfl⟩
  rw [← hn]
  refine ⟨⟨by omega, by omega⟩, ⟨by omega, rfl, by omega⟩, ?_⟩
  rw [Int.toNat_natCast, reps_one, slS_nil]
  refine newC_i h fun k60 w31 h => ?_
  rw [add_lit0]
  refine st1_i (h.pick 4 [1, 0, 2, 3]) (by simp [C9]) fun w32 h => ?_
  obtain ⟨M, hM⟩ : ∃ M, M = bse ps ps.length * n := ⟨_, rfl⟩
  have hMb : M ≤ 1099511627776 := by
    rw [hM]
    refine Nat.le_trans (Nat.mul_le_mul (Nat.le_trans hbl hbl2) (show n ≤ 65 by omega)) (by omega)
  have h : St w32 [cel k48 (C9 x o ps.length co (.slice none 0 0) (.slice (some ⟨k60, 0, none⟩) n n) (.slice ob ps.length cb) (bse ps ps.length)), cel k60 (slS (List.replicate n (none, 0)) (List.replicate n [])), own 1 ob ps.length cb (iv (bases ps ps.length)), has H1] := h
  refine ⟨fun z w' => ∃ (i : Nat) (oh : Option Addr) (ch : Nat) (kbs : List Nat), z = i ∧ i ≤ n ∧ kbs.length = i ∧ St w' [cel k48 (C9 x o ps.length co (.slice oh i ch) (.slice (some ⟨k60, 0, none⟩) n n) (.slice ob ps.length cb) (bse ps ps.length)), own 1 oh i ch (kbs.map (slT M)), sta (celsA kbs (List.replicate i (List.replicate M false))), cel k60 (slS (List.replicate n (none, 0)) (List.replicate n [])), own 1 ob ps.length cb (iv (bases ps ps.length)), has H1], fun z _ => n - z.toNat, ⟨0, none, 0, [], rfl, Nat.zero_le _, rfl, ?_⟩, ?_⟩
  · have h1 : St w32 (sta (celsA [] (List.replicate 0 (List.replicate M false))) :: _) := St.flat.2 (show St w32 ([] ++ _) from own_nil 1 h)
    exact h1.pick 6 [2, 1, 0, 3, 4, 5]
  clear h
  rintro _ n11 w33 ⟨i, oh, ch, kbs, rfl, hi, hkb, h⟩
  refine br_intro (fun hlt => ?_) fun hlt => ?_
  · have hlt : i < n := by have := of_decide_eq_true hlt; omega
    intro w34 hd
    have h := h.drawn hd
    refine ⟨fun w => rowH (hp w) ⟨k48, 0, none⟩ (C9 x o ps.length co (.slice oh i ch) (.slice (some ⟨k60, 0, none⟩) n n) (.slice ob ps.length cb) (bse ps ps.length)), rdCel 0 h.l, _, _, _, fun w q => q.cell (sub.refl _) (j := 5) rfl, _, fun w q => q.cell (sub.refl _) (j := 8) rfl, ⟨by omega, by omega⟩, ?_⟩
    have eM : ((bse ps ps.length : Nat) : Int) * (n : Int) = (M : Int) := by rw [hM]; simp
    rw [eM]
    refine ⟨⟨by omega, by omega⟩, ⟨by omega, rfl, by omega⟩, ?_⟩
    rw [Int.toNat_natCast, reps_one, rep_bv]
    refine newC_i h fun k63 w37 h => ⟨rdCel 1 h.l, newC_i h fun k64 w38 h => ⟨rdCel 2 h.l, ?_⟩⟩
    refine (app_one tyOk (rfl : kdOfT Ty _ = .slice _) (rfl : kdOfT Ty _ = .slice _) rfl rfl rfl (h.pick 8 [0, 3, 2, 1, 4, 5, 6, 7]) rfl (by simp [oneC]) (by show (i + 1) * 24 ≤ _; omega) (by omega)).mono ?_
    rintro _ w39 ⟨o', c', rfl, h⟩
    refine ⟨_, _, _, rfl, rdCel 2 h.l, ?_⟩
    rw [add_lit0]
    refine st1_i (h.pick 8 [2, 0, 3, 4, 5, 6, 7]) (by simp [C9]) fun w40 h => ?_
    have h := St.snoc (A := cel k63 (bv (List.replicate M false))) (M := celsA kbs (List.replicate i (List.replicate M false))) (h.pick 7 [2, 3, 0, 1, 4, 5, 6])
    refine ⟨⟨by omega, by omega⟩, ⟨i + 1, o', c', kbs ++ [k63], by simp, by omega, by simp [hkb], ?_⟩, msr hlt⟩
    have e1 : celsA kbs (List.replicate i (List.replicate M false)) ++ [cel k63 (bv (List.replicate M false))] = celsA (kbs ++ [k63]) (List.replicate (i + 1) (List.replicate M false)) := by
      unfold celsA; rw [List.replicate_succ', List.zipWith_append (by simp [hkb])]; rfl
    have e2 : kbs.map (slT M) ++ [slT M k63] = (kbs ++ [k63]).map (slT M) := by simp
    rw [e1] at h
    rw [← e2]
    exact h.pick 6 [1, 2, 0, 3, 4, 5]
  have hlt : i = n := by have := of_decide_eq_false hlt; omega
  subst hlt
  obtain ⟨H2, hl2, h⟩ := St.freezeL [_, _] (M := [_, _, _, _]) (h.pick 6 [3, 2, 0, 1, 4, 5])
  have h := ownsS_nil h i
  have s12 : sub H1 H2 := rdH 3 hl2
  obtain ⟨had, rfl, hhs⟩ : ∃ had, oh = some had ∧ rowH H2 had (kbs.map (slT M)) := by
    rcases rdOwn 1 hl2 with e | ⟨ad, e, hc⟩
    · have := congrArg List.length e
      rw [List.length_map, List.length_nil] at this; omega
    · exact ⟨ad, e, hc⟩
  obtain ⟨c, c1, c2, c3, c4, c5, c6, c7, c8⟩ : ∃ c : Ch, c.kc = k48 ∧ c.ps = ps ∧ c.n = i ∧ c.kat = k60 ∧ c.kbs = kbs ∧ c.M = M ∧ ChR H2 c ∧ c.x.pa = o :=
    ⟨Ch.mk k48 ⟨x.ta, x.tl, x.tc, x.na, x.nl, x.nc, none, 0, 0, x.s, o, ps.length, co⟩ ps had ch k60 i ob cb kbs, rfl, rfl, rfl, rfl, rfl, hM.symm, ⟨rdCel 0 hl2, rP.mono s12, rdI_of (bases_len _ _) (rdOwn 2 hl2), by
      have e : (Ch.mk k48 ⟨x.ta, x.tl, x.tc, x.na, x.nl, x.nc, none, 0, 0, x.s, o, ps.length, co⟩ ps had ch k60 i ob cb kbs).M = M := hM.symm
      rw [e]; exact hhs⟩, rfl⟩
  subst c1 c2 c3 c4 c5 c6
  have hnl : 0 < c.n := by omega
  obtain ⟨T, hTd⟩ : ∃ T, T = TrT c.ps g.start row := ⟨_, rfl⟩
  have hRu : ∀ k, RuT c k T := fun k => hTd ▸ TrT.rule k
  obtain ⟨a0, ha0⟩ : ∃ a0 : List (List Spot), a0 = List.replicate c.n [] := ⟨_, rfl⟩
  have I0 := ChI.init (c := c) hkb hMb
  have F0 : FS c 0 T a0 (List.replicate c.n (none, 0)) (List.replicate c.n []) (List.replicate c.n (List.replicate c.M false)) :=
    ⟨I0, fun j s hs => by
      obtain ⟨l', e, hm⟩ := hs
      obtain ⟨_, rfl⟩ := rep_some e
      simp at hm, fun j _ => by rw [ha0], fun y hy => ha0 ▸ hy⟩
  -- the start's productions
  refine ⟨fun z w' => ∃ (j : Nat) (os : List (Option Addr × Nat)) (ats : List (List Spot)) (vss : List (List Bool)), z = j ∧ j ≤ c.ps.length ∧ FS c 0 T a0 os ats vss ∧ (∀ (j' : Nat) p, j' < j → c.ps[j']? = some p → p.left = g.start → InA ats 0 ⟨j', 0, 0⟩) ∧ St w' [cel c.kat (slS os ats), sta (ownsS os ats), sta (celsA c.kbs vss), has H2], fun z _ => c.ps.length - z.toNat, ⟨0, _, _, _, rfl, Nat.zero_le _, F0, fun _ _ h => absurd h (Nat.not_lt_zero _), h.pick 4 [1, 0, 2, 3]⟩, ?_⟩
  clear h F0 I0
  rintro _ n13 w41 ⟨j, os, ats, vss, rfl, hj, F, hj0, h⟩
  refine ⟨_, _, _, r16.cell (sub.trans s12 (rdH 3 h.l)) (j := 4) rfl, br_intro (fun hlt => ?_) fun hlt => ?_⟩
  · have hlt : j < c.ps.length := by have := of_decide_eq_true hlt; omega
    obtain ⟨p, ad, pvs, hp1, hpa, hp2, ra, rl, rc, rfl, hrc, hp3⟩ := rP.get hlt
    have nx : ∀ {w' : World} {os' : List (Option Addr × Nat)} {ats' : List (List Spot)} {vss' : List (List Bool)}, FS c 0 T a0 os' ats' vss' → (∀ y, InA ats 0 y → InA ats' 0 y) → (p.left = g.start → InA ats' 0 ⟨j, 0, 0⟩) → St w' [cel c.kat (slS os' ats'), sta (ownsS os' ats'), sta (celsA c.kbs vss'), has H2] →
        inI ((j : Int) + 1) ∧ (∃ (j' : Nat) (os : List (Option Addr × Nat)) (ats : List (List Spot)) (vss : List (List Bool)), (j : Int) + 1 = j' ∧ j' ≤ c.ps.length ∧ FS c 0 T a0 os ats vss ∧ (∀ (j'' : Nat) p, j'' < j' → c.ps[j'']? = some p → p.left = g.start → InA ats 0 ⟨j'', 0, 0⟩) ∧ St w' [cel c.kat (slS os ats), sta (ownsS os ats), sta (celsA c.kbs vss), has H2]) ∧ c.ps.length - ((j : Int) + 1).toNat < c.ps.length - (j : Int).toNat := fun {w' os' ats' vss'} F' hs hp' h' => by
      refine ⟨⟨by omega, by omega⟩, ⟨j + 1, os', ats', vss', by simp, by omega, F', fun j'' q hj'' hq hl => ?_, h'⟩, msr hlt⟩
      by_cases e : j'' = j
      · subst e; rw [hp1] at hq; cases hq; exact hp' hl
      · exact hs _ (hj0 j'' q (by omega) hq hl)
    intro w42 hd
    have h := h.drawn hd
    refine ⟨fun w => sub H2 (hp w), rdH 3 h.l, _, _, _, fun w s => r16.cell (sub.trans s12 s) (j := 4) rfl, idx_n hpa hlt ⟨_, fun w s => hp2.cell0 (sub.trans s12 s), _, fun w s => B.c3 (sub.trans s01 (sub.trans s12 s)), br_intro (fun he => ?_) fun he => ?_⟩⟩
    rotate_left
    · refine nx F (fun _ h => h) (fun e => ?_) h
      rw [e, ← hsx] at he; simp at he
    have he : p.left = g.start := by rw [← hsx]; simpa using he
    refine (d_add2 (L := [has H2]) (s := ⟨j, 0, 0⟩) (k := 0) (ats0 := ats) h (fun h hh => rdH 0 hh) c7 (FS.self F.I F.t) hnl ⟨⟨p, hp1, Nat.zero_le _⟩, hnl⟩ (by rw [hTd]; exact ⟨p, hp1, .init p (List.mem_of_getElem? hp1) he⟩)).mono ?_
    rintro _ w46 ⟨b2, os2, ats2, vss2, rfl, F2, h2, hin, hbf, hms⟩
    exact ⟨_, rfl, nx (F.trans F2) F2.s (fun _ => hin) h2⟩
  have hlt : j = c.ps.length := by have := of_decide_eq_false hlt; omega
  have hIn : InC c g.start ats := fun j' p hp hl => hj0 j' p (by rw [hlt]; exact (List.getElem?_eq_some_iff.1 hp).1) hp hl
  have hrlB : ∀ p ∈ c.ps, p.right.length ≤ 1099511627776 := fun p hp => by have := hsmu p hp; omega
  refine (d_fill (L := [has H2]) (k := 0) h (fun h hh => rdH 0 hh) c7 F.I F.t (hRu 0) hnl (by omega) hrlB).mono ?_
  rintro _ w47 ⟨rfl, os1, ats1, vss1, F1, C1, h1⟩
  refine ⟨rfl, ?_⟩
  have hT : ∀ {ats : List (List Spot)}, (∀ (j : Nat) s, InA ats j s → T j s) → ∀ (j : Nat) s, InA ats j s → TrT c.ps g.start row j s := fun h => hTd ▸ h
  -- place by place
  refine ⟨fun z w' => ∃ (i : Nat) (os : List (Option Addr × Nat)) (ats : List (List Spot)) (vss : List (List Bool)), z = i ∧ i ≤ l ∧ ChI c os ats vss ∧ (∀ (j : Nat) s, InA ats j s → T j s) ∧ Upto c g.start row i ats ∧ (∀ j, i < j → j < c.n → ats[j]? = some []) ∧ St w' [cel c.kat (slS os ats), sta (ownsS os ats), sta (celsA c.kbs vss), has H2], fun z _ => l - z.toNat, ⟨0, os1, ats1, vss1, rfl, Nat.zero_le _, F1.I, F1.t, ⟨fun j' p hp hl => F1.s _ (hIn j' p hp hl), fun j' hj' => ?_, fun j' hj' => absurd hj' (Nat.not_lt_zero _)⟩, fun j' hj' hjn => ?_, h1⟩, ?_⟩
  · rw [show j' = 0 from by omega]; exact C1
  · rw [F1.o j' (by omega), F.o j' (by omega), ha0, List.getElem?_replicate, if_pos hjn]
  clear h h1 C1 F1 F hj0 hIn
  rintro _ n16 w48 ⟨i, os, ats, vss, rfl, hi, I, ht, U, hem, h⟩
  refine br_intro (fun hlt => ?_) fun hlt => ?_
  rotate_left
  · have hlt : i = l := by have := of_decide_eq_false hlt; omega
    subst hlt
    have hP := rdP_end U.h0 (fun j hj => U.hc j (by omega)) (fun j hj => U.hs j (by omega)) (hT ht)
    rw [rlen] at hP
    exact ⟨c, os, ats, vss, i, pds, H2, rfl, hpd, hps, rfl, Nat.le_refl _, I, c7, hP, sub.trans gs (sub.trans s01 s12), h⟩
  have hlt : i < l := by have := of_decide_eq_true hlt; omega
  obtain ⟨y, yad, hy1, hya, hy2⟩ := hr.get1 hlt
  have hin : i < c.n := by omega
  have hin1 : i + 1 < c.n := by omega
  obtain ⟨li, hli⟩ : ∃ li, ats[i]? = some li := ⟨ats[i]'(by rw [I.la]; exact hin), List.getElem?_eq_getElem _⟩
  refine ⟨fun z w' => ∃ (m : Nat) (os' : List (Option Addr × Nat)) (ats' : List (List Spot)) (vss' : List (List Bool)), z = m ∧ m ≤ li.length ∧ FS c (i + 1) T ats os' ats' vss' ∧ (∀ s ∈ li.take m, ∀ p, c.ps[s.prod]? = some p → p.right[s.dot]? = some y → InA ats' (i + 1) ⟨s.prod, s.dot + 1, s.frm⟩) ∧ St w' [cel c.kat (slS os' ats'), sta (ownsS os' ats'), sta (celsA c.kbs vss'), has H2], fun z _ => li.length - z.toNat, ⟨0, os, ats, vss, rfl, Nat.zero_le _, FS.self I ht, fun s hs => by simp at hs, h⟩, ?_⟩
  clear h
  rintro _ n17 w49 ⟨m, os', ats', vss', rfl, hm, F, hsc, h⟩
  have rC : ∀ {w : World}, sub H2 (hp w) → rowH (hp w) ⟨c.kc, 0, none⟩ c.cells := fun s => c7.row.mono s
  have hli' : ats'[i]? = some li := by rw [F.o i (by omega)]; exact hli
  obtain ⟨o1, ho1⟩ : ∃ o, os'[i]? = some o := ⟨os'[i]'(by rw [F.I.lo]; exact hin), List.getElem?_eq_getElem _⟩
  have gA : (slS os' ats')[i]? = some (.slice o1.1 li.length o1.2) := by unfold slS; rw [List.getElem?_zipWith, ho1, hli']
  have rA := rdCel 0 h.l
  refine ⟨_, _, _, (rC (rdH 3 h.l)).cell (sub.refl _) (j := 6) rfl, idx_i rfl hin ⟨_, _, _, rA.cell (sub.refl _) (j := i) gA, br_intro (fun hlm => ?_) fun hlm => ?_⟩⟩
  rotate_left
  · -- behind the last of a place
    have hlm : m = li.length := by have := of_decide_eq_false hlm; omega
    subst hlm
    rw [List.take_length] at hsc
    have U' := U.mono (ats' := ats') (hT ht) fun j hj => F.o j (by omega)
    have hS : ScC c row i ats' := fun s p hs hp a' ha hra => by
      obtain ⟨l', e, hm⟩ := hs
      rw [hli'] at e; cases e
      rw [hy1] at hra; cases hra
      exact hsc s hm p hp ha
    obtain ⟨l1, hl1⟩ : ∃ l1, ats'[i + 1]? = some l1 := ⟨ats'[i + 1]'(by rw [F.I.la]; exact hin1), List.getElem?_eq_getElem _⟩
    obtain ⟨o2, ho2⟩ : ∃ o, os'[i + 1]? = some o := ⟨os'[i + 1]'(by rw [F.I.lo]; exact hin1), List.getElem?_eq_getElem _⟩
    have gA1 : (slS os' ats')[i + 1]? = some (.slice o2.1 l1.length o2.2) := by unfold slS; rw [List.getElem?_zipWith, ho2, hl1]
    have ei : (i : Int) + 1 = ((i + 1 : Nat) : Int) := by simp
    rw [ei]
    refine ⟨_, _, _, (rC (rdH 3 h.l)).cell (sub.refl _) (j := 6) rfl, ⟨by omega, by omega⟩, idx_i rfl hin1 ⟨_, _, _, rA.cell (sub.refl _) (j := i + 1) gA1, br_intro (fun he => ?_) fun he => ?_⟩⟩
    · have he : l1 = [] := List.eq_nil_of_length_eq_zero (by have : (l1.length : Int) = 0 := by simpa using he
                                                             omega)
      subst he
      have hP := rdP_stop U'.h0 (fun j hj => U'.hc j hj) (fun j hj => by
        by_cases e : j = i
        · rw [e]; exact hS
        · exact U'.hs j (by omega)) (by rw [rlen]; exact hlt) (fun s hs => by
        obtain ⟨l', e, hm⟩ := hs
        rw [hl1] at e; cases e; simp at hm)
      exact ⟨c, os', ats', vss', i, pds, H2, rfl, hpd, hps, rfl, by omega, F.I, c7, hP, sub.trans gs (sub.trans s01 s12), h⟩
    · refine ⟨⟨by omega, by omega⟩, (d_fill (L := [has H2]) (k := i + 1) h (fun h hh => rdH 0 hh) c7 F.I F.t (hRu _) hin1 (by omega) hrlB).mono ?_⟩
      rintro _ w58 ⟨rfl, os3, ats3, vss3, F3, C3, h⟩
      have U3 := U'.mono (ats' := ats3) (hT F.t) fun j hj => F3.o j (by omega)
      refine ⟨rfl, ⟨by omega, by omega⟩, ⟨i + 1, os3, ats3, vss3, rfl, by omega, F3.I, F3.t, U3.next (fun s p hs hp a' ha hra => ?_) C3, fun j hj hjn => ?_, h⟩, by show l - ((i + 1 : Nat) : Int).toNat < l - (i : Int).toNat; omega⟩
      · have hs' : InA ats' i s := by unfold InA at hs ⊢; rw [← F3.o i (by omega)]; exact hs
        exact F3.s _ (hS s p hs' hp a' ha hra)
      · rw [F3.o j (by omega), F.o j (by omega)]; exact hem j (by omega) hjn
  have hlm : m < li.length := by have := of_decide_eq_true hlm; omega
  obtain ⟨s, hs⟩ : ∃ s, li[m]? = some s := ⟨li[m], List.getElem?_eq_getElem hlm⟩
  have hsm' := List.mem_of_getElem? hs
  have hRs := F.I.rg i li hli' s hsm'
  obtain ⟨⟨p, hq0, hdt⟩, hfr⟩ := id hRs
  have hpl := (List.getElem?_eq_some_iff.1 hq0).1
  obtain ⟨p', ad, pvs, hp1, hpa, hp2, ra, rl, rc, rfl, hrc, hp3⟩ := rP.get hpl
  rw [hq0] at hp1; cases hp1
  have rl1 := hp3.1
  have hrlp := hrlB p (List.mem_of_getElem? hq0)
  obtain ⟨sad, hsa, hsr⟩ := spot_row (rdOwns (h.pick 2 [1]) ho1 hli') hs
  have nx : ∀ {w' : World} {os2 : List (Option Addr × Nat)} {ats2 : List (List Spot)} {vss2 : List (List Bool)}, FS c (i + 1) T ats os2 ats2 vss2 → (∀ y, InA ats' (i + 1) y → InA ats2 (i + 1) y) → (p.right[s.dot]? = some y → InA ats2 (i + 1) ⟨s.prod, s.dot + 1, s.frm⟩) → St w' [cel c.kat (slS os2 ats2), sta (ownsS os2 ats2), sta (celsA c.kbs vss2), has H2] →
      inI ((m : Int) + 1) ∧ (∃ (m' : Nat) (os' : List (Option Addr × Nat)) (ats' : List (List Spot)) (vss' : List (List Bool)), (m : Int) + 1 = m' ∧ m' ≤ li.length ∧ FS c (i + 1) T ats os' ats' vss' ∧ (∀ s ∈ li.take m', ∀ p, c.ps[s.prod]? = some p → p.right[s.dot]? = some y → InA ats' (i + 1) ⟨s.prod, s.dot + 1, s.frm⟩) ∧ St w' [cel c.kat (slS os' ats'), sta (ownsS os' ats'), sta (celsA c.kbs vss'), has H2]) ∧ li.length - ((m : Int) + 1).toNat < li.length - (m : Int).toNat := fun {w' os2 ats2 vss2} F' hsu hp' h' => by
    have hlM : li.length ≤ c.M := by
      obtain ⟨v, hv⟩ : ∃ v, vss'[i]? = some v := ⟨vss'[i]'(by rw [F.I.lv]; exact hin), List.getElem?_eq_getElem _⟩
      obtain ⟨e1, e2⟩ := F.I.len i li v hli' hv
      rw [e2, ← e1]; exact cntB_le v
    refine ⟨⟨by omega, by omega⟩, ⟨m + 1, os2, ats2, vss2, by simp, by omega, F', fun t ht q hq hr => ?_, h'⟩, msr hlm⟩
    rw [List.take_add_one, hs] at ht
    rcases List.mem_append.1 ht with ht | ht
    · exact hsu _ (hsc t ht q hq hr)
    · simp at ht; subst ht
      rw [hq0] at hq; cases hq; exact hp' hr
  refine ⟨_, _, _, (rC (rdH 3 h.l)).cell (sub.refl _) (j := 6) rfl, idx_i rfl hin ⟨_, _, _, rA.cell (sub.refl _) (j := i) gA, idx_n hsa hlm ⟨_, _, _, hsr.at (sub.refl _) rfl, newC_i h fun k79 w50 h => stR_i h rfl (by simp [oneC]) fun w51 h => ?_⟩⟩⟩
  have h : St w51 [cel k79 (spV s), cel c.kat (slS os' ats'), sta (ownsS os' ats'), sta (celsA c.kbs vss'), has H2] := h
  have s4 : sub H1 (hp w51) := sub.trans s12 (rdH 4 h.l)
  refine ⟨_, _, _, r16.cell s4 (j := 4) rfl, _, (rdCel 0 h.l).cell0 (sub.refl _), idx_n hpa hpl ⟨_, _, _, hp2.cell s4 (j := 1) rfl, fun w52 hd => ?_⟩⟩
  have h := h.drawn hd
  have r79 : rowH (hp w52) ⟨k79, 0, none⟩ (spV s) := rdCel 0 h.l
  refine ⟨fun w => rowH (hp w) ⟨k79, 0, none⟩ (spV s) ∧ sub H2 (hp w), ⟨r79, rdH 4 h.l⟩, _, fun w q => q.1.cell (sub.refl _) (j := 1) rfl, br_intro (fun hdr => ?_) fun hdr => ?_⟩
  rotate_left
  · have hdr : ¬ s.dot < rl := by have := of_decide_eq_false hdr; omega
    refine nx F (fun _ h => h) (fun e => ?_) (h.pick 5 [1, 2, 3, 4])
    have := (List.getElem?_eq_some_iff.1 e).1; omega
  have hdr : s.dot < rl := by have := of_decide_eq_true hdr; omega
  obtain ⟨z, zad, hz1, hza, hz2⟩ := hp3.get1 hdr
  refine ⟨_, fun w q => q.1.cell (sub.refl _) (j := 1) rfl, idx_i hza hdr ⟨_, fun w q => hz2 _ (sub.trans s12 q.2), idx_i hya hlt ⟨_, fun w q => hy2 _ (sub.trans s01 (sub.trans s12 q.2)), br_intro (fun he => ?_) fun he => ?_⟩⟩⟩
  rotate_left
  · refine nx F (fun _ h => h) (fun e => ?_) (h.pick 5 [1, 2, 3, 4])
    rw [hz1] at e; cases e; simp at he
  have he : z = y := by simpa using he
  subst he
  have ei : (i : Int) + 1 = ((i + 1 : Nat) : Int) := by simp
  rw [ei]
  refine ⟨⟨by omega, by omega⟩, _, r79.cell0 (sub.refl _), _, r79.cell (sub.refl _) (j := 1) rfl, ⟨by omega, by omega⟩, _, r79.cell (sub.refl _) (j := 2) rfl, ?_⟩
  have hsT := hT F.t i s ⟨li, hli', hsm'⟩
  refine (d_add2 (L := [cel k79 (spV s), has H2]) (s := ⟨s.prod, s.dot + 1, s.frm⟩) (k := i + 1) (ats0 := ats') (h.pick 5 [1, 2, 3, 0, 4]) (fun h hh => rdH 1 hh) c7 (FS.self F.I F.t) hin1 ⟨⟨p, hq0, by show s.dot + 1 ≤ _; omega⟩, hfr⟩ (by
    rw [hTd]
    obtain ⟨p', e, hI⟩ := hsT
    rw [hq0] at e; cases e
    exact ⟨p, hq0, .scan i p _ _ z hI hz1 hy1⟩)).mono ?_
  rintro _ w57 ⟨b3, os2, ats2, vss2, rfl, F2, h2, hin2, hbf, hms⟩
  exact ⟨_, rfl, nx (F.trans F2) F2.s (fun _ => hin2) (h2.pick 5 [0, 1, 2, 4])⟩
end
end Go.Proofs.YtaheggomcnbbiaaDoor
set_option linter.unusedVariables false
namespace Go.V
theorem begP_iff {ps : List ProdT} {st : Int} {row : List Int} : BegP ps st row ↔ ∃ s, TrT ps st row row.length s := by
  constructor
  · rintro ⟨p, d, f, h⟩
    obtain ⟨i, hi⟩ := List.getElem?_of_mem h.mem
    exact ⟨⟨i, d, f⟩, p, hi, h⟩
  · rintro ⟨s, p, hp, h⟩; exact ⟨p, _, _, h⟩
theorem senP_iff {ps : List ProdT} {st : Int} {row : List Int} : SenP ps st row ↔ ∃ s p, TrT ps st row row.length s ∧ ps[s.prod]? = some p ∧ s.frm = 0 ∧ s.dot = p.right.length ∧ p.left = st := by
  constructor
  · rintro ⟨p, hl, h⟩
    obtain ⟨i, hi⟩ := List.getElem?_of_mem h.mem
    exact ⟨⟨i, _, 0⟩, p, ⟨p, hi, h⟩, hi, rfl, rfl, hl⟩
  · rintro ⟨s, p, ⟨p', hp', h⟩, hp, hf, hd, hl⟩
    rw [hp] at hp'; cases hp'
    rw [hf, hd] at h
    exact ⟨p, hl, h⟩
end Go.V
namespace Go.Proofs.YtaheggomcnbbiaaDoor
open Go.V
section
variable {w : World} {L : List Asn} {g : GramT} {x : GA} {a : Option Addr} {l cc : Nat} {row : List Int}
set_option maxHeartbeats 2000000 in
theorem d_Begins (hg : gR (hp w) g x) (hb : okG g) (he : EitherP g) (hr : rdS (hp w) row a l) (hl64 : l ≤ 64) (hsm : ∀ p ∈ g.prods, p.right.length ≤ 1048576) :
    Run Tryd.prog n_presageref06_Begins [.agg ⟨x.cells⟩, .slice a l cc] w fun v w' => (∃ (r : Bool) (pds : List Bool), v = .bool r ∧ PnP g pds ∧ (r = true ↔ BegP (useP g pds) g.start row)) ∧ Gr w w' := by
  refine run_presageref06_Begins _ _ _ _ _ _ _ _ _ _ _ _ _ _ _ _ w _ ?_
  refine gbox hg fun k1 w1 gw hg B => ⟨_, _, _, _, _, _, _, _, _, _, _, _, _, B.row (sub.refl _), (d_read (cc := cc) (x := x) hg hb he (hr.mono gw) hl64 hsm).mono ?_⟩
  rintro _ w2 ⟨c, os, ats, vss, m, pds, H2, rfl, hpd, hps, hn, hm, I, hC, hP, s2, h⟩
  have rl := hr.1
  have gg : Gr w w2 := sub.trans gw (sub.trans s2 (rdH 3 h.l))
  rw [RdP, hps, rl] at hP
  refine ⟨_, _, rfl, br_intro (fun he => ?_) fun he => ?_⟩
  · have he : m = l := natEq he
    subst he
    have hP := hP.resolve_right (fun h => absurd h.1 (Nat.lt_irrefl _))
    obtain ⟨lm, hlm⟩ : ∃ lm, ats[m]? = some lm := ⟨ats[m]'(by rw [I.la]; omega), List.getElem?_eq_getElem _⟩
    obtain ⟨o, ho⟩ : ∃ o, os[m]? = some o := ⟨os[m]'(by rw [I.lo]; omega), List.getElem?_eq_getElem _⟩
    have gA : (slS os ats)[m]? = some (.slice o.1 lm.length o.2) := by unfold slS; rw [List.getElem?_zipWith, ho, hlm]
    have rC : rowH (hp w2) ⟨c.kc, 0, none⟩ c.cells := hC.row.mono (rdH 3 h.l)
    refine ⟨_, _, _, rC.cell (sub.refl _) (j := 6) rfl, idx_i rfl (by omega) ⟨_, _, _, (rdCel 0 h.l).cell (sub.refl _) (j := m) gA, ⟨_, pds, rfl, hpd, ?_⟩, gg⟩⟩
    rw [begP_iff, rl, decide_eq_true_eq]
    constructor
    · intro h0
      obtain ⟨s, hs⟩ : ∃ s, lm[0]? = some s := ⟨lm[0]'(by omega), List.getElem?_eq_getElem _⟩
      exact ⟨s, (hP.2 s).1 ⟨lm, hlm, List.mem_of_getElem? hs⟩⟩
    · rintro ⟨s, hs⟩
      obtain ⟨l', e, hm'⟩ := (hP.2 s).2 hs
      rw [hlm] at e; cases e
      have := List.length_pos_of_mem hm'
      omega
  · have he : m ≠ l := natNe' he
    refine ⟨⟨false, pds, rfl, hpd, ?_⟩, gg⟩
    rcases hP with ⟨h1, _⟩ | ⟨_, h2⟩
    · exact absurd h1 he
    · rw [begP_iff, rl]
      exact ⟨fun h => (by cases h), fun ⟨s, hs⟩ => absurd hs (h2 s)⟩
set_option maxHeartbeats 2000000 in
theorem d_Sentence (hg : gR (hp w) g x) (hb : okG g) (he : EitherP g) (hr : rdS (hp w) row a l) (hl64 : l ≤ 64) (hsm : ∀ p ∈ g.prods, p.right.length ≤ 1048576) :
    Run Tryd.prog n_presageref06_Sentence [.agg ⟨x.cells⟩, .slice a l cc] w fun v w' => (∃ (r : Bool) (pds : List Bool), v = .bool r ∧ PnP g pds ∧ (r = true ↔ SenP (useP g pds) g.start row)) ∧ Gr w w' := by
  refine run_presageref06_Sentence _ _ _ _ _ _ _ _ _ _ _ _ _ _ _ _ w _ ?_
  refine gbox hg fun k1 w1 gw hg B => ⟨_, _, _, _, _, _, _, _, _, _, _, _, _, B.row (sub.refl _), (d_read (cc := cc) (x := x) hg hb he (hr.mono gw) hl64 hsm).mono ?_⟩
  rintro _ w2 ⟨c, os, ats, vss, m, pds, H2, rfl, hpd, hps, hn, hm, I, hC, hP, s2, h⟩
  have rl := hr.1
  have gH : sub (hp w) H2 := sub.trans gw s2
  have B : GB H2 k1 x := ⟨fun s => B.c0 (sub.trans s2 s), fun s => B.c1 (sub.trans s2 s), fun s => B.c2 (sub.trans s2 s), fun s => B.c3 (sub.trans s2 s), fun s => B.c4 (sub.trans s2 s), fun s => B.row (sub.trans s2 s)⟩
  have hsx := hg.s
  rw [RdP, hps, rl] at hP
  refine ⟨_, _, rfl, br_intro (fun he => ?_) fun he => ?_⟩
  · have he : m < l := by have := of_decide_eq_true he; omega
    refine ⟨⟨false, pds, rfl, hpd, ?_⟩, sub.trans gH (rdH 3 h.l)⟩
    rcases hP with ⟨h1, _⟩ | ⟨_, h2⟩
    · omega
    · rw [senP_iff, rl]
      exact ⟨fun h => (by cases h), fun ⟨s, p, hs, _⟩ => absurd hs (h2 s)⟩
  have he : m = l := by have := of_decide_eq_false he; omega
  subst he
  have hP := hP.resolve_right (fun h => absurd h.1 (Nat.lt_irrefl _))
  obtain ⟨lm, hlm⟩ : ∃ lm, ats[m]? = some lm := ⟨ats[m]'(by rw [I.la]; omega), List.getElem?_eq_getElem _⟩
  obtain ⟨o, ho⟩ : ∃ o, os[m]? = some o := ⟨os[m]'(by rw [I.lo]; omega), List.getElem?_eq_getElem _⟩
  have gA : (slS os ats)[m]? = some (.slice o.1 lm.length o.2) := by unfold slS; rw [List.getElem?_zipWith, ho, hlm]
  obtain ⟨vm, hvm⟩ : ∃ v, vss[m]? = some v := ⟨vss[m]'(by rw [I.lv]; omega), List.getElem?_eq_getElem _⟩
  have hlM : lm.length ≤ 1099511627776 := by
    obtain ⟨e1, e2⟩ := I.len m lm vm hlm hvm
    have := I.M
    have := cntB_le vm
    omega
  refine ⟨fun n w' => ∃ i : Nat, n = i ∧ i ≤ lm.length ∧ (∀ s ∈ lm.take i, ∀ p, c.ps[s.prod]? = some p → ¬ (s.frm = 0 ∧ s.dot = p.right.length ∧ p.left = g.start)) ∧ St w' [cel c.kat (slS os ats), sta (ownsS os ats), sta (celsA c.kbs vss), has H2], fun n _ => lm.length - n.toNat, ⟨0, rfl, Nat.zero_le _, fun s hs => by simp at hs, h⟩, ?_⟩
  clear h
  rintro _ n w3 ⟨i, rfl, hi, hno, h⟩
  have rC : ∀ {w : World}, sub H2 (hp w) → rowH (hp w) ⟨c.kc, 0, none⟩ c.cells := fun s => hC.row.mono s
  refine ⟨_, _, _, (rC (rdH 3 h.l)).cell (sub.refl _) (j := 6) rfl, idx_i rfl (by omega) ⟨_, _, _, (rdCel 0 h.l).cell (sub.refl _) (j := m) gA, br_intro (fun hlt => ?_) fun hlt => ?_⟩⟩
  rotate_left
  · have hlt : lm.length ≤ i := by have := of_decide_eq_false hlt; omega
    rw [List.take_of_length_le hlt] at hno
    refine ⟨⟨false, pds, rfl, hpd, ?_⟩, sub.trans gH (rdH 3 h.l)⟩
    rw [senP_iff, rl]
    refine ⟨fun h => (by cases h), fun ⟨s, p, hs, hp, h1, h2, h3⟩ => ?_⟩
    obtain ⟨l', e, hm'⟩ := (hP.2 s).2 hs
    rw [hlm] at e; cases e
    exact absurd ⟨h1, h2, h3⟩ (hno s hm' p (by rw [hps]; exact hp))
  have hlt : i < lm.length := by have := of_decide_eq_true hlt; omega
  obtain ⟨s, hs⟩ : ∃ s, lm[i]? = some s := ⟨lm[i], List.getElem?_eq_getElem hlt⟩
  have hsm' := List.mem_of_getElem? hs
  obtain ⟨⟨p, hq0, hdt⟩, hfr⟩ := I.rg m lm hlm s hsm'
  have hpl := (List.getElem?_eq_some_iff.1 hq0).1
  obtain ⟨p', ad, pvs, hp1, hpa, hp2, ra, rl', rc, rfl, hrc, hp3⟩ := hC.p.get hpl
  rw [hq0] at hp1; cases hp1
  have rl1 := hp3.1
  obtain ⟨sad, hsa, hsr⟩ := spot_row (rdOwns (h.pick 2 [1]) ho hlm) hs
  refine ⟨_, _, _, (rC (rdH 3 h.l)).cell (sub.refl _) (j := 6) rfl, idx_i rfl (by omega) ⟨_, _, _, (rdCel 0 h.l).cell (sub.refl _) (j := m) gA, idx_n hsa hlt ⟨_, _, _, hsr.at (sub.refl _) rfl, newC_i h fun k18 w4 h => stR_i h rfl (by simp [oneC]) fun w5 h => fun w6 hd => ?_⟩⟩⟩
  have h : St w6 [cel k18 (spV s), cel c.kat (slS os ats), sta (ownsS os ats), sta (celsA c.kbs vss), has H2] := h.drawn hd
  refine ⟨fun w => rowH (hp w) ⟨k18, 0, none⟩ (spV s) ∧ sub H2 (hp w), ⟨rdCel 0 h.l, rdH 4 h.l⟩, _, _, _, fun w q => (rC q.2).cell (sub.refl _) (j := 4) rfl, _, fun w q => q.1.cell0 (sub.refl _), idx_n hpa hpl ⟨_, _, _, _, _, fun w q => hp2.at q.2 rfl, newC_i h fun k23 w10 h => ⟨⟨rdCel 1 h.l, rdH 5 h.l⟩, stR_i h rfl (by simp [oneC]) fun w11 h => ?_⟩⟩⟩
  have h : St w11 [cel k23 [.int .i64 p.left, .slice ra rl' rc, .int .i64 p.level], cel k18 (spV s), cel c.kat (slS os ats), sta (ownsS os ats), sta (celsA c.kbs vss), has H2] := h
  have r23 := rdCel 0 h.l
  have r18 := rdCel 1 h.l
  have nx : ¬ (s.frm = 0 ∧ s.dot = p.right.length ∧ p.left = g.start) → inI ((i : Int) + 1) ∧ (∃ i' : Nat, (i : Int) + 1 = i' ∧ i' ≤ lm.length ∧ (∀ s ∈ lm.take i', ∀ p, c.ps[s.prod]? = some p → ¬ (s.frm = 0 ∧ s.dot = p.right.length ∧ p.left = g.start)) ∧ St w11 [cel c.kat (slS os ats), sta (ownsS os ats), sta (celsA c.kbs vss), has H2]) ∧ lm.length - ((i : Int) + 1).toNat < lm.length - (i : Int).toNat := fun hn => by
    refine ⟨⟨by omega, by omega⟩, ⟨i + 1, by simp, by omega, fun t ht q hq => ?_, h.pick 6 [2, 3, 4, 5]⟩, msr hlt⟩
    rw [List.take_add_one, hs] at ht
    rcases List.mem_append.1 ht with ht | ht
    · exact hno t ht q hq
    · simp at ht; subst ht
      rw [hq0] at hq; cases hq; exact hn
  refine ⟨_, r18.cell (sub.refl _) (j := 2) rfl, br_intro (fun h1 => ?_) fun h1 => nx (fun hh => by rw [hh.1] at h1; simp at h1)⟩
  have h1 : s.frm = 0 := by have : (s.frm : Int) = 0 := by simpa using h1
                            omega
  refine ⟨_, r18.cell (sub.refl _) (j := 1) rfl, _, _, _, r23.cell (sub.refl _) (j := 1) rfl, br_intro (fun h2 => ?_) fun h2 => nx (fun hh => natNe' h2 (by rw [hh.2.1, rl1]))⟩
  have h2 : s.dot = rl' := natEq h2
  refine ⟨_, r23.cell0 (sub.refl _), _, B.c3 (rdH 5 h.l), br_intro (fun h3 => ?_) fun h3 => nx (fun hh => by rw [hh.2.2, hsx] at h3; simp at h3)⟩
  have h3 : p.left = g.start := by rw [← hsx]; simpa using h3
  refine ⟨⟨true, pds, rfl, hpd, ?_⟩, sub.trans gH (rdH 5 h.l)⟩
  rw [senP_iff, rl]
  exact ⟨fun _ => ⟨s, p, (hP.2 s).1 ⟨lm, hlm, hsm'⟩, by rw [← hps]; exact hq0, h1, by omega, h3⟩, fun _ => rfl⟩
set_option maxHeartbeats 2000000 in
theorem d_Row6 {raw : List Int} (hg : gR (hp w) g x) (hb : okG g) (hT : g.T ≤ 65) (hr : rdS (hp w) raw a l) (hany : ∀ z ∈ raw, anyI z) (hl : l ≤ 4611686018427387904) :
    Run Tryd.prog n_presageref06_Row [.agg ⟨x.cells⟩, .slice a l cc, .int .i64 12] w fun v w' => ∃ (o : Option Addr) (c : Nat) (row : List Int), v = .slice o row.length c ∧ row.length ≤ 12 ∧ (∀ z ∈ row, 1 ≤ z ∧ z < (g.T : Int)) ∧ St w' (own 1 o row.length c (iv row) :: all w) := by
  refine run_presageref06_Row _ _ _ _ _ _ _ _ _ _ _ _ _ _ _ _ _ w _ ?_
  refine gbox hg fun k1 w1 gw hg B => ?_
  have tl : g.T = x.tl := hg.t.1
  have hr := hr.mono gw
  have h := St.all w1
  unfold V.all at h
  refine ⟨fun o n c z w' => ∃ (i : Nat) (row : List Int), z = i ∧ n = row.length ∧ row.length = i ∧ i ≤ 12 ∧ i ≤ l ∧ (∀ z ∈ row, 1 ≤ z ∧ z < (g.T : Int)) ∧ St w' [own 1 o row.length c (iv row), has (hp w1)], fun _ _ _ z _ => l - z.toNat, ⟨0, [], rfl, rfl, rfl, by omega, by omega, by simp, own_nil 1 h⟩, ?_⟩
  clear h
  rintro _ o n c z w2 ⟨i, row, rfl, rfl, hri, hi, hil, hrow, h⟩
  have fin : ∃ (o' : Option Addr) (c' : Nat) (row' : List Int), Value.slice o row.length c = .slice o' row'.length c' ∧ row'.length ≤ 12 ∧ (∀ z ∈ row', 1 ≤ z ∧ z < (g.T : Int)) ∧ St w2 (own 1 o' row'.length c' (iv row') :: all w) := ⟨o, c, row, rfl, by omega, hrow, h.on1 (has_i gw)⟩
  refine br_intro (fun hlt => ?_) fun _ => fin
  have hlt : i < l := by have := of_decide_eq_true hlt; omega
  refine br_intro (fun h12 => ?_) fun _ => fin
  have h12 : i < 12 := by have := of_decide_eq_true h12; omega
  refine ⟨_, _, _, B.c0 (rdH 1 h.l), br_intro (fun h1 => ?_) fun _ => fin⟩
  have h1 : 1 < x.tl := by have := of_decide_eq_true h1; omega
  obtain ⟨y, ad, hy1, hya, hy2⟩ := hr.get1 hlt
  obtain ⟨ha1, ha2⟩ := hany y (List.mem_of_getElem? hy1)
  have step : ∀ {q : Int} {w3 : World} {k8 : Nat}, 0 ≤ q → St w3 (cel k8 [.int .i64 (1 + Int.tmod q ((x.tl : Int) - 1))] :: [own 1 o row.length c (iv row), has (hp w1)]) → RunS Tryd.prog (Builtin.append_ (Array.mk [24, 24]) 24 (Array.mk [.slice o row.length c, .slice (some (Addr.mk k8 0 none)) 1 1])) w3 fun v w4 => ∃ (o4 : Option Addr) (k9 k10 : Nat), v = .slice o4 k9 k10 ∧ inI ((i : Int) + 1) ∧ (∃ (i' : Nat) (row : List Int), (i : Int) + 1 = i' ∧ k9 = row.length ∧ row.length = i' ∧ i' ≤ 12 ∧ i' ≤ l ∧ (∀ z ∈ row, 1 ≤ z ∧ z < (g.T : Int)) ∧ St w4 [own 1 o4 row.length k10 (iv row), has (hp w1)]) ∧ l - ((i : Int) + 1).toNat < l - (i : Int).toNat := fun {q w3 k8} hq h => by
    refine (app_one tyOk (rfl : kdOfT Ty _ = .slice _) (rfl : kdOfT Ty _ = .slice _) rfl rfl rfl h rfl (by simp [oneC]) (by show (row.length + 1) * 8 ≤ _; omega) (by omega)).mono ?_
    rintro _ w4 ⟨o', c', rfl, h⟩
    have em : Int.tmod q ((x.tl : Int) - 1) = q % ((x.tl : Int) - 1) := Int.tmod_eq_emod_of_nonneg hq
    have m1 := Int.emod_nonneg q (show ((x.tl : Int) - 1) ≠ 0 by omega)
    have m2 := Int.emod_lt_of_pos q (show 0 < ((x.tl : Int) - 1) by omega)
    rw [em] at h
    refine ⟨_, _, _, rfl, ⟨by omega, by omega⟩, ⟨i + 1, row ++ [1 + q % ((x.tl : Int) - 1)], by simp, by simp, by simp [hri], by omega, by omega, fun z hz => ?_, ?_⟩, msr hlt⟩
    · rcases List.mem_append.1 hz with hz | hz
      · exact hrow z hz
      · rw [List.mem_singleton.1 hz]; omega
    · have e : iv row ++ [Value.int .i64 (1 + q % ((x.tl : Int) - 1))] = iv (row ++ [1 + q % ((x.tl : Int) - 1)]) := by simp [iv]
      rw [e] at h
      have e2 : (row ++ [1 + q % ((x.tl : Int) - 1)]).length = row.length + 1 := by simp
      rw [e2]; exact h.pick 3 [0, 2]
  have bd : ∀ {q : Int}, 0 ≤ q → inI (1 + Int.tmod q ((x.tl : Int) - 1)) := fun {q} hq => by
    have em : Int.tmod q ((x.tl : Int) - 1) = q % ((x.tl : Int) - 1) := Int.tmod_eq_emod_of_nonneg hq
    have m1 := Int.emod_nonneg q (show ((x.tl : Int) - 1) ≠ 0 by omega)
    have m2 := Int.emod_lt_of_pos q (show 0 < ((x.tl : Int) - 1) by omega)
    rw [em]; exact ⟨by omega, by omega⟩
  refine idx_i hya hlt ⟨_, hy2 _ (rdH 1 h.l), br_intro (fun hneg => ?_) fun hneg => ?_⟩
  · have hneg : y < 0 := of_decide_eq_true hneg
    refine ⟨⟨by omega, by omega⟩, ⟨by omega, by omega⟩, _, _, _, B.c0 (rdH 1 h.l), ⟨by omega, by omega⟩, (by show ((x.tl : Int) - 1) ≠ 0; omega), bd (by omega), newC_i h fun k8 w3 h => step (by omega) h⟩
  · have hneg : ¬ y < 0 := of_decide_eq_false hneg
    refine ⟨_, _, _, B.c0 (rdH 1 h.l), ⟨by omega, by omega⟩, (by show ((x.tl : Int) - 1) ≠ 0; omega), bd (by omega), newC_i h fun k8 w3 h => step (by omega) h⟩
end
end Go.Proofs.YtaheggomcnbbiaaDoor
set_option linter.unusedVariables false
namespace Go.Proofs.YtaheggomcnbbiaaDoor
open Go.V
section
variable {w : World} {L : List Asn} {g : GramT} {x : GA} {a : Option Addr} {l cc : Nat} {raw : List Int}
set_option maxHeartbeats 4000000 in
theorem l_ReachSame (hg : gR (hp w) g x) (hb : okG g) (hbT : g.terms.length * 24 ≤ 140737488355328) (hbN : g.nons.length * 16 ≤ 140737488355328) (ht : tabA (hp w)) (hr : rdS (hp w) raw a l) (hany : ∀ z ∈ raw, anyI z) (hl : l ≤ 4611686018427387904) (hsm : ∀ p ∈ g.prods, p.right.length ≤ 1048576) :
    Run Tryd.prog n_presagelaw06_ReachSame [.agg ⟨x.cells⟩, .slice a l cc] w fun v w' => v = .bool true ∧ Gr w w' := by
  refine run_presagelaw06_ReachSame _ _ _ _ _ _ _ _ _ _ _ _ _ _ _ _ w _ ?_
  refine gbox hg fun k1 w1 gw hg B => ?_
  have gs : sub (hp w) (hp w1) := gw
  have ht1 : tabA (hp w1) := rdV.mono gw ht
  refine ⟨_, _, _, _, _, _, _, _, _, _, _, _, _, B.row (sub.refl _), (d_Copy (x := x) hg hb hbT hbN).mono ?_⟩
  rintro _ w2 ⟨y, os, rfl, hy, hos, h2⟩
  unfold V.all at h2
  have s12 : sub (hp w1) (hp w2) := rdH 5 h2.l
  have hk2 : gR (hp w2) g y := ownG_gR hy hos h2
  refine ⟨_, _, _, _, _, _, _, _, _, _, _, _, _, rfl, (r_Reduce (x := y) hk2 hb (rdV.mono s12 ht1)).mono ?_⟩
  rintro _ w3 ⟨x1, G, os1, e1, rfl, hx1, hos1, rR, h3⟩
  unfold V.all at h3
  refine ⟨_, _, _, _, _, _, _, _, _, _, _, _, _, _, rfl, newC_i h3 fun k26 w4 h4 => stR_i h4 rfl (by intro v hv; simp at hv; rcases hv with rfl | rfl | rfl | rfl | rfl <;> rfl) fun w5 h5 => ?_⟩
  have C : GB (hp w5) k26 x1 := gb_of h5.row
  have hG : gR (hp w5) G x1 := ownG_gR hx1 hos1 h5.tail
  have s25 : sub (hp w2) (hp w5) := rdH 5 h5.tail.l
  have s15 : sub (hp w1) (hp w5) := sub.trans s12 s25
  have hbG := rR.ok hb
  clear h2 h3 h4 h5
  have hg := hg.mono s15
  have hr := (hr.mono gs).mono s15
  have ht5 : tabA (hp w5) := rdV.mono s15 ht1
  have B : GB (hp w5) k1 x := ⟨fun s => B.c0 (sub.trans s15 s), fun s => B.c1 (sub.trans s15 s), fun s => B.c2 (sub.trans s15 s), fun s => B.c3 (sub.trans s15 s), fun s => B.c4 (sub.trans s15 s), fun s => B.row (sub.trans s15 s)⟩
  have gs : sub (hp w) (hp w5) := sub.trans gs s15
  have aw : ∀ {w' : World}, sub (hp w5) (hp w') → Run Tryd.prog n_presagelaw06_awake [] w' fun v w'' => v = .bool true ∧ sub (hp w) (hp w'') ∧ sub (hp w') (hp w'') := fun {w'} s => by
    refine (l_awake6 (rdV.mono s ht5)).mono ?_
    rintro _ w'' ⟨rfl, g⟩
    exact ⟨rfl, sub.trans gs (sub.trans s g), g⟩
  generalize hH : hp w5 = H at *
  have h0 : sub H (hp w5) := hH ▸ sub.refl _
  refine ⟨_, _, _, _, _, _, _, _, _, _, _, _, _, B.row h0, (d_Valid (x := x) (hg.mono h0) hb).mono ?_⟩
  rintro _ w6 ⟨⟨r, rfl, hrv⟩, g6⟩
  have s6 : sub H (hp w6) := sub.trans h0 g6
  refine ⟨_, rfl, br_intro (fun hv => ?_) fun hv => ?_⟩
  · have hn : ¬ ValidP g := fun h => by rw [hrv.2 h] at hv; cases hv
    refine br_intro (fun _ => (aw s6).mono ?_) fun he => ?_
    · rintro _ w7 ⟨rfl, g7, _⟩
      exact ⟨_, rfl, rfl, g7⟩
    · rcases rR with ⟨_, h1, _⟩ | ⟨h1, _⟩ | ⟨h1, _⟩
      · rw [h1] at he; cases he
      · exact absurd h1 hn
      · exact absurd h1 hn
  have hv : ValidP g := hrv.1 (by simpa using hv)
  have he : EitherP g := .inl hv
  obtain ⟨iG, bT, bN, pN, pT, bP⟩ := inG he
  refine ⟨_, _, _, _, _, _, _, _, _, _, _, _, _, B.row s6, (d_Row6 (cc := cc) (x := x) (hg.mono s6) hb bT (hr.mono s6) hany hl).mono ?_⟩
  rintro _ w8 ⟨o, cr, row, rfl, hrl, hrw, h8⟩
  have s8 : sub H (hp w8) := sub.trans s6 h8.gone1
  have rrow : rdS (hp w8) row o row.length := rdI_of rfl (rdOwn 0 h8.l)
  have hrT : ∀ z ∈ row, z < (g.T : Int) := fun z hz => (hrw z hz).2
  refine ⟨_, _, _, rfl, br_intro (fun he12 => ?_) fun he12 => ?_⟩
  · have he12 : e1 = 12 := by simpa using he12
    have hnP : ¬ Pd g g.start := by
      rcases rR with ⟨h1, _⟩ | ⟨_, h1, _⟩ | ⟨_, _, h1, _⟩
      · exact absurd hv h1
      · exact h1
      · omega
    refine ⟨_, _, _, _, _, _, _, _, _, _, _, _, _, B.row s8, (d_Sentence (cc := cr) (x := x) (hg.mono s8) hb he rrow (by omega) hsm).mono ?_⟩
    rintro _ w9 ⟨⟨b3, pds, rfl, hpd, hb3⟩, g9⟩
    refine ⟨_, rfl, br_intro (fun _ => (aw (sub.trans s8 g9)).mono ?_) fun hb => ?_⟩
    · rintro _ w10 ⟨rfl, g10, _⟩
      exact ⟨_, rfl, rfl, g10⟩
    · exact absurd (hb3.1 (by simpa using hb)) (sen_none iG hnP hpd)
  have he12 : e1 ≠ 12 := by simpa using he12
  obtain ⟨hP, he0, pds, uns, hpd, hun, rfl⟩ : Pd g g.start ∧ e1 = 0 ∧ ∃ pds uns, PnP g pds ∧ UnP g uns ∧ G = redG g pds uns := by
    rcases rR with ⟨h1, _⟩ | ⟨_, _, h1, _⟩ | ⟨_, h1, h2, h3⟩
    · exact absurd hv h1
    · exact absurd h1 he12
    · exact ⟨h1, h2, h3⟩
  have hcl := red_closed hv hP hpd hun
  have heG : EitherP (redG g pds uns) := .inr hcl
  have hsmG : ∀ p ∈ (redG g pds uns).prods, p.right.length ≤ 1048576 := fun q hq => by
    have hq : q ∈ firstU g uns :: keptU g pds uns g.prods := hq
    rcases List.mem_cons.1 hq with rfl | hq
    · show [_].length ≤ _; simp
    · unfold keptU at hq
      obtain ⟨p, hp, rfl⟩ := List.mem_map.1 hq
      show (p.right.map _).length ≤ _
      rw [List.length_map]; exact hsm p (List.mem_filter.1 hp).1
  refine ⟨fun b w' => b = false ∧ sub (hp w8) (hp w'), br_intro (fun h => by rw [he0] at h; cases h) fun _ => ?_, ?_⟩
  · refine ⟨_, _, _, _, _, _, _, _, _, _, _, _, _, C.row s8, (d_Closed (x := x1) (hG.mono s8) hbG).mono ?_⟩
    rintro _ w11 ⟨⟨r, rfl, hr'⟩, g11⟩
    exact ⟨_, rfl, by rw [hr'.2 hcl]; rfl, g11⟩
  rintro _ b6 w12 ⟨rfl, s812⟩
  refine br_intro (fun h => by cases h) fun _ => fun w13 hd => ?_
  have s13 : sub (hp w8) (hp w13) := sub.trans s812 (Gr.drawn hd)
  have t8 : ∀ {w : World}, sub (hp w8) (hp w) → sub H (hp w) := fun s => sub.trans s8 s
  refine ⟨fun w => sub (hp w8) (hp w), s13, _, _, _, _, _, _, _, _, _, _, _, _, _, fun w s => B.row (t8 s), _, _, _, _, _, _, _, _, _, _, _, _, _, fun w s => C.row (t8 s), (d_Sentence (cc := cr) (x := x) (hg.mono (t8 s13)) hb he (rrow.mono s13) (by omega) hsm).mono ?_⟩
  rintro _ w16 ⟨⟨b7, p1, rfl, hp1, hb7⟩, g16⟩
  have s16 : sub (hp w8) (hp w16) := sub.trans s13 g16
  refine ⟨_, rfl, fun w => sub (hp w8) (hp w), s16, fun _ s => s, (d_Sentence (cc := cr) (x := x1) (hG.mono (t8 s16)) hbG heG (rrow.mono s16) (by omega) hsmG).mono ?_⟩
  rintro _ w18 ⟨⟨b8, p2, rfl, hp2, hb8⟩, g18⟩
  have s18 : sub (hp w8) (hp w18) := sub.trans s16 g18
  rw [hp1.inj hpd] at hb7
  rw [use_all hv hP hpd hun hp2] at hb8
  refine ⟨_, rfl, fun w => sub (hp w8) (hp w), s18, fun _ s => s, br_intro (fun _ => ?_) fun h => ?_⟩
  rotate_left
  · exfalso
    have : b7 = b8 := by rw [Bool.eq_iff_iff, hb7, hb8]; exact sen_same hv hP hpd hun hrT
    rw [this] at h; simp at h
  refine ⟨_, _, _, _, _, _, _, _, _, _, _, _, _, fun w s => B.row (t8 s), _, _, _, _, _, _, _, _, _, _, _, _, _, fun w s => C.row (t8 s), (d_Begins (cc := cr) (x := x) (hg.mono (t8 s18)) hb he (rrow.mono s18) (by omega) hsm).mono ?_⟩
  rintro _ w22 ⟨⟨b9, p3, rfl, hp3, hb9⟩, g22⟩
  have s22 : sub (hp w8) (hp w22) := sub.trans s18 g22
  refine ⟨_, rfl, s22, (d_Begins (cc := cr) (x := x1) (hG.mono (t8 s22)) hbG heG (rrow.mono s22) (by omega) hsmG).mono ?_⟩
  rintro _ w23 ⟨⟨b10, p4, rfl, hp4, hb10⟩, g23⟩
  have s23 : sub (hp w8) (hp w23) := sub.trans s22 g23
  rw [hp3.inj hpd] at hb9
  rw [use_all hv hP hpd hun hp4] at hb10
  refine ⟨_, rfl, s23, br_intro (fun _ => (aw (t8 s23)).mono ?_) fun h => ?_⟩
  · rintro _ w24 ⟨rfl, g24, g24'⟩
    exact ⟨_, rfl, sub.trans s23 g24', rfl, g24⟩
  · exfalso
    have : b9 = b10 := by rw [Bool.eq_iff_iff, hb9, hb10]; exact beg_same hv hP hpd hun hrT
    rw [this] at h; simp at h
end
end Go.Proofs.YtaheggomcnbbiaaDoor
set_option linter.unusedVariables false
namespace Go.V
open Go.RowKit Go.WideShapes Go.ChangeShapes
theorem cellH_of {w : World} {a : Addr} {v : Value} (h : w.cell? a = some v) : cellH (hp w) a = some v := by
  unfold World.cell? at h
  unfold cellH hp
  cases ho : w.heap[a.block]? with
  | none => rw [ho] at h; cases h
  | some o => rw [ho] at h; cases o <;> first | exact h | cases h
theorem mapM_get' {α β : Type} {f : α → Option β} : ∀ {l : List α} {r : List β}, l.mapM f = some r → r.length = l.length ∧ ∀ (i : Nat) (a : α) (b : β), l[i]? = some a → r[i]? = some b → f a = some b
  | [], r, h => by
    simp at h; subst h; exact ⟨rfl, fun i a b ha => by simp at ha⟩
  | x :: l, r, h => by
    simp only [List.mapM_cons, Option.bind_eq_bind, Option.bind_eq_some_iff, Option.pure_def, Option.some.injEq] at h
    obtain ⟨b, hb, r', hr', rfl⟩ := h
    obtain ⟨h1, h2⟩ := mapM_get' hr'
    refine ⟨by simp [h1], fun i a b' ha hb' => ?_⟩
    cases i with
    | zero => simp at ha hb'; subst ha; subst hb'; exact hb
    | succ i => exact h2 i a b' (by simpa using ha) (by simpa using hb')
theorem cells_row {w : World} {base n : Nat} {a : Addr} {vs : List Value} (h : w.cells? base a n = some vs) : rowH (hp w) a vs := by
  unfold World.cells? at h
  split at h
  · obtain ⟨h1, h2⟩ := mapM_get' h
    intro j v hj
    have hlt := (List.getElem?_eq_some_iff.1 hj).1
    rw [h1, List.length_range] at hlt
    exact cellH_of (h2 j j v (by simp [hlt]) hj)
  · cases h
theorem weightsAll_get {H : Type} {P : Program} {e : TypeId} {N : Nat} : ∀ {l : List (DataW H)}, (DataW.weightsAll P e l).all (· ≤ N) = true → ∀ d ∈ l, (d.weights P e).all (· ≤ N) = true
  | [], _, d, hd => by simp at hd
  | x :: l, h, d, hd => by
    rw [DataW.weightsAll, List.all_append, Bool.and_eq_true] at h
    rcases List.mem_cons.1 hd with rfl | hd
    · exact h.1
    · exact weightsAll_get h.2 d hd
theorem weightsEach_get {H : Type} {P : Program} {N : Nat} : ∀ {ts : List TypeId} {l : List (DataW H)}, (DataW.weightsEach P ts l).all (· ≤ N) = true → ∀ (i : Nat) t d, ts[i]? = some t → l[i]? = some d → (d.weights P t).all (· ≤ N) = true
  | [], l, _, i, t, d, ht, _ => by simp at ht
  | _ :: _, [], _, i, t, d, _, hd => by simp at hd
  | t0 :: ts, x :: l, h, i, t, d, ht, hd => by
    rw [DataW.weightsEach, List.all_append, Bool.and_eq_true] at h
    cases i with
    | zero => simp at ht hd; subst ht; subst hd; exact h.1
    | succ i => exact weightsEach_get h.2 i t d (by simpa using ht) (by simpa using hd)
def Opn (P : Program) (α : Type) [Rep α] (bd : α → Prop) (t : TypeId) : Prop :=
  ∀ {H : Type} (enc : TypeId × Value → H) (W : World) (n : Nat) (cs : List Value) (x : DataW H × List MemPlace), DataW.trod enc P W 0 (fun _ => true) true n t cs = some x → (x.1.weights P t).all (· ≤ reachBytes) = true → ∃ y : α, rd (hp W) y cs ∧ bd y
def anyS : ByteArray → Prop := fun s => s.size ≤ reachBytes
def anyL {α : Type} (bytes : Nat) (bd : α → Prop) : List α → Prop := fun xs => xs.length * bytes ≤ reachBytes ∧ ∀ x ∈ xs, bd x
section
variable {P : Program} {t e : TypeId}
theorem opn_int (ht : P.underlying t = some (.int .i64)) : Opn P Int anyI t := by
  intro H enc W n cs x h hw
  obtain ⟨z, rfl, _, hwf⟩ := DataW.trod_int ht h
  refine ⟨z, rfl, ?_⟩
  have : IntKind.i64.min ≤ z ∧ z ≤ IntKind.i64.max := by simpa [Lit.wf] using hwf
  exact this
theorem opn_str (ht : P.underlying t = some .string) : Opn P ByteArray anyS t := by
  intro H enc W n cs x h hw
  obtain ⟨z, rfl, rfl, _⟩ := DataW.trod_string ht h
  refine ⟨z, rfl, ?_⟩
  simpa [DataW.weights, anyS] using hw
theorem opn_slice {α : Type} [Rep α] {bd : α → Prop} {bb : Nat} (ht : P.underlying t = some (.slice e)) (hc : P.cellsOf e = Rep.n α) (hb : P.bytesOf e = bb) (he : Opn P α bd e) : Opn P (List α) (anyL bb bd) t := by
  intro H enc W n cs x h hw
  rcases DataW.trod_slice ht h with ⟨rfl, rfl⟩ | ⟨a, len, cap, elems, rest, m, rfl, rfl, rfl, _, hlc, hcm, hel, hg, _, _⟩
  · exact ⟨[], ⟨none, 0, 0, rfl, Nat.le_refl _, rdS.nil⟩, by simp [reachBytes], fun x hx => by simp at hx⟩
  · simp only [DataW.weights, ht, List.all_cons, List.all_append, Bool.and_eq_true, decide_eq_true_eq, List.length_map] at hw
    obtain ⟨hw1, hw2, _⟩ := hw
    have key : ∀ k, k ≤ len → ∃ ys : List α, ys.length = k ∧ (∀ i y, ys[i]? = some y → ∃ vs, rowH (hp W) (a.add (mulS i (Rep.n α))) vs ∧ rd (hp W) y vs) ∧ ∀ y ∈ ys, bd y := by
      intro k
      induction k with
      | zero => exact fun _ => ⟨[], rfl, fun i y hy => by simp at hy, fun y hy => by simp at hy⟩
      | succ k ih =>
        intro hk
        obtain ⟨ys, h1, h2, h3⟩ := ih (by omega)
        have hgk := hg k (by omega)
        obtain ⟨d, hd⟩ : ∃ d, elems[k]? = some d := ⟨elems[k]'(by omega), List.getElem?_eq_getElem _⟩
        rw [hd, Option.bind_eq_some_iff] at hgk
        obtain ⟨vs, hv1, hv2⟩ := hgk
        obtain ⟨y, hy1, hy2⟩ := he enc W m vs d hv2 (weightsAll_get hw2 _ (by
          have := List.mem_of_getElem? hd
          exact List.mem_map_of_mem this))
        refine ⟨ys ++ [y], by simp [h1], fun i z hz => ?_, fun z hz => ?_⟩
        · by_cases hi : i < k
          · rw [List.getElem?_append_left (by omega)] at hz
            exact h2 i z hz
          · have : i = k := by
              have := (List.getElem?_eq_some_iff.1 hz).1
              simp at this; omega
            subst this
            rw [List.getElem?_append_right (by omega), h1, Nat.sub_self] at hz
            cases hz
            refine ⟨vs, ?_, hy1⟩
            rw [mulS_eq, ← hc]
            exact cells_row hv1
        · rcases List.mem_append.1 hz with hz | hz
          · exact h3 z hz
          · simp at hz; subst hz; exact hy2
    obtain ⟨ys, h1, h2, h3⟩ := key len (Nat.le_refl _)
    refine ⟨ys, ⟨some a, len, cap, rfl, hlc, h1, fun i y hy => ?_⟩, ?_, h3⟩
    · obtain ⟨vs, h4, h5⟩ := h2 i y hy
      exact ⟨a, vs, rfl, h4, h5⟩
    · rw [h1, ← hb, ← hel]
      exact Nat.le_trans (Nat.mul_le_mul_right _ (Nat.le_add_right _ _)) hw1
theorem opn_struct {fs : Array Field} (ht : P.underlying t = some (.struct fs)) {H : Type} {enc : TypeId × Value → H} {W : World} {n : Nat} {cs : List Value} {x : DataW H × List MemPlace} (h : DataW.trod enc P W 0 (fun _ => true) true n t cs = some x) (hw : (x.1.weights P t).all (· ≤ reachBytes) = true) :
    cs.length = P.cellsOf t ∧ ∀ (i : Nat) (f : Field) (ty k o : Nat), fs[i]? = some f → P.cellsOf ty = k → f.type = ty → f.offset = o → ∃ (m : Nat) (d : DataW H × List MemPlace), DataW.trod enc P W 0 (fun _ => true) true m ty ((cs.drop o).take k) = some d ∧ (d.1.weights P ty).all (· ≤ reachBytes) = true := by
  obtain ⟨xs, m, rfl, rfl, hl, hxs, hf⟩ := DataW.trod_struct ht h
  refine ⟨hl, ?_⟩
  rintro i f _ _ _ hi rfl rfl rfl
  have hlt := (Array.getElem?_eq_some_iff.1 hi).1
  obtain ⟨d, hd⟩ : ∃ d, xs[i]? = some d := ⟨xs[i]'(by omega), List.getElem?_eq_getElem _⟩
  refine ⟨m, d, by rw [hf i f hi, hd], ?_⟩
  simp only [DataW.weights, ht] at hw
  exact weightsEach_get hw i f.type d.1 (by simp [hi]) (by simp [hd])
theorem opn_arg {α : Type} [Rep α] {bd : α → Prop} (ho : Opn P α bd t) {H : Type} {enc : TypeId × Value → H} {W : World} {v : Value} {d : DataW H} {ps : List MemPlace} (h : DataW.Trod enc P W 0 (fun _ => true) true t v d ps)
    (hw : (d.weights P t).all (· ≤ reachBytes) = true) : ∃ y : α, rd (hp W) y v.cells.toList ∧ bd y := by
  obtain ⟨n, h⟩ := h
  exact ho enc W n _ _ h hw
theorem arg_slice {α : Type} [Rep α] {bd : α → Prop} {bb : Nat} (ho : Opn P (List α) (anyL bb bd) t) (ht : P.underlying t = some (.slice e)) {H : Type} {enc : TypeId × Value → H} {W : World} {b : Nat} {v : Value} {d : DataW H} {ps : List MemPlace}
    (hval : Value.okWide P W .any b t v) (h : DataW.Trod enc P W 0 (fun _ => true) true t v d ps) (hw : (d.weights P t).all (· ≤ reachBytes) = true) : ∃ (xs : List α) (a : Option Addr) (l c : Nat), v = .slice a l c ∧ l ≤ c ∧ rdS (hp W) xs a l ∧ anyL bb bd xs := by
  obtain ⟨xs, ⟨a, l, c, hv, hlc, hr⟩, hb⟩ := opn_arg ho h hw
  refine ⟨xs, a, l, c, ?_, hlc, hr, hb⟩
  cases v <;> first | (simp [Value.okWide, ht, Cell.okWide, Cell.ok] at hval; done) | simpa [Value.cells] using hv
theorem arg_struct {α : Type} [Rep α] {bd : α → Prop} {fs : Array Field} (ho : Opn P α bd t) (ht : P.underlying t = some (.struct fs)) {H : Type} {enc : TypeId × Value → H} {W : World} {b : Nat} {v : Value} {d : DataW H} {ps : List MemPlace}
    (hval : Value.okWide P W .any b t v) (h : DataW.Trod enc P W 0 (fun _ => true) true t v d ps) (hw : (d.weights P t).all (· ≤ reachBytes) = true) : ∃ (x : α) (cs : List Value), v = .agg ⟨cs⟩ ∧ rd (hp W) x cs ∧ bd x := by
  obtain ⟨x, hr, hb⟩ := opn_arg ho h hw
  simp only [Value.okWide, ht] at hval
  obtain ⟨cs, rfl, _⟩ := hval
  exact ⟨x, cs.toList, rfl, hr, hb⟩
theorem below_of {w w' : World} (h : Ev w w') (g : Gr w w') : Below w.heap.size w w' := by
  refine ⟨h.os, h.tape, h.output, h.size, fun k hk => ?_⟩
  cases ho : w.heap[k]? with
  | none => rw [Array.getElem?_eq_none_iff] at ho; omega
  | some o =>
    by_cases hd : notD o = true
    · have : hp w k = some o := by unfold hp; rw [ho, hidD_not hd]
      exact hidD_some (g k o this)
    · cases o <;> first | exact absurd rfl hd | exact h.dfr _ _ ho
theorem trodAll_below (hl : laidOutB P = true) {H : Type} {enc : TypeId × Value → H} {W W' : World} (hb : Below W.heap.size W W') {sp : Nat → Bool} : ∀ {ts : List TypeId} {vs : List Value} {ds : List (DataW H)} {ps : List MemPlace},
    (ts.all fun t => P.readableRec t && decide (t < P.types.size)) = true → DataW.TrodAll enc P W 0 (fun _ => true) true ts vs ds ps → (∀ x ∈ ps, x.block < W.heap.size) → (∀ x ∈ ps, sp x.block = true) →
    DataW.TrodAll enc P W' 0 sp true ts vs ds ps
  | [], [], [], ps, _, h, _, _ => h
  | [], _ :: _, _, _, _, h, _, _ => h.elim
  | [], [], _ :: _, _, _, h, _, _ => h.elim
  | _ :: _, [], _, _, _, h, _, _ => h.elim
  | _ :: _, _ :: _, [], _, _, h, _, _ => h.elim
  | t :: ts, v :: vs, d :: ds, ps, ht, h, hlt, hsp => by
    obtain ⟨p, q, h1, h2, rfl⟩ := h
    rw [List.all_cons, Bool.and_eq_true, Bool.and_eq_true, decide_eq_true_eq] at ht
    exact ⟨p, q, WideElems.Trod_stays hl ht.1.1 ht.1.2 h1 (fun x hx => hb.same (hlt x (by simp [hx]))) (fun x hx => hsp x (by simp [hx])), trodAll_below hl hb ht.2 h2 (fun x hx => hlt x (by simp [hx])) (fun x hx => hsp x (by simp [hx])), rfl⟩
theorem law_post {H : Type} {enc : TypeId × Value → H} {s : ChangeSpec} {f : Func} {W W' : World} {args : Array Value} {ds gs : List (DataW H)} {before : List MemPlace} {tb : TypeId} (hv : s.vars = []) (hrt : f.resultTypes = #[tb]) (htb : P.underlying tb = some .bool)
    (hsp : s.fn H (ds ++ gs) = { results := [.lit (.bool true)], args := ds }) (hl : laidOutB P = true) (hrd : (f.params.toList.all fun t => P.readableRec t && decide (t < P.types.size)) = true)
    (hW : DataW.Whole enc P f.params.toList s.vars false W args.toList ds gs before) (hE : Ev W W') (hg : Gr W W') : s.post enc P f false true false false W args (.bool true) W' := by
  have hb := below_of hE hg
  have hlt : ∀ p ∈ before, p.block < W.heap.size := fun p hp => hW.lt p hp
  have hold : ∀ p ∈ before, (fun b => decide (b < W.heap.size)) p.block = true := fun p hp => by simpa using hlt p hp
  have hW' := hW
  obtain ⟨p, q, h1, h2, rfl, h3, h4⟩ := hW
  have hq : q = [] := by
    rw [hv] at h2
    cases gs with
    | nil => exact h2
    | cons _ _ => exact h2.elim
  subst hq
  rw [List.append_nil] at *
  have hargs : ∀ sp : Nat → Bool, (∀ x ∈ p, sp x.block = true) → DataW.TrodAll enc P W' 0 sp true f.params.toList args.toList (s.fn H (ds ++ gs)).args p := fun sp hs => by
    rw [hsp]; exact trodAll_below hl hb hrd h1 hlt hs
  have hvars : ∀ sp : Nat → Bool, DataW.TrodVars enc P W' sp s.vars (s.fn H (ds ++ gs)).vars [] := fun sp => by
    rw [hsp, hv]; exact rfl
  have hres : ∀ (b : Nat) (sp : Nat → Bool) (hd : Bool), DataW.TrodAll enc P W' b sp hd f.resultTypes.toList ((Value.bool true).resultList f.resultTypes.size) (s.fn H (ds ++ gs)).results [] := fun b sp hd => by
    rw [hsp, hrt]; exact trodAll_cons_mk (shut_bool htb _) trodAll_mk0
  have hok : ∀ (j : Nat) (t : TypeId) (r : Value), f.resultTypes[j]? = some t → ((Value.bool true).resultList f.resultTypes.size)[j]? = some r → Value.okWide P W' .any 0 t r := ok_one hrt rfl (okWide_bool_mk htb _)
  refine ⟨ds, gs, p, [], p, [], hW', hres _ _ _, hargs _ hold, hvars _, World.keptBut_mono (fun x hx => ⟨hx, ?_⟩) (hb.frame (· ∈ p)), fun _ => ?_⟩
  · exact Or.inr (by simpa using hx)
  · refine ⟨hok, _, _, ([] ++ p) ++ [], ⟨[] ++ p, [], trodAll_append (hargs _ (fun _ _ => rfl)) (hres _ _ _), hvars _, rfl, ?_, ?_⟩, ?_⟩
    · intro b off hp
      have hin : MemPlace.cell b off ∈ p := by simpa using hp
      rw [hb.frozen (hlt _ hin)]
      exact h3 b off hin
    · intro ha; cases ha
    · intro x hx _
      simpa using hx
end
end Go.V
set_option linter.unusedVariables false
namespace Go.Proofs.YtaheggomcnbbiaaDoor
open Go.V Go.RowKit Go.WideShapes Go.ChangeShapes Go.ChangeAt
theorem ownK : ownKnob Tryd.prog.godebug = none := by kernel_rfl
theorem laidO : laidOutB Tryd.prog = true := by kernel_rfl
theorem cellsI : Tryd.prog.cellsOf 3 = 1 := by kernel_rfl
theorem bytesI : Tryd.prog.bytesOf 3 = 8 := by kernel_rfl
theorem cellsStr : Tryd.prog.cellsOf 9 = 1 := by kernel_rfl
theorem bytesStr : Tryd.prog.bytesOf 9 = 16 := by kernel_rfl
theorem cellsS24 : Tryd.prog.cellsOf 24 = 1 := by kernel_rfl
theorem cellsS22 : Tryd.prog.cellsOf 22 = 1 := by kernel_rfl
theorem cellsS23 : Tryd.prog.cellsOf 23 = 1 := by kernel_rfl
theorem cellsS25 : Tryd.prog.cellsOf 25 = 1 := by kernel_rfl
theorem cellsT : Tryd.prog.cellsOf 81 = 2 := by kernel_rfl
theorem bytesT : Tryd.prog.bytesOf 81 = 24 := by kernel_rfl
theorem cellsP : Tryd.prog.cellsOf 51 = 3 := by kernel_rfl
theorem bytesP : Tryd.prog.bytesOf 51 = 40 := by kernel_rfl
theorem cellsG : Tryd.prog.cellsOf 27 = 5 := by kernel_rfl
theorem oInt : Opn Tryd.prog Int anyI 3 := opn_int Tryd.underlying3
theorem oInts : Opn Tryd.prog (List Int) (anyL 8 anyI) 24 := opn_slice Tryd.underlying24 cellsI bytesI oInt
theorem oStr : Opn Tryd.prog ByteArray anyS 9 := opn_str Tryd.underlying9
theorem oStrs : Opn Tryd.prog (List ByteArray) (anyL 16 anyS) 23 := opn_slice Tryd.underlying23 cellsStr bytesStr oStr
theorem oTerm : Opn Tryd.prog TermT (fun t => anyS t.name ∧ anyI t.level) 81 := by
  intro H enc W n cs x h hw
  obtain ⟨hl, hf⟩ := opn_struct Tryd.underlying81 h hw
  rw [cellsT] at hl
  obtain ⟨_, _, t0, w0⟩ := hf 0 _ 9 1 0 rfl cellsStr rfl rfl
  obtain ⟨_, _, t1, w1⟩ := hf 1 _ 3 1 1 rfl cellsI rfl rfl
  obtain ⟨y0, r0, b0⟩ := oStr enc W _ _ _ t0 w0
  obtain ⟨y1, r1, b1⟩ := oInt enc W _ _ _ t1 w1
  match cs, hl with
  | [c0, c1], _ =>
    have e0 : [c0] = [.string y0] := r0
    have e1 : [c1] = [.int .i64 y1] := r1
    cases e0; cases e1
    exact ⟨⟨y0, y1⟩, rfl, b0, b1⟩
theorem oTerms : Opn Tryd.prog (List TermT) (anyL 24 fun t => anyS t.name ∧ anyI t.level) 22 := opn_slice Tryd.underlying22 cellsT bytesT oTerm
theorem oProd : Opn Tryd.prog ProdT (fun p => anyI p.left ∧ anyL 8 anyI p.right ∧ anyI p.level) 51 := by
  intro H enc W n cs x h hw
  obtain ⟨hl, hf⟩ := opn_struct Tryd.underlying51 h hw
  rw [cellsP] at hl
  obtain ⟨_, _, t0, w0⟩ := hf 0 _ 3 1 0 rfl cellsI rfl rfl
  obtain ⟨_, _, t1, w1⟩ := hf 1 _ 24 1 1 rfl cellsS24 rfl rfl
  obtain ⟨_, _, t2, w2⟩ := hf 2 _ 3 1 2 rfl cellsI rfl rfl
  obtain ⟨y0, r0, b0⟩ := oInt enc W _ _ _ t0 w0
  obtain ⟨y1, ⟨a, l, c, r1, hlc, r1'⟩, b1⟩ := oInts enc W _ _ _ t1 w1
  obtain ⟨y2, r2, b2⟩ := oInt enc W _ _ _ t2 w2
  match cs, hl with
  | [c0, c1, c2], _ =>
    have e0 : [c0] = [.int .i64 y0] := r0
    have e1 : [c1] = [.slice a l c] := r1
    have e2 : [c2] = [.int .i64 y2] := r2
    cases e0; cases e1; cases e2
    exact ⟨⟨y0, y1, y2⟩, ⟨a, l, c, rfl, hlc, r1'⟩, b0, b1, b2⟩
theorem oProds : Opn Tryd.prog (List ProdT) (anyL 40 fun p => anyI p.left ∧ anyL 8 anyI p.right ∧ anyI p.level) 25 := opn_slice Tryd.underlying25 cellsP bytesP oProd
def okG2 (g : GramT) : Prop := okG g ∧ g.terms.length * 24 ≤ 140737488355328 ∧ g.nons.length * 16 ≤ 140737488355328
theorem oGram : Opn Tryd.prog GramT okG2 27 := by
  intro H enc W n cs x h hw
  obtain ⟨hl, hf⟩ := opn_struct Tryd.underlying27 h hw
  rw [cellsG] at hl
  obtain ⟨_, _, t0, w0⟩ := hf 0 _ 22 1 0 rfl cellsS22 rfl rfl
  obtain ⟨_, _, t1, w1⟩ := hf 1 _ 23 1 1 rfl cellsS23 rfl rfl
  obtain ⟨_, _, t2, w2⟩ := hf 2 _ 24 1 2 rfl cellsS24 rfl rfl
  obtain ⟨_, _, t3, w3⟩ := hf 3 _ 3 1 3 rfl cellsI rfl rfl
  obtain ⟨_, _, t4, w4⟩ := hf 4 _ 25 1 4 rfl cellsS25 rfl rfl
  obtain ⟨y0, ⟨a0, l0, c0', r0, k0, q0⟩, b0⟩ := oTerms enc W _ _ _ t0 w0
  obtain ⟨y1, ⟨a1, l1, c1', r1, k1, q1⟩, b1⟩ := oStrs enc W _ _ _ t1 w1
  obtain ⟨y2, ⟨a2, l2, c2', r2, k2, q2⟩, b2⟩ := oInts enc W _ _ _ t2 w2
  obtain ⟨y3, r3, b3⟩ := oInt enc W _ _ _ t3 w3
  obtain ⟨y4, ⟨a4, l4, c4', r4, k4, q4⟩, b4⟩ := oProds enc W _ _ _ t4 w4
  match cs, hl with
  | [c0, c1, c2, c3, c4], _ =>
    have e0 : [c0] = [.slice a0 l0 c0'] := r0
    have e1 : [c1] = [.slice a1 l1 c1'] := r1
    have e2 : [c2] = [.slice a2 l2 c2'] := r2
    have e3 : [c3] = [.int .i64 y3] := r3
    have e4 : [c4] = [.slice a4 l4 c4'] := r4
    cases e0; cases e1; cases e2; cases e3; cases e4
    refine ⟨⟨y0, y1, y2, y3, y4⟩, ⟨⟨a0, l0, c0', a1, l1, c1', a2, l2, c2', y3, a4, l4, c4'⟩, rfl, q0, q1, q2, rfl, q4, k0, k1, k2, k4⟩, ?_⟩
    have z0 := b0.1
    have z1 := b1.1
    have z2 := b2.1
    have z4 := b4.1
    unfold reachBytes at z0 z1 z2 z4
    refine ⟨⟨by show y0.length ≤ _; omega, by show y1.length ≤ _; omega, by show y2.length ≤ _; omega, by show y4.length * 40 ≤ _; omega, fun t ht => ⟨?_, (b0.2 t ht).2⟩, fun s hs => ?_, fun p hp => ?_⟩, by show y0.length * 24 ≤ _; omega, by show y1.length * 16 ≤ _; omega⟩
    · have := (b0.2 t ht).1; unfold anyS reachBytes at this; omega
    · have := b1.2 s hs; unfold anyS reachBytes at this; omega
    · have := (b4.2 p hp).2.1.1; unfold reachBytes at this; omega
theorem bulk_len {H : Type} : ∀ l : List (DataW H), l.length ≤ Rows.uptoBulkAll l
  | [] => Nat.zero_le _
  | d :: r => by
    have h := bulk_len r
    have h1 : 1 ≤ Rows.uptoBulk d := by
      cases d with
      | lit q => cases q <;> simp [Rows.uptoBulk]
      | _ => simp [Rows.uptoBulk]
    simp only [List.length_cons, Rows.uptoBulkAll]
    omega
theorem bulk_mem {H : Type} {d : DataW H} : ∀ {l : List (DataW H)}, d ∈ l → Rows.uptoBulk d ≤ Rows.uptoBulkAll l
  | x :: r, h => by
    simp only [Rows.uptoBulkAll]
    rcases List.mem_cons.1 h with rfl | h
    · omega
    · have := bulk_mem h; omega
theorem struct_bulk {P : Program} {t : TypeId} {fs : Array Field} (ht : P.underlying t = some (.struct fs)) {H : Type} {enc : TypeId × Value → H} {W : World} {n : Nat} {cs : List Value} {x : DataW H × List MemPlace} (h : DataW.trod enc P W 0 (fun _ => true) true n t cs = some x) :
    cs.length = P.cellsOf t ∧ ∀ (i : Nat) (f : Field) (ty k o : Nat), fs[i]? = some f → P.cellsOf ty = k → f.type = ty → f.offset = o → ∃ (m : Nat) (d : DataW H × List MemPlace), DataW.trod enc P W 0 (fun _ => true) true m ty ((cs.drop o).take k) = some d ∧ Rows.uptoBulk d.1 ≤ Rows.uptoBulk x.1 := by
  obtain ⟨xs, m, rfl, rfl, hl, hxs, hf⟩ := DataW.trod_struct ht h
  refine ⟨hl, ?_⟩
  rintro i f _ _ _ hi rfl rfl rfl
  have hlt := (Array.getElem?_eq_some_iff.1 hi).1
  obtain ⟨d, hd⟩ : ∃ d, xs[i]? = some d := ⟨xs[i]'(by omega), List.getElem?_eq_getElem _⟩
  refine ⟨m, d, by rw [hf i f hi, hd], ?_⟩
  have := bulk_mem (List.mem_map_of_mem (f := fun y : DataW H × List MemPlace => y.1) (List.mem_of_getElem? hd))
  simp only [Rows.uptoBulk]
  omega
theorem slice_bulk1 {P : Program} {t e : TypeId} (ht : P.underlying t = some (.slice e)) {H : Type} {enc : TypeId × Value → H} {W : World} {n : Nat} {a : Option Addr} {l c : Nat} {x : DataW H × List MemPlace} (h : DataW.trod enc P W 0 (fun _ => true) true n t [.slice a l c] = some x) :
    l ≤ Rows.uptoBulk x.1 ∧ ∀ i, i < l → ∃ (ad : Addr) (vs : List Value) (m : Nat) (d : DataW H × List MemPlace), a = some ad ∧ rowH (hp W) (ad.add (i * P.cellsOf e)) vs ∧ DataW.trod enc P W 0 (fun _ => true) true m e vs = some d ∧ Rows.uptoBulk d.1 ≤ Rows.uptoBulk x.1 := by
  rcases DataW.trod_slice ht h with ⟨h1, h2⟩ | ⟨a', len, cap, elems, rest, m, _, h1, rfl, _, _, _, hel, hg, _⟩
  · cases h1; exact ⟨Nat.zero_le _, fun i hi => absurd hi (Nat.not_lt_zero _)⟩
  · cases h1
    have h4 := bulk_len (elems.map (·.1))
    rw [List.length_map] at h4
    refine ⟨by simp only [Rows.uptoBulk]; omega, fun i hi => ?_⟩
    have hgi := hg i hi
    obtain ⟨d, hd⟩ : ∃ d, elems[i]? = some d := ⟨elems[i]'(by omega), List.getElem?_eq_getElem _⟩
    rw [hd, Option.bind_eq_some_iff] at hgi
    obtain ⟨vs, hv1, hv2⟩ := hgi
    refine ⟨a', vs, m, d, rfl, cells_row hv1, hv2, ?_⟩
    have := bulk_mem (List.mem_map_of_mem (f := fun y : DataW H × List MemPlace => y.1) (List.mem_of_getElem? hd))
    simp only [Rows.uptoBulk]
    omega
theorem gram_bulk {H : Type} {enc : TypeId × Value → H} {W : World} {n : Nat} {x : DataW H × List MemPlace} {g : GramT} {xA : GA} (h : DataW.trod enc Tryd.prog W 0 (fun _ => true) true n 27 xA.cells = some x) (hg : gR (hp W) g xA) : ∀ p ∈ g.prods, p.right.length ≤ Rows.uptoBulk x.1 := by
  intro p hp'
  obtain ⟨i, hi⟩ := List.getElem?_of_mem hp'
  obtain ⟨_, hf⟩ := struct_bulk Tryd.underlying27 h
  obtain ⟨m4, d4, t4, k4⟩ := hf 4 _ 25 1 4 rfl cellsS25 rfl rfl
  obtain ⟨_, hs⟩ := slice_bulk1 Tryd.underlying25 (l := xA.pl) (a := xA.pa) (c := xA.pc) t4
  have hil : i < xA.pl := by rw [← hg.p.1]; exact (List.getElem?_eq_some_iff.1 hi).1
  obtain ⟨ad, vs, m5, d5, e1, r1, t5, k5⟩ := hs i hil
  obtain ⟨p', ad', pvs, hp1, hpa, hp2, ra, rl, rc, rfl, hrc, hp3⟩ := hg.p.get hil
  rw [hi] at hp1; cases hp1
  rw [e1] at hpa; cases hpa
  rw [cellsP] at r1
  have hp2 : rowH (hp W) (ad.add (mulS i 3)) [.int .i64 p.left, .slice ra rl rc, .int .i64 p.level] := hp2
  rw [mulS_eq] at hp2
  obtain ⟨hl5, hf5⟩ := struct_bulk Tryd.underlying51 t5
  rw [cellsP] at hl5
  match vs, hl5 with
  | [c0, c1, c2], _ =>
    have q1 := r1 1 c1 rfl
    have q2 := hp2 1 _ rfl
    rw [q1] at q2
    have q2 := Option.some.inj q2
    subst q2
    obtain ⟨m6, d6, t6, k6⟩ := hf5 1 _ 24 1 1 rfl cellsS24 rfl rfl
    have := (slice_bulk1 Tryd.underlying24 (l := rl) (a := ra) (c := rc) t6).1
    rw [hp3.1]
    omega

theorem gTab : Tryd.prog.globalNamed "math/bits.deBruijn64tab" = some 0 := by kernel_rfl
theorem gTabType : (Tryd.prog.globals[0]?).map (·.type) = some 133 := by kernel_rfl
theorem cellsTab : Tryd.prog.cellsOf 133 = 64 := by kernel_rfl
theorem cellsTabE : Tryd.prog.cellsOf 5 = 1 := by kernel_rfl
theorem table {W : World} (h : laidMetH Tryd.prog [("math/bits.deBruijn64tab", Rows.laid_math_bits_deBruijn64tab)] W) : tabA (hp W) := by
  have ht : Lib.TabIs Tryd.prog W "math/bits.deBruijn64tab" .u8 (Lib.deBruijn64tab.map fun (k : Nat) => (k : Int)) :=
    Lib.tabIs_of_head (rest := []) gTab gTabType Tryd.underlying133 Tryd.underlying5 cellsTabE cellsTab h
  refine .inr ⟨_, rfl, fun j v hj => ?_⟩
  have hlt := (List.getElem?_eq_some_iff.1 hj).1
  have hc := ht.cell gTab j (by simpa [tabV] using hlt)
  rw [add_lit0]
  refine cellH_of (hc.trans ?_)
  rw [← hj]
  simp only [tabV, List.getElem?_map, List.length_map] at hj hlt ⊢
  rw [List.getElem?_eq_getElem hlt]
  simp [hlt]
noncomputable def laidWorld (os : Os) : World :=
  { World.holding Tryd.prog os ⟨#[], #[], []⟩ with heap := (World.holding Tryd.prog os ⟨#[], #[], []⟩).heap.modify 0 fun
      | .cells _ t frozen => .cells ⟨tabV⟩ t frozen
      | o => o }
end Go.Proofs.YtaheggomcnbbiaaDoor
