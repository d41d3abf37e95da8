/- Texts of this claim, one behind the other. -/
import Derived.Test.YtaheggomcnbbiaaDoorG1
import Derived.Test.YtaheggomcnbbiaaDoorG4
import Derived.Test.YtaheggomcnbbiaaDoorG2
import Derived.Test.YtaheggomcnbbiaaDoorCards
import Derived.Test.YtaheggomcnbbiaaDoorTie
import Derived.WalkKit
import Derived.ProofKit
import Derived.OpenShut
import Derived.Carry
import Derived.OpenVars
import Derived.Deep.DeepHandedRow
import Derived.Lib.LaidTab
set_option linter.unusedVariables false
namespace Go.Proofs.YtaheggomcnbbiaaDoor
open Go.V
abbrev n_presagelaw06_awake : FuncId := 34
def ann_presagelaw06_awake : Ann := { rngs := [], loops := [], joins := [], blocks := [] }
set_option maxRecDepth 100000 in
def vc_presagelaw06_awake  (w : World) (R : Value → World → Prop) : Prop :=
  new w (Obj.cells (Array.mk [Value.string (ByteArray.mk (Array.mk [])), Value.int IntKind.i64 0, Value.string (ByteArray.mk (Array.mk [97])), Value.int IntKind.i64 0]) 81)
  fun (k1 : Nat) (w1 : World) =>
  new w1 (Obj.cells (Array.mk [Value.string (ByteArray.mk (Array.mk [83])), Value.string (ByteArray.mk (Array.mk [88]))]) 9) fun (k2 : Nat) (w2 : World) =>
  new w2 (Obj.cells (Array.mk [Value.int IntKind.i64 1]) 3) fun (k3 : Nat) (w3 : World) =>
  new w3 (Obj.cells (Array.mk [Value.int IntKind.i64 3]) 3) fun (k4 : Nat) (w4 : World) =>
  new w4 (Obj.cells (Array.mk [Value.int IntKind.i64 3, Value.int IntKind.i64 1]) 3) fun (k5 : Nat) (w5 : World) =>
  new w5
  (Obj.cells
  (Array.mk
  [Value.int IntKind.i64 2, Value.slice (some (Addr.mk k3 0 none)) 1 1, Value.int IntKind.i64 0, Value.int IntKind.i64 2, Value.slice (some (Addr.mk k4 0 none)) 1 1,
  Value.int IntKind.i64 0, Value.int IntKind.i64 3, Value.slice (some (Addr.mk k5 0 none)) 2 2, Value.int IntKind.i64 0])
  51)
  fun (k6 : Nat) (w6 : World) =>
  new w6 (Obj.cells (Array.mk [Value.slice none 0 0, Value.slice none 0 0, Value.slice none 0 0, Value.int IntKind.i64 0, Value.slice none 0 0]) 27)
  fun (k7 : Nat) (w7 : World) =>
  stR w7 (Addr.mk k7 0 none)
  [Value.slice (some (Addr.mk k1 0 none)) 2 2, Value.slice (some (Addr.mk k2 0 none)) 2 2, Value.slice none 0 0, Value.int IntKind.i64 2,
  Value.slice (some (Addr.mk k6 0 none)) 3 3]
  fun (w8 : World) =>
  ∃ (o1 : Option Addr),
  ∃ (k8 : Nat),
  ∃ (k9 : Nat),
  ∃ (o2 : Option Addr),
  ∃ (k10 : Nat),
  ∃ (k11 : Nat),
  ∃ (o3 : Option Addr),
  ∃ (k12 : Nat),
  ∃ (k13 : Nat),
  ∃ (n1 : Int),
  ∃ (o4 : Option Addr),
  ∃ (k14 : Nat),
  ∃ (k15 : Nat),
  V.rowAt w8 (Addr.mk k7 0 none) 0 5 =
  some [Value.slice o1 k8 k9, Value.slice o2 k10 k11, Value.slice o3 k12 k13, Value.int IntKind.i64 n1, Value.slice o4 k14 k15] ∧
  RunE Proofs.Tryd.prog Ev 38
  [Value.agg
  (Array.mk
  [Value.slice o1 k8 k9, Value.slice o2 k10 k11, Value.slice o3 k12 k13, Value.int IntKind.i64 n1, Value.slice o4 k14 k15])]
  w8 fun (v1 : Value) (w9 : World) =>
  ∃ (o5 : Option Addr),
  ∃ (k16 : Nat),
  ∃ (k17 : Nat),
  ∃ (n2 : Int),
  v1 = Value.tuple (Array.mk [Value.slice o5 k16 k17, Value.int IntKind.i64 n2]) ∧
  ∃ (o6 : Option Addr),
  ∃ (k18 : Nat),
  ∃ (k19 : Nat),
  ∃ (o7 : Option Addr),
  ∃ (k20 : Nat),
  ∃ (k21 : Nat),
  ∃ (o8 : Option Addr),
  ∃ (k22 : Nat),
  ∃ (k23 : Nat),
  ∃ (n3 : Int),
  ∃ (o9 : Option Addr),
  ∃ (k24 : Nat),
  ∃ (k25 : Nat),
  V.rowAt w9 (Addr.mk k7 0 none) 0 5 =
  some
  [Value.slice o6 k18 k19, Value.slice o7 k20 k21, Value.slice o8 k22 k23,
  Value.int IntKind.i64 n3, Value.slice o9 k24 k25] ∧
  RunE Proofs.Tryd.prog Ev 31
  [Value.agg
  (Array.mk
  [Value.slice o6 k18 k19, Value.slice o7 k20 k21, Value.slice o8 k22 k23,
  Value.int IntKind.i64 n3, Value.slice o9 k24 k25])]
  w9 fun (v2 : Value) (w10 : World) =>
  ∃ (o10 : Option Addr),
  ∃ (k26 : Nat),
  ∃ (k27 : Nat),
  ∃ (o11 : Option Addr),
  ∃ (k28 : Nat),
  ∃ (k29 : Nat),
  ∃ (o12 : Option Addr),
  ∃ (k30 : Nat),
  ∃ (k31 : Nat),
  ∃ (n4 : Int),
  ∃ (o13 : Option Addr),
  ∃ (k32 : Nat),
  ∃ (k33 : Nat),
  ∃ (n5 : Int),
  v2 =
  Value.tuple
  (Array.mk
  [Value.agg
  (Array.mk
  [Value.slice o10 k26 k27, Value.slice o11 k28 k29,
  Value.slice o12 k30 k31, Value.int IntKind.i64 n4,
  Value.slice o13 k32 k33]),
  Value.int IntKind.i64 n5]) ∧
  new w10
  (Obj.cells
  (Array.mk
  [Value.slice none 0 0, Value.slice none 0 0,
  Value.slice none 0 0, Value.int IntKind.i64 0,
  Value.slice none 0 0])
  27)
  fun (k34 : Nat) (w11 : World) =>
  stR w11 (Addr.mk k34 0 none)
  [Value.slice o10 k26 k27, Value.slice o11 k28 k29,
  Value.slice o12 k30 k31, Value.int IntKind.i64 n4,
  Value.slice o13 k32 k33]
  fun (w12 : World) =>
  br (n2 == 0)
  (br (n5 == 0)
  (br ((↑k16 : Int) == 2)
  (idx o5 k16 0 1 fun (a1 : Addr) =>
  ∃ (b1 : Bool),
  World.cell? w12 a1 = some (Value.bool b1) ∧
  br b1
  (idx o5 k16 1 1 fun (a2 : Addr) =>
  ∃ (b2 : Bool),
  World.cell? w12 a2 =
  some (Value.bool b2) ∧
  br (!b2)
  (∃ (o14 : Option Addr),
  ∃ (k35 : Nat),
  ∃ (k36 : Nat),
  World.cell? w12
  (Addr.add
  (Addr.mk k34 0 none)
  1) =
  some
  (Value.slice o14 k35
  k36) ∧
  br ((↑k35 : Int) == 2)
  (∃ (o15 : Option Addr),
  ∃ (k37 : Nat),
  ∃ (k38 : Nat),
  World.cell? w12
  (Addr.add
  (Addr.mk k34 0
  none)
  1) =
  some
  (Value.slice o15
  k37 k38) ∧
  idx o15 k37 1 1
  fun (a3 : Addr) =>
  ∃ (s1 :
  ByteArray),
  World.cell? w12
  a3 =
  some
  (Value.string
  s1) ∧
  br
  (ByteArray.toList
  s1 ==
  ByteArray.toList
  (ByteArray.mk
  (Array.mk
  [83])))
  (∃ (o16 :
  Option
  Addr),
  ∃ (k39 :
  Nat),
  ∃ (k40 :
  Nat),
  World.cell?
  w12
  (Addr.add
  (Addr.mk
  k34
  0
  none)
  4) =
  some
  (Value.slice
  o16
  k39
  k40) ∧
  br
  ((↑k39 :
  Int) ==
  2)
  (∃
  (n6
  :
  Int),
  World.cell?
  w12
  (Addr.add
  (Addr.mk
  k34
  0
  none)
  3) =
  some
  (Value.int
  IntKind.i64
  n6) ∧
  R
  (Value.bool
  (n6 ==
  3))
  w12)
  (R
  (Value.bool
  false)
  w12))
  (R
  (Value.bool
  false)
  w12))
  (R (Value.bool false) w12))
  (R (Value.bool false) w12))
  (R (Value.bool false) w12))
  (R (Value.bool false) w12))
  (R (Value.bool false) w12))
  (R (Value.bool false) w12)
set_option maxRecDepth 100000 in
theorem run_presagelaw06_awake  (w : World) (R : Value → World → Prop) (h : vc_presagelaw06_awake  w R) : Run Tryd.prog 34 [] w R :=
  run_ev tyOk fnOk mixed Tryd.func34 ann_presagelaw06_awake ((by kernel_rfl : fnV Tryd.prog Ty Fn Ev ann_presagelaw06_awake Tryd.f34 [] w R = vc_presagelaw06_awake  w R) ▸ h)

abbrev n_presagelaw06_bools : FuncId := 43
def ann_presagelaw06_bools : Ann := { rngs := [], loops := [(4, [(5, (.one (.int .i64)))])], joins := [], blocks := [] }
set_option maxRecDepth 100000 in
def vc_presagelaw06_bools (p0aa : Option Addr) (p0al : Nat) (p0ac : Nat) (p1ba : Option Addr) (p1bl : Nat) (p1bc : Nat) (w : World) (R : Value → World → Prop) : Prop :=
  br ((↑p0al : Int) != (↑p1bl : Int)) (R (Value.bool false) w)
  (∃ (x1 : arrS (shs [(5, S1.one (Cs.int IntKind.i64))]) (World → Prop)),
  ∃ (x2 : arrS (shs [(5, S1.one (Cs.int IntKind.i64))]) (World → Nat)),
  x1 0 w ∧
  ∀ (I1 : Nat → Value) (n1 : Int) (w1 : World),
  x1 n1 w1 →
  br (decide (n1 < (↑p0al : Int)))
  (∀ (w2 : World),
  drawn w1 w2 →
  ∃ (I2 : World → Prop),
  I2 w2 ∧
  idx p0aa p0al n1 1 fun (a1 : Addr) =>
  ∃ (b1 : Bool),
  (∀ (w3 : World), I2 w3 → World.cell? w3 a1 = some (Value.bool b1)) ∧
  idx p1ba p1bl n1 1 fun (a2 : Addr) =>
  ∃ (b2 : Bool),
  (∀ (w4 : World), I2 w4 → World.cell? w4 a2 = some (Value.bool b2)) ∧
  br (!b1 == b2) (R (Value.bool false) w2) (inI (n1 + 1) ∧ x1 (n1 + 1) w2 ∧ x2 (n1 + 1) w2 < x2 n1 w1))
  (R (Value.bool true) w1))
set_option maxRecDepth 100000 in
theorem run_presagelaw06_bools (p0aa : Option Addr) (p0al : Nat) (p0ac : Nat) (p1ba : Option Addr) (p1bl : Nat) (p1bc : Nat) (w : World) (R : Value → World → Prop) (h : vc_presagelaw06_bools p0aa p0al p0ac p1ba p1bl p1bc w R) : Run Tryd.prog 43 [(.slice p0aa p0al p0ac), (.slice p1ba p1bl p1bc)] w R :=
  run_ev tyOk fnOk mixed Tryd.func43 ann_presagelaw06_bools ((by kernel_rfl : fnV Tryd.prog Ty Fn Ev ann_presagelaw06_bools Tryd.f43 [(.slice p0aa p0al p0ac), (.slice p1ba p1bl p1bc)] w R = vc_presagelaw06_bools p0aa p0al p0ac p1ba p1bl p1bc w R) ▸ h)

abbrev n_presagelaw06_ReachMarks : FuncId := 11
def ann_presagelaw06_ReachMarks : Ann := { rngs := [], loops := [(9, [(12, (.one (.int .i64)))]), (13, [(13, (.one (.int .i64)))])], joins := [(7, [(57, (.one .bool))])], blocks := [] }
set_option maxRecDepth 100000 in
def vc_presagelaw06_ReachMarks (p0g_0a : Option Addr) (p0g_0l : Nat) (p0g_0c : Nat) (p0g_1a : Option Addr) (p0g_1l : Nat) (p0g_1c : Nat) (p0g_2a : Option Addr) (p0g_2l : Nat) (p0g_2c : Nat) (p0g_3 : Int) (p0g_4a : Option Addr) (p0g_4l : Nat) (p0g_4c : Nat) (w : World) (R : Value → World → Prop) : Prop :=
  new w
  (Obj.cells
  (Array.mk [Value.slice p0g_0a p0g_0l p0g_0c, Value.slice p0g_1a p0g_1l p0g_1c, Value.slice p0g_2a p0g_2l p0g_2c, Value.int IntKind.i64 p0g_3, Value.slice p0g_4a p0g_4l p0g_4c])
  27)
  fun (k1 : Nat) (w1 : World) =>
  ∃ (o1 : Option Addr),
  ∃ (k2 : Nat),
  ∃ (k3 : Nat),
  ∃ (o2 : Option Addr),
  ∃ (k4 : Nat),
  ∃ (k5 : Nat),
  ∃ (o3 : Option Addr),
  ∃ (k6 : Nat),
  ∃ (k7 : Nat),
  ∃ (n1 : Int),
  ∃ (o4 : Option Addr),
  ∃ (k8 : Nat),
  ∃ (k9 : Nat),
  V.rowAt w1 (Addr.mk k1 0 none) 0 5 =
  some [Value.slice o1 k2 k3, Value.slice o2 k4 k5, Value.slice o3 k6 k7, Value.int IntKind.i64 n1, Value.slice o4 k8 k9] ∧
  RunE Proofs.Tryd.prog Ev 14
  [Value.agg (Array.mk [Value.slice o1 k2 k3, Value.slice o2 k4 k5, Value.slice o3 k6 k7, Value.int IntKind.i64 n1, Value.slice o4 k8 k9])] w1
  fun (v1 : Value) (w2 : World) =>
  ∃ (o5 : Option Addr),
  ∃ (k10 : Nat),
  ∃ (k11 : Nat),
  ∃ (o6 : Option Addr),
  ∃ (k12 : Nat),
  ∃ (k13 : Nat),
  ∃ (o7 : Option Addr),
  ∃ (k14 : Nat),
  ∃ (k15 : Nat),
  ∃ (n2 : Int),
  ∃ (o8 : Option Addr),
  ∃ (k16 : Nat),
  ∃ (k17 : Nat),
  v1 =
  Value.agg
  (Array.mk
  [Value.slice o5 k10 k11, Value.slice o6 k12 k13, Value.slice o7 k14 k15, Value.int IntKind.i64 n2,
  Value.slice o8 k16 k17]) ∧
  new w2
  (Obj.cells
  (Array.mk
  [Value.slice none 0 0, Value.slice none 0 0, Value.slice none 0 0, Value.int IntKind.i64 0, Value.slice none 0 0])
  27)
  fun (k18 : Nat) (w3 : World) =>
  stR w3 (Addr.mk k18 0 none)
  [Value.slice o5 k10 k11, Value.slice o6 k12 k13, Value.slice o7 k14 k15, Value.int IntKind.i64 n2,
  Value.slice o8 k16 k17]
  fun (w4 : World) =>
  ∃ (o9 : Option Addr),
  ∃ (k19 : Nat),
  ∃ (k20 : Nat),
  ∃ (o10 : Option Addr),
  ∃ (k21 : Nat),
  ∃ (k22 : Nat),
  ∃ (o11 : Option Addr),
  ∃ (k23 : Nat),
  ∃ (k24 : Nat),
  ∃ (n3 : Int),
  ∃ (o12 : Option Addr),
  ∃ (k25 : Nat),
  ∃ (k26 : Nat),
  V.rowAt w4 (Addr.mk k18 0 none) 0 5 =
  some
  [Value.slice o9 k19 k20, Value.slice o10 k21 k22, Value.slice o11 k23 k24,
  Value.int IntKind.i64 n3, Value.slice o12 k25 k26] ∧
  RunE Proofs.Tryd.prog Ev 38
  [Value.agg
  (Array.mk
  [Value.slice o9 k19 k20, Value.slice o10 k21 k22, Value.slice o11 k23 k24,
  Value.int IntKind.i64 n3, Value.slice o12 k25 k26])]
  w4 fun (v2 : Value) (w5 : World) =>
  ∃ (o13 : Option Addr),
  ∃ (k27 : Nat),
  ∃ (k28 : Nat),
  ∃ (n4 : Int),
  v2 =
  Value.tuple
  (Array.mk [Value.slice o13 k27 k28, Value.int IntKind.i64 n4]) ∧
  ∃ (o14 : Option Addr),
  ∃ (k29 : Nat),
  ∃ (k30 : Nat),
  ∃ (o15 : Option Addr),
  ∃ (k31 : Nat),
  ∃ (k32 : Nat),
  ∃ (o16 : Option Addr),
  ∃ (k33 : Nat),
  ∃ (k34 : Nat),
  ∃ (n5 : Int),
  ∃ (o17 : Option Addr),
  ∃ (k35 : Nat),
  ∃ (k36 : Nat),
  V.rowAt w5 (Addr.mk k18 0 none) 0 5 =
  some
  [Value.slice o14 k29 k30,
  Value.slice o15 k31 k32,
  Value.slice o16 k33 k34,
  Value.int IntKind.i64 n5,
  Value.slice o17 k35 k36] ∧
  RunE Proofs.Tryd.prog Ev 40
  [Value.agg
  (Array.mk
  [Value.slice o14 k29 k30,
  Value.slice o15 k31 k32,
  Value.slice o16 k33 k34,
  Value.int IntKind.i64 n5,
  Value.slice o17 k35 k36])]
  w5 fun (v3 : Value) (w6 : World) =>
  ∃ (o18 : Option Addr),
  ∃ (k37 : Nat),
  ∃ (k38 : Nat),
  ∃ (n6 : Int),
  v3 =
  Value.tuple
  (Array.mk
  [Value.slice o18 k37 k38,
  Value.int IntKind.i64 n6]) ∧
  ∃ (o19 : Option Addr),
  ∃ (k39 : Nat),
  ∃ (k40 : Nat),
  ∃ (o20 : Option Addr),
  ∃ (k41 : Nat),
  ∃ (k42 : Nat),
  ∃ (o21 : Option Addr),
  ∃ (k43 : Nat),
  ∃ (k44 : Nat),
  ∃ (n7 : Int),
  ∃ (o22 :
  Option Addr),
  ∃ (k45 : Nat),
  ∃ (k46 :
  Nat),
  V.rowAt w6
  (Addr.mk
  k1
  0
  none)
  0
  5 =
  some
  [Value.slice
  o19
  k39
  k40,
  Value.slice
  o20
  k41
  k42,
  Value.slice
  o21
  k43
  k44,
  Value.int
  IntKind.i64
  n7,
  Value.slice
  o22
  k45
  k46] ∧
  RunE
  Proofs.Tryd.prog
  Ev 41
  [Value.agg
  (Array.mk
  [Value.slice
  o19
  k39
  k40,
  Value.slice
  o20
  k41
  k42,
  Value.slice
  o21
  k43
  k44,
  Value.int
  IntKind.i64
  n7,
  Value.slice
  o22
  k45
  k46])]
  w6
  fun
  (v4 :
  Value)
  (w7 :
  World) =>
  ∃ (o23
  :
  Option
  Addr),
  ∃
  (k47
  :
  Nat),
  ∃
  (k48
  :
  Nat),
  ∃
  (n8
  :
  Int),
  v4 =
  Value.tuple
  (Array.mk
  [Value.slice
  o23
  k47
  k48,
  Value.int
  IntKind.i64
  n8]) ∧
  ∃
  (o24
  :
  Option
  Addr),
  ∃
  (k49
  :
  Nat),
  ∃
  (k50
  :
  Nat),
  ∃
  (o25
  :
  Option
  Addr),
  ∃
  (k51
  :
  Nat),
  ∃
  (k52
  :
  Nat),
  ∃
  (o26
  :
  Option
  Addr),
  ∃
  (k53
  :
  Nat),
  ∃
  (k54
  :
  Nat),
  ∃
  (n9
  :
  Int),
  ∃
  (o27
  :
  Option
  Addr),
  ∃
  (k55
  :
  Nat),
  ∃
  (k56
  :
  Nat),
  V.rowAt
  w7
  (Addr.mk
  k1
  0
  none)
  0
  5 =
  some
  [Value.slice
  o24
  k49
  k50,
  Value.slice
  o25
  k51
  k52,
  Value.slice
  o26
  k53
  k54,
  Value.int
  IntKind.i64
  n9,
  Value.slice
  o27
  k55
  k56] ∧
  RunE
  Proofs.Tryd.prog
  Ev
  42
  [Value.agg
  (Array.mk
  [Value.slice
  o24
  k49
  k50,
  Value.slice
  o25
  k51
  k52,
  Value.slice
  o26
  k53
  k54,
  Value.int
  IntKind.i64
  n9,
  Value.slice
  o27
  k55
  k56])]
  w7
  fun
  (v5 :
  Value)
  (w8 :
  World) =>
  ∃
  (o28
  :
  Option
  Addr),
  ∃
  (k57
  :
  Nat),
  ∃
  (k58
  :
  Nat),
  ∃
  (n10
  :
  Int),
  v5 =
  Value.tuple
  (Array.mk
  [Value.slice
  o28
  k57
  k58,
  Value.int
  IntKind.i64
  n10]) ∧
  ∃
  (x1
  :
  arrS
  (shs
  [(57,
  S1.one
  Cs.bool)])
  (World →
  Prop)),
  br
  (n4 !=
  n8)
  (x1
  true
  w8)
  (br
  (n6 !=
  n10)
  (x1
  true
  w8)
  (RunE
  Proofs.Tryd.prog
  Ev
  43
  [Value.slice
  o13
  k27
  k28,
  Value.slice
  o23
  k47
  k48]
  w8
  fun
  (v6 :
  Value)
  (w9 :
  World) =>
  ∃
  (b1
  :
  Bool),
  v6 =
  Value.bool
  b1 ∧
  br
  (!b1)
  (x1
  true
  w9)
  (RunE
  Proofs.Tryd.prog
  Ev
  43
  [Value.slice
  o18
  k37
  k38,
  Value.slice
  o28
  k57
  k58]
  w9
  fun
  (v7 :
  Value)
  (w10 :
  World) =>
  ∃
  (b2
  :
  Bool),
  v7 =
  Value.bool
  b2 ∧
  x1
  (!b2)
  w10))) ∧
  ∀
  (I1 :
  Nat →
  Value)
  (b3 :
  Bool)
  (w11 :
  World),
  x1
  b3
  w11 →
  br
  b3
  (R
  (Value.bool
  false)
  w11)
  (∃
  (x2
  :
  arrS
  (shs
  [(12,
  S1.one
  (Cs.int
  IntKind.i64))])
  (World →
  Prop)),
  ∃
  (x3
  :
  arrS
  (shs
  [(12,
  S1.one
  (Cs.int
  IntKind.i64))])
  (World →
  Nat)),
  x2
  0
  w11 ∧
  ∀
  (I2 :
  Nat →
  Value)
  (n11 :
  Int)
  (w12 :
  World),
  x2
  n11
  w12 →
  br
  (decide
  (n11 <
  (↑k27 :
  Int)))
  (idx
  o13
  k27
  n11
  1
  fun
  (a1 :
  Addr) =>
  ∃
  (b4
  :
  Bool),
  World.cell?
  w12
  a1 =
  some
  (Value.bool
  b4) ∧
  idx
  o13
  k27
  n11
  1
  fun
  (a2 :
  Addr) =>
  st1
  w12
  a2
  (Value.bool
  !b4)
  fun
  (w13 :
  World) =>
  inI
  (n11 +
  1) ∧
  x2
  (n11 +
  1)
  w13 ∧
  x3
  (n11 +
  1)
  w13 <
  x3
  n11
  w12)
  (∃
  (x4
  :
  arrS
  (shs
  [(13,
  S1.one
  (Cs.int
  IntKind.i64))])
  (World →
  Prop)),
  ∃
  (x5
  :
  arrS
  (shs
  [(13,
  S1.one
  (Cs.int
  IntKind.i64))])
  (World →
  Nat)),
  x4
  0
  w12 ∧
  ∀
  (I3 :
  Nat →
  Value)
  (n12 :
  Int)
  (w14 :
  World),
  x4
  n12
  w14 →
  br
  (decide
  (n12 <
  (↑k37 :
  Int)))
  (idx
  o18
  k37
  n12
  1
  fun
  (a3 :
  Addr) =>
  ∃
  (b5
  :
  Bool),
  World.cell?
  w14
  a3 =
  some
  (Value.bool
  b5) ∧
  idx
  o18
  k37
  n12
  1
  fun
  (a4 :
  Addr) =>
  st1
  w14
  a4
  (Value.bool
  !b5)
  fun
  (w15 :
  World) =>
  inI
  (n12 +
  1) ∧
  x4
  (n12 +
  1)
  w15 ∧
  x5
  (n12 +
  1)
  w15 <
  x5
  n12
  w14)
  (∃
  (o29
  :
  Option
  Addr),
  ∃
  (k59
  :
  Nat),
  ∃
  (k60
  :
  Nat),
  ∃
  (o30
  :
  Option
  Addr),
  ∃
  (k61
  :
  Nat),
  ∃
  (k62
  :
  Nat),
  ∃
  (o31
  :
  Option
  Addr),
  ∃
  (k63
  :
  Nat),
  ∃
  (k64
  :
  Nat),
  ∃
  (n13
  :
  Int),
  ∃
  (o32
  :
  Option
  Addr),
  ∃
  (k65
  :
  Nat),
  ∃
  (k66
  :
  Nat),
  V.rowAt
  w14
  (Addr.mk
  k18
  0
  none)
  0
  5 =
  some
  [Value.slice
  o29
  k59
  k60,
  Value.slice
  o30
  k61
  k62,
  Value.slice
  o31
  k63
  k64,
  Value.int
  IntKind.i64
  n13,
  Value.slice
  o32
  k65
  k66] ∧
  RunE
  Proofs.Tryd.prog
  Ev
  38
  [Value.agg
  (Array.mk
  [Value.slice
  o29
  k59
  k60,
  Value.slice
  o30
  k61
  k62,
  Value.slice
  o31
  k63
  k64,
  Value.int
  IntKind.i64
  n13,
  Value.slice
  o32
  k65
  k66])]
  w14
  fun
  (v8 :
  Value)
  (w16 :
  World) =>
  ∃
  (o33
  :
  Option
  Addr),
  ∃
  (k67
  :
  Nat),
  ∃
  (k68
  :
  Nat),
  ∃
  (n14
  :
  Int),
  v8 =
  Value.tuple
  (Array.mk
  [Value.slice
  o33
  k67
  k68,
  Value.int
  IntKind.i64
  n14]) ∧
  ∃
  (o34
  :
  Option
  Addr),
  ∃
  (k69
  :
  Nat),
  ∃
  (k70
  :
  Nat),
  ∃
  (o35
  :
  Option
  Addr),
  ∃
  (k71
  :
  Nat),
  ∃
  (k72
  :
  Nat),
  ∃
  (o36
  :
  Option
  Addr),
  ∃
  (k73
  :
  Nat),
  ∃
  (k74
  :
  Nat),
  ∃
  (n15
  :
  Int),
  ∃
  (o37
  :
  Option
  Addr),
  ∃
  (k75
  :
  Nat),
  ∃
  (k76
  :
  Nat),
  V.rowAt
  w16
  (Addr.mk
  k18
  0
  none)
  0
  5 =
  some
  [Value.slice
  o34
  k69
  k70,
  Value.slice
  o35
  k71
  k72,
  Value.slice
  o36
  k73
  k74,
  Value.int
  IntKind.i64
  n15,
  Value.slice
  o37
  k75
  k76] ∧
  RunE
  Proofs.Tryd.prog
  Ev
  40
  [Value.agg
  (Array.mk
  [Value.slice
  o34
  k69
  k70,
  Value.slice
  o35
  k71
  k72,
  Value.slice
  o36
  k73
  k74,
  Value.int
  IntKind.i64
  n15,
  Value.slice
  o37
  k75
  k76])]
  w16
  fun
  (v9 :
  Value)
  (w17 :
  World) =>
  ∃
  (o38
  :
  Option
  Addr),
  ∃
  (k77
  :
  Nat),
  ∃
  (k78
  :
  Nat),
  ∃
  (n16
  :
  Int),
  v9 =
  Value.tuple
  (Array.mk
  [Value.slice
  o38
  k77
  k78,
  Value.int
  IntKind.i64
  n16]) ∧
  br
  (n14 ==
  n8)
  (br
  (n16 ==
  n10)
  (RunE
  Proofs.Tryd.prog
  Ev
  43
  [Value.slice
  o33
  k67
  k68,
  Value.slice
  o23
  k47
  k48]
  w17
  fun
  (v10 :
  Value)
  (w18 :
  World) =>
  ∃
  (b6
  :
  Bool),
  v10 =
  Value.bool
  b6 ∧
  br
  b6
  (RunE
  Proofs.Tryd.prog
  Ev
  43
  [Value.slice
  o38
  k77
  k78,
  Value.slice
  o28
  k57
  k58]
  w18
  fun
  (v11 :
  Value)
  (w19 :
  World) =>
  ∃
  (b7
  :
  Bool),
  v11 =
  Value.bool
  b7 ∧
  br
  b7
  (∃
  (o39
  :
  Option
  Addr),
  ∃
  (k79
  :
  Nat),
  ∃
  (k80
  :
  Nat),
  ∃
  (o40
  :
  Option
  Addr),
  ∃
  (k81
  :
  Nat),
  ∃
  (k82
  :
  Nat),
  ∃
  (o41
  :
  Option
  Addr),
  ∃
  (k83
  :
  Nat),
  ∃
  (k84
  :
  Nat),
  ∃
  (n17
  :
  Int),
  ∃
  (o42
  :
  Option
  Addr),
  ∃
  (k85
  :
  Nat),
  ∃
  (k86
  :
  Nat),
  V.rowAt
  w19
  (Addr.mk
  k18
  0
  none)
  0
  5 =
  some
  [Value.slice
  o39
  k79
  k80,
  Value.slice
  o40
  k81
  k82,
  Value.slice
  o41
  k83
  k84,
  Value.int
  IntKind.i64
  n17,
  Value.slice
  o42
  k85
  k86] ∧
  ∃
  (o43
  :
  Option
  Addr),
  ∃
  (k87
  :
  Nat),
  ∃
  (k88
  :
  Nat),
  ∃
  (o44
  :
  Option
  Addr),
  ∃
  (k89
  :
  Nat),
  ∃
  (k90
  :
  Nat),
  ∃
  (o45
  :
  Option
  Addr),
  ∃
  (k91
  :
  Nat),
  ∃
  (k92
  :
  Nat),
  ∃
  (n18
  :
  Int),
  ∃
  (o46
  :
  Option
  Addr),
  ∃
  (k93
  :
  Nat),
  ∃
  (k94
  :
  Nat),
  V.rowAt
  w19
  (Addr.mk
  k1
  0
  none)
  0
  5 =
  some
  [Value.slice
  o43
  k87
  k88,
  Value.slice
  o44
  k89
  k90,
  Value.slice
  o45
  k91
  k92,
  Value.int
  IntKind.i64
  n18,
  Value.slice
  o46
  k93
  k94] ∧
  RunE
  Proofs.Tryd.prog
  Ev
  26
  [Value.agg
  (Array.mk
  [Value.slice
  o39
  k79
  k80,
  Value.slice
  o40
  k81
  k82,
  Value.slice
  o41
  k83
  k84,
  Value.int
  IntKind.i64
  n17,
  Value.slice
  o42
  k85
  k86]),
  Value.agg
  (Array.mk
  [Value.slice
  o43
  k87
  k88,
  Value.slice
  o44
  k89
  k90,
  Value.slice
  o45
  k91
  k92,
  Value.int
  IntKind.i64
  n18,
  Value.slice
  o46
  k93
  k94])]
  w19
  fun
  (v12 :
  Value)
  (w20 :
  World) =>
  ∃
  (b8
  :
  Bool),
  v12 =
  Value.bool
  b8 ∧
  br
  b8
  (RunE
  Proofs.Tryd.prog
  Ev
  34
  []
  w20
  fun
  (v13 :
  Value)
  (w21 :
  World) =>
  ∃
  (b9
  :
  Bool),
  v13 =
  Value.bool
  b9 ∧
  R
  (Value.bool
  b9)
  w21)
  (R
  (Value.bool
  false)
  w20))
  (R
  (Value.bool
  false)
  w19))
  (R
  (Value.bool
  false)
  w18))
  (R
  (Value.bool
  false)
  w17))
  (R
  (Value.bool
  false)
  w17))))
set_option maxRecDepth 100000 in
theorem run_presagelaw06_ReachMarks (p0g_0a : Option Addr) (p0g_0l : Nat) (p0g_0c : Nat) (p0g_1a : Option Addr) (p0g_1l : Nat) (p0g_1c : Nat) (p0g_2a : Option Addr) (p0g_2l : Nat) (p0g_2c : Nat) (p0g_3 : Int) (p0g_4a : Option Addr) (p0g_4l : Nat) (p0g_4c : Nat) (w : World) (R : Value → World → Prop) (h : vc_presagelaw06_ReachMarks p0g_0a p0g_0l p0g_0c p0g_1a p0g_1l p0g_1c p0g_2a p0g_2l p0g_2c p0g_3 p0g_4a p0g_4l p0g_4c w R) : Run Tryd.prog 11 [(.agg #[(.slice p0g_0a p0g_0l p0g_0c), (.slice p0g_1a p0g_1l p0g_1c), (.slice p0g_2a p0g_2l p0g_2c), (.int .i64 p0g_3), (.slice p0g_4a p0g_4l p0g_4c)])] w R :=
  run_ev tyOk fnOk mixed Tryd.func11 ann_presagelaw06_ReachMarks ((by kernel_rfl : fnV Tryd.prog Ty Fn Ev ann_presagelaw06_ReachMarks Tryd.f11 [(.agg #[(.slice p0g_0a p0g_0l p0g_0c), (.slice p0g_1a p0g_1l p0g_1c), (.slice p0g_2a p0g_2l p0g_2c), (.int .i64 p0g_3), (.slice p0g_4a p0g_4l p0g_4c)])] w R = vc_presagelaw06_ReachMarks p0g_0a p0g_0l p0g_0c p0g_1a p0g_1l p0g_1c p0g_2a p0g_2l p0g_2c p0g_3 p0g_4a p0g_4l p0g_4c w R) ▸ h)

end Go.Proofs.YtaheggomcnbbiaaDoor
set_option linter.unusedVariables false
namespace Go.V
def PdRes (g : GramT) (e : Int) (nn : List Bool) : Prop := (¬ EitherP g ∧ e = 1 ∧ nn = []) ∨ (EitherP g ∧ e = 0 ∧ PnP g nn)
def UsRes (g : GramT) (e : Int) (nn : List Bool) : Prop := (¬ EitherP g ∧ e = 1 ∧ nn = []) ∨ (EitherP g ∧ e = 0 ∧ UnP g nn)
theorem PdRes.inj {g : GramT} {e e' : Int} {nn nn' : List Bool} (h : PdRes g e nn) (k : PdRes g e' nn') : e = e' ∧ nn = nn' := by
  rcases h with ⟨h1, rfl, rfl⟩ | ⟨h1, rfl, h2⟩ <;> rcases k with ⟨k1, rfl, rfl⟩ | ⟨k1, rfl, k2⟩
  · exact ⟨rfl, rfl⟩
  · exact absurd k1 h1
  · exact absurd h1 k1
  · exact ⟨rfl, h2.inj k2⟩
theorem UsRes.inj {g : GramT} {e e' : Int} {nn nn' : List Bool} (h : UsRes g e nn) (k : UsRes g e' nn') : e = e' ∧ nn = nn' := by
  rcases h with ⟨h1, rfl, rfl⟩ | ⟨h1, rfl, h2⟩ <;> rcases k with ⟨k1, rfl, rfl⟩ | ⟨k1, rfl, k2⟩
  · exact ⟨rfl, rfl⟩
  · exact absurd k1 h1
  · exact absurd h1 k1
  · exact ⟨rfl, h2.inj k2⟩
theorem PdRes.le {g : GramT} {e : Int} {nn : List Bool} (h : PdRes g e nn) : nn.length ≤ 65 := by
  rcases h with ⟨_, _, rfl⟩ | ⟨he, _, h1, h2⟩
  · simp
  · obtain ⟨iG, bT, bN, pN, pT, bP⟩ := inG he
    omega
theorem UsRes.le {g : GramT} {e : Int} {nn : List Bool} (h : UsRes g e nn) : nn.length ≤ 65 := by
  rcases h with ⟨_, _, rfl⟩ | ⟨he, _, h1, h2⟩
  · simp
  · obtain ⟨iG, bT, bN, pN, pT, bP⟩ := inG he
    omega
theorem own_cel {w : World} {L : List Asn} {k n : Nat} {nn : List Bool} (h : St w (cel k (bv nn) :: L)) (hl : nn.length = n) : St w (own 1 (some ⟨k, 0, none⟩) n n (bv nn) :: L) :=
  own_some (cs := []) (vs := bv nn) (by rw [List.append_nil]; exact h) (by rw [bv_len, hl, Nat.mul_one]) (by rw [List.append_nil, bv_len, hl, Nat.mul_one]) (Nat.le_refl _)
end Go.V
namespace Go.Proofs.YtaheggomcnbbiaaDoor
open Go.V
section
variable {w : World} {L : List Asn} {g : GramT} {x : GA} {a a2 : Option Addr} {l l2 c c2 : Nat} {bs : List Bool}
theorem l_bools (hx : rdS (hp w) bs a l) (hy : rdS (hp w) bs a2 l2) (hb : l ≤ 4611686018427387904) : Run Tryd.prog n_presagelaw06_bools [.slice a l c, .slice a2 l2 c2] w fun v w' => v = .bool true ∧ hp w' = hp w := by
  refine run_presagelaw06_bools _ _ _ _ _ _ w _ ?_
  have hl := hx.1
  have hl2 := hy.1
  refine br_intro (fun h0 => ?_) fun h0 => ?_
  · simp at h0; omega
  refine ⟨fun n w' => ∃ j : Nat, n = j ∧ j ≤ l ∧ hp w' = hp w, fun n _ => l - n.toNat, ⟨0, rfl, by omega, rfl⟩, ?_⟩
  rintro _ n w1 ⟨j, rfl, hj, e⟩
  refine br_intro (fun h1 => ?_) fun _ => ⟨rfl, e⟩
  have h1 : j < l := by have := of_decide_eq_true h1; omega
  intro w2 hd
  have e2 : hp w2 = hp w := (hp_drawn hd).trans e
  obtain ⟨u, ad, hu, hua, hu2⟩ := hx.get1 h1
  obtain ⟨v, ad2, hv, hva, hv2⟩ := hy.get1 (i := j) (by omega)
  rw [hu] at hv; cases hv
  refine ⟨fun w' => sub (hp w) (hp w'), hp_sub e2, idx_i hua h1 ⟨_, fun w s => hu2 _ s, idx_i hva (by omega) ⟨_, fun w s => hv2 _ s, br_intro (fun h => by simp at h) fun _ => ⟨⟨by omega, by omega⟩, ⟨j + 1, by simp, by omega, e2⟩, msr h1⟩⟩⟩⟩
set_option maxHeartbeats 1000000 in
theorem r_Productive2 (hg : gR (hp w) g x) (hb : okG g) (ht : tabA (hp w)) : Run Tryd.prog n_reach_Productive [.agg ⟨x.cells⟩] w fun v w' => ∃ (o : Option Addr) (n c : Nat) (e : Int) (nn : List Bool), v = .tuple #[.slice o n c, .int .i64 e] ∧ nn.length = n ∧ PdRes g e nn ∧ St w' (own 1 o n c (bv nn) :: all w) := by
  refine run_reach_Productive _ _ _ _ _ _ _ _ _ _ _ _ _ w _ ?_
  refine gbox hg fun k1 w1 gw hg B => ?_
  refine ⟨_, _, _, _, _, _, _, _, _, _, _, _, _, B.row (sub.refl _), (g_Valid (x := x) hg hb).mono ?_⟩
  rintro _ w2 ⟨⟨r1, rfl, e1⟩, g2⟩
  refine ⟨_, rfl, br_intro (fun h1 => ?_) fun h1 => ?_⟩
  · refine ⟨_, _, _, _, _, _, _, _, _, _, _, _, _, B.row g2, (g_Closed (x := x) (hg.mono g2) hb).mono ?_⟩
    rintro _ w2' ⟨⟨r2, rfl, e2⟩, g2'⟩
    have s2 : Gr w1 w2' := g2.trans g2'
    refine ⟨_, rfl, br_intro (fun h2 => ?_) fun h2 => ?_⟩
    · have hn : ¬ EitherP g := by
        rintro (h | h)
        · rw [e1.2 h] at h1; cases h1
        · rw [e2.2 h] at h2; cases h2
      exact ⟨_, _, _, _, [], rfl, rfl, .inl ⟨hn, rfl, rfl⟩, own_nil 1 (has_i (gw.trans s2))⟩
    have he : EitherP g := .inr (e2.1 (by simpa using h2))
    obtain ⟨iG, bT, bN, pN, pT, bP⟩ := inG he
    refine ⟨_, _, _, _, _, _, _, _, _, _, _, _, _, B.row s2, (r_productive (x := x) (hg.mono s2) hb he).mono ?_⟩
    rintro _ w4 ⟨pb, bs, rfl, hbs, h4⟩
    have g4 : Gr w2' w4 := h4.gone1
    refine ⟨_, _, rfl, (r_nons h4.setR hbs.1 bN bT (rdV.mono ((gw.trans s2).trans g4) ht)).mono ?_⟩
    rintro _ w5 ⟨k, rfl, h5⟩
    have h5 : St w5 (cel k (bv (bs.drop g.T)) :: all w) := h5.on1 (has_i ((gw.trans s2).trans g4))
    exact ⟨_, _, _, rfl, _, _, _, _, _, rfl, hbs.nons.1, .inr ⟨he, rfl, hbs.nons⟩, own_cel h5 hbs.nons.1⟩
  · have he : EitherP g := .inl (e1.1 (by simpa using h1))
    obtain ⟨iG, bT, bN, pN, pT, bP⟩ := inG he
    have s2 : Gr w1 w2 := g2
    refine ⟨_, _, _, _, _, _, _, _, _, _, _, _, _, B.row s2, (r_productive (x := x) (hg.mono s2) hb he).mono ?_⟩
    rintro _ w4 ⟨pb, bs, rfl, hbs, h4⟩
    have g4 : Gr w2 w4 := h4.gone1
    refine ⟨_, _, rfl, (r_nons h4.setR hbs.1 bN bT (rdV.mono ((gw.trans s2).trans g4) ht)).mono ?_⟩
    rintro _ w5 ⟨k, rfl, h5⟩
    have h5 : St w5 (cel k (bv (bs.drop g.T)) :: all w) := h5.on1 (has_i ((gw.trans s2).trans g4))
    exact ⟨_, _, _, rfl, _, _, _, _, _, rfl, hbs.nons.1, .inr ⟨he, rfl, hbs.nons⟩, own_cel h5 hbs.nons.1⟩
set_option maxHeartbeats 1000000 in
theorem r_Useful2 (hg : gR (hp w) g x) (hb : okG g) (ht : tabA (hp w)) : Run Tryd.prog n_reach_Useful [.agg ⟨x.cells⟩] w fun v w' => ∃ (o : Option Addr) (n c : Nat) (e : Int) (nn : List Bool), v = .tuple #[.slice o n c, .int .i64 e] ∧ nn.length = n ∧ UsRes g e nn ∧ St w' (own 1 o n c (bv nn) :: all w) := by
  refine run_reach_Useful _ _ _ _ _ _ _ _ _ _ _ _ _ w _ ?_
  refine gbox hg fun k1 w1 gw hg B => ?_
  refine ⟨_, _, _, _, _, _, _, _, _, _, _, _, _, B.row (sub.refl _), (g_Valid (x := x) hg hb).mono ?_⟩
  rintro _ w2 ⟨⟨r1, rfl, e1⟩, g2⟩
  refine ⟨_, rfl, br_intro (fun h1 => ?_) fun h1 => ?_⟩
  · refine ⟨_, _, _, _, _, _, _, _, _, _, _, _, _, B.row g2, (g_Closed (x := x) (hg.mono g2) hb).mono ?_⟩
    rintro _ w2' ⟨⟨r2, rfl, e2⟩, g2'⟩
    have s2 : Gr w1 w2' := g2.trans g2'
    refine ⟨_, rfl, br_intro (fun h2 => ?_) fun h2 => ?_⟩
    · have hn : ¬ EitherP g := by
        rintro (h | h)
        · rw [e1.2 h] at h1; cases h1
        · rw [e2.2 h] at h2; cases h2
      exact ⟨_, _, _, _, [], rfl, rfl, .inl ⟨hn, rfl, rfl⟩, own_nil 1 (has_i (gw.trans s2))⟩
    have he : EitherP g := .inr (e2.1 (by simpa using h2))
    obtain ⟨iG, bT, bN, pN, pT, bP⟩ := inG he
    intro w3 hd
    have g3 : Gr w2' w3 := Gr.drawn hd
    have s3 : Gr w1 w3 := s2.trans g3
    have gw3 : Gr w w3 := gw.trans s3
    refine ⟨fun w => Gr w3 w, Gr.refl _, _, _, _, _, _, _, _, _, _, _, _, _, _, fun w s => B.row (s3.trans s), _, _, _, _, _, _, _, _, _, _, _, _, _, fun w s => B.row (s3.trans s), (r_productive (x := x) (hg.mono s3) hb he).mono ?_⟩
    rintro _ w4 ⟨pb, bs, rfl, hbs, h4⟩
    have g4 : Gr w3 w4 := h4.gone1
    refine ⟨_, _, rfl, g4, (r_useful (x := x) (hg.mono (s3.trans g4)) hb he h4.setR hbs).mono ?_⟩
    rintro _ w5 ⟨pb2, cs, rfl, hcs, h5⟩
    have g5 : Gr w3 w5 := g4.trans h5.gone1
    refine ⟨_, _, rfl, g5, (r_nons h5.setR hcs.1 bN bT (rdV.mono (gw3.trans g5) ht)).mono ?_⟩
    rintro _ w6 ⟨k, rfl, h6⟩
    have g6 : Gr w3 w6 := g5.trans h6.gone1
    have h6 : St w6 (cel k (bv (cs.drop g.T)) :: all w) := h6.on1 (has_i (gw3.trans g5))
    exact ⟨_, _, _, rfl, g6, _, _, _, _, _, rfl, hcs.nons.1, .inr ⟨he, rfl, hcs.nons⟩, own_cel h6 hcs.nons.1⟩
  · have he : EitherP g := .inl (e1.1 (by simpa using h1))
    obtain ⟨iG, bT, bN, pN, pT, bP⟩ := inG he
    have s2 : Gr w1 w2 := g2
    intro w3 hd
    have g3 : Gr w2 w3 := Gr.drawn hd
    have s3 : Gr w1 w3 := s2.trans g3
    have gw3 : Gr w w3 := gw.trans s3
    refine ⟨fun w => Gr w3 w, Gr.refl _, _, _, _, _, _, _, _, _, _, _, _, _, _, fun w s => B.row (s3.trans s), _, _, _, _, _, _, _, _, _, _, _, _, _, fun w s => B.row (s3.trans s), (r_productive (x := x) (hg.mono s3) hb he).mono ?_⟩
    rintro _ w4 ⟨pb, bs, rfl, hbs, h4⟩
    have g4 : Gr w3 w4 := h4.gone1
    refine ⟨_, _, rfl, g4, (r_useful (x := x) (hg.mono (s3.trans g4)) hb he h4.setR hbs).mono ?_⟩
    rintro _ w5 ⟨pb2, cs, rfl, hcs, h5⟩
    have g5 : Gr w3 w5 := g4.trans h5.gone1
    refine ⟨_, _, rfl, g5, (r_nons h5.setR hcs.1 bN bT (rdV.mono (gw3.trans g5) ht)).mono ?_⟩
    rintro _ w6 ⟨k, rfl, h6⟩
    have g6 : Gr w3 w6 := g5.trans h6.gone1
    have h6 : St w6 (cel k (bv (cs.drop g.T)) :: all w) := h6.on1 (has_i (gw3.trans g5))
    exact ⟨_, _, _, rfl, g6, _, _, _, _, _, rfl, hcs.nons.1, .inr ⟨he, rfl, hcs.nons⟩, own_cel h6 hcs.nons.1⟩
theorem d_Productive2 (hg : gR (hp w) g x) (hb : okG g) : Run Tryd.prog n_presageref06_Productive [.agg ⟨x.cells⟩] w fun v w' => ∃ (o : Option Addr) (n c : Nat) (e : Int) (nn : List Bool), v = .tuple #[.slice o n c, .int .i64 e] ∧ nn.length = n ∧ PdRes g e nn ∧ St w' (own 1 o n c (bv nn) :: all w) := by
  refine run_presageref06_Productive _ _ _ _ _ _ _ _ _ _ _ _ _ w _ ?_
  refine gbox hg fun k1 w1 gw hg B => ?_
  refine ⟨_, _, _, _, _, _, _, _, _, _, _, _, _, B.row (sub.refl _), (d_Valid (x := x) hg hb).mono ?_⟩
  rintro _ w2 ⟨⟨r1, rfl, e1⟩, g2⟩
  refine ⟨_, rfl, br_intro (fun h1 => ?_) fun h1 => ?_⟩
  · refine ⟨_, _, _, _, _, _, _, _, _, _, _, _, _, B.row g2, (d_Closed (x := x) (hg.mono g2) hb).mono ?_⟩
    rintro _ w2' ⟨⟨r2, rfl, e2⟩, g2'⟩
    have s2 : Gr w1 w2' := g2.trans g2'
    refine ⟨_, rfl, br_intro (fun h2 => ?_) fun h2 => ?_⟩
    · have hn : ¬ EitherP g := by
        rintro (h | h)
        · rw [e1.2 h] at h1; cases h1
        · rw [e2.2 h] at h2; cases h2
      exact ⟨_, _, _, _, [], rfl, rfl, .inl ⟨hn, rfl, rfl⟩, own_nil 1 (has_i (gw.trans s2))⟩
    have he : EitherP g := .inr (e2.1 (by simpa using h2))
    refine ⟨_, _, _, _, _, _, _, _, _, _, _, _, _, B.row s2, (d_Marks (x := x) (hg.mono s2) hb he).mono ?_⟩
    rintro _ w4 ⟨k, nn, rfl, hn, h⟩
    exact ⟨_, _, _, rfl, _, _, _, _, nn, rfl, hn.1, .inr ⟨he, rfl, hn⟩, own_cel (h.on1 (has_i (gw.trans s2))) hn.1⟩
  · have he : EitherP g := .inl (e1.1 (by simpa using h1))
    have s2 : Gr w1 w2 := g2
    refine ⟨_, _, _, _, _, _, _, _, _, _, _, _, _, B.row s2, (d_Marks (x := x) (hg.mono s2) hb he).mono ?_⟩
    rintro _ w4 ⟨k, nn, rfl, hn, h⟩
    exact ⟨_, _, _, rfl, _, _, _, _, nn, rfl, hn.1, .inr ⟨he, rfl, hn⟩, own_cel (h.on1 (has_i (gw.trans s2))) hn.1⟩
theorem d_Useful2 (hg : gR (hp w) g x) (hb : okG g) : Run Tryd.prog n_presageref06_Useful [.agg ⟨x.cells⟩] w fun v w' => ∃ (o : Option Addr) (n c : Nat) (e : Int) (nn : List Bool), v = .tuple #[.slice o n c, .int .i64 e] ∧ nn.length = n ∧ UsRes g e nn ∧ St w' (own 1 o n c (bv nn) :: all w) := by
  refine run_presageref06_Useful _ _ _ _ _ _ _ _ _ _ _ _ _ w _ ?_
  refine gbox hg fun k1 w1 gw hg B => ?_
  refine ⟨_, _, _, _, _, _, _, _, _, _, _, _, _, B.row (sub.refl _), (d_Valid (x := x) hg hb).mono ?_⟩
  rintro _ w2 ⟨⟨r1, rfl, e1⟩, g2⟩
  refine ⟨_, rfl, br_intro (fun h1 => ?_) fun h1 => ?_⟩
  · refine ⟨_, _, _, _, _, _, _, _, _, _, _, _, _, B.row g2, (d_Closed (x := x) (hg.mono g2) hb).mono ?_⟩
    rintro _ w2' ⟨⟨r2, rfl, e2⟩, g2'⟩
    have s2 : Gr w1 w2' := g2.trans g2'
    refine ⟨_, rfl, br_intro (fun h2 => ?_) fun h2 => ?_⟩
    · have hn : ¬ EitherP g := by
        rintro (h | h)
        · rw [e1.2 h] at h1; cases h1
        · rw [e2.2 h] at h2; cases h2
      exact ⟨_, _, _, _, [], rfl, rfl, .inl ⟨hn, rfl, rfl⟩, own_nil 1 (has_i (gw.trans s2))⟩
    have he : EitherP g := .inr (e2.1 (by simpa using h2))
    refine ⟨_, _, _, _, _, _, _, _, _, _, _, _, _, B.row s2, (d_Used (x := x) (hg.mono s2) hb he).mono ?_⟩
    rintro _ w4 ⟨k, nn, rfl, hn, h⟩
    exact ⟨_, _, _, rfl, _, _, _, _, nn, rfl, hn.1, .inr ⟨he, rfl, hn⟩, own_cel (h.on1 (has_i (gw.trans s2))) hn.1⟩
  · have he : EitherP g := .inl (e1.1 (by simpa using h1))
    have s2 : Gr w1 w2 := g2
    refine ⟨_, _, _, _, _, _, _, _, _, _, _, _, _, B.row s2, (d_Used (x := x) (hg.mono s2) hb he).mono ?_⟩
    rintro _ w4 ⟨k, nn, rfl, hn, h⟩
    exact ⟨_, _, _, rfl, _, _, _, _, nn, rfl, hn.1, .inr ⟨he, rfl, hn⟩, own_cel (h.on1 (has_i (gw.trans s2))) hn.1⟩
end
end Go.Proofs.YtaheggomcnbbiaaDoor
set_option linter.unusedVariables false
namespace Go.V
def exG : GramT := ⟨[⟨⟨⟨[]⟩⟩, 0⟩, ⟨by1 97, 0⟩], [by1 83, by1 88], [], 2, [⟨2, [1], 0⟩, ⟨2, [3], 0⟩, ⟨3, [3, 1], 0⟩]⟩
theorem ex_valid : ValidP exG := by
  refine ⟨⟨rfl, by decide, by decide, by decide, by decide, ?_, ?_, ?_, ?_, ?_⟩, ⟨by decide, by decide, ?_, by decide, by decide, by decide⟩, ?_⟩
  · decide
  · intro i v h; simp [exG] at h
  · decide
  · decide
  · decide
  · intro p hp
    simp only [List.drop_zero, exG, List.mem_cons, List.not_mem_nil, or_false] at hp
    unfold prodOk symOk
    rcases hp with rfl | rfl | rfl <;> refine ⟨by decide, ?_⟩ <;> intro s hs <;> simp at hs
    · subst hs; decide
    · subst hs; decide
    · rcases hs with rfl | rfl <;> decide
  · intro i x y hx hy
    have e : leftsG exG 0 = [2, 3] := by decide
    rw [e] at hx hy
    match i, hx, hy with
    | 0, hx, hy => cases hx; cases hy; decide
    | 1, _, hy => cases hy
    | i + 2, hx, _ => cases hx
theorem ex_in : InG exG := (inG (.inl ex_valid)).1
theorem ex_no : ∀ s, Pd exG s → s ≠ 3 := fun s h => by
  induction h with
  | tm t h => have : t < 2 := h; omega
  | mk p hp _ ih =>
    simp only [exG, List.mem_cons, List.not_mem_nil, or_false] at hp
    rcases hp with rfl | rfl | rfl
    · decide
    · decide
    · exact absurd rfl (ih 3 (by simp))
theorem ex_p2 : Pd exG 2 := .mk ⟨2, [1], 0⟩ (by simp [exG]) fun s hs => by
  simp at hs; subst hs; exact .tm 1 (by decide)
theorem ex_u : ∀ s, Us exG s → s ≠ 3 := fun s h => by
  cases h with
  | start _ => decide
  | zero _ _ => decide
  | pr p s hp _ hr hs => exact ex_no s (hr s hs)
theorem ex_pn : PnP exG [true, false] := ⟨rfl, fun i => by
  match i with
  | 0 => exact ⟨fun _ => ex_p2, fun _ => rfl⟩
  | 1 => exact ⟨fun h => absurd h (by decide), fun h => absurd rfl (ex_no _ h)⟩
  | i + 2 =>
    refine ⟨fun h => (by rw [fnB_out (by simp)] at h; exact absurd h (by decide)), fun h => ?_⟩
    have := (h.in ex_in).2
    have e : (exG.T : Int) + exG.N = 4 := rfl
    rw [e] at this
    have e2 : exG.T = 2 := rfl
    rw [e2] at this; omega⟩
theorem ex_un : UnP exG [true, false] := ⟨rfl, fun i => by
  match i with
  | 0 => exact ⟨fun _ => .start ex_p2, fun _ => rfl⟩
  | 1 => exact ⟨fun h => absurd h (by decide), fun h => absurd rfl (ex_u _ h)⟩
  | i + 2 =>
    refine ⟨fun h => (by rw [fnB_out (by simp)] at h; exact absurd h (by decide)), fun h => ?_⟩
    have := (h.in (.inl ex_valid)).2
    have e : (exG.T : Int) + exG.N = 4 := rfl
    rw [e] at this
    have e2 : exG.T = 2 := rfl
    rw [e2] at this; omega⟩
theorem ex_ok : okG exG := by
  refine ⟨by decide, by decide, by decide, by decide, ?_, by decide, by decide⟩
  intro t ht
  simp only [exG, List.mem_cons, List.not_mem_nil, or_false] at ht
  unfold anyI
  rcases ht with rfl | rfl <;> decide
def exR : GramT := ⟨[⟨⟨⟨[]⟩⟩, 0⟩, ⟨by1 97, 0⟩], [.empty, by1 83], [], 3, [⟨2, [3], 0⟩, ⟨3, [1], 0⟩]⟩
theorem ex_red : redG exG [true, false] [true, false] = exR := by rfl
end Go.V
namespace Go.Proofs.YtaheggomcnbbiaaDoor
open Go.V
section
variable {w : World} {L : List Asn} {g : GramT} {x : GA}
set_option maxHeartbeats 2000000 in
theorem l_awake6 (ht : tabA (hp w)) : Run Tryd.prog n_presagelaw06_awake [] w fun v w' => v = .bool true ∧ Gr w w' := by
  refine run_presagelaw06_awake w _ ?_
  refine newC_i (St.all w) fun k1 w1 h => newC_i h fun k2 w2 h => newC_i h fun k3 w3 h => newC_i h fun k4 w4 h => newC_i h fun k5 w5 h => newC_i h fun k6 w6 h => newC_i h fun k7 w7 h => stR_i h rfl (by intro v hv; simp at hv; rcases hv with rfl | rfl | rfl | rfl | rfl <;> rfl) fun w8 h => ?_
  have r7 : rowH (hp w8) ⟨k7, 0, none⟩ _ := rdCel 0 h.l
  have r6 : rowH (hp w8) ⟨k6, 0, none⟩ _ := rdCel 1 h.l
  have r5 : rowH (hp w8) ⟨k5, 0, none⟩ _ := rdCel 2 h.l
  have r4 : rowH (hp w8) ⟨k4, 0, none⟩ _ := rdCel 3 h.l
  have r3 : rowH (hp w8) ⟨k3, 0, none⟩ _ := rdCel 4 h.l
  have r2 : rowH (hp w8) ⟨k2, 0, none⟩ _ := rdCel 5 h.l
  have r1 : rowH (hp w8) ⟨k1, 0, none⟩ _ := rdCel 6 h.l
  have g8 : sub (hp w) (hp w8) := rdH 7 h.l
  have p3 : rdS (hp w8) ([1] : List Int) (some ⟨k3, 0, none⟩) 1 := rdI_of rfl (.inr ⟨_, rfl, r3⟩)
  have p4 : rdS (hp w8) ([3] : List Int) (some ⟨k4, 0, none⟩) 1 := rdI_of rfl (.inr ⟨_, rfl, r4⟩)
  have p5 : rdS (hp w8) ([3, 1] : List Int) (some ⟨k5, 0, none⟩) 2 := rdI_of rfl (.inr ⟨_, rfl, r5⟩)
  have p0 : rdS (hp w8) ([] : List Int) none 0 := rdI_of rfl (.inl rfl)
  obtain ⟨x, hx⟩ : ∃ x : GA, x = ⟨some ⟨k1, 0, none⟩, 2, 2, some ⟨k2, 0, none⟩, 2, 2, none, 0, 0, 2, some ⟨k6, 0, none⟩, 3, 3⟩ := ⟨_, rfl⟩
  have hg : gR (hp w8) exG x := by
    rw [hx]
    refine ⟨?_, ?_, ?_, rfl, ?_, Nat.le_refl _, Nat.le_refl _, Nat.le_refl _, Nat.le_refl _⟩
    · refine rdS_lit (xs := exG.terms) r1 fun i t hi => ?_
      match i, hi with
      | 0, hi => cases hi; rfl
      | 1, hi => cases hi; rfl
      | i + 2, hi => cases hi
    · exact rdS_of_row (xs := exG.nons) rfl (.inr ⟨_, rfl, r2⟩)
    · exact p0
    · refine rdS_lit (xs := exG.prods) r6 fun i t hi => ?_
      match i, hi with
      | 0, hi => cases hi; exact ⟨_, _, _, rfl, Nat.le_refl _, p3⟩
      | 1, hi => cases hi; exact ⟨_, _, _, rfl, Nat.le_refl _, p4⟩
      | 2, hi => cases hi; exact ⟨_, _, _, rfl, Nat.le_refl _, p5⟩
      | i + 3, hi => cases hi
  have B : GB (hp w8) k7 x := by rw [hx]; exact gb_of r7
  have ht8 : tabA (hp w8) := rdV.mono g8 ht
  clear h
  refine ⟨_, _, _, _, _, _, _, _, _, _, _, _, _, B.row (sub.refl _), (r_Productive2 (x := x) hg ex_ok ht8).mono ?_⟩
  rintro _ w9 ⟨o9, n9, c9, e9, nn, rfl, hnl, hn, h9⟩
  rcases hn with ⟨hn, _⟩ | ⟨_, rfl, hn⟩
  · exact absurd (.inl ex_valid) hn
  have := hn.inj ex_pn
  subst this
  have hnl : 2 = n9 := hnl
  subst hnl
  have g9 : Gr w8 w9 := h9.gone1
  have r9 : rdS (hp w9) [true, false] o9 2 := rdB_of rfl (rdOwn 0 h9.l)
  refine ⟨_, _, _, _, rfl, _, _, _, _, _, _, _, _, _, _, _, _, _, B.row g9, (r_Reduce (x := x) (hg.mono g9) ex_ok (rdV.mono g9 ht8)).mono ?_⟩
  rintro _ w10 ⟨y, G, os, e, rfl, hy, hos, hR, h10⟩
  rcases hR with ⟨hn, _⟩ | ⟨_, hn, _⟩ | ⟨_, _, rfl, pds, uns, h1, h2, rfl⟩
  · exact absurd ex_valid hn
  · exact absurd ex_p2 hn
  rw [h1.inj ex_pn, h2.inj ex_un, ex_red] at hy h10 hos
  have gR10 := ownG_gR hy hos h10
  have g10 : Gr w9 w10 := rdH 5 h10.l
  obtain ⟨q1, q2, q3, q4, q5⟩ := hy
  refine ⟨_, _, _, _, _, _, _, _, _, _, _, _, _, _, rfl, newC_i (St.all w10) fun k34 w11 h11 => stR_i h11 rfl (by intro v hv; simp at hv; rcases hv with rfl | rfl | rfl | rfl | rfl <;> rfl) fun w12 h12 => ?_⟩
  have C : GB (hp w12) k34 y := gb_of h12.row
  have g12 : Gr w10 w12 := h12.gone1
  have gall : Gr w w12 := (g8.trans g9).trans (g10.trans g12)
  obtain ⟨a0, ad0, u0, v0, w0⟩ := r9.get1 (i := 0) (by decide)
  obtain ⟨a1, ad1, u1, v1, w1'⟩ := r9.get1 (i := 1) (by decide)
  cases u0; cases u1
  have s9 : sub (hp w9) (hp w12) := g10.trans g12
  have yn : y.nl = 2 := q2
  have yp : y.pl = 2 := q5
  obtain ⟨s, ads, us, vs, ws⟩ := gR10.n.get1 (i := 1) (by omega)
  cases us
  refine br_intro (fun _ => br_intro (fun _ => br_intro (fun _ => idx_0 v0 (by decide) ⟨_, w0 _ s9, br_intro (fun _ => ?_) fun h => absurd h (by decide)⟩) fun h => absurd h (by decide)) fun h => absurd h (by decide)) fun h => absurd h (by decide)
  show idx _ _ ((1 : Nat) : Int) 1 _
  refine idx_i v1 (by decide) ⟨_, w1' _ s9, br_intro (fun _ => ⟨_, _, _, C.c1 (sub.refl _), br_intro (fun _ => ⟨_, _, _, C.c1 (sub.refl _), ?_⟩) fun h => ?_⟩) fun h => absurd h (by decide)⟩
  · show idx _ _ ((1 : Nat) : Int) 1 _
    refine idx_i vs (by omega) ⟨_, ws _ g12, br_intro (fun _ => ⟨_, _, _, C.c4 (sub.refl _), br_intro (fun _ => ⟨_, C.c3 (sub.refl _), ?_, gall⟩) fun h => ?_⟩) fun h => ?_⟩
    · rw [q4]; rfl
    · rw [yp] at h; exact absurd h (by decide)
    · rw [bs_eq] at h; exact absurd (show by1 83 = ⟨⟨[83]⟩⟩ from rfl) (of_decide_eq_false h)
  · rw [yn] at h; exact absurd h (by decide)
set_option maxHeartbeats 4000000 in
theorem l_ReachMarks (hg : gR (hp w) g x) (hb : okG g) (hbT : g.terms.length * 24 ≤ 140737488355328) (hbN : g.nons.length * 16 ≤ 140737488355328) (ht : tabA (hp w)) : Run Tryd.prog n_presagelaw06_ReachMarks [.agg ⟨x.cells⟩] w fun v w' => v = .bool true ∧ Gr w w' := by
  refine run_presagelaw06_ReachMarks _ _ _ _ _ _ _ _ _ _ _ _ _ w _ ?_
  refine gbox hg fun k1 w1 gw hg B => ?_
  refine ⟨_, _, _, _, _, _, _, _, _, _, _, _, _, B.row (sub.refl _), (d_Copy (x := x) hg hb hbT hbN).mono ?_⟩
  rintro _ w2 ⟨y, os, rfl, hy, hos, h2⟩
  have hk2 : gR (hp w2) g y := ownG_gR hy hos h2
  have g2 : Gr w1 w2 := rdH 5 h2.l
  refine ⟨_, _, _, _, _, _, _, _, _, _, _, _, _, rfl, newC_i (St.all w2) fun k18 w3 h3 => stR_i h3 rfl (by intro v hv; simp at hv; rcases hv with rfl | rfl | rfl | rfl | rfl <;> rfl) fun w4 h4 => ?_⟩
  have C : GB (hp w4) k18 y := gb_of h4.row
  have g4 : Gr w2 w4 := h4.gone1
  have s4 : Gr w1 w4 := g2.trans g4
  have hk : gR (hp w4) g y := hk2.mono g4
  have hg4 : gR (hp w4) g x := hg.mono s4
  have gw4 : Gr w w4 := gw.trans s4
  have ht4 : tabA (hp w4) := rdV.mono gw4 ht
  have B4 : ∀ {w : World}, sub (hp w4) (hp w) → V.rowAt w ⟨k1, 0, none⟩ 0 5 = some x.cells := fun s => B.row (sub.trans s4 s)
  clear h2 h3 h4
  have hH := St.all w4
  unfold V.all at hH
  refine ⟨_, _, _, _, _, _, _, _, _, _, _, _, _, C.row (sub.refl _), (r_Productive2 (x := y) hk hb ht4).mono ?_⟩
  rintro _ w5 ⟨oa, na, ca, ea, nn, rfl, hnl, rN, h⟩
  unfold V.all at h
  refine ⟨_, _, _, _, rfl, _, _, _, _, _, _, _, _, _, _, _, _, _, C.row (rdH 1 h.l), (r_Useful2 (x := y) (hk.mono (rdH 1 h.l)) hb (rdV.mono (rdH 1 h.l) ht4)).mono ?_⟩
  rintro _ w6 ⟨ob, nb, cb, eb, mm, rfl, hml, rM, h6⟩
  have h : St w6 [own 1 ob nb cb (bv mm), own 1 oa na ca (bv nn), has (hp w4)] := St.on (N := [_]) h6 h.l
  refine ⟨_, _, _, _, rfl, _, _, _, _, _, _, _, _, _, _, _, _, _, B4 (rdH 2 h.l), (d_Productive2 (x := x) (hg4.mono (rdH 2 h.l)) hb).mono ?_⟩
  rintro _ w7 ⟨oc, nc, cc, ec, nn', rfl, hcl, rN', h7⟩
  obtain ⟨rfl, rfl⟩ := rN.inj rN'
  have h : St w7 [own 1 oc nc cc (bv nn), own 1 ob nb cb (bv mm), own 1 oa na ca (bv nn), has (hp w4)] := St.on (N := [_]) h7 h.l
  refine ⟨_, _, _, _, rfl, _, _, _, _, _, _, _, _, _, _, _, _, _, B4 (rdH 3 h.l), (d_Useful2 (x := x) (hg4.mono (rdH 3 h.l)) hb).mono ?_⟩
  rintro _ w8 ⟨od, nd, cd, ed, mm', rfl, hdl, rM', h8⟩
  obtain ⟨rfl, rfl⟩ := rM.inj rM'
  have h : St w8 [own 1 od nd cd (bv mm), own 1 oc nc cc (bv nn), own 1 ob nb cb (bv mm), own 1 oa na ca (bv nn), has (hp w4)] := St.on (N := [_]) h8 h.l
  have nle := rN.le
  have mle := rM.le
  refine ⟨_, _, _, _, rfl, fun b w' => b = false ∧ hp w' = hp w8, br_intro (fun h => by simp at h) fun _ => br_intro (fun h => by simp at h) fun _ => ?_, ?_⟩
  · refine (l_bools (bs := nn) (rdB_of hnl (rdOwn 3 h.l)) (rdB_of hcl (rdOwn 1 h.l)) (by omega)).mono ?_
    rintro _ w9 ⟨rfl, e9⟩
    refine ⟨_, rfl, br_intro (fun h => absurd h (by decide)) fun _ => ?_⟩
    refine (l_bools (bs := mm) (rdB_of hml (e9 ▸ rdOwn 2 h.l)) (rdB_of hdl (e9 ▸ rdOwn 0 h.l)) (by omega)).mono ?_
    rintro _ w10 ⟨rfl, e10⟩
    exact ⟨_, rfl, rfl, e10.trans e9⟩
  rintro _ _ w11 ⟨rfl, e11⟩
  have h := h.eq e11
  refine br_intro (fun h => absurd h (by decide)) fun _ => ?_
  refine ⟨fun n w' => ∃ (t : Nat) (us : List Bool), n = t ∧ t ≤ na ∧ us.length = na ∧ St w' [own 1 od nd cd (bv mm), own 1 oc nc cc (bv nn), own 1 ob nb cb (bv mm), own 1 oa na ca (bv us), has (hp w4)], fun n _ => na - n.toNat, ⟨0, nn, rfl, by omega, hnl, h⟩, ?_⟩
  clear h
  rintro _ n w12 ⟨t, us, rfl, ht', hul, h⟩
  refine br_intro (fun h1 => ?_) fun _ => ?_
  · have h1 : t < na := by have := of_decide_eq_true h1; omega
    have h := h.pick 5 [3, 0, 1, 2, 4]
    obtain ⟨ad, had, hcell⟩ := own_cell h (bv_get (ms := us) (u := t) (by omega))
    refine idx_i had h1 ⟨_, hcell, idx_i had h1 (own_st1 h had (by rw [bv_len]; omega) fun w13 h => ⟨⟨by omega, by omega⟩, ⟨t + 1, us.set t (!fnB us t), by simp, by omega, by rw [List.length_set]; exact hul, ?_⟩, msr h1⟩)⟩
    rw [bv_setL] at h
    exact h.pick 5 [1, 2, 3, 0, 4]
  have h : St w12 [own 1 od nd cd (bv mm), own 1 oc nc cc (bv nn), own 1 ob nb cb (bv mm), has (hp w4)] := h.pick 5 [0, 1, 2, 4]
  refine ⟨fun n w' => ∃ (t : Nat) (us : List Bool), n = t ∧ t ≤ nb ∧ us.length = nb ∧ St w' [own 1 od nd cd (bv mm), own 1 oc nc cc (bv nn), own 1 ob nb cb (bv us), has (hp w4)], fun n _ => nb - n.toNat, ⟨0, mm, rfl, by omega, hml, h⟩, ?_⟩
  rintro _ n w14 ⟨t, us, rfl, ht', hul, h⟩
  refine br_intro (fun h1 => ?_) fun _ => ?_
  · have h1 : t < nb := by have := of_decide_eq_true h1; omega
    have h := h.pick 4 [2, 0, 1, 3]
    obtain ⟨ad, had, hcell⟩ := own_cell h (bv_get (ms := us) (u := t) (by omega))
    refine idx_i had h1 ⟨_, hcell, idx_i had h1 (own_st1 h had (by rw [bv_len]; omega) fun w13 h => ⟨⟨by omega, by omega⟩, ⟨t + 1, us.set t (!fnB us t), by simp, by omega, by rw [List.length_set]; exact hul, ?_⟩, msr h1⟩)⟩
    rw [bv_setL] at h
    exact h.pick 4 [1, 2, 0, 3]
  have h : St w14 [own 1 od nd cd (bv mm), own 1 oc nc cc (bv nn), has (hp w4)] := h.pick 4 [0, 1, 3]
  refine ⟨_, _, _, _, _, _, _, _, _, _, _, _, _, C.row (rdH 2 h.l), (r_Productive2 (x := y) (hk.mono (rdH 2 h.l)) hb (rdV.mono (rdH 2 h.l) ht4)).mono ?_⟩
  rintro _ w16 ⟨op, np, cp, ep, pp, rfl, hpl, rP, h16⟩
  obtain ⟨rfl, rfl⟩ := rN.inj rP
  have h : St w16 [own 1 op np cp (bv nn), own 1 od nd cd (bv mm), own 1 oc nc cc (bv nn), has (hp w4)] := St.on (N := [_]) h16 h.l
  refine ⟨_, _, _, _, rfl, _, _, _, _, _, _, _, _, _, _, _, _, _, C.row (rdH 3 h.l), (r_Useful2 (x := y) (hk.mono (rdH 3 h.l)) hb (rdV.mono (rdH 3 h.l) ht4)).mono ?_⟩
  rintro _ w17 ⟨oq, nq, cq, eq, qq, rfl, hql, rQ, h17⟩
  obtain ⟨rfl, rfl⟩ := rM.inj rQ
  have h : St w17 [own 1 oq nq cq (bv mm), own 1 op np cp (bv nn), own 1 od nd cd (bv mm), own 1 oc nc cc (bv nn), has (hp w4)] := St.on (N := [_]) h17 h.l
  refine ⟨_, _, _, _, rfl, br_intro (fun _ => br_intro (fun _ => ?_) fun h => by simp at h) fun h => by simp at h⟩
  refine (l_bools (bs := nn) (rdB_of hpl (rdOwn 1 h.l)) (rdB_of hcl (rdOwn 3 h.l)) (by omega)).mono ?_
  rintro _ w18 ⟨rfl, e18⟩
  refine ⟨_, rfl, br_intro (fun _ => ?_) fun h => absurd h (by decide)⟩
  refine (l_bools (bs := mm) (rdB_of hql (e18 ▸ rdOwn 0 h.l)) (rdB_of hdl (e18 ▸ rdOwn 2 h.l)) (by omega)).mono ?_
  rintro _ w19 ⟨rfl, e19⟩
  have s19 : sub (hp w4) (hp w19) := by rw [e19, e18]; exact rdH 4 h.l
  refine ⟨_, rfl, br_intro (fun _ => ⟨_, _, _, _, _, _, _, _, _, _, _, _, _, C.row s19, _, _, _, _, _, _, _, _, _, _, _, _, _, B4 s19, (d_Same (x := y) (y := x) (hk.mono s19) (hg4.mono s19) hb).mono ?_⟩) fun h => absurd h (by decide)⟩
  rintro _ w20 ⟨rfl, g20⟩
  refine ⟨_, rfl, br_intro (fun _ => (l_awake6 (rdV.mono (sub.trans s19 g20) ht4)).mono ?_) fun h => absurd h (by decide)⟩
  rintro _ w21 ⟨rfl, g21⟩
  exact ⟨_, rfl, rfl, gw4.trans (sub.trans s19 (sub.trans g20 g21))⟩
end
end Go.Proofs.YtaheggomcnbbiaaDoor
set_option linter.unusedVariables false
namespace Go.V
open Go.RowKit Go.WideShapes Go.ChangeShapes
theorem cellH_of {w : World} {a : Addr} {v : Value} (h : w.cell? a = some v) : cellH (hp w) a = some v := by
  unfold World.cell? at h
  unfold cellH hp
  cases ho : w.heap[a.block]? with
  | none => rw [ho] at h; cases h
  | some o => rw [ho] at h; cases o <;> first | exact h | cases h
theorem mapM_get' {α β : Type} {f : α → Option β} : ∀ {l : List α} {r : List β}, l.mapM f = some r → r.length = l.length ∧ ∀ (i : Nat) (a : α) (b : β), l[i]? = some a → r[i]? = some b → f a = some b
  | [], r, h => by
    simp at h; subst h; exact ⟨rfl, fun i a b ha => by simp at ha⟩
  | x :: l, r, h => by
    simp only [List.mapM_cons, Option.bind_eq_bind, Option.bind_eq_some_iff, Option.pure_def, Option.some.injEq] at h
    obtain ⟨b, hb, r', hr', rfl⟩ := h
    obtain ⟨h1, h2⟩ := mapM_get' hr'
    refine ⟨by simp [h1], fun i a b' ha hb' => ?_⟩
    cases i with
    | zero => simp at ha hb'; subst ha; subst hb'; exact hb
    | succ i => exact h2 i a b' (by simpa using ha) (by simpa using hb')
theorem cells_row {w : World} {base n : Nat} {a : Addr} {vs : List Value} (h : w.cells? base a n = some vs) : rowH (hp w) a vs := by
  unfold World.cells? at h
  split at h
  · obtain ⟨h1, h2⟩ := mapM_get' h
    intro j v hj
    have hlt := (List.getElem?_eq_some_iff.1 hj).1
    rw [h1, List.length_range] at hlt
    exact cellH_of (h2 j j v (by simp [hlt]) hj)
  · cases h
theorem weightsAll_get {H : Type} {P : Program} {e : TypeId} {N : Nat} : ∀ {l : List (DataW H)}, (DataW.weightsAll P e l).all (· ≤ N) = true → ∀ d ∈ l, (d.weights P e).all (· ≤ N) = true
  | [], _, d, hd => by simp at hd
  | x :: l, h, d, hd => by
    rw [DataW.weightsAll, List.all_append, Bool.and_eq_true] at h
    rcases List.mem_cons.1 hd with rfl | hd
    · exact h.1
    · exact weightsAll_get h.2 d hd
theorem weightsEach_get {H : Type} {P : Program} {N : Nat} : ∀ {ts : List TypeId} {l : List (DataW H)}, (DataW.weightsEach P ts l).all (· ≤ N) = true → ∀ (i : Nat) t d, ts[i]? = some t → l[i]? = some d → (d.weights P t).all (· ≤ N) = true
  | [], l, _, i, t, d, ht, _ => by simp at ht
  | _ :: _, [], _, i, t, d, _, hd => by simp at hd
  | t0 :: ts, x :: l, h, i, t, d, ht, hd => by
    rw [DataW.weightsEach, List.all_append, Bool.and_eq_true] at h
    cases i with
    | zero => simp at ht hd; subst ht; subst hd; exact h.1
    | succ i => exact weightsEach_get h.2 i t d (by simpa using ht) (by simpa using hd)
def Opn (P : Program) (α : Type) [Rep α] (bd : α → Prop) (t : TypeId) : Prop :=
  ∀ {H : Type} (enc : TypeId × Value → H) (W : World) (n : Nat) (cs : List Value) (x : DataW H × List MemPlace), DataW.trod enc P W 0 (fun _ => true) true n t cs = some x → (x.1.weights P t).all (· ≤ reachBytes) = true → ∃ y : α, rd (hp W) y cs ∧ bd y
def anyS : ByteArray → Prop := fun s => s.size ≤ reachBytes
def anyL {α : Type} (bytes : Nat) (bd : α → Prop) : List α → Prop := fun xs => xs.length * bytes ≤ reachBytes ∧ ∀ x ∈ xs, bd x
section
variable {P : Program} {t e : TypeId}
theorem opn_int (ht : P.underlying t = some (.int .i64)) : Opn P Int anyI t := by
  intro H enc W n cs x h hw
  obtain ⟨z, rfl, _, hwf⟩ := DataW.trod_int ht h
  refine ⟨z, rfl, ?_⟩
  have : IntKind.i64.min ≤ z ∧ z ≤ IntKind.i64.max := by simpa [Lit.wf] using hwf
  exact this
theorem opn_str (ht : P.underlying t = some .string) : Opn P ByteArray anyS t := by
  intro H enc W n cs x h hw
  obtain ⟨z, rfl, rfl, _⟩ := DataW.trod_string ht h
  refine ⟨z, rfl, ?_⟩
  simpa [DataW.weights, anyS] using hw
theorem opn_slice {α : Type} [Rep α] {bd : α → Prop} {bb : Nat} (ht : P.underlying t = some (.slice e)) (hc : P.cellsOf e = Rep.n α) (hb : P.bytesOf e = bb) (he : Opn P α bd e) : Opn P (List α) (anyL bb bd) t := by
  intro H enc W n cs x h hw
  rcases DataW.trod_slice ht h with ⟨rfl, rfl⟩ | ⟨a, len, cap, elems, rest, m, rfl, rfl, rfl, _, hlc, hcm, hel, hg, _, _⟩
  · exact ⟨[], ⟨none, 0, 0, rfl, Nat.le_refl _, rdS.nil⟩, by simp [reachBytes], fun x hx => by simp at hx⟩
  · simp only [DataW.weights, ht, List.all_cons, List.all_append, Bool.and_eq_true, decide_eq_true_eq, List.length_map] at hw
    obtain ⟨hw1, hw2, _⟩ := hw
    have key : ∀ k, k ≤ len → ∃ ys : List α, ys.length = k ∧ (∀ i y, ys[i]? = some y → ∃ vs, rowH (hp W) (a.add (mulS i (Rep.n α))) vs ∧ rd (hp W) y vs) ∧ ∀ y ∈ ys, bd y := by
      intro k
      induction k with
      | zero => exact fun _ => ⟨[], rfl, fun i y hy => by simp at hy, fun y hy => by simp at hy⟩
      | succ k ih =>
        intro hk
        obtain ⟨ys, h1, h2, h3⟩ := ih (by omega)
        have hgk := hg k (by omega)
        obtain ⟨d, hd⟩ : ∃ d, elems[k]? = some d := ⟨elems[k]'(by omega), List.getElem?_eq_getElem _⟩
        rw [hd, Option.bind_eq_some_iff] at hgk
        obtain ⟨vs, hv1, hv2⟩ := hgk
        obtain ⟨y, hy1, hy2⟩ := he enc W m vs d hv2 (weightsAll_get hw2 _ (by
          have := List.mem_of_getElem? hd
          exact List.mem_map_of_mem this))
        refine ⟨ys ++ [y], by simp [h1], fun i z hz => ?_, fun z hz => ?_⟩
        · by_cases hi : i < k
          · rw [List.getElem?_append_left (by omega)] at hz
            exact h2 i z hz
          · have : i = k := by
              have := (List.getElem?_eq_some_iff.1 hz).1
              simp at this; omega
            subst this
            rw [List.getElem?_append_right (by omega), h1, Nat.sub_self] at hz
            cases hz
            refine ⟨vs, ?_, hy1⟩
            rw [mulS_eq, ← hc]
            exact cells_row hv1
        · rcases List.mem_append.1 hz with hz | hz
          · exact h3 z hz
          · simp at hz; subst hz; exact hy2
    obtain ⟨ys, h1, h2, h3⟩ := key len (Nat.le_refl _)
    refine ⟨ys, ⟨some a, len, cap, rfl, hlc, h1, fun i y hy => ?_⟩, ?_, h3⟩
    · obtain ⟨vs, h4, h5⟩ := h2 i y hy
      exact ⟨a, vs, rfl, h4, h5⟩
    · rw [h1, ← hb, ← hel]
      exact Nat.le_trans (Nat.mul_le_mul_right _ (Nat.le_add_right _ _)) hw1
theorem opn_struct {fs : Array Field} (ht : P.underlying t = some (.struct fs)) {H : Type} {enc : TypeId × Value → H} {W : World} {n : Nat} {cs : List Value} {x : DataW H × List MemPlace} (h : DataW.trod enc P W 0 (fun _ => true) true n t cs = some x) (hw : (x.1.weights P t).all (· ≤ reachBytes) = true) :
    cs.length = P.cellsOf t ∧ ∀ (i : Nat) (f : Field) (ty k o : Nat), fs[i]? = some f → P.cellsOf ty = k → f.type = ty → f.offset = o → ∃ (m : Nat) (d : DataW H × List MemPlace), DataW.trod enc P W 0 (fun _ => true) true m ty ((cs.drop o).take k) = some d ∧ (d.1.weights P ty).all (· ≤ reachBytes) = true := by
  obtain ⟨xs, m, rfl, rfl, hl, hxs, hf⟩ := DataW.trod_struct ht h
  refine ⟨hl, ?_⟩
  rintro i f _ _ _ hi rfl rfl rfl
  have hlt := (Array.getElem?_eq_some_iff.1 hi).1
  obtain ⟨d, hd⟩ : ∃ d, xs[i]? = some d := ⟨xs[i]'(by omega), List.getElem?_eq_getElem _⟩
  refine ⟨m, d, by rw [hf i f hi, hd], ?_⟩
  simp only [DataW.weights, ht] at hw
  exact weightsEach_get hw i f.type d.1 (by simp [hi]) (by simp [hd])
theorem opn_arg {α : Type} [Rep α] {bd : α → Prop} (ho : Opn P α bd t) {H : Type} {enc : TypeId × Value → H} {W : World} {v : Value} {d : DataW H} {ps : List MemPlace} (h : DataW.Trod enc P W 0 (fun _ => true) true t v d ps)
    (hw : (d.weights P t).all (· ≤ reachBytes) = true) : ∃ y : α, rd (hp W) y v.cells.toList ∧ bd y := by
  obtain ⟨n, h⟩ := h
  exact ho enc W n _ _ h hw
theorem arg_struct {α : Type} [Rep α] {bd : α → Prop} {fs : Array Field} (ho : Opn P α bd t) (ht : P.underlying t = some (.struct fs)) {H : Type} {enc : TypeId × Value → H} {W : World} {b : Nat} {v : Value} {d : DataW H} {ps : List MemPlace}
    (hval : Value.okWide P W .any b t v) (h : DataW.Trod enc P W 0 (fun _ => true) true t v d ps) (hw : (d.weights P t).all (· ≤ reachBytes) = true) : ∃ (x : α) (cs : List Value), v = .agg ⟨cs⟩ ∧ rd (hp W) x cs ∧ bd x := by
  obtain ⟨x, hr, hb⟩ := opn_arg ho h hw
  simp only [Value.okWide, ht] at hval
  obtain ⟨cs, rfl, _⟩ := hval
  exact ⟨x, cs.toList, rfl, hr, hb⟩
theorem below_of {w w' : World} (h : Ev w w') (g : Gr w w') : Below w.heap.size w w' := by
  refine ⟨h.os, h.tape, h.output, h.size, fun k hk => ?_⟩
  cases ho : w.heap[k]? with
  | none => rw [Array.getElem?_eq_none_iff] at ho; omega
  | some o =>
    by_cases hd : notD o = true
    · have : hp w k = some o := by unfold hp; rw [ho, hidD_not hd]
      exact hidD_some (g k o this)
    · cases o <;> first | exact absurd rfl hd | exact h.dfr _ _ ho
theorem trodAll_below (hl : laidOutB P = true) {H : Type} {enc : TypeId × Value → H} {W W' : World} (hb : Below W.heap.size W W') {sp : Nat → Bool} : ∀ {ts : List TypeId} {vs : List Value} {ds : List (DataW H)} {ps : List MemPlace},
    (ts.all fun t => P.readableRec t && decide (t < P.types.size)) = true → DataW.TrodAll enc P W 0 (fun _ => true) true ts vs ds ps → (∀ x ∈ ps, x.block < W.heap.size) → (∀ x ∈ ps, sp x.block = true) →
    DataW.TrodAll enc P W' 0 sp true ts vs ds ps
  | [], [], [], ps, _, h, _, _ => h
  | [], _ :: _, _, _, _, h, _, _ => h.elim
  | [], [], _ :: _, _, _, h, _, _ => h.elim
  | _ :: _, [], _, _, _, h, _, _ => h.elim
  | _ :: _, _ :: _, [], _, _, h, _, _ => h.elim
  | t :: ts, v :: vs, d :: ds, ps, ht, h, hlt, hsp => by
    obtain ⟨p, q, h1, h2, rfl⟩ := h
    rw [List.all_cons, Bool.and_eq_true, Bool.and_eq_true, decide_eq_true_eq] at ht
    exact ⟨p, q, WideElems.Trod_stays hl ht.1.1 ht.1.2 h1 (fun x hx => hb.same (hlt x (by simp [hx]))) (fun x hx => hsp x (by simp [hx])), trodAll_below hl hb ht.2 h2 (fun x hx => hlt x (by simp [hx])) (fun x hx => hsp x (by simp [hx])), rfl⟩
theorem law_post {H : Type} {enc : TypeId × Value → H} {s : ChangeSpec} {f : Func} {W W' : World} {args : Array Value} {ds gs : List (DataW H)} {before : List MemPlace} {tb : TypeId} (hv : s.vars = []) (hrt : f.resultTypes = #[tb]) (htb : P.underlying tb = some .bool)
    (hsp : s.fn H (ds ++ gs) = { results := [.lit (.bool true)], args := ds }) (hl : laidOutB P = true) (hrd : (f.params.toList.all fun t => P.readableRec t && decide (t < P.types.size)) = true)
    (hW : DataW.Whole enc P f.params.toList s.vars false W args.toList ds gs before) (hE : Ev W W') (hg : Gr W W') : s.post enc P f false true false false W args (.bool true) W' := by
  have hb := below_of hE hg
  have hlt : ∀ p ∈ before, p.block < W.heap.size := fun p hp => hW.lt p hp
  have hold : ∀ p ∈ before, (fun b => decide (b < W.heap.size)) p.block = true := fun p hp => by simpa using hlt p hp
  have hW' := hW
  obtain ⟨p, q, h1, h2, rfl, h3, h4⟩ := hW
  have hq : q = [] := by
    rw [hv] at h2
    cases gs with
    | nil => exact h2
    | cons _ _ => exact h2.elim
  subst hq
  rw [List.append_nil] at *
  have hargs : ∀ sp : Nat → Bool, (∀ x ∈ p, sp x.block = true) → DataW.TrodAll enc P W' 0 sp true f.params.toList args.toList (s.fn H (ds ++ gs)).args p := fun sp hs => by
    rw [hsp]; exact trodAll_below hl hb hrd h1 hlt hs
  have hvars : ∀ sp : Nat → Bool, DataW.TrodVars enc P W' sp s.vars (s.fn H (ds ++ gs)).vars [] := fun sp => by
    rw [hsp, hv]; exact rfl
  have hres : ∀ (b : Nat) (sp : Nat → Bool) (hd : Bool), DataW.TrodAll enc P W' b sp hd f.resultTypes.toList ((Value.bool true).resultList f.resultTypes.size) (s.fn H (ds ++ gs)).results [] := fun b sp hd => by
    rw [hsp, hrt]; exact trodAll_cons_mk (shut_bool htb _) trodAll_mk0
  have hok : ∀ (j : Nat) (t : TypeId) (r : Value), f.resultTypes[j]? = some t → ((Value.bool true).resultList f.resultTypes.size)[j]? = some r → Value.okWide P W' .any 0 t r := ok_one hrt rfl (okWide_bool_mk htb _)
  refine ⟨ds, gs, p, [], p, [], hW', hres _ _ _, hargs _ hold, hvars _, World.keptBut_mono (fun x hx => ⟨hx, ?_⟩) (hb.frame (· ∈ p)), fun _ => ?_⟩
  · exact Or.inr (by simpa using hx)
  · refine ⟨hok, _, _, ([] ++ p) ++ [], ⟨[] ++ p, [], trodAll_append (hargs _ (fun _ _ => rfl)) (hres _ _ _), hvars _, rfl, ?_, ?_⟩, ?_⟩
    · intro b off hp
      have hin : MemPlace.cell b off ∈ p := by simpa using hp
      rw [hb.frozen (hlt _ hin)]
      exact h3 b off hin
    · intro ha; cases ha
    · intro x hx _
      simpa using hx
end
end Go.V
set_option linter.unusedVariables false
namespace Go.Proofs.YtaheggomcnbbiaaDoor
open Go.V Go.RowKit Go.WideShapes Go.ChangeShapes Go.ChangeAt
theorem ownK : ownKnob Tryd.prog.godebug = none := by kernel_rfl
theorem laidO : laidOutB Tryd.prog = true := by kernel_rfl
theorem cellsI : Tryd.prog.cellsOf 3 = 1 := by kernel_rfl
theorem bytesI : Tryd.prog.bytesOf 3 = 8 := by kernel_rfl
theorem cellsStr : Tryd.prog.cellsOf 9 = 1 := by kernel_rfl
theorem bytesStr : Tryd.prog.bytesOf 9 = 16 := by kernel_rfl
theorem cellsS24 : Tryd.prog.cellsOf 24 = 1 := by kernel_rfl
theorem cellsS22 : Tryd.prog.cellsOf 22 = 1 := by kernel_rfl
theorem cellsS23 : Tryd.prog.cellsOf 23 = 1 := by kernel_rfl
theorem cellsS25 : Tryd.prog.cellsOf 25 = 1 := by kernel_rfl
theorem cellsT : Tryd.prog.cellsOf 81 = 2 := by kernel_rfl
theorem bytesT : Tryd.prog.bytesOf 81 = 24 := by kernel_rfl
theorem cellsP : Tryd.prog.cellsOf 51 = 3 := by kernel_rfl
theorem bytesP : Tryd.prog.bytesOf 51 = 40 := by kernel_rfl
theorem cellsG : Tryd.prog.cellsOf 27 = 5 := by kernel_rfl
theorem oInt : Opn Tryd.prog Int anyI 3 := opn_int Tryd.underlying3
theorem oInts : Opn Tryd.prog (List Int) (anyL 8 anyI) 24 := opn_slice Tryd.underlying24 cellsI bytesI oInt
theorem oStr : Opn Tryd.prog ByteArray anyS 9 := opn_str Tryd.underlying9
theorem oStrs : Opn Tryd.prog (List ByteArray) (anyL 16 anyS) 23 := opn_slice Tryd.underlying23 cellsStr bytesStr oStr
theorem oTerm : Opn Tryd.prog TermT (fun t => anyS t.name ∧ anyI t.level) 81 := by
  intro H enc W n cs x h hw
  obtain ⟨hl, hf⟩ := opn_struct Tryd.underlying81 h hw
  rw [cellsT] at hl
  obtain ⟨_, _, t0, w0⟩ := hf 0 _ 9 1 0 rfl cellsStr rfl rfl
  obtain ⟨_, _, t1, w1⟩ := hf 1 _ 3 1 1 rfl cellsI rfl rfl
  obtain ⟨y0, r0, b0⟩ := oStr enc W _ _ _ t0 w0
  obtain ⟨y1, r1, b1⟩ := oInt enc W _ _ _ t1 w1
  match cs, hl with
  | [c0, c1], _ =>
    have e0 : [c0] = [.string y0] := r0
    have e1 : [c1] = [.int .i64 y1] := r1
    cases e0; cases e1
    exact ⟨⟨y0, y1⟩, rfl, b0, b1⟩
theorem oTerms : Opn Tryd.prog (List TermT) (anyL 24 fun t => anyS t.name ∧ anyI t.level) 22 := opn_slice Tryd.underlying22 cellsT bytesT oTerm
theorem oProd : Opn Tryd.prog ProdT (fun p => anyI p.left ∧ anyL 8 anyI p.right ∧ anyI p.level) 51 := by
  intro H enc W n cs x h hw
  obtain ⟨hl, hf⟩ := opn_struct Tryd.underlying51 h hw
  rw [cellsP] at hl
  obtain ⟨_, _, t0, w0⟩ := hf 0 _ 3 1 0 rfl cellsI rfl rfl
  obtain ⟨_, _, t1, w1⟩ := hf 1 _ 24 1 1 rfl cellsS24 rfl rfl
  obtain ⟨_, _, t2, w2⟩ := hf 2 _ 3 1 2 rfl cellsI rfl rfl
  obtain ⟨y0, r0, b0⟩ := oInt enc W _ _ _ t0 w0
  obtain ⟨y1, ⟨a, l, c, r1, hlc, r1'⟩, b1⟩ := oInts enc W _ _ _ t1 w1
  obtain ⟨y2, r2, b2⟩ := oInt enc W _ _ _ t2 w2
  match cs, hl with
  | [c0, c1, c2], _ =>
    have e0 : [c0] = [.int .i64 y0] := r0
    have e1 : [c1] = [.slice a l c] := r1
    have e2 : [c2] = [.int .i64 y2] := r2
    cases e0; cases e1; cases e2
    exact ⟨⟨y0, y1, y2⟩, ⟨a, l, c, rfl, hlc, r1'⟩, b0, b1, b2⟩
theorem oProds : Opn Tryd.prog (List ProdT) (anyL 40 fun p => anyI p.left ∧ anyL 8 anyI p.right ∧ anyI p.level) 25 := opn_slice Tryd.underlying25 cellsP bytesP oProd
def okG2 (g : GramT) : Prop := okG g ∧ g.terms.length * 24 ≤ 140737488355328 ∧ g.nons.length * 16 ≤ 140737488355328
theorem oGram : Opn Tryd.prog GramT okG2 27 := by
  intro H enc W n cs x h hw
  obtain ⟨hl, hf⟩ := opn_struct Tryd.underlying27 h hw
  rw [cellsG] at hl
  obtain ⟨_, _, t0, w0⟩ := hf 0 _ 22 1 0 rfl cellsS22 rfl rfl
  obtain ⟨_, _, t1, w1⟩ := hf 1 _ 23 1 1 rfl cellsS23 rfl rfl
  obtain ⟨_, _, t2, w2⟩ := hf 2 _ 24 1 2 rfl cellsS24 rfl rfl
  obtain ⟨_, _, t3, w3⟩ := hf 3 _ 3 1 3 rfl cellsI rfl rfl
  obtain ⟨_, _, t4, w4⟩ := hf 4 _ 25 1 4 rfl cellsS25 rfl rfl
  obtain ⟨y0, ⟨a0, l0, c0', r0, k0, q0⟩, b0⟩ := oTerms enc W _ _ _ t0 w0
  obtain ⟨y1, ⟨a1, l1, c1', r1, k1, q1⟩, b1⟩ := oStrs enc W _ _ _ t1 w1
  obtain ⟨y2, ⟨a2, l2, c2', r2, k2, q2⟩, b2⟩ := oInts enc W _ _ _ t2 w2
  obtain ⟨y3, r3, b3⟩ := oInt enc W _ _ _ t3 w3
  obtain ⟨y4, ⟨a4, l4, c4', r4, k4, q4⟩, b4⟩ := oProds enc W _ _ _ t4 w4
  match cs, hl with
  | [c0, c1, c2, c3, c4], _ =>
    have e0 : [c0] = [.slice a0 l0 c0'] := r0
    have e1 : [c1] = [.slice a1 l1 c1'] := r1
    have e2 : [c2] = [.slice a2 l2 c2'] := r2
    have e3 : [c3] = [.int .i64 y3] := r3
    have e4 : [c4] = [.slice a4 l4 c4'] := r4
    cases e0; cases e1; cases e2; cases e3; cases e4
    refine ⟨⟨y0, y1, y2, y3, y4⟩, ⟨⟨a0, l0, c0', a1, l1, c1', a2, l2, c2', y3, a4, l4, c4'⟩, rfl, q0, q1, q2, rfl, q4, k0, k1, k2, k4⟩, ?_⟩
    have z0 := b0.1
    have z1 := b1.1
    have z2 := b2.1
    have z4 := b4.1
    unfold reachBytes at z0 z1 z2 z4
    refine ⟨⟨by show y0.length ≤ _; omega, by show y1.length ≤ _; omega, by show y2.length ≤ _; omega, by show y4.length * 40 ≤ _; omega, fun t ht => ⟨?_, (b0.2 t ht).2⟩, fun s hs => ?_, fun p hp => ?_⟩, by show y0.length * 24 ≤ _; omega, by show y1.length * 16 ≤ _; omega⟩
    · have := (b0.2 t ht).1; unfold anyS reachBytes at this; omega
    · have := b1.2 s hs; unfold anyS reachBytes at this; omega
    · have := (b4.2 p hp).2.1.1; unfold reachBytes at this; omega
theorem gTab : Tryd.prog.globalNamed "math/bits.deBruijn64tab" = some 0 := by kernel_rfl
theorem gTabType : (Tryd.prog.globals[0]?).map (·.type) = some 133 := by kernel_rfl
theorem cellsTab : Tryd.prog.cellsOf 133 = 64 := by kernel_rfl
theorem cellsTabE : Tryd.prog.cellsOf 5 = 1 := by kernel_rfl
theorem table {W : World} (h : laidMetH Tryd.prog [("math/bits.deBruijn64tab", Rows.laid_math_bits_deBruijn64tab)] W) : tabA (hp W) := by
  have ht : Lib.TabIs Tryd.prog W "math/bits.deBruijn64tab" .u8 (Lib.deBruijn64tab.map fun (k : Nat) => (k : Int)) :=
    Lib.tabIs_of_head (rest := []) gTab gTabType Tryd.underlying133 Tryd.underlying5 cellsTabE cellsTab h
  refine .inr ⟨_, rfl, fun j v hj => ?_⟩
  have hlt := (List.getElem?_eq_some_iff.1 hj).1
  have hc := ht.cell gTab j (by simpa [tabV] using hlt)
  rw [add_lit0]
  refine cellH_of (hc.trans ?_)
  rw [← hj]
  simp only [tabV, List.getElem?_map, List.length_map] at hj hlt ⊢
  rw [List.getElem?_eq_getElem hlt]
  simp [hlt]
noncomputable def laidWorld (os : Os) : World :=
  { World.holding Tryd.prog os ⟨#[], #[], []⟩ with heap := (World.holding Tryd.prog os ⟨#[], #[], []⟩).heap.modify 0 fun
      | .cells _ t frozen => .cells ⟨tabV⟩ t frozen
      | o => o }
end Go.Proofs.YtaheggomcnbbiaaDoor
