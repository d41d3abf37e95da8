/- Texts of this claim, one behind the other. -/
import Derived.Test.YtaheggomcnbbiaaDoorG1
import Derived.Test.YtaheggomcnbbiaaDoorG3
set_option linter.unusedVariables false
namespace Go.Proofs.YtaheggomcnbbiaaDoor
open Go.V
abbrev n_reach_Reduce : FuncId := 31
def ann_reach_Reduce : Ann := { rngs := [(10, [(45, (.one (.int .i64)))])], loops := [(18, [(93, (.one (.int .i64)))]), (23, [(121, (.one (.int .i64)))])], joins := [], blocks := [] }
set_option maxRecDepth 100000 in
def vc_reach_Reduce (p0g_0a : Option Addr) (p0g_0l : Nat) (p0g_0c : Nat) (p0g_1a : Option Addr) (p0g_1l : Nat) (p0g_1c : Nat) (p0g_2a : Option Addr) (p0g_2l : Nat) (p0g_2c : Nat) (p0g_3 : Int) (p0g_4a : Option Addr) (p0g_4l : Nat) (p0g_4c : Nat) (w : World) (R : Value → World → Prop) : Prop :=
  new w
  (Obj.cells
  (Array.mk [Value.slice p0g_0a p0g_0l p0g_0c, Value.slice p0g_1a p0g_1l p0g_1c, Value.slice p0g_2a p0g_2l p0g_2c, Value.int IntKind.i64 p0g_3, Value.slice p0g_4a p0g_4l p0g_4c])
  27)
  fun (k1 : Nat) (w1 : World) =>
  new w1 (Obj.cells (Array.mk [Value.slice none 0 0, Value.slice none 0 0, Value.slice none 0 0, Value.int IntKind.i64 0, Value.slice none 0 0]) 27) fun (k2 : Nat) (w2 : World) =>
  ∃ (o1 : Option Addr),
  ∃ (k3 : Nat),
  ∃ (k4 : Nat),
  ∃ (o2 : Option Addr),
  ∃ (k5 : Nat),
  ∃ (k6 : Nat),
  ∃ (o3 : Option Addr),
  ∃ (k7 : Nat),
  ∃ (k8 : Nat),
  ∃ (n1 : Int),
  ∃ (o4 : Option Addr),
  ∃ (k9 : Nat),
  ∃ (k10 : Nat),
  V.rowAt w2 (Addr.mk k1 0 none) 0 5 =
  some [Value.slice o1 k3 k4, Value.slice o2 k5 k6, Value.slice o3 k7 k8, Value.int IntKind.i64 n1, Value.slice o4 k9 k10] ∧
  RunE Proofs.Tryd.prog Ev 61
  [Value.agg (Array.mk [Value.slice o1 k3 k4, Value.slice o2 k5 k6, Value.slice o3 k7 k8, Value.int IntKind.i64 n1, Value.slice o4 k9 k10])] w2
  fun (v1 : Value) (w3 : World) =>
  ∃ (b1 : Bool),
  v1 = Value.bool b1 ∧
  br (!b1)
  (stR w3 (Addr.mk k2 0 none)
  [Value.slice none 0 0, Value.slice none 0 0, Value.slice none 0 0, Value.int IntKind.i64 0, Value.slice none 0 0] fun (w4 : World) =>
  ∃ (o5 : Option Addr),
  ∃ (k11 : Nat),
  ∃ (k12 : Nat),
  ∃ (o6 : Option Addr),
  ∃ (k13 : Nat),
  ∃ (k14 : Nat),
  ∃ (o7 : Option Addr),
  ∃ (k15 : Nat),
  ∃ (k16 : Nat),
  ∃ (n2 : Int),
  ∃ (o8 : Option Addr),
  ∃ (k17 : Nat),
  ∃ (k18 : Nat),
  V.rowAt w4 (Addr.mk k2 0 none) 0 5 =
  some
  [Value.slice o5 k11 k12, Value.slice o6 k13 k14, Value.slice o7 k15 k16, Value.int IntKind.i64 n2,
  Value.slice o8 k17 k18] ∧
  ∀ (w5 : World),
  hp w5 = hp w4 →
  R
  (Value.tuple
  (Array.mk
  [Value.agg
  (Array.mk
  [Value.slice o5 k11 k12, Value.slice o6 k13 k14, Value.slice o7 k15 k16,
  Value.int IntKind.i64 n2, Value.slice o8 k17 k18]),
  Value.int IntKind.i64 1]))
  w5)
  (∃ (o9 : Option Addr),
  ∃ (k19 : Nat),
  ∃ (k20 : Nat),
  ∃ (o10 : Option Addr),
  ∃ (k21 : Nat),
  ∃ (k22 : Nat),
  ∃ (o11 : Option Addr),
  ∃ (k23 : Nat),
  ∃ (k24 : Nat),
  ∃ (n3 : Int),
  ∃ (o12 : Option Addr),
  ∃ (k25 : Nat),
  ∃ (k26 : Nat),
  V.rowAt w3 (Addr.mk k1 0 none) 0 5 =
  some
  [Value.slice o9 k19 k20, Value.slice o10 k21 k22, Value.slice o11 k23 k24, Value.int IntKind.i64 n3,
  Value.slice o12 k25 k26] ∧
  RunE Proofs.Tryd.prog Ev 62
  [Value.agg
  (Array.mk
  [Value.slice o9 k19 k20, Value.slice o10 k21 k22, Value.slice o11 k23 k24, Value.int IntKind.i64 n3,
  Value.slice o12 k25 k26])]
  w3 fun (v2 : Value) (w6 : World) =>
  ∃ (o13 : Option Addr),
  ∃ (n4 : Int),
  v2 = Value.agg (Array.mk [Value.pointer o13, Value.int IntKind.i64 n4]) ∧
  new w6 (Obj.cells (Array.mk [Value.pointer none, Value.int IntKind.i64 0]) 85)
  fun (k27 : Nat) (w7 : World) =>
  stR w7 (Addr.mk k27 0 none) [Value.pointer o13, Value.int IntKind.i64 n4] fun (w8 : World) =>
  ∃ (o14 : Option Addr),
  World.cell? w8 (Addr.mk k27 0 none) = some (Value.pointer o14) ∧
  ∃ (n5 : Int),
  World.cell? w8 (Addr.add (Addr.mk k1 0 none) 3) = some (Value.int IntKind.i64 n5) ∧
  RunE Proofs.Tryd.prog Ev 63 [Value.pointer o14, Value.int IntKind.i64 n5] w8
  fun (v3 : Value) (w9 : World) =>
  ∃ (b2 : Bool),
  v3 = Value.bool b2 ∧
  br (!b2)
  (stR w9 (Addr.mk k2 0 none)
  [Value.slice none 0 0, Value.slice none 0 0, Value.slice none 0 0,
  Value.int IntKind.i64 0, Value.slice none 0 0]
  fun (w10 : World) =>
  ∃ (o15 : Option Addr),
  ∃ (k28 : Nat),
  ∃ (k29 : Nat),
  ∃ (o16 : Option Addr),
  ∃ (k30 : Nat),
  ∃ (k31 : Nat),
  ∃ (o17 : Option Addr),
  ∃ (k32 : Nat),
  ∃ (k33 : Nat),
  ∃ (n6 : Int),
  ∃ (o18 : Option Addr),
  ∃ (k34 : Nat),
  ∃ (k35 : Nat),
  V.rowAt w10 (Addr.mk k2 0 none) 0 5 =
  some
  [Value.slice o15 k28 k29, Value.slice o16 k30 k31,
  Value.slice o17 k32 k33,
  Value.int IntKind.i64 n6,
  Value.slice o18 k34 k35] ∧
  ∀ (w11 : World),
  hp w11 = hp w10 →
  R
  (Value.tuple
  (Array.mk
  [Value.agg
  (Array.mk
  [Value.slice o15 k28 k29,
  Value.slice o16 k30 k31,
  Value.slice o17 k32 k33,
  Value.int IntKind.i64 n6,
  Value.slice o18 k34 k35]),
  Value.int IntKind.i64 12]))
  w11)
  (∃ (o19 : Option Addr),
  ∃ (k36 : Nat),
  ∃ (k37 : Nat),
  ∃ (o20 : Option Addr),
  ∃ (k38 : Nat),
  ∃ (k39 : Nat),
  ∃ (o21 : Option Addr),
  ∃ (k40 : Nat),
  ∃ (k41 : Nat),
  ∃ (n7 : Int),
  ∃ (o22 : Option Addr),
  ∃ (k42 : Nat),
  ∃ (k43 : Nat),
  V.rowAt w9 (Addr.mk k1 0 none) 0 5 =
  some
  [Value.slice o19 k36 k37, Value.slice o20 k38 k39,
  Value.slice o21 k40 k41, Value.int IntKind.i64 n7,
  Value.slice o22 k42 k43] ∧
  ∃ (o23 : Option Addr),
  ∃ (n8 : Int),
  V.rowAt w9 (Addr.mk k27 0 none) 0 2 =
  some
  [Value.pointer o23,
  Value.int IntKind.i64 n8] ∧
  RunE Proofs.Tryd.prog Ev 64
  [Value.agg
  (Array.mk
  [Value.slice o19 k36 k37,
  Value.slice o20 k38 k39,
  Value.slice o21 k40 k41,
  Value.int IntKind.i64 n7,
  Value.slice o22 k42 k43]),
  Value.agg
  (Array.mk
  [Value.pointer o23,
  Value.int IntKind.i64 n8])]
  w9 fun (v4 : Value) (w12 : World) =>
  ∃ (o24 : Option Addr),
  ∃ (n9 : Int),
  v4 =
  Value.agg
  (Array.mk
  [Value.pointer o24,
  Value.int IntKind.i64 n9]) ∧
  new w12
  (Obj.cells
  (Array.mk
  [Value.pointer none,
  Value.int IntKind.i64 0])
  85)
  fun (k44 : Nat) (w13 : World) =>
  stR w13 (Addr.mk k44 0 none)
  [Value.pointer o24,
  Value.int IntKind.i64 n9]
  fun (w14 : World) =>
  ∀ (w15 : World),
  drawn w14 w15 →
  ∃ (I1 : World → Prop),
  I1 w15 ∧
  ∃ (o25 : Option Addr),
  ∃ (k45 : Nat),
  ∃ (k46 : Nat),
  (∀ (w16 : World),
  I1 w16 →
  World.cell? w16
  (Addr.mk k1 0
  none) =
  some
  (Value.slice
  o25 k45
  k46)) ∧
  ∃ (o26 : Option Addr),
  ∃ (k47 : Nat),
  ∃ (k48 : Nat),
  (∀
  (w17 :
  World),
  I1 w17 →
  World.cell?
  w17
  (Addr.add
  (Addr.mk
  k1
  0
  none)
  2) =
  some
  (Value.slice
  o26
  k47
  k48)) ∧
  (RunE
  Proofs.Tryd.prog
  Ev 65
  [Value.slice
  o25
  k45
  k46]
  w15
  fun
  (v5 :
  Value)
  (w18 :
  World) =>
  ∃ (o27 :
  Option
  Addr),
  ∃ (k49 :
  Nat),
  ∃ (k50
  :
  Nat),
  v5 =
  Value.slice
  o27
  k49
  k50 ∧
  I1
  w18 ∧
  (RunE
  Proofs.Tryd.prog
  Ev
  66
  [Value.slice
  o26
  k47
  k48]
  w18
  fun
  (v6 :
  Value)
  (w19 :
  World) =>
  ∃
  (o28
  :
  Option
  Addr),
  ∃
  (k51
  :
  Nat),
  ∃
  (k52
  :
  Nat),
  v6 =
  Value.slice
  o28
  k51
  k52 ∧
  I1
  w19 ∧
  (new
  w19
  (Obj.cells
  (Array.mk
  [Value.string
  (ByteArray.mk
  (Array.mk
  []))])
  9)
  fun
  (k53 :
  Nat)
  (w20 :
  World) =>
  I1
  w20 ∧
  new
  w20
  (Obj.cells
  (Array.mk
  [Value.slice
  none
  0
  0,
  Value.slice
  none
  0
  0,
  Value.slice
  none
  0
  0,
  Value.int
  IntKind.i64
  0,
  Value.slice
  none
  0
  0])
  27)
  fun
  (k54 :
  Nat)
  (w21 :
  World) =>
  I1
  w21 ∧
  stR
  w21
  (Addr.mk
  k54
  0
  none)
  [Value.slice
  o27
  k49
  k50,
  Value.slice
  (some
  (Addr.mk
  k53
  0
  none))
  1
  1,
  Value.slice
  o28
  k51
  k52,
  Value.int
  IntKind.i64
  0,
  Value.slice
  none
  0
  0]
  fun
  (w22 :
  World) =>
  ∃
  (o29
  :
  Option
  Addr),
  World.cell?
  w22
  (Addr.mk
  k44
  0
  none) =
  some
  (Value.pointer
  o29) ∧
  RunE
  Proofs.Tryd.prog
  Ev
  67
  [Value.pointer
  o29]
  w22
  fun
  (v7 :
  Value)
  (w23 :
  World) =>
  ∃
  (n10
  :
  Int),
  v7 =
  Value.int
  IntKind.i64
  n10 ∧
  mkOk
  n10
  n10
  8 ∧
  new
  w23
  (Obj.cells
  (Array.mk
  (reps
  (Int.toNat
  n10)
  [Value.int
  IntKind.i64
  0]))
  3)
  fun
  (k55 :
  Nat)
  (w24 :
  World) =>
  new
  w24
  (Obj.cells
  (Array.mk
  [Value.slice
  none
  0
  0])
  24)
  fun
  (k56 :
  Nat)
  (w25 :
  World) =>
  st1
  w25
  (Addr.mk
  k56
  0
  none)
  (Value.slice
  (some
  (Addr.mk
  k55
  0
  none))
  (Int.toNat
  n10)
  (Int.toNat
  n10))
  fun
  (w26 :
  World) =>
  ∃
  (o30
  :
  Option
  Addr),
  World.cell?
  w26
  (Addr.mk
  k44
  0
  none) =
  some
  (Value.pointer
  o30) ∧
  RunE
  Proofs.Tryd.prog
  Ev
  68
  [Value.pointer
  o30]
  w26
  fun
  (v8 :
  Value)
  (w27 :
  World) =>
  ∃
  (g1
  :
  FuncId),
  ∃
  (x1
  :
  List
  Value),
  v8 =
  Value.func
  (Fn.func
  g1)
  (Array.mk
  [])
  (Array.mk
  x1) ∧
  ifT
  (Proofs.YtaheggomcnbbiaaDoor.Fn
  g1)
  (∃
  (x2
  :
  List
  (List
  Value)),
  ∃
  (x3
  :
  Asn),
  ∃
  (x4
  :
  Asn),
  ∃
  (I2
  :
  Nat →
  Asn),
  ∃
  (x5
  :
  Asn),
  ∃
  (I3
  :
  Nat →
  Asn),
  ∃
  (x6
  :
  List
  Asn),
  St
  w27
  (I2
  0 ::
  x3 ::
  x6) ∧
  (∀
  (x7 :
  Hp),
  starL
  x6
  x7 →
  x4
  x7) ∧
  Itr
  Proofs.Tryd.prog
  g1
  []
  x1
  x3
  x4
  x2 ∧
  (∀
  (x8 :
  List
  Value),
  x8 ∈
  x2 →
  ∃
  (n11
  :
  Int),
  x8 =
  [Value.int
  IntKind.i64
  n11]) ∧
  (∀
  (k57 :
  Nat)
  (n12 :
  Int),
  List.get?Internal
  x2
  k57 =
  some
  [Value.int
  IntKind.i64
  n12] →
  ∀
  (x9 :
  List
  Asn)
  (w28 :
  World),
  Sup
  x9
  x6 →
  St
  w28
  (I2
  k57 ::
  x9) →
  ∃
  (x10
  :
  Asn),
  St
  w28
  (x10 ::
  x9) ∧
  ∀
  (x11 :
  List
  Asn)
  (w29 :
  World),
  Sup
  x11
  x6 →
  St
  w29
  (x10 ::
  x11) →
  ∃
  (o31
  :
  Option
  Addr),
  ∃
  (k58
  :
  Nat),
  ∃
  (k59
  :
  Nat),
  World.cell?
  w29
  (Addr.mk
  k56
  0
  none) =
  some
  (Value.slice
  o31
  k58
  k59) ∧
  idx
  o31
  k58
  n12
  1
  fun
  (a1 :
  Addr) =>
  st1
  w29
  a1
  (Value.int
  IntKind.i64
  n12)
  fun
  (w30 :
  World) =>
  ∃
  (n13
  :
  Int),
  World.cell?
  w30
  (Addr.add
  (Addr.mk
  k44
  0
  none)
  1) =
  some
  (Value.int
  IntKind.i64
  n13) ∧
  br
  (decide
  (n13 ≤
  n12))
  (∃
  (o32
  :
  Option
  Addr),
  ∃
  (k60
  :
  Nat),
  ∃
  (k61
  :
  Nat),
  World.cell?
  w30
  (Addr.mk
  k56
  0
  none) =
  some
  (Value.slice
  o32
  k60
  k61) ∧
  ∃
  (n14
  :
  Int),
  World.cell?
  w30
  (Addr.add
  (Addr.mk
  k44
  0
  none)
  1) =
  some
  (Value.int
  IntKind.i64
  n14) ∧
  ∃
  (o33
  :
  Option
  Addr),
  ∃
  (k62
  :
  Nat),
  ∃
  (k63
  :
  Nat),
  World.cell?
  w30
  (Addr.add
  (Addr.mk
  k54
  0
  none)
  1) =
  some
  (Value.slice
  o33
  k62
  k63) ∧
  inI
  (n14 +
  (↑k62 :
  Int)) ∧
  idx
  o32
  k60
  n12
  1
  fun
  (a2 :
  Addr) =>
  st1
  w30
  a2
  (Value.int
  IntKind.i64
  (n14 +
  (↑k62 :
  Int)))
  fun
  (w31 :
  World) =>
  ∀
  (w32 :
  World),
  drawn
  w31
  w32 →
  ∃
  (I4
  :
  World →
  Prop),
  I4
  w32 ∧
  ∃
  (o34
  :
  Option
  Addr),
  ∃
  (k64
  :
  Nat),
  ∃
  (k65
  :
  Nat),
  (∀
  (w33 :
  World),
  I4
  w33 →
  World.cell?
  w33
  (Addr.add
  (Addr.mk
  k54
  0
  none)
  1) =
  some
  (Value.slice
  o34
  k64
  k65)) ∧
  ∃
  (o35
  :
  Option
  Addr),
  ∃
  (k66
  :
  Nat),
  ∃
  (k67
  :
  Nat),
  (∀
  (w34 :
  World),
  I4
  w34 →
  World.cell?
  w34
  (Addr.add
  (Addr.mk
  k1
  0
  none)
  1) =
  some
  (Value.slice
  o35
  k66
  k67)) ∧
  ∃
  (n15
  :
  Int),
  (∀
  (w35 :
  World),
  I4
  w35 →
  World.cell?
  w35
  (Addr.add
  (Addr.mk
  k44
  0
  none)
  1) =
  some
  (Value.int
  IntKind.i64
  n15)) ∧
  inI
  (n12 -
  n15) ∧
  idx
  o35
  k66
  (n12 -
  n15)
  1
  fun
  (a3 :
  Addr) =>
  ∃
  (s1
  :
  ByteArray),
  (∀
  (w36 :
  World),
  I4
  w36 →
  World.cell?
  w36
  a3 =
  some
  (Value.string
  s1)) ∧
  new
  w32
  (Obj.cells
  (Array.mk
  [Value.string
  s1])
  9)
  fun
  (k68 :
  Nat)
  (w37 :
  World) =>
  I4
  w37 ∧
  RunS
  Proofs.Tryd.prog
  (Builtin.append_
  (Array.mk
  [23,
  23])
  23
  (Array.mk
  [Value.slice
  o34
  k64
  k65,
  Value.slice
  (some
  (Addr.mk
  k68
  0
  none))
  1
  1]))
  w37
  fun
  (v9 :
  Value)
  (w38 :
  World) =>
  ∃
  (o36
  :
  Option
  Addr),
  ∃
  (k69
  :
  Nat),
  ∃
  (k70
  :
  Nat),
  v9 =
  Value.slice
  o36
  k69
  k70 ∧
  I4
  w38 ∧
  st1
  w38
  (Addr.add
  (Addr.mk
  k54
  0
  none)
  1)
  (Value.slice
  o36
  k69
  k70)
  fun
  (w39 :
  World) =>
  St
  w39
  (I2
  (k57 +
  1) ::
  x11))
  (St
  w30
  (I2
  (k57 +
  1) ::
  x11))) ∧
  (∀
  (w40 :
  World),
  St
  w40
  (I2
  (List.length
  x2) ::
  x3 ::
  x6) →
  ∃
  (o37
  :
  Option
  Addr),
  ∃
  (k71
  :
  Nat),
  ∃
  (k72
  :
  Nat),
  World.cell?
  w40
  (Addr.mk
  k56
  0
  none) =
  some
  (Value.slice
  o37
  k71
  k72) ∧
  ∃
  (n16
  :
  Int),
  World.cell?
  w40
  (Addr.add
  (Addr.mk
  k1
  0
  none)
  3) =
  some
  (Value.int
  IntKind.i64
  n16) ∧
  idx
  o37
  k71
  n16
  1
  fun
  (a4 :
  Addr) =>
  ∃
  (n17
  :
  Int),
  World.cell?
  w40
  a4 =
  some
  (Value.int
  IntKind.i64
  n17) ∧
  st1
  w40
  (Addr.add
  (Addr.mk
  k54
  0
  none)
  3)
  (Value.int
  IntKind.i64
  n17)
  fun
  (w41 :
  World) =>
  ∃
  (n18
  :
  Int),
  World.cell?
  w41
  (Addr.add
  (Addr.mk
  k44
  0
  none)
  1) =
  some
  (Value.int
  IntKind.i64
  n18) ∧
  ∃
  (n19
  :
  Int),
  World.cell?
  w41
  (Addr.add
  (Addr.mk
  k54
  0
  none)
  3) =
  some
  (Value.int
  IntKind.i64
  n19) ∧
  new
  w41
  (Obj.cells
  (Array.mk
  [Value.int
  IntKind.i64
  n19])
  3)
  fun
  (k73 :
  Nat)
  (w42 :
  World) =>
  new
  w42
  (Obj.cells
  (Array.mk
  [Value.int
  IntKind.i64
  n18,
  Value.slice
  (some
  (Addr.mk
  k73
  0
  none))
  1
  1,
  Value.int
  IntKind.i64
  0])
  51)
  fun
  (k74 :
  Nat)
  (w43 :
  World) =>
  st1
  w43
  (Addr.add
  (Addr.mk
  k54
  0
  none)
  4)
  (Value.slice
  (some
  (Addr.mk
  k74
  0
  none))
  1
  1)
  fun
  (w44 :
  World) =>
  ∃
  (o38
  :
  Option
  Addr),
  ∃
  (k75
  :
  Nat),
  ∃
  (k76
  :
  Nat),
  World.cell?
  w44
  (Addr.add
  (Addr.mk
  k1
  0
  none)
  4) =
  some
  (Value.slice
  o38
  k75
  k76) ∧
  ∃
  (x12
  :
  arrS
  (shs
  [(93,
  S1.one
  (Cs.int
  IntKind.i64))])
  (World →
  Prop)),
  ∃
  (x13
  :
  arrS
  (shs
  [(93,
  S1.one
  (Cs.int
  IntKind.i64))])
  (World →
  Nat)),
  x12
  0
  w44 ∧
  ∀
  (I5 :
  Nat →
  Value)
  (n20 :
  Int)
  (w45 :
  World),
  x12
  n20
  w45 →
  br
  (decide
  (n20 <
  (↑k75 :
  Int)))
  (idx
  o38
  k75
  n20
  3
  fun
  (a5 :
  Addr) =>
  ∃
  (n21
  :
  Int),
  ∃
  (o39
  :
  Option
  Addr),
  ∃
  (k77
  :
  Nat),
  ∃
  (k78
  :
  Nat),
  ∃
  (n22
  :
  Int),
  V.rowAt
  w45
  a5
  0
  3 =
  some
  [Value.int
  IntKind.i64
  n21,
  Value.slice
  o39
  k77
  k78,
  Value.int
  IntKind.i64
  n22] ∧
  new
  w45
  (Obj.cells
  (Array.mk
  [Value.int
  IntKind.i64
  0,
  Value.slice
  none
  0
  0,
  Value.int
  IntKind.i64
  0])
  51)
  fun
  (k79 :
  Nat)
  (w46 :
  World) =>
  stR
  w46
  (Addr.mk
  k79
  0
  none)
  [Value.int
  IntKind.i64
  n21,
  Value.slice
  o39
  k77
  k78,
  Value.int
  IntKind.i64
  n22]
  fun
  (w47 :
  World) =>
  ∃
  (o40
  :
  Option
  Addr),
  World.cell?
  w47
  (Addr.mk
  k44
  0
  none) =
  some
  (Value.pointer
  o40) ∧
  ∃
  (n23
  :
  Int),
  World.cell?
  w47
  (Addr.mk
  k79
  0
  none) =
  some
  (Value.int
  IntKind.i64
  n23) ∧
  RunE
  Proofs.Tryd.prog
  Ev
  63
  [Value.pointer
  o40,
  Value.int
  IntKind.i64
  n23]
  w47
  fun
  (v10 :
  Value)
  (w48 :
  World) =>
  ∃
  (b3
  :
  Bool),
  v10 =
  Value.bool
  b3 ∧
  br
  (!b3)
  (inI
  (n20 +
  1) ∧
  x12
  (n20 +
  1)
  w48 ∧
  x13
  (n20 +
  1)
  w48 <
  x13
  n20
  w45)
  (∃
  (o41
  :
  Option
  Addr),
  ∃
  (n24
  :
  Int),
  V.rowAt
  w48
  (Addr.mk
  k27
  0
  none)
  0
  2 =
  some
  [Value.pointer
  o41,
  Value.int
  IntKind.i64
  n24] ∧
  ∃
  (o42
  :
  Option
  Addr),
  ∃
  (k80
  :
  Nat),
  ∃
  (k81
  :
  Nat),
  World.cell?
  w48
  (Addr.add
  (Addr.mk
  k79
  0
  none)
  1) =
  some
  (Value.slice
  o42
  k80
  k81) ∧
  RunE
  Proofs.Tryd.prog
  Ev
  69
  [Value.agg
  (Array.mk
  [Value.pointer
  o41,
  Value.int
  IntKind.i64
  n24]),
  Value.slice
  o42
  k80
  k81]
  w48
  fun
  (v11 :
  Value)
  (w49 :
  World) =>
  ∃
  (b4
  :
  Bool),
  v11 =
  Value.bool
  b4 ∧
  br
  (!b4)
  (inI
  (n20 +
  1) ∧
  x12
  (n20 +
  1)
  w49 ∧
  x13
  (n20 +
  1)
  w49 <
  x13
  n20
  w45)
  (∀
  (w50 :
  World),
  drawn
  w49
  w50 →
  ∃
  (I6
  :
  World →
  Prop),
  I6
  w50 ∧
  ∃
  (o43
  :
  Option
  Addr),
  ∃
  (k82
  :
  Nat),
  ∃
  (k83
  :
  Nat),
  (∀
  (w51 :
  World),
  I6
  w51 →
  World.cell?
  w51
  (Addr.mk
  k56
  0
  none) =
  some
  (Value.slice
  o43
  k82
  k83)) ∧
  ∃
  (n25
  :
  Int),
  (∀
  (w52 :
  World),
  I6
  w52 →
  World.cell?
  w52
  (Addr.mk
  k79
  0
  none) =
  some
  (Value.int
  IntKind.i64
  n25)) ∧
  idx
  o43
  k82
  n25
  1
  fun
  (a6 :
  Addr) =>
  ∃
  (n26
  :
  Int),
  (∀
  (w53 :
  World),
  I6
  w53 →
  World.cell?
  w53
  a6 =
  some
  (Value.int
  IntKind.i64
  n26)) ∧
  ∃
  (n27
  :
  Int),
  (∀
  (w54 :
  World),
  I6
  w54 →
  World.cell?
  w54
  (Addr.add
  (Addr.mk
  k79
  0
  none)
  2) =
  some
  (Value.int
  IntKind.i64
  n27)) ∧
  new
  w50
  (Obj.cells
  (Array.mk
  [Value.int
  IntKind.i64
  0,
  Value.slice
  none
  0
  0,
  Value.int
  IntKind.i64
  0])
  51)
  fun
  (k84 :
  Nat)
  (w55 :
  World) =>
  I6
  w55 ∧
  stR
  w55
  (Addr.mk
  k84
  0
  none)
  [Value.int
  IntKind.i64
  n26,
  Value.slice
  none
  0
  0,
  Value.int
  IntKind.i64
  n27]
  fun
  (w56 :
  World) =>
  ∃
  (o44
  :
  Option
  Addr),
  ∃
  (k85
  :
  Nat),
  ∃
  (k86
  :
  Nat),
  World.cell?
  w56
  (Addr.add
  (Addr.mk
  k79
  0
  none)
  1) =
  some
  (Value.slice
  o44
  k85
  k86) ∧
  ∃
  (x14
  :
  arrS
  (shs
  [(121,
  S1.one
  (Cs.int
  IntKind.i64))])
  (World →
  Prop)),
  ∃
  (x15
  :
  arrS
  (shs
  [(121,
  S1.one
  (Cs.int
  IntKind.i64))])
  (World →
  Nat)),
  x14
  0
  w56 ∧
  ∀
  (I7 :
  Nat →
  Value)
  (n28 :
  Int)
  (w57 :
  World),
  x14
  n28
  w57 →
  br
  (decide
  (n28 <
  (↑k85 :
  Int)))
  (idx
  o44
  k85
  n28
  1
  fun
  (a7 :
  Addr) =>
  ∃
  (n29
  :
  Int),
  World.cell?
  w57
  a7 =
  some
  (Value.int
  IntKind.i64
  n29) ∧
  ∀
  (w58 :
  World),
  drawn
  w57
  w58 →
  ∃
  (I8
  :
  World →
  Prop),
  I8
  w58 ∧
  ∃
  (o45
  :
  Option
  Addr),
  ∃
  (k87
  :
  Nat),
  ∃
  (k88
  :
  Nat),
  (∀
  (w59 :
  World),
  I8
  w59 →
  World.cell?
  w59
  (Addr.add
  (Addr.mk
  k84
  0
  none)
  1) =
  some
  (Value.slice
  o45
  k87
  k88)) ∧
  ∃
  (o46
  :
  Option
  Addr),
  ∃
  (k89
  :
  Nat),
  ∃
  (k90
  :
  Nat),
  (∀
  (w60 :
  World),
  I8
  w60 →
  World.cell?
  w60
  (Addr.mk
  k56
  0
  none) =
  some
  (Value.slice
  o46
  k89
  k90)) ∧
  idx
  o46
  k89
  n29
  1
  fun
  (a8 :
  Addr) =>
  ∃
  (n30
  :
  Int),
  (∀
  (w61 :
  World),
  I8
  w61 →
  World.cell?
  w61
  a8 =
  some
  (Value.int
  IntKind.i64
  n30)) ∧
  new
  w58
  (Obj.cells
  (Array.mk
  [Value.int
  IntKind.i64
  n30])
  3)
  fun
  (k91 :
  Nat)
  (w62 :
  World) =>
  I8
  w62 ∧
  RunS
  Proofs.Tryd.prog
  (Builtin.append_
  (Array.mk
  [24,
  24])
  24
  (Array.mk
  [Value.slice
  o45
  k87
  k88,
  Value.slice
  (some
  (Addr.mk
  k91
  0
  none))
  1
  1]))
  w62
  fun
  (v12 :
  Value)
  (w63 :
  World) =>
  ∃
  (o47
  :
  Option
  Addr),
  ∃
  (k92
  :
  Nat),
  ∃
  (k93
  :
  Nat),
  v12 =
  Value.slice
  o47
  k92
  k93 ∧
  I8
  w63 ∧
  st1
  w63
  (Addr.add
  (Addr.mk
  k84
  0
  none)
  1)
  (Value.slice
  o47
  k92
  k93)
  fun
  (w64 :
  World) =>
  inI
  (n28 +
  1) ∧
  x14
  (n28 +
  1)
  w64 ∧
  x15
  (n28 +
  1)
  w64 <
  x15
  n28
  w57)
  (∃
  (o48
  :
  Option
  Addr),
  ∃
  (k94
  :
  Nat),
  ∃
  (k95
  :
  Nat),
  World.cell?
  w57
  (Addr.add
  (Addr.mk
  k54
  0
  none)
  4) =
  some
  (Value.slice
  o48
  k94
  k95) ∧
  ∃
  (n31
  :
  Int),
  ∃
  (o49
  :
  Option
  Addr),
  ∃
  (k96
  :
  Nat),
  ∃
  (k97
  :
  Nat),
  ∃
  (n32
  :
  Int),
  V.rowAt
  w57
  (Addr.mk
  k84
  0
  none)
  0
  3 =
  some
  [Value.int
  IntKind.i64
  n31,
  Value.slice
  o49
  k96
  k97,
  Value.int
  IntKind.i64
  n32] ∧
  new
  w57
  (Obj.cells
  (Array.mk
  [Value.int
  IntKind.i64
  n31,
  Value.slice
  o49
  k96
  k97,
  Value.int
  IntKind.i64
  n32])
  51)
  fun
  (k98 :
  Nat)
  (w65 :
  World) =>
  RunS
  Proofs.Tryd.prog
  (Builtin.append_
  (Array.mk
  [25,
  25])
  25
  (Array.mk
  [Value.slice
  o48
  k94
  k95,
  Value.slice
  (some
  (Addr.mk
  k98
  0
  none))
  1
  1]))
  w65
  fun
  (v13 :
  Value)
  (w66 :
  World) =>
  ∃
  (o50
  :
  Option
  Addr),
  ∃
  (k99
  :
  Nat),
  ∃
  (k100
  :
  Nat),
  v13 =
  Value.slice
  o50
  k99
  k100 ∧
  st1
  w66
  (Addr.add
  (Addr.mk
  k54
  0
  none)
  4)
  (Value.slice
  o50
  k99
  k100)
  fun
  (w67 :
  World) =>
  inI
  (n20 +
  1) ∧
  x12
  (n20 +
  1)
  w67 ∧
  x13
  (n20 +
  1)
  w67 <
  x13
  n20
  w45))))
  (∃
  (o51
  :
  Option
  Addr),
  ∃
  (k101
  :
  Nat),
  ∃
  (k102
  :
  Nat),
  ∃
  (o52
  :
  Option
  Addr),
  ∃
  (k103
  :
  Nat),
  ∃
  (k104
  :
  Nat),
  ∃
  (o53
  :
  Option
  Addr),
  ∃
  (k105
  :
  Nat),
  ∃
  (k106
  :
  Nat),
  ∃
  (n33
  :
  Int),
  ∃
  (o54
  :
  Option
  Addr),
  ∃
  (k107
  :
  Nat),
  ∃
  (k108
  :
  Nat),
  V.rowAt
  w45
  (Addr.mk
  k54
  0
  none)
  0
  5 =
  some
  [Value.slice
  o51
  k101
  k102,
  Value.slice
  o52
  k103
  k104,
  Value.slice
  o53
  k105
  k106,
  Value.int
  IntKind.i64
  n33,
  Value.slice
  o54
  k107
  k108] ∧
  stR
  w45
  (Addr.mk
  k2
  0
  none)
  [Value.slice
  o51
  k101
  k102,
  Value.slice
  o52
  k103
  k104,
  Value.slice
  o53
  k105
  k106,
  Value.int
  IntKind.i64
  n33,
  Value.slice
  o54
  k107
  k108]
  fun
  (w68 :
  World) =>
  ∃
  (o55
  :
  Option
  Addr),
  ∃
  (k109
  :
  Nat),
  ∃
  (k110
  :
  Nat),
  ∃
  (o56
  :
  Option
  Addr),
  ∃
  (k111
  :
  Nat),
  ∃
  (k112
  :
  Nat),
  ∃
  (o57
  :
  Option
  Addr),
  ∃
  (k113
  :
  Nat),
  ∃
  (k114
  :
  Nat),
  ∃
  (n34
  :
  Int),
  ∃
  (o58
  :
  Option
  Addr),
  ∃
  (k115
  :
  Nat),
  ∃
  (k116
  :
  Nat),
  V.rowAt
  w68
  (Addr.mk
  k2
  0
  none)
  0
  5 =
  some
  [Value.slice
  o55
  k109
  k110,
  Value.slice
  o56
  k111
  k112,
  Value.slice
  o57
  k113
  k114,
  Value.int
  IntKind.i64
  n34,
  Value.slice
  o58
  k115
  k116] ∧
  ∀
  (w69 :
  World),
  hp
  w69 =
  hp
  w68 →
  R
  (Value.tuple
  (Array.mk
  [Value.agg
  (Array.mk
  [Value.slice
  o55
  k109
  k110,
  Value.slice
  o56
  k111
  k112,
  Value.slice
  o57
  k113
  k114,
  Value.int
  IntKind.i64
  n34,
  Value.slice
  o58
  k115
  k116]),
  Value.int
  IntKind.i64
  0]))
  w69)) ∧
  (∀
  (w70 :
  World),
  St
  w70
  (x5 ::
  x3 ::
  x6) →
  ∃
  (o59
  :
  Option
  Addr),
  ∃
  (k117
  :
  Nat),
  ∃
  (k118
  :
  Nat),
  ∃
  (o60
  :
  Option
  Addr),
  ∃
  (k119
  :
  Nat),
  ∃
  (k120
  :
  Nat),
  ∃
  (o61
  :
  Option
  Addr),
  ∃
  (k121
  :
  Nat),
  ∃
  (k122
  :
  Nat),
  ∃
  (n35
  :
  Int),
  ∃
  (o62
  :
  Option
  Addr),
  ∃
  (k123
  :
  Nat),
  ∃
  (k124
  :
  Nat),
  V.rowAt
  w70
  (Addr.mk
  k2
  0
  none)
  0
  5 =
  some
  [Value.slice
  o59
  k117
  k118,
  Value.slice
  o60
  k119
  k120,
  Value.slice
  o61
  k121
  k122,
  Value.int
  IntKind.i64
  n35,
  Value.slice
  o62
  k123
  k124] ∧
  ∀
  (w71 :
  World),
  hp
  w71 =
  hp
  w70 →
  R
  (Value.tuple
  (Array.mk
  [Value.agg
  (Array.mk
  [Value.slice
  o59
  k117
  k118,
  Value.slice
  o60
  k119
  k120,
  Value.slice
  o61
  k121
  k122,
  Value.int
  IntKind.i64
  n35,
  Value.slice
  o62
  k123
  k124]),
  Value.int
  IntKind.i64
  0]))
  w71) ∧
  True)) ∧
  new
  w19
  (Obj.cells
  (Array.mk
  [Value.slice
  none
  0
  0,
  Value.slice
  none
  0
  0,
  Value.slice
  none
  0
  0,
  Value.int
  IntKind.i64
  0,
  Value.slice
  none
  0
  0])
  27)
  fun
  (k125 :
  Nat)
  (w72 :
  World) =>
  I1
  w72 ∧
  new
  w72
  (Obj.cells
  (Array.mk
  [Value.string
  (ByteArray.mk
  (Array.mk
  []))])
  9)
  fun
  (k126 :
  Nat)
  (w73 :
  World) =>
  I1
  w73 ∧
  stR
  w73
  (Addr.mk
  k125
  0
  none)
  [Value.slice
  o27
  k49
  k50,
  Value.slice
  (some
  (Addr.mk
  k126
  0
  none))
  1
  1,
  Value.slice
  o28
  k51
  k52,
  Value.int
  IntKind.i64
  0,
  Value.slice
  none
  0
  0]
  fun
  (w74 :
  World) =>
  ∃
  (o63
  :
  Option
  Addr),
  World.cell?
  w74
  (Addr.mk
  k44
  0
  none) =
  some
  (Value.pointer
  o63) ∧
  RunE
  Proofs.Tryd.prog
  Ev
  67
  [Value.pointer
  o63]
  w74
  fun
  (v14 :
  Value)
  (w75 :
  World) =>
  ∃
  (n36
  :
  Int),
  v14 =
  Value.int
  IntKind.i64
  n36 ∧
  mkOk
  n36
  n36
  8 ∧
  new
  w75
  (Obj.cells
  (Array.mk
  (reps
  (Int.toNat
  n36)
  [Value.int
  IntKind.i64
  0]))
  3)
  fun
  (k127 :
  Nat)
  (w76 :
  World) =>
  new
  w76
  (Obj.cells
  (Array.mk
  [Value.slice
  none
  0
  0])
  24)
  fun
  (k128 :
  Nat)
  (w77 :
  World) =>
  st1
  w77
  (Addr.mk
  k128
  0
  none)
  (Value.slice
  (some
  (Addr.mk
  k127
  0
  none))
  (Int.toNat
  n36)
  (Int.toNat
  n36))
  fun
  (w78 :
  World) =>
  ∃
  (o64
  :
  Option
  Addr),
  World.cell?
  w78
  (Addr.mk
  k44
  0
  none) =
  some
  (Value.pointer
  o64) ∧
  RunE
  Proofs.Tryd.prog
  Ev
  68
  [Value.pointer
  o64]
  w78
  fun
  (v15 :
  Value)
  (w79 :
  World) =>
  ∃
  (g2
  :
  FuncId),
  ∃
  (x16
  :
  List
  Value),
  v15 =
  Value.func
  (Fn.func
  g2)
  (Array.mk
  [])
  (Array.mk
  x16) ∧
  ifT
  (Proofs.YtaheggomcnbbiaaDoor.Fn
  g2)
  (∃
  (x17
  :
  List
  (List
  Value)),
  ∃
  (x18
  :
  Asn),
  ∃
  (x19
  :
  Asn),
  ∃
  (I9
  :
  Nat →
  Asn),
  ∃
  (x20
  :
  Asn),
  ∃
  (I10
  :
  Nat →
  Asn),
  ∃
  (x21
  :
  List
  Asn),
  St
  w79
  (I9
  0 ::
  x18 ::
  x21) ∧
  (∀
  (x22 :
  Hp),
  starL
  x21
  x22 →
  x19
  x22) ∧
  Itr
  Proofs.Tryd.prog
  g2
  []
  x16
  x18
  x19
  x17 ∧
  (∀
  (x23 :
  List
  Value),
  x23 ∈
  x17 →
  ∃
  (n37
  :
  Int),
  x23 =
  [Value.int
  IntKind.i64
  n37]) ∧
  (∀
  (k129 :
  Nat)
  (n38 :
  Int),
  List.get?Internal
  x17
  k129 =
  some
  [Value.int
  IntKind.i64
  n38] →
  ∀
  (x24 :
  List
  Asn)
  (w80 :
  World),
  Sup
  x24
  x21 →
  St
  w80
  (I9
  k129 ::
  x24) →
  ∃
  (x25
  :
  Asn),
  St
  w80
  (x25 ::
  x24) ∧
  ∀
  (x26 :
  List
  Asn)
  (w81 :
  World),
  Sup
  x26
  x21 →
  St
  w81
  (x25 ::
  x26) →
  ∃
  (o65
  :
  Option
  Addr),
  ∃
  (k130
  :
  Nat),
  ∃
  (k131
  :
  Nat),
  World.cell?
  w81
  (Addr.mk
  k128
  0
  none) =
  some
  (Value.slice
  o65
  k130
  k131) ∧
  idx
  o65
  k130
  n38
  1
  fun
  (a9 :
  Addr) =>
  st1
  w81
  a9
  (Value.int
  IntKind.i64
  n38)
  fun
  (w82 :
  World) =>
  ∃
  (n39
  :
  Int),
  World.cell?
  w82
  (Addr.add
  (Addr.mk
  k44
  0
  none)
  1) =
  some
  (Value.int
  IntKind.i64
  n39) ∧
  br
  (decide
  (n39 ≤
  n38))
  (∃
  (o66
  :
  Option
  Addr),
  ∃
  (k132
  :
  Nat),
  ∃
  (k133
  :
  Nat),
  World.cell?
  w82
  (Addr.mk
  k128
  0
  none) =
  some
  (Value.slice
  o66
  k132
  k133) ∧
  ∃
  (n40
  :
  Int),
  World.cell?
  w82
  (Addr.add
  (Addr.mk
  k44
  0
  none)
  1) =
  some
  (Value.int
  IntKind.i64
  n40) ∧
  ∃
  (o67
  :
  Option
  Addr),
  ∃
  (k134
  :
  Nat),
  ∃
  (k135
  :
  Nat),
  World.cell?
  w82
  (Addr.add
  (Addr.mk
  k125
  0
  none)
  1) =
  some
  (Value.slice
  o67
  k134
  k135) ∧
  inI
  (n40 +
  (↑k134 :
  Int)) ∧
  idx
  o66
  k132
  n38
  1
  fun
  (a10 :
  Addr) =>
  st1
  w82
  a10
  (Value.int
  IntKind.i64
  (n40 +
  (↑k134 :
  Int)))
  fun
  (w83 :
  World) =>
  ∀
  (w84 :
  World),
  drawn
  w83
  w84 →
  ∃
  (I11
  :
  World →
  Prop),
  I11
  w84 ∧
  ∃
  (o68
  :
  Option
  Addr),
  ∃
  (k136
  :
  Nat),
  ∃
  (k137
  :
  Nat),
  (∀
  (w85 :
  World),
  I11
  w85 →
  World.cell?
  w85
  (Addr.add
  (Addr.mk
  k125
  0
  none)
  1) =
  some
  (Value.slice
  o68
  k136
  k137)) ∧
  ∃
  (o69
  :
  Option
  Addr),
  ∃
  (k138
  :
  Nat),
  ∃
  (k139
  :
  Nat),
  (∀
  (w86 :
  World),
  I11
  w86 →
  World.cell?
  w86
  (Addr.add
  (Addr.mk
  k1
  0
  none)
  1) =
  some
  (Value.slice
  o69
  k138
  k139)) ∧
  ∃
  (n41
  :
  Int),
  (∀
  (w87 :
  World),
  I11
  w87 →
  World.cell?
  w87
  (Addr.add
  (Addr.mk
  k44
  0
  none)
  1) =
  some
  (Value.int
  IntKind.i64
  n41)) ∧
  inI
  (n38 -
  n41) ∧
  idx
  o69
  k138
  (n38 -
  n41)
  1
  fun
  (a11 :
  Addr) =>
  ∃
  (s2
  :
  ByteArray),
  (∀
  (w88 :
  World),
  I11
  w88 →
  World.cell?
  w88
  a11 =
  some
  (Value.string
  s2)) ∧
  new
  w84
  (Obj.cells
  (Array.mk
  [Value.string
  s2])
  9)
  fun
  (k140 :
  Nat)
  (w89 :
  World) =>
  I11
  w89 ∧
  RunS
  Proofs.Tryd.prog
  (Builtin.append_
  (Array.mk
  [23,
  23])
  23
  (Array.mk
  [Value.slice
  o68
  k136
  k137,
  Value.slice
  (some
  (Addr.mk
  k140
  0
  none))
  1
  1]))
  w89
  fun
  (v16 :
  Value)
  (w90 :
  World) =>
  ∃
  (o70
  :
  Option
  Addr),
  ∃
  (k141
  :
  Nat),
  ∃
  (k142
  :
  Nat),
  v16 =
  Value.slice
  o70
  k141
  k142 ∧
  I11
  w90 ∧
  st1
  w90
  (Addr.add
  (Addr.mk
  k125
  0
  none)
  1)
  (Value.slice
  o70
  k141
  k142)
  fun
  (w91 :
  World) =>
  St
  w91
  (I9
  (k129 +
  1) ::
  x26))
  (St
  w82
  (I9
  (k129 +
  1) ::
  x26))) ∧
  (∀
  (w92 :
  World),
  St
  w92
  (I9
  (List.length
  x17) ::
  x18 ::
  x21) →
  ∃
  (o71
  :
  Option
  Addr),
  ∃
  (k143
  :
  Nat),
  ∃
  (k144
  :
  Nat),
  World.cell?
  w92
  (Addr.mk
  k128
  0
  none) =
  some
  (Value.slice
  o71
  k143
  k144) ∧
  ∃
  (n42
  :
  Int),
  World.cell?
  w92
  (Addr.add
  (Addr.mk
  k1
  0
  none)
  3) =
  some
  (Value.int
  IntKind.i64
  n42) ∧
  idx
  o71
  k143
  n42
  1
  fun
  (a12 :
  Addr) =>
  ∃
  (n43
  :
  Int),
  World.cell?
  w92
  a12 =
  some
  (Value.int
  IntKind.i64
  n43) ∧
  st1
  w92
  (Addr.add
  (Addr.mk
  k125
  0
  none)
  3)
  (Value.int
  IntKind.i64
  n43)
  fun
  (w93 :
  World) =>
  ∃
  (n44
  :
  Int),
  World.cell?
  w93
  (Addr.add
  (Addr.mk
  k44
  0
  none)
  1) =
  some
  (Value.int
  IntKind.i64
  n44) ∧
  ∃
  (n45
  :
  Int),
  World.cell?
  w93
  (Addr.add
  (Addr.mk
  k125
  0
  none)
  3) =
  some
  (Value.int
  IntKind.i64
  n45) ∧
  new
  w93
  (Obj.cells
  (Array.mk
  [Value.int
  IntKind.i64
  n45])
  3)
  fun
  (k145 :
  Nat)
  (w94 :
  World) =>
  new
  w94
  (Obj.cells
  (Array.mk
  [Value.int
  IntKind.i64
  n44,
  Value.slice
  (some
  (Addr.mk
  k145
  0
  none))
  1
  1,
  Value.int
  IntKind.i64
  0])
  51)
  fun
  (k146 :
  Nat)
  (w95 :
  World) =>
  st1
  w95
  (Addr.add
  (Addr.mk
  k125
  0
  none)
  4)
  (Value.slice
  (some
  (Addr.mk
  k146
  0
  none))
  1
  1)
  fun
  (w96 :
  World) =>
  ∃
  (o72
  :
  Option
  Addr),
  ∃
  (k147
  :
  Nat),
  ∃
  (k148
  :
  Nat),
  World.cell?
  w96
  (Addr.add
  (Addr.mk
  k1
  0
  none)
  4) =
  some
  (Value.slice
  o72
  k147
  k148) ∧
  ∃
  (x27
  :
  arrS
  (shs
  [(93,
  S1.one
  (Cs.int
  IntKind.i64))])
  (World →
  Prop)),
  ∃
  (x28
  :
  arrS
  (shs
  [(93,
  S1.one
  (Cs.int
  IntKind.i64))])
  (World →
  Nat)),
  x27
  0
  w96 ∧
  ∀
  (I12 :
  Nat →
  Value)
  (n46 :
  Int)
  (w97 :
  World),
  x27
  n46
  w97 →
  br
  (decide
  (n46 <
  (↑k147 :
  Int)))
  (idx
  o72
  k147
  n46
  3
  fun
  (a13 :
  Addr) =>
  ∃
  (n47
  :
  Int),
  ∃
  (o73
  :
  Option
  Addr),
  ∃
  (k149
  :
  Nat),
  ∃
  (k150
  :
  Nat),
  ∃
  (n48
  :
  Int),
  V.rowAt
  w97
  a13
  0
  3 =
  some
  [Value.int
  IntKind.i64
  n47,
  Value.slice
  o73
  k149
  k150,
  Value.int
  IntKind.i64
  n48] ∧
  new
  w97
  (Obj.cells
  (Array.mk
  [Value.int
  IntKind.i64
  0,
  Value.slice
  none
  0
  0,
  Value.int
  IntKind.i64
  0])
  51)
  fun
  (k151 :
  Nat)
  (w98 :
  World) =>
  stR
  w98
  (Addr.mk
  k151
  0
  none)
  [Value.int
  IntKind.i64
  n47,
  Value.slice
  o73
  k149
  k150,
  Value.int
  IntKind.i64
  n48]
  fun
  (w99 :
  World) =>
  ∃
  (o74
  :
  Option
  Addr),
  World.cell?
  w99
  (Addr.mk
  k44
  0
  none) =
  some
  (Value.pointer
  o74) ∧
  ∃
  (n49
  :
  Int),
  World.cell?
  w99
  (Addr.mk
  k151
  0
  none) =
  some
  (Value.int
  IntKind.i64
  n49) ∧
  RunE
  Proofs.Tryd.prog
  Ev
  63
  [Value.pointer
  o74,
  Value.int
  IntKind.i64
  n49]
  w99
  fun
  (v17 :
  Value)
  (w100 :
  World) =>
  ∃
  (b5
  :
  Bool),
  v17 =
  Value.bool
  b5 ∧
  br
  (!b5)
  (inI
  (n46 +
  1) ∧
  x27
  (n46 +
  1)
  w100 ∧
  x28
  (n46 +
  1)
  w100 <
  x28
  n46
  w97)
  (∃
  (o75
  :
  Option
  Addr),
  ∃
  (n50
  :
  Int),
  V.rowAt
  w100
  (Addr.mk
  k27
  0
  none)
  0
  2 =
  some
  [Value.pointer
  o75,
  Value.int
  IntKind.i64
  n50] ∧
  ∃
  (o76
  :
  Option
  Addr),
  ∃
  (k152
  :
  Nat),
  ∃
  (k153
  :
  Nat),
  World.cell?
  w100
  (Addr.add
  (Addr.mk
  k151
  0
  none)
  1) =
  some
  (Value.slice
  o76
  k152
  k153) ∧
  RunE
  Proofs.Tryd.prog
  Ev
  69
  [Value.agg
  (Array.mk
  [Value.pointer
  o75,
  Value.int
  IntKind.i64
  n50]),
  Value.slice
  o76
  k152
  k153]
  w100
  fun
  (v18 :
  Value)
  (w101 :
  World) =>
  ∃
  (b6
  :
  Bool),
  v18 =
  Value.bool
  b6 ∧
  br
  (!b6)
  (inI
  (n46 +
  1) ∧
  x27
  (n46 +
  1)
  w101 ∧
  x28
  (n46 +
  1)
  w101 <
  x28
  n46
  w97)
  (∀
  (w102 :
  World),
  drawn
  w101
  w102 →
  ∃
  (I13
  :
  World →
  Prop),
  I13
  w102 ∧
  ∃
  (o77
  :
  Option
  Addr),
  ∃
  (k154
  :
  Nat),
  ∃
  (k155
  :
  Nat),
  (∀
  (w103 :
  World),
  I13
  w103 →
  World.cell?
  w103
  (Addr.mk
  k128
  0
  none) =
  some
  (Value.slice
  o77
  k154
  k155)) ∧
  ∃
  (n51
  :
  Int),
  (∀
  (w104 :
  World),
  I13
  w104 →
  World.cell?
  w104
  (Addr.mk
  k151
  0
  none) =
  some
  (Value.int
  IntKind.i64
  n51)) ∧
  idx
  o77
  k154
  n51
  1
  fun
  (a14 :
  Addr) =>
  ∃
  (n52
  :
  Int),
  (∀
  (w105 :
  World),
  I13
  w105 →
  World.cell?
  w105
  a14 =
  some
  (Value.int
  IntKind.i64
  n52)) ∧
  ∃
  (n53
  :
  Int),
  (∀
  (w106 :
  World),
  I13
  w106 →
  World.cell?
  w106
  (Addr.add
  (Addr.mk
  k151
  0
  none)
  2) =
  some
  (Value.int
  IntKind.i64
  n53)) ∧
  new
  w102
  (Obj.cells
  (Array.mk
  [Value.int
  IntKind.i64
  0,
  Value.slice
  none
  0
  0,
  Value.int
  IntKind.i64
  0])
  51)
  fun
  (k156 :
  Nat)
  (w107 :
  World) =>
  I13
  w107 ∧
  stR
  w107
  (Addr.mk
  k156
  0
  none)
  [Value.int
  IntKind.i64
  n52,
  Value.slice
  none
  0
  0,
  Value.int
  IntKind.i64
  n53]
  fun
  (w108 :
  World) =>
  ∃
  (o78
  :
  Option
  Addr),
  ∃
  (k157
  :
  Nat),
  ∃
  (k158
  :
  Nat),
  World.cell?
  w108
  (Addr.add
  (Addr.mk
  k151
  0
  none)
  1) =
  some
  (Value.slice
  o78
  k157
  k158) ∧
  ∃
  (x29
  :
  arrS
  (shs
  [(121,
  S1.one
  (Cs.int
  IntKind.i64))])
  (World →
  Prop)),
  ∃
  (x30
  :
  arrS
  (shs
  [(121,
  S1.one
  (Cs.int
  IntKind.i64))])
  (World →
  Nat)),
  x29
  0
  w108 ∧
  ∀
  (I14 :
  Nat →
  Value)
  (n54 :
  Int)
  (w109 :
  World),
  x29
  n54
  w109 →
  br
  (decide
  (n54 <
  (↑k157 :
  Int)))
  (idx
  o78
  k157
  n54
  1
  fun
  (a15 :
  Addr) =>
  ∃
  (n55
  :
  Int),
  World.cell?
  w109
  a15 =
  some
  (Value.int
  IntKind.i64
  n55) ∧
  ∀
  (w110 :
  World),
  drawn
  w109
  w110 →
  ∃
  (I15
  :
  World →
  Prop),
  I15
  w110 ∧
  ∃
  (o79
  :
  Option
  Addr),
  ∃
  (k159
  :
  Nat),
  ∃
  (k160
  :
  Nat),
  (∀
  (w111 :
  World),
  I15
  w111 →
  World.cell?
  w111
  (Addr.add
  (Addr.mk
  k156
  0
  none)
  1) =
  some
  (Value.slice
  o79
  k159
  k160)) ∧
  ∃
  (o80
  :
  Option
  Addr),
  ∃
  (k161
  :
  Nat),
  ∃
  (k162
  :
  Nat),
  (∀
  (w112 :
  World),
  I15
  w112 →
  World.cell?
  w112
  (Addr.mk
  k128
  0
  none) =
  some
  (Value.slice
  o80
  k161
  k162)) ∧
  idx
  o80
  k161
  n55
  1
  fun
  (a16 :
  Addr) =>
  ∃
  (n56
  :
  Int),
  (∀
  (w113 :
  World),
  I15
  w113 →
  World.cell?
  w113
  a16 =
  some
  (Value.int
  IntKind.i64
  n56)) ∧
  new
  w110
  (Obj.cells
  (Array.mk
  [Value.int
  IntKind.i64
  n56])
  3)
  fun
  (k163 :
  Nat)
  (w114 :
  World) =>
  I15
  w114 ∧
  RunS
  Proofs.Tryd.prog
  (Builtin.append_
  (Array.mk
  [24,
  24])
  24
  (Array.mk
  [Value.slice
  o79
  k159
  k160,
  Value.slice
  (some
  (Addr.mk
  k163
  0
  none))
  1
  1]))
  w114
  fun
  (v19 :
  Value)
  (w115 :
  World) =>
  ∃
  (o81
  :
  Option
  Addr),
  ∃
  (k164
  :
  Nat),
  ∃
  (k165
  :
  Nat),
  v19 =
  Value.slice
  o81
  k164
  k165 ∧
  I15
  w115 ∧
  st1
  w115
  (Addr.add
  (Addr.mk
  k156
  0
  none)
  1)
  (Value.slice
  o81
  k164
  k165)
  fun
  (w116 :
  World) =>
  inI
  (n54 +
  1) ∧
  x29
  (n54 +
  1)
  w116 ∧
  x30
  (n54 +
  1)
  w116 <
  x30
  n54
  w109)
  (∃
  (o82
  :
  Option
  Addr),
  ∃
  (k166
  :
  Nat),
  ∃
  (k167
  :
  Nat),
  World.cell?
  w109
  (Addr.add
  (Addr.mk
  k125
  0
  none)
  4) =
  some
  (Value.slice
  o82
  k166
  k167) ∧
  ∃
  (n57
  :
  Int),
  ∃
  (o83
  :
  Option
  Addr),
  ∃
  (k168
  :
  Nat),
  ∃
  (k169
  :
  Nat),
  ∃
  (n58
  :
  Int),
  V.rowAt
  w109
  (Addr.mk
  k156
  0
  none)
  0
  3 =
  some
  [Value.int
  IntKind.i64
  n57,
  Value.slice
  o83
  k168
  k169,
  Value.int
  IntKind.i64
  n58] ∧
  new
  w109
  (Obj.cells
  (Array.mk
  [Value.int
  IntKind.i64
  n57,
  Value.slice
  o83
  k168
  k169,
  Value.int
  IntKind.i64
  n58])
  51)
  fun
  (k170 :
  Nat)
  (w117 :
  World) =>
  RunS
  Proofs.Tryd.prog
  (Builtin.append_
  (Array.mk
  [25,
  25])
  25
  (Array.mk
  [Value.slice
  o82
  k166
  k167,
  Value.slice
  (some
  (Addr.mk
  k170
  0
  none))
  1
  1]))
  w117
  fun
  (v20 :
  Value)
  (w118 :
  World) =>
  ∃
  (o84
  :
  Option
  Addr),
  ∃
  (k171
  :
  Nat),
  ∃
  (k172
  :
  Nat),
  v20 =
  Value.slice
  o84
  k171
  k172 ∧
  st1
  w118
  (Addr.add
  (Addr.mk
  k125
  0
  none)
  4)
  (Value.slice
  o84
  k171
  k172)
  fun
  (w119 :
  World) =>
  inI
  (n46 +
  1) ∧
  x27
  (n46 +
  1)
  w119 ∧
  x28
  (n46 +
  1)
  w119 <
  x28
  n46
  w97))))
  (∃
  (o85
  :
  Option
  Addr),
  ∃
  (k173
  :
  Nat),
  ∃
  (k174
  :
  Nat),
  ∃
  (o86
  :
  Option
  Addr),
  ∃
  (k175
  :
  Nat),
  ∃
  (k176
  :
  Nat),
  ∃
  (o87
  :
  Option
  Addr),
  ∃
  (k177
  :
  Nat),
  ∃
  (k178
  :
  Nat),
  ∃
  (n59
  :
  Int),
  ∃
  (o88
  :
  Option
  Addr),
  ∃
  (k179
  :
  Nat),
  ∃
  (k180
  :
  Nat),
  V.rowAt
  w97
  (Addr.mk
  k125
  0
  none)
  0
  5 =
  some
  [Value.slice
  o85
  k173
  k174,
  Value.slice
  o86
  k175
  k176,
  Value.slice
  o87
  k177
  k178,
  Value.int
  IntKind.i64
  n59,
  Value.slice
  o88
  k179
  k180] ∧
  stR
  w97
  (Addr.mk
  k2
  0
  none)
  [Value.slice
  o85
  k173
  k174,
  Value.slice
  o86
  k175
  k176,
  Value.slice
  o87
  k177
  k178,
  Value.int
  IntKind.i64
  n59,
  Value.slice
  o88
  k179
  k180]
  fun
  (w120 :
  World) =>
  ∃
  (o89
  :
  Option
  Addr),
  ∃
  (k181
  :
  Nat),
  ∃
  (k182
  :
  Nat),
  ∃
  (o90
  :
  Option
  Addr),
  ∃
  (k183
  :
  Nat),
  ∃
  (k184
  :
  Nat),
  ∃
  (o91
  :
  Option
  Addr),
  ∃
  (k185
  :
  Nat),
  ∃
  (k186
  :
  Nat),
  ∃
  (n60
  :
  Int),
  ∃
  (o92
  :
  Option
  Addr),
  ∃
  (k187
  :
  Nat),
  ∃
  (k188
  :
  Nat),
  V.rowAt
  w120
  (Addr.mk
  k2
  0
  none)
  0
  5 =
  some
  [Value.slice
  o89
  k181
  k182,
  Value.slice
  o90
  k183
  k184,
  Value.slice
  o91
  k185
  k186,
  Value.int
  IntKind.i64
  n60,
  Value.slice
  o92
  k187
  k188] ∧
  ∀
  (w121 :
  World),
  hp
  w121 =
  hp
  w120 →
  R
  (Value.tuple
  (Array.mk
  [Value.agg
  (Array.mk
  [Value.slice
  o89
  k181
  k182,
  Value.slice
  o90
  k183
  k184,
  Value.slice
  o91
  k185
  k186,
  Value.int
  IntKind.i64
  n60,
  Value.slice
  o92
  k187
  k188]),
  Value.int
  IntKind.i64
  0]))
  w121)) ∧
  (∀
  (w122 :
  World),
  St
  w122
  (x20 ::
  x18 ::
  x21) →
  ∃
  (o93
  :
  Option
  Addr),
  ∃
  (k189
  :
  Nat),
  ∃
  (k190
  :
  Nat),
  ∃
  (o94
  :
  Option
  Addr),
  ∃
  (k191
  :
  Nat),
  ∃
  (k192
  :
  Nat),
  ∃
  (o95
  :
  Option
  Addr),
  ∃
  (k193
  :
  Nat),
  ∃
  (k194
  :
  Nat),
  ∃
  (n61
  :
  Int),
  ∃
  (o96
  :
  Option
  Addr),
  ∃
  (k195
  :
  Nat),
  ∃
  (k196
  :
  Nat),
  V.rowAt
  w122
  (Addr.mk
  k2
  0
  none)
  0
  5 =
  some
  [Value.slice
  o93
  k189
  k190,
  Value.slice
  o94
  k191
  k192,
  Value.slice
  o95
  k193
  k194,
  Value.int
  IntKind.i64
  n61,
  Value.slice
  o96
  k195
  k196] ∧
  ∀
  (w123 :
  World),
  hp
  w123 =
  hp
  w122 →
  R
  (Value.tuple
  (Array.mk
  [Value.agg
  (Array.mk
  [Value.slice
  o93
  k189
  k190,
  Value.slice
  o94
  k191
  k192,
  Value.slice
  o95
  k193
  k194,
  Value.int
  IntKind.i64
  n61,
  Value.slice
  o96
  k195
  k196]),
  Value.int
  IntKind.i64
  0]))
  w123) ∧
  True)) ∧
  (new
  w18
  (Obj.cells
  (Array.mk
  [Value.string
  (ByteArray.mk
  (Array.mk
  []))])
  9)
  fun
  (k197 :
  Nat)
  (w124 :
  World) =>
  I1
  w124 ∧
  (RunE
  Proofs.Tryd.prog
  Ev
  66
  [Value.slice
  o26
  k47
  k48]
  w124
  fun
  (v21 :
  Value)
  (w125 :
  World) =>
  ∃
  (o97
  :
  Option
  Addr),
  ∃
  (k198
  :
  Nat),
  ∃
  (k199
  :
  Nat),
  v21 =
  Value.slice
  o97
  k198
  k199 ∧
  I1
  w125 ∧
  new
  w125
  (Obj.cells
  (Array.mk
  [Value.slice
  none
  0
  0,
  Value.slice
  none
  0
  0,
  Value.slice
  none
  0
  0,
  Value.int
  IntKind.i64
  0,
  Value.slice
  none
  0
  0])
  27)
  fun
  (k200 :
  Nat)
  (w126 :
  World) =>
  I1
  w126 ∧
  stR
  w126
  (Addr.mk
  k200
  0
  none)
  [Value.slice
  o27
  k49
  k50,
  Value.slice
  (some
  (Addr.mk
  k197
  0
  none))
  1
  1,
  Value.slice
  o97
  k198
  k199,
  Value.int
  IntKind.i64
  0,
  Value.slice
  none
  0
  0]
  fun
  (w127 :
  World) =>
  ∃
  (o98
  :
  Option
  Addr),
  World.cell?
  w127
  (Addr.mk
  k44
  0
  none) =
  some
  (Value.pointer
  o98) ∧
  RunE
  Proofs.Tryd.prog
  Ev
  67
  [Value.pointer
  o98]
  w127
  fun
  (v22 :
  Value)
  (w128 :
  World) =>
  ∃
  (n62
  :
  Int),
  v22 =
  Value.int
  IntKind.i64
  n62 ∧
  mkOk
  n62
  n62
  8 ∧
  new
  w128
  (Obj.cells
  (Array.mk
  (reps
  (Int.toNat
  n62)
  [Value.int
  IntKind.i64
  0]))
  3)
  fun
  (k201 :
  Nat)
  (w129 :
  World) =>
  new
  w129
  (Obj.cells
  (Array.mk
  [Value.slice
  none
  0
  0])
  24)
  fun
  (k202 :
  Nat)
  (w130 :
  World) =>
  st1
  w130
  (Addr.mk
  k202
  0
  none)
  (Value.slice
  (some
  (Addr.mk
  k201
  0
  none))
  (Int.toNat
  n62)
  (Int.toNat
  n62))
  fun
  (w131 :
  World) =>
  ∃
  (o99
  :
  Option
  Addr),
  World.cell?
  w131
  (Addr.mk
  k44
  0
  none) =
  some
  (Value.pointer
  o99) ∧
  RunE
  Proofs.Tryd.prog
  Ev
  68
  [Value.pointer
  o99]
  w131
  fun
  (v23 :
  Value)
  (w132 :
  World) =>
  ∃
  (g3
  :
  FuncId),
  ∃
  (x31
  :
  List
  Value),
  v23 =
  Value.func
  (Fn.func
  g3)
  (Array.mk
  [])
  (Array.mk
  x31) ∧
  ifT
  (Proofs.YtaheggomcnbbiaaDoor.Fn
  g3)
  (∃
  (x32
  :
  List
  (List
  Value)),
  ∃
  (x33
  :
  Asn),
  ∃
  (x34
  :
  Asn),
  ∃
  (I16
  :
  Nat →
  Asn),
  ∃
  (x35
  :
  Asn),
  ∃
  (I17
  :
  Nat →
  Asn),
  ∃
  (x36
  :
  List
  Asn),
  St
  w132
  (I16
  0 ::
  x33 ::
  x36) ∧
  (∀
  (x37 :
  Hp),
  starL
  x36
  x37 →
  x34
  x37) ∧
  Itr
  Proofs.Tryd.prog
  g3
  []
  x31
  x33
  x34
  x32 ∧
  (∀
  (x38 :
  List
  Value),
  x38 ∈
  x32 →
  ∃
  (n63
  :
  Int),
  x38 =
  [Value.int
  IntKind.i64
  n63]) ∧
  (∀
  (k203 :
  Nat)
  (n64 :
  Int),
  List.get?Internal
  x32
  k203 =
  some
  [Value.int
  IntKind.i64
  n64] →
  ∀
  (x39 :
  List
  Asn)
  (w133 :
  World),
  Sup
  x39
  x36 →
  St
  w133
  (I16
  k203 ::
  x39) →
  ∃
  (x40
  :
  Asn),
  St
  w133
  (x40 ::
  x39) ∧
  ∀
  (x41 :
  List
  Asn)
  (w134 :
  World),
  Sup
  x41
  x36 →
  St
  w134
  (x40 ::
  x41) →
  ∃
  (o100
  :
  Option
  Addr),
  ∃
  (k204
  :
  Nat),
  ∃
  (k205
  :
  Nat),
  World.cell?
  w134
  (Addr.mk
  k202
  0
  none) =
  some
  (Value.slice
  o100
  k204
  k205) ∧
  idx
  o100
  k204
  n64
  1
  fun
  (a17 :
  Addr) =>
  st1
  w134
  a17
  (Value.int
  IntKind.i64
  n64)
  fun
  (w135 :
  World) =>
  ∃
  (n65
  :
  Int),
  World.cell?
  w135
  (Addr.add
  (Addr.mk
  k44
  0
  none)
  1) =
  some
  (Value.int
  IntKind.i64
  n65) ∧
  br
  (decide
  (n65 ≤
  n64))
  (∃
  (o101
  :
  Option
  Addr),
  ∃
  (k206
  :
  Nat),
  ∃
  (k207
  :
  Nat),
  World.cell?
  w135
  (Addr.mk
  k202
  0
  none) =
  some
  (Value.slice
  o101
  k206
  k207) ∧
  ∃
  (n66
  :
  Int),
  World.cell?
  w135
  (Addr.add
  (Addr.mk
  k44
  0
  none)
  1) =
  some
  (Value.int
  IntKind.i64
  n66) ∧
  ∃
  (o102
  :
  Option
  Addr),
  ∃
  (k208
  :
  Nat),
  ∃
  (k209
  :
  Nat),
  World.cell?
  w135
  (Addr.add
  (Addr.mk
  k200
  0
  none)
  1) =
  some
  (Value.slice
  o102
  k208
  k209) ∧
  inI
  (n66 +
  (↑k208 :
  Int)) ∧
  idx
  o101
  k206
  n64
  1
  fun
  (a18 :
  Addr) =>
  st1
  w135
  a18
  (Value.int
  IntKind.i64
  (n66 +
  (↑k208 :
  Int)))
  fun
  (w136 :
  World) =>
  ∀
  (w137 :
  World),
  drawn
  w136
  w137 →
  ∃
  (I18
  :
  World →
  Prop),
  I18
  w137 ∧
  ∃
  (o103
  :
  Option
  Addr),
  ∃
  (k210
  :
  Nat),
  ∃
  (k211
  :
  Nat),
  (∀
  (w138 :
  World),
  I18
  w138 →
  World.cell?
  w138
  (Addr.add
  (Addr.mk
  k200
  0
  none)
  1) =
  some
  (Value.slice
  o103
  k210
  k211)) ∧
  ∃
  (o104
  :
  Option
  Addr),
  ∃
  (k212
  :
  Nat),
  ∃
  (k213
  :
  Nat),
  (∀
  (w139 :
  World),
  I18
  w139 →
  World.cell?
  w139
  (Addr.add
  (Addr.mk
  k1
  0
  none)
  1) =
  some
  (Value.slice
  o104
  k212
  k213)) ∧
  ∃
  (n67
  :
  Int),
  (∀
  (w140 :
  World),
  I18
  w140 →
  World.cell?
  w140
  (Addr.add
  (Addr.mk
  k44
  0
  none)
  1) =
  some
  (Value.int
  IntKind.i64
  n67)) ∧
  inI
  (n64 -
  n67) ∧
  idx
  o104
  k212
  (n64 -
  n67)
  1
  fun
  (a19 :
  Addr) =>
  ∃
  (s3
  :
  ByteArray),
  (∀
  (w141 :
  World),
  I18
  w141 →
  World.cell?
  w141
  a19 =
  some
  (Value.string
  s3)) ∧
  new
  w137
  (Obj.cells
  (Array.mk
  [Value.string
  s3])
  9)
  fun
  (k214 :
  Nat)
  (w142 :
  World) =>
  I18
  w142 ∧
  RunS
  Proofs.Tryd.prog
  (Builtin.append_
  (Array.mk
  [23,
  23])
  23
  (Array.mk
  [Value.slice
  o103
  k210
  k211,
  Value.slice
  (some
  (Addr.mk
  k214
  0
  none))
  1
  1]))
  w142
  fun
  (v24 :
  Value)
  (w143 :
  World) =>
  ∃
  (o105
  :
  Option
  Addr),
  ∃
  (k215
  :
  Nat),
  ∃
  (k216
  :
  Nat),
  v24 =
  Value.slice
  o105
  k215
  k216 ∧
  I18
  w143 ∧
  st1
  w143
  (Addr.add
  (Addr.mk
  k200
  0
  none)
  1)
  (Value.slice
  o105
  k215
  k216)
  fun
  (w144 :
  World) =>
  St
  w144
  (I16
  (k203 +
  1) ::
  x41))
  (St
  w135
  (I16
  (k203 +
  1) ::
  x41))) ∧
  (∀
  (w145 :
  World),
  St
  w145
  (I16
  (List.length
  x32) ::
  x33 ::
  x36) →
  ∃
  (o106
  :
  Option
  Addr),
  ∃
  (k217
  :
  Nat),
  ∃
  (k218
  :
  Nat),
  World.cell?
  w145
  (Addr.mk
  k202
  0
  none) =
  some
  (Value.slice
  o106
  k217
  k218) ∧
  ∃
  (n68
  :
  Int),
  World.cell?
  w145
  (Addr.add
  (Addr.mk
  k1
  0
  none)
  3) =
  some
  (Value.int
  IntKind.i64
  n68) ∧
  idx
  o106
  k217
  n68
  1
  fun
  (a20 :
  Addr) =>
  ∃
  (n69
  :
  Int),
  World.cell?
  w145
  a20 =
  some
  (Value.int
  IntKind.i64
  n69) ∧
  st1
  w145
  (Addr.add
  (Addr.mk
  k200
  0
  none)
  3)
  (Value.int
  IntKind.i64
  n69)
  fun
  (w146 :
  World) =>
  ∃
  (n70
  :
  Int),
  World.cell?
  w146
  (Addr.add
  (Addr.mk
  k44
  0
  none)
  1) =
  some
  (Value.int
  IntKind.i64
  n70) ∧
  ∃
  (n71
  :
  Int),
  World.cell?
  w146
  (Addr.add
  (Addr.mk
  k200
  0
  none)
  3) =
  some
  (Value.int
  IntKind.i64
  n71) ∧
  new
  w146
  (Obj.cells
  (Array.mk
  [Value.int
  IntKind.i64
  n71])
  3)
  fun
  (k219 :
  Nat)
  (w147 :
  World) =>
  new
  w147
  (Obj.cells
  (Array.mk
  [Value.int
  IntKind.i64
  n70,
  Value.slice
  (some
  (Addr.mk
  k219
  0
  none))
  1
  1,
  Value.int
  IntKind.i64
  0])
  51)
  fun
  (k220 :
  Nat)
  (w148 :
  World) =>
  st1
  w148
  (Addr.add
  (Addr.mk
  k200
  0
  none)
  4)
  (Value.slice
  (some
  (Addr.mk
  k220
  0
  none))
  1
  1)
  fun
  (w149 :
  World) =>
  ∃
  (o107
  :
  Option
  Addr),
  ∃
  (k221
  :
  Nat),
  ∃
  (k222
  :
  Nat),
  World.cell?
  w149
  (Addr.add
  (Addr.mk
  k1
  0
  none)
  4) =
  some
  (Value.slice
  o107
  k221
  k222) ∧
  ∃
  (x42
  :
  arrS
  (shs
  [(93,
  S1.one
  (Cs.int
  IntKind.i64))])
  (World →
  Prop)),
  ∃
  (x43
  :
  arrS
  (shs
  [(93,
  S1.one
  (Cs.int
  IntKind.i64))])
  (World →
  Nat)),
  x42
  0
  w149 ∧
  ∀
  (I19 :
  Nat →
  Value)
  (n72 :
  Int)
  (w150 :
  World),
  x42
  n72
  w150 →
  br
  (decide
  (n72 <
  (↑k221 :
  Int)))
  (idx
  o107
  k221
  n72
  3
  fun
  (a21 :
  Addr) =>
  ∃
  (n73
  :
  Int),
  ∃
  (o108
  :
  Option
  Addr),
  ∃
  (k223
  :
  Nat),
  ∃
  (k224
  :
  Nat),
  ∃
  (n74
  :
  Int),
  V.rowAt
  w150
  a21
  0
  3 =
  some
  [Value.int
  IntKind.i64
  n73,
  Value.slice
  o108
  k223
  k224,
  Value.int
  IntKind.i64
  n74] ∧
  new
  w150
  (Obj.cells
  (Array.mk
  [Value.int
  IntKind.i64
  0,
  Value.slice
  none
  0
  0,
  Value.int
  IntKind.i64
  0])
  51)
  fun
  (k225 :
  Nat)
  (w151 :
  World) =>
  stR
  w151
  (Addr.mk
  k225
  0
  none)
  [Value.int
  IntKind.i64
  n73,
  Value.slice
  o108
  k223
  k224,
  Value.int
  IntKind.i64
  n74]
  fun
  (w152 :
  World) =>
  ∃
  (o109
  :
  Option
  Addr),
  World.cell?
  w152
  (Addr.mk
  k44
  0
  none) =
  some
  (Value.pointer
  o109) ∧
  ∃
  (n75
  :
  Int),
  World.cell?
  w152
  (Addr.mk
  k225
  0
  none) =
  some
  (Value.int
  IntKind.i64
  n75) ∧
  RunE
  Proofs.Tryd.prog
  Ev
  63
  [Value.pointer
  o109,
  Value.int
  IntKind.i64
  n75]
  w152
  fun
  (v25 :
  Value)
  (w153 :
  World) =>
  ∃
  (b7
  :
  Bool),
  v25 =
  Value.bool
  b7 ∧
  br
  (!b7)
  (inI
  (n72 +
  1) ∧
  x42
  (n72 +
  1)
  w153 ∧
  x43
  (n72 +
  1)
  w153 <
  x43
  n72
  w150)
  (∃
  (o110
  :
  Option
  Addr),
  ∃
  (n76
  :
  Int),
  V.rowAt
  w153
  (Addr.mk
  k27
  0
  none)
  0
  2 =
  some
  [Value.pointer
  o110,
  Value.int
  IntKind.i64
  n76] ∧
  ∃
  (o111
  :
  Option
  Addr),
  ∃
  (k226
  :
  Nat),
  ∃
  (k227
  :
  Nat),
  World.cell?
  w153
  (Addr.add
  (Addr.mk
  k225
  0
  none)
  1) =
  some
  (Value.slice
  o111
  k226
  k227) ∧
  RunE
  Proofs.Tryd.prog
  Ev
  69
  [Value.agg
  (Array.mk
  [Value.pointer
  o110,
  Value.int
  IntKind.i64
  n76]),
  Value.slice
  o111
  k226
  k227]
  w153
  fun
  (v26 :
  Value)
  (w154 :
  World) =>
  ∃
  (b8
  :
  Bool),
  v26 =
  Value.bool
  b8 ∧
  br
  (!b8)
  (inI
  (n72 +
  1) ∧
  x42
  (n72 +
  1)
  w154 ∧
  x43
  (n72 +
  1)
  w154 <
  x43
  n72
  w150)
  (∀
  (w155 :
  World),
  drawn
  w154
  w155 →
  ∃
  (I20
  :
  World →
  Prop),
  I20
  w155 ∧
  ∃
  (o112
  :
  Option
  Addr),
  ∃
  (k228
  :
  Nat),
  ∃
  (k229
  :
  Nat),
  (∀
  (w156 :
  World),
  I20
  w156 →
  World.cell?
  w156
  (Addr.mk
  k202
  0
  none) =
  some
  (Value.slice
  o112
  k228
  k229)) ∧
  ∃
  (n77
  :
  Int),
  (∀
  (w157 :
  World),
  I20
  w157 →
  World.cell?
  w157
  (Addr.mk
  k225
  0
  none) =
  some
  (Value.int
  IntKind.i64
  n77)) ∧
  idx
  o112
  k228
  n77
  1
  fun
  (a22 :
  Addr) =>
  ∃
  (n78
  :
  Int),
  (∀
  (w158 :
  World),
  I20
  w158 →
  World.cell?
  w158
  a22 =
  some
  (Value.int
  IntKind.i64
  n78)) ∧
  ∃
  (n79
  :
  Int),
  (∀
  (w159 :
  World),
  I20
  w159 →
  World.cell?
  w159
  (Addr.add
  (Addr.mk
  k225
  0
  none)
  2) =
  some
  (Value.int
  IntKind.i64
  n79)) ∧
  new
  w155
  (Obj.cells
  (Array.mk
  [Value.int
  IntKind.i64
  0,
  Value.slice
  none
  0
  0,
  Value.int
  IntKind.i64
  0])
  51)
  fun
  (k230 :
  Nat)
  (w160 :
  World) =>
  I20
  w160 ∧
  stR
  w160
  (Addr.mk
  k230
  0
  none)
  [Value.int
  IntKind.i64
  n78,
  Value.slice
  none
  0
  0,
  Value.int
  IntKind.i64
  n79]
  fun
  (w161 :
  World) =>
  ∃
  (o113
  :
  Option
  Addr),
  ∃
  (k231
  :
  Nat),
  ∃
  (k232
  :
  Nat),
  World.cell?
  w161
  (Addr.add
  (Addr.mk
  k225
  0
  none)
  1) =
  some
  (Value.slice
  o113
  k231
  k232) ∧
  ∃
  (x44
  :
  arrS
  (shs
  [(121,
  S1.one
  (Cs.int
  IntKind.i64))])
  (World →
  Prop)),
  ∃
  (x45
  :
  arrS
  (shs
  [(121,
  S1.one
  (Cs.int
  IntKind.i64))])
  (World →
  Nat)),
  x44
  0
  w161 ∧
  ∀
  (I21 :
  Nat →
  Value)
  (n80 :
  Int)
  (w162 :
  World),
  x44
  n80
  w162 →
  br
  (decide
  (n80 <
  (↑k231 :
  Int)))
  (idx
  o113
  k231
  n80
  1
  fun
  (a23 :
  Addr) =>
  ∃
  (n81
  :
  Int),
  World.cell?
  w162
  a23 =
  some
  (Value.int
  IntKind.i64
  n81) ∧
  ∀
  (w163 :
  World),
  drawn
  w162
  w163 →
  ∃
  (I22
  :
  World →
  Prop),
  I22
  w163 ∧
  ∃
  (o114
  :
  Option
  Addr),
  ∃
  (k233
  :
  Nat),
  ∃
  (k234
  :
  Nat),
  (∀
  (w164 :
  World),
  I22
  w164 →
  World.cell?
  w164
  (Addr.add
  (Addr.mk
  k230
  0
  none)
  1) =
  some
  (Value.slice
  o114
  k233
  k234)) ∧
  ∃
  (o115
  :
  Option
  Addr),
  ∃
  (k235
  :
  Nat),
  ∃
  (k236
  :
  Nat),
  (∀
  (w165 :
  World),
  I22
  w165 →
  World.cell?
  w165
  (Addr.mk
  k202
  0
  none) =
  some
  (Value.slice
  o115
  k235
  k236)) ∧
  idx
  o115
  k235
  n81
  1
  fun
  (a24 :
  Addr) =>
  ∃
  (n82
  :
  Int),
  (∀
  (w166 :
  World),
  I22
  w166 →
  World.cell?
  w166
  a24 =
  some
  (Value.int
  IntKind.i64
  n82)) ∧
  new
  w163
  (Obj.cells
  (Array.mk
  [Value.int
  IntKind.i64
  n82])
  3)
  fun
  (k237 :
  Nat)
  (w167 :
  World) =>
  I22
  w167 ∧
  RunS
  Proofs.Tryd.prog
  (Builtin.append_
  (Array.mk
  [24,
  24])
  24
  (Array.mk
  [Value.slice
  o114
  k233
  k234,
  Value.slice
  (some
  (Addr.mk
  k237
  0
  none))
  1
  1]))
  w167
  fun
  (v27 :
  Value)
  (w168 :
  World) =>
  ∃
  (o116
  :
  Option
  Addr),
  ∃
  (k238
  :
  Nat),
  ∃
  (k239
  :
  Nat),
  v27 =
  Value.slice
  o116
  k238
  k239 ∧
  I22
  w168 ∧
  st1
  w168
  (Addr.add
  (Addr.mk
  k230
  0
  none)
  1)
  (Value.slice
  o116
  k238
  k239)
  fun
  (w169 :
  World) =>
  inI
  (n80 +
  1) ∧
  x44
  (n80 +
  1)
  w169 ∧
  x45
  (n80 +
  1)
  w169 <
  x45
  n80
  w162)
  (∃
  (o117
  :
  Option
  Addr),
  ∃
  (k240
  :
  Nat),
  ∃
  (k241
  :
  Nat),
  World.cell?
  w162
  (Addr.add
  (Addr.mk
  k200
  0
  none)
  4) =
  some
  (Value.slice
  o117
  k240
  k241) ∧
  ∃
  (n83
  :
  Int),
  ∃
  (o118
  :
  Option
  Addr),
  ∃
  (k242
  :
  Nat),
  ∃
  (k243
  :
  Nat),
  ∃
  (n84
  :
  Int),
  V.rowAt
  w162
  (Addr.mk
  k230
  0
  none)
  0
  3 =
  some
  [Value.int
  IntKind.i64
  n83,
  Value.slice
  o118
  k242
  k243,
  Value.int
  IntKind.i64
  n84] ∧
  new
  w162
  (Obj.cells
  (Array.mk
  [Value.int
  IntKind.i64
  n83,
  Value.slice
  o118
  k242
  k243,
  Value.int
  IntKind.i64
  n84])
  51)
  fun
  (k244 :
  Nat)
  (w170 :
  World) =>
  RunS
  Proofs.Tryd.prog
  (Builtin.append_
  (Array.mk
  [25,
  25])
  25
  (Array.mk
  [Value.slice
  o117
  k240
  k241,
  Value.slice
  (some
  (Addr.mk
  k244
  0
  none))
  1
  1]))
  w170
  fun
  (v28 :
  Value)
  (w171 :
  World) =>
  ∃
  (o119
  :
  Option
  Addr),
  ∃
  (k245
  :
  Nat),
  ∃
  (k246
  :
  Nat),
  v28 =
  Value.slice
  o119
  k245
  k246 ∧
  st1
  w171
  (Addr.add
  (Addr.mk
  k200
  0
  none)
  4)
  (Value.slice
  o119
  k245
  k246)
  fun
  (w172 :
  World) =>
  inI
  (n72 +
  1) ∧
  x42
  (n72 +
  1)
  w172 ∧
  x43
  (n72 +
  1)
  w172 <
  x43
  n72
  w150))))
  (∃
  (o120
  :
  Option
  Addr),
  ∃
  (k247
  :
  Nat),
  ∃
  (k248
  :
  Nat),
  ∃
  (o121
  :
  Option
  Addr),
  ∃
  (k249
  :
  Nat),
  ∃
  (k250
  :
  Nat),
  ∃
  (o122
  :
  Option
  Addr),
  ∃
  (k251
  :
  Nat),
  ∃
  (k252
  :
  Nat),
  ∃
  (n85
  :
  Int),
  ∃
  (o123
  :
  Option
  Addr),
  ∃
  (k253
  :
  Nat),
  ∃
  (k254
  :
  Nat),
  V.rowAt
  w150
  (Addr.mk
  k200
  0
  none)
  0
  5 =
  some
  [Value.slice
  o120
  k247
  k248,
  Value.slice
  o121
  k249
  k250,
  Value.slice
  o122
  k251
  k252,
  Value.int
  IntKind.i64
  n85,
  Value.slice
  o123
  k253
  k254] ∧
  stR
  w150
  (Addr.mk
  k2
  0
  none)
  [Value.slice
  o120
  k247
  k248,
  Value.slice
  o121
  k249
  k250,
  Value.slice
  o122
  k251
  k252,
  Value.int
  IntKind.i64
  n85,
  Value.slice
  o123
  k253
  k254]
  fun
  (w173 :
  World) =>
  ∃
  (o124
  :
  Option
  Addr),
  ∃
  (k255
  :
  Nat),
  ∃
  (k256
  :
  Nat),
  ∃
  (o125
  :
  Option
  Addr),
  ∃
  (k257
  :
  Nat),
  ∃
  (k258
  :
  Nat),
  ∃
  (o126
  :
  Option
  Addr),
  ∃
  (k259
  :
  Nat),
  ∃
  (k260
  :
  Nat),
  ∃
  (n86
  :
  Int),
  ∃
  (o127
  :
  Option
  Addr),
  ∃
  (k261
  :
  Nat),
  ∃
  (k262
  :
  Nat),
  V.rowAt
  w173
  (Addr.mk
  k2
  0
  none)
  0
  5 =
  some
  [Value.slice
  o124
  k255
  k256,
  Value.slice
  o125
  k257
  k258,
  Value.slice
  o126
  k259
  k260,
  Value.int
  IntKind.i64
  n86,
  Value.slice
  o127
  k261
  k262] ∧
  ∀
  (w174 :
  World),
  hp
  w174 =
  hp
  w173 →
  R
  (Value.tuple
  (Array.mk
  [Value.agg
  (Array.mk
  [Value.slice
  o124
  k255
  k256,
  Value.slice
  o125
  k257
  k258,
  Value.slice
  o126
  k259
  k260,
  Value.int
  IntKind.i64
  n86,
  Value.slice
  o127
  k261
  k262]),
  Value.int
  IntKind.i64
  0]))
  w174)) ∧
  (∀
  (w175 :
  World),
  St
  w175
  (x35 ::
  x33 ::
  x36) →
  ∃
  (o128
  :
  Option
  Addr),
  ∃
  (k263
  :
  Nat),
  ∃
  (k264
  :
  Nat),
  ∃
  (o129
  :
  Option
  Addr),
  ∃
  (k265
  :
  Nat),
  ∃
  (k266
  :
  Nat),
  ∃
  (o130
  :
  Option
  Addr),
  ∃
  (k267
  :
  Nat),
  ∃
  (k268
  :
  Nat),
  ∃
  (n87
  :
  Int),
  ∃
  (o131
  :
  Option
  Addr),
  ∃
  (k269
  :
  Nat),
  ∃
  (k270
  :
  Nat),
  V.rowAt
  w175
  (Addr.mk
  k2
  0
  none)
  0
  5 =
  some
  [Value.slice
  o128
  k263
  k264,
  Value.slice
  o129
  k265
  k266,
  Value.slice
  o130
  k267
  k268,
  Value.int
  IntKind.i64
  n87,
  Value.slice
  o131
  k269
  k270] ∧
  ∀
  (w176 :
  World),
  hp
  w176 =
  hp
  w175 →
  R
  (Value.tuple
  (Array.mk
  [Value.agg
  (Array.mk
  [Value.slice
  o128
  k263
  k264,
  Value.slice
  o129
  k265
  k266,
  Value.slice
  o130
  k267
  k268,
  Value.int
  IntKind.i64
  n87,
  Value.slice
  o131
  k269
  k270]),
  Value.int
  IntKind.i64
  0]))
  w176) ∧
  True)) ∧
  new
  w124
  (Obj.cells
  (Array.mk
  [Value.slice
  none
  0
  0,
  Value.slice
  none
  0
  0,
  Value.slice
  none
  0
  0,
  Value.int
  IntKind.i64
  0,
  Value.slice
  none
  0
  0])
  27)
  fun
  (k271 :
  Nat)
  (w177 :
  World) =>
  I1
  w177 ∧
  RunE
  Proofs.Tryd.prog
  Ev
  66
  [Value.slice
  o26
  k47
  k48]
  w177
  fun
  (v29 :
  Value)
  (w178 :
  World) =>
  ∃
  (o132
  :
  Option
  Addr),
  ∃
  (k272
  :
  Nat),
  ∃
  (k273
  :
  Nat),
  v29 =
  Value.slice
  o132
  k272
  k273 ∧
  I1
  w178 ∧
  stR
  w178
  (Addr.mk
  k271
  0
  none)
  [Value.slice
  o27
  k49
  k50,
  Value.slice
  (some
  (Addr.mk
  k197
  0
  none))
  1
  1,
  Value.slice
  o132
  k272
  k273,
  Value.int
  IntKind.i64
  0,
  Value.slice
  none
  0
  0]
  fun
  (w179 :
  World) =>
  ∃
  (o133
  :
  Option
  Addr),
  World.cell?
  w179
  (Addr.mk
  k44
  0
  none) =
  some
  (Value.pointer
  o133) ∧
  RunE
  Proofs.Tryd.prog
  Ev
  67
  [Value.pointer
  o133]
  w179
  fun
  (v30 :
  Value)
  (w180 :
  World) =>
  ∃
  (n88
  :
  Int),
  v30 =
  Value.int
  IntKind.i64
  n88 ∧
  mkOk
  n88
  n88
  8 ∧
  new
  w180
  (Obj.cells
  (Array.mk
  (reps
  (Int.toNat
  n88)
  [Value.int
  IntKind.i64
  0]))
  3)
  fun
  (k274 :
  Nat)
  (w181 :
  World) =>
  new
  w181
  (Obj.cells
  (Array.mk
  [Value.slice
  none
  0
  0])
  24)
  fun
  (k275 :
  Nat)
  (w182 :
  World) =>
  st1
  w182
  (Addr.mk
  k275
  0
  none)
  (Value.slice
  (some
  (Addr.mk
  k274
  0
  none))
  (Int.toNat
  n88)
  (Int.toNat
  n88))
  fun
  (w183 :
  World) =>
  ∃
  (o134
  :
  Option
  Addr),
  World.cell?
  w183
  (Addr.mk
  k44
  0
  none) =
  some
  (Value.pointer
  o134) ∧
  RunE
  Proofs.Tryd.prog
  Ev
  68
  [Value.pointer
  o134]
  w183
  fun
  (v31 :
  Value)
  (w184 :
  World) =>
  ∃
  (g4
  :
  FuncId),
  ∃
  (x46
  :
  List
  Value),
  v31 =
  Value.func
  (Fn.func
  g4)
  (Array.mk
  [])
  (Array.mk
  x46) ∧
  ifT
  (Proofs.YtaheggomcnbbiaaDoor.Fn
  g4)
  (∃
  (x47
  :
  List
  (List
  Value)),
  ∃
  (x48
  :
  Asn),
  ∃
  (x49
  :
  Asn),
  ∃
  (I23
  :
  Nat →
  Asn),
  ∃
  (x50
  :
  Asn),
  ∃
  (I24
  :
  Nat →
  Asn),
  ∃
  (x51
  :
  List
  Asn),
  St
  w184
  (I23
  0 ::
  x48 ::
  x51) ∧
  (∀
  (x52 :
  Hp),
  starL
  x51
  x52 →
  x49
  x52) ∧
  Itr
  Proofs.Tryd.prog
  g4
  []
  x46
  x48
  x49
  x47 ∧
  (∀
  (x53 :
  List
  Value),
  x53 ∈
  x47 →
  ∃
  (n89
  :
  Int),
  x53 =
  [Value.int
  IntKind.i64
  n89]) ∧
  (∀
  (k276 :
  Nat)
  (n90 :
  Int),
  List.get?Internal
  x47
  k276 =
  some
  [Value.int
  IntKind.i64
  n90] →
  ∀
  (x54 :
  List
  Asn)
  (w185 :
  World),
  Sup
  x54
  x51 →
  St
  w185
  (I23
  k276 ::
  x54) →
  ∃
  (x55
  :
  Asn),
  St
  w185
  (x55 ::
  x54) ∧
  ∀
  (x56 :
  List
  Asn)
  (w186 :
  World),
  Sup
  x56
  x51 →
  St
  w186
  (x55 ::
  x56) →
  ∃
  (o135
  :
  Option
  Addr),
  ∃
  (k277
  :
  Nat),
  ∃
  (k278
  :
  Nat),
  World.cell?
  w186
  (Addr.mk
  k275
  0
  none) =
  some
  (Value.slice
  o135
  k277
  k278) ∧
  idx
  o135
  k277
  n90
  1
  fun
  (a25 :
  Addr) =>
  st1
  w186
  a25
  (Value.int
  IntKind.i64
  n90)
  fun
  (w187 :
  World) =>
  ∃
  (n91
  :
  Int),
  World.cell?
  w187
  (Addr.add
  (Addr.mk
  k44
  0
  none)
  1) =
  some
  (Value.int
  IntKind.i64
  n91) ∧
  br
  (decide
  (n91 ≤
  n90))
  (∃
  (o136
  :
  Option
  Addr),
  ∃
  (k279
  :
  Nat),
  ∃
  (k280
  :
  Nat),
  World.cell?
  w187
  (Addr.mk
  k275
  0
  none) =
  some
  (Value.slice
  o136
  k279
  k280) ∧
  ∃
  (n92
  :
  Int),
  World.cell?
  w187
  (Addr.add
  (Addr.mk
  k44
  0
  none)
  1) =
  some
  (Value.int
  IntKind.i64
  n92) ∧
  ∃
  (o137
  :
  Option
  Addr),
  ∃
  (k281
  :
  Nat),
  ∃
  (k282
  :
  Nat),
  World.cell?
  w187
  (Addr.add
  (Addr.mk
  k271
  0
  none)
  1) =
  some
  (Value.slice
  o137
  k281
  k282) ∧
  inI
  (n92 +
  (↑k281 :
  Int)) ∧
  idx
  o136
  k279
  n90
  1
  fun
  (a26 :
  Addr) =>
  st1
  w187
  a26
  (Value.int
  IntKind.i64
  (n92 +
  (↑k281 :
  Int)))
  fun
  (w188 :
  World) =>
  ∀
  (w189 :
  World),
  drawn
  w188
  w189 →
  ∃
  (I25
  :
  World →
  Prop),
  I25
  w189 ∧
  ∃
  (o138
  :
  Option
  Addr),
  ∃
  (k283
  :
  Nat),
  ∃
  (k284
  :
  Nat),
  (∀
  (w190 :
  World),
  I25
  w190 →
  World.cell?
  w190
  (Addr.add
  (Addr.mk
  k271
  0
  none)
  1) =
  some
  (Value.slice
  o138
  k283
  k284)) ∧
  ∃
  (o139
  :
  Option
  Addr),
  ∃
  (k285
  :
  Nat),
  ∃
  (k286
  :
  Nat),
  (∀
  (w191 :
  World),
  I25
  w191 →
  World.cell?
  w191
  (Addr.add
  (Addr.mk
  k1
  0
  none)
  1) =
  some
  (Value.slice
  o139
  k285
  k286)) ∧
  ∃
  (n93
  :
  Int),
  (∀
  (w192 :
  World),
  I25
  w192 →
  World.cell?
  w192
  (Addr.add
  (Addr.mk
  k44
  0
  none)
  1) =
  some
  (Value.int
  IntKind.i64
  n93)) ∧
  inI
  (n90 -
  n93) ∧
  idx
  o139
  k285
  (n90 -
  n93)
  1
  fun
  (a27 :
  Addr) =>
  ∃
  (s4
  :
  ByteArray),
  (∀
  (w193 :
  World),
  I25
  w193 →
  World.cell?
  w193
  a27 =
  some
  (Value.string
  s4)) ∧
  new
  w189
  (Obj.cells
  (Array.mk
  [Value.string
  s4])
  9)
  fun
  (k287 :
  Nat)
  (w194 :
  World) =>
  I25
  w194 ∧
  RunS
  Proofs.Tryd.prog
  (Builtin.append_
  (Array.mk
  [23,
  23])
  23
  (Array.mk
  [Value.slice
  o138
  k283
  k284,
  Value.slice
  (some
  (Addr.mk
  k287
  0
  none))
  1
  1]))
  w194
  fun
  (v32 :
  Value)
  (w195 :
  World) =>
  ∃
  (o140
  :
  Option
  Addr),
  ∃
  (k288
  :
  Nat),
  ∃
  (k289
  :
  Nat),
  v32 =
  Value.slice
  o140
  k288
  k289 ∧
  I25
  w195 ∧
  st1
  w195
  (Addr.add
  (Addr.mk
  k271
  0
  none)
  1)
  (Value.slice
  o140
  k288
  k289)
  fun
  (w196 :
  World) =>
  St
  w196
  (I23
  (k276 +
  1) ::
  x56))
  (St
  w187
  (I23
  (k276 +
  1) ::
  x56))) ∧
  (∀
  (w197 :
  World),
  St
  w197
  (I23
  (List.length
  x47) ::
  x48 ::
  x51) →
  ∃
  (o141
  :
  Option
  Addr),
  ∃
  (k290
  :
  Nat),
  ∃
  (k291
  :
  Nat),
  World.cell?
  w197
  (Addr.mk
  k275
  0
  none) =
  some
  (Value.slice
  o141
  k290
  k291) ∧
  ∃
  (n94
  :
  Int),
  World.cell?
  w197
  (Addr.add
  (Addr.mk
  k1
  0
  none)
  3) =
  some
  (Value.int
  IntKind.i64
  n94) ∧
  idx
  o141
  k290
  n94
  1
  fun
  (a28 :
  Addr) =>
  ∃
  (n95
  :
  Int),
  World.cell?
  w197
  a28 =
  some
  (Value.int
  IntKind.i64
  n95) ∧
  st1
  w197
  (Addr.add
  (Addr.mk
  k271
  0
  none)
  3)
  (Value.int
  IntKind.i64
  n95)
  fun
  (w198 :
  World) =>
  ∃
  (n96
  :
  Int),
  World.cell?
  w198
  (Addr.add
  (Addr.mk
  k44
  0
  none)
  1) =
  some
  (Value.int
  IntKind.i64
  n96) ∧
  ∃
  (n97
  :
  Int),
  World.cell?
  w198
  (Addr.add
  (Addr.mk
  k271
  0
  none)
  3) =
  some
  (Value.int
  IntKind.i64
  n97) ∧
  new
  w198
  (Obj.cells
  (Array.mk
  [Value.int
  IntKind.i64
  n97])
  3)
  fun
  (k292 :
  Nat)
  (w199 :
  World) =>
  new
  w199
  (Obj.cells
  (Array.mk
  [Value.int
  IntKind.i64
  n96,
  Value.slice
  (some
  (Addr.mk
  k292
  0
  none))
  1
  1,
  Value.int
  IntKind.i64
  0])
  51)
  fun
  (k293 :
  Nat)
  (w200 :
  World) =>
  st1
  w200
  (Addr.add
  (Addr.mk
  k271
  0
  none)
  4)
  (Value.slice
  (some
  (Addr.mk
  k293
  0
  none))
  1
  1)
  fun
  (w201 :
  World) =>
  ∃
  (o142
  :
  Option
  Addr),
  ∃
  (k294
  :
  Nat),
  ∃
  (k295
  :
  Nat),
  World.cell?
  w201
  (Addr.add
  (Addr.mk
  k1
  0
  none)
  4) =
  some
  (Value.slice
  o142
  k294
  k295) ∧
  ∃
  (x57
  :
  arrS
  (shs
  [(93,
  S1.one
  (Cs.int
  IntKind.i64))])
  (World →
  Prop)),
  ∃
  (x58
  :
  arrS
  (shs
  [(93,
  S1.one
  (Cs.int
  IntKind.i64))])
  (World →
  Nat)),
  x57
  0
  w201 ∧
  ∀
  (I26 :
  Nat →
  Value)
  (n98 :
  Int)
  (w202 :
  World),
  x57
  n98
  w202 →
  br
  (decide
  (n98 <
  (↑k294 :
  Int)))
  (idx
  o142
  k294
  n98
  3
  fun
  (a29 :
  Addr) =>
  ∃
  (n99
  :
  Int),
  ∃
  (o143
  :
  Option
  Addr),
  ∃
  (k296
  :
  Nat),
  ∃
  (k297
  :
  Nat),
  ∃
  (n100
  :
  Int),
  V.rowAt
  w202
  a29
  0
  3 =
  some
  [Value.int
  IntKind.i64
  n99,
  Value.slice
  o143
  k296
  k297,
  Value.int
  IntKind.i64
  n100] ∧
  new
  w202
  (Obj.cells
  (Array.mk
  [Value.int
  IntKind.i64
  0,
  Value.slice
  none
  0
  0,
  Value.int
  IntKind.i64
  0])
  51)
  fun
  (k298 :
  Nat)
  (w203 :
  World) =>
  stR
  w203
  (Addr.mk
  k298
  0
  none)
  [Value.int
  IntKind.i64
  n99,
  Value.slice
  o143
  k296
  k297,
  Value.int
  IntKind.i64
  n100]
  fun
  (w204 :
  World) =>
  ∃
  (o144
  :
  Option
  Addr),
  World.cell?
  w204
  (Addr.mk
  k44
  0
  none) =
  some
  (Value.pointer
  o144) ∧
  ∃
  (n101
  :
  Int),
  World.cell?
  w204
  (Addr.mk
  k298
  0
  none) =
  some
  (Value.int
  IntKind.i64
  n101) ∧
  RunE
  Proofs.Tryd.prog
  Ev
  63
  [Value.pointer
  o144,
  Value.int
  IntKind.i64
  n101]
  w204
  fun
  (v33 :
  Value)
  (w205 :
  World) =>
  ∃
  (b9
  :
  Bool),
  v33 =
  Value.bool
  b9 ∧
  br
  (!b9)
  (inI
  (n98 +
  1) ∧
  x57
  (n98 +
  1)
  w205 ∧
  x58
  (n98 +
  1)
  w205 <
  x58
  n98
  w202)
  (∃
  (o145
  :
  Option
  Addr),
  ∃
  (n102
  :
  Int),
  V.rowAt
  w205
  (Addr.mk
  k27
  0
  none)
  0
  2 =
  some
  [Value.pointer
  o145,
  Value.int
  IntKind.i64
  n102] ∧
  ∃
  (o146
  :
  Option
  Addr),
  ∃
  (k299
  :
  Nat),
  ∃
  (k300
  :
  Nat),
  World.cell?
  w205
  (Addr.add
  (Addr.mk
  k298
  0
  none)
  1) =
  some
  (Value.slice
  o146
  k299
  k300) ∧
  RunE
  Proofs.Tryd.prog
  Ev
  69
  [Value.agg
  (Array.mk
  [Value.pointer
  o145,
  Value.int
  IntKind.i64
  n102]),
  Value.slice
  o146
  k299
  k300]
  w205
  fun
  (v34 :
  Value)
  (w206 :
  World) =>
  ∃
  (b10
  :
  Bool),
  v34 =
  Value.bool
  b10 ∧
  br
  (!b10)
  (inI
  (n98 +
  1) ∧
  x57
  (n98 +
  1)
  w206 ∧
  x58
  (n98 +
  1)
  w206 <
  x58
  n98
  w202)
  (∀
  (w207 :
  World),
  drawn
  w206
  w207 →
  ∃
  (I27
  :
  World →
  Prop),
  I27
  w207 ∧
  ∃
  (o147
  :
  Option
  Addr),
  ∃
  (k301
  :
  Nat),
  ∃
  (k302
  :
  Nat),
  (∀
  (w208 :
  World),
  I27
  w208 →
  World.cell?
  w208
  (Addr.mk
  k275
  0
  none) =
  some
  (Value.slice
  o147
  k301
  k302)) ∧
  ∃
  (n103
  :
  Int),
  (∀
  (w209 :
  World),
  I27
  w209 →
  World.cell?
  w209
  (Addr.mk
  k298
  0
  none) =
  some
  (Value.int
  IntKind.i64
  n103)) ∧
  idx
  o147
  k301
  n103
  1
  fun
  (a30 :
  Addr) =>
  ∃
  (n104
  :
  Int),
  (∀
  (w210 :
  World),
  I27
  w210 →
  World.cell?
  w210
  a30 =
  some
  (Value.int
  IntKind.i64
  n104)) ∧
  ∃
  (n105
  :
  Int),
  (∀
  (w211 :
  World),
  I27
  w211 →
  World.cell?
  w211
  (Addr.add
  (Addr.mk
  k298
  0
  none)
  2) =
  some
  (Value.int
  IntKind.i64
  n105)) ∧
  new
  w207
  (Obj.cells
  (Array.mk
  [Value.int
  IntKind.i64
  0,
  Value.slice
  none
  0
  0,
  Value.int
  IntKind.i64
  0])
  51)
  fun
  (k303 :
  Nat)
  (w212 :
  World) =>
  I27
  w212 ∧
  stR
  w212
  (Addr.mk
  k303
  0
  none)
  [Value.int
  IntKind.i64
  n104,
  Value.slice
  none
  0
  0,
  Value.int
  IntKind.i64
  n105]
  fun
  (w213 :
  World) =>
  ∃
  (o148
  :
  Option
  Addr),
  ∃
  (k304
  :
  Nat),
  ∃
  (k305
  :
  Nat),
  World.cell?
  w213
  (Addr.add
  (Addr.mk
  k298
  0
  none)
  1) =
  some
  (Value.slice
  o148
  k304
  k305) ∧
  ∃
  (x59
  :
  arrS
  (shs
  [(121,
  S1.one
  (Cs.int
  IntKind.i64))])
  (World →
  Prop)),
  ∃
  (x60
  :
  arrS
  (shs
  [(121,
  S1.one
  (Cs.int
  IntKind.i64))])
  (World →
  Nat)),
  x59
  0
  w213 ∧
  ∀
  (I28 :
  Nat →
  Value)
  (n106 :
  Int)
  (w214 :
  World),
  x59
  n106
  w214 →
  br
  (decide
  (n106 <
  (↑k304 :
  Int)))
  (idx
  o148
  k304
  n106
  1
  fun
  (a31 :
  Addr) =>
  ∃
  (n107
  :
  Int),
  World.cell?
  w214
  a31 =
  some
  (Value.int
  IntKind.i64
  n107) ∧
  ∀
  (w215 :
  World),
  drawn
  w214
  w215 →
  ∃
  (I29
  :
  World →
  Prop),
  I29
  w215 ∧
  ∃
  (o149
  :
  Option
  Addr),
  ∃
  (k306
  :
  Nat),
  ∃
  (k307
  :
  Nat),
  (∀
  (w216 :
  World),
  I29
  w216 →
  World.cell?
  w216
  (Addr.add
  (Addr.mk
  k303
  0
  none)
  1) =
  some
  (Value.slice
  o149
  k306
  k307)) ∧
  ∃
  (o150
  :
  Option
  Addr),
  ∃
  (k308
  :
  Nat),
  ∃
  (k309
  :
  Nat),
  (∀
  (w217 :
  World),
  I29
  w217 →
  World.cell?
  w217
  (Addr.mk
  k275
  0
  none) =
  some
  (Value.slice
  o150
  k308
  k309)) ∧
  idx
  o150
  k308
  n107
  1
  fun
  (a32 :
  Addr) =>
  ∃
  (n108
  :
  Int),
  (∀
  (w218 :
  World),
  I29
  w218 →
  World.cell?
  w218
  a32 =
  some
  (Value.int
  IntKind.i64
  n108)) ∧
  new
  w215
  (Obj.cells
  (Array.mk
  [Value.int
  IntKind.i64
  n108])
  3)
  fun
  (k310 :
  Nat)
  (w219 :
  World) =>
  I29
  w219 ∧
  RunS
  Proofs.Tryd.prog
  (Builtin.append_
  (Array.mk
  [24,
  24])
  24
  (Array.mk
  [Value.slice
  o149
  k306
  k307,
  Value.slice
  (some
  (Addr.mk
  k310
  0
  none))
  1
  1]))
  w219
  fun
  (v35 :
  Value)
  (w220 :
  World) =>
  ∃
  (o151
  :
  Option
  Addr),
  ∃
  (k311
  :
  Nat),
  ∃
  (k312
  :
  Nat),
  v35 =
  Value.slice
  o151
  k311
  k312 ∧
  I29
  w220 ∧
  st1
  w220
  (Addr.add
  (Addr.mk
  k303
  0
  none)
  1)
  (Value.slice
  o151
  k311
  k312)
  fun
  (w221 :
  World) =>
  inI
  (n106 +
  1) ∧
  x59
  (n106 +
  1)
  w221 ∧
  x60
  (n106 +
  1)
  w221 <
  x60
  n106
  w214)
  (∃
  (o152
  :
  Option
  Addr),
  ∃
  (k313
  :
  Nat),
  ∃
  (k314
  :
  Nat),
  World.cell?
  w214
  (Addr.add
  (Addr.mk
  k271
  0
  none)
  4) =
  some
  (Value.slice
  o152
  k313
  k314) ∧
  ∃
  (n109
  :
  Int),
  ∃
  (o153
  :
  Option
  Addr),
  ∃
  (k315
  :
  Nat),
  ∃
  (k316
  :
  Nat),
  ∃
  (n110
  :
  Int),
  V.rowAt
  w214
  (Addr.mk
  k303
  0
  none)
  0
  3 =
  some
  [Value.int
  IntKind.i64
  n109,
  Value.slice
  o153
  k315
  k316,
  Value.int
  IntKind.i64
  n110] ∧
  new
  w214
  (Obj.cells
  (Array.mk
  [Value.int
  IntKind.i64
  n109,
  Value.slice
  o153
  k315
  k316,
  Value.int
  IntKind.i64
  n110])
  51)
  fun
  (k317 :
  Nat)
  (w222 :
  World) =>
  RunS
  Proofs.Tryd.prog
  (Builtin.append_
  (Array.mk
  [25,
  25])
  25
  (Array.mk
  [Value.slice
  o152
  k313
  k314,
  Value.slice
  (some
  (Addr.mk
  k317
  0
  none))
  1
  1]))
  w222
  fun
  (v36 :
  Value)
  (w223 :
  World) =>
  ∃
  (o154
  :
  Option
  Addr),
  ∃
  (k318
  :
  Nat),
  ∃
  (k319
  :
  Nat),
  v36 =
  Value.slice
  o154
  k318
  k319 ∧
  st1
  w223
  (Addr.add
  (Addr.mk
  k271
  0
  none)
  4)
  (Value.slice
  o154
  k318
  k319)
  fun
  (w224 :
  World) =>
  inI
  (n98 +
  1) ∧
  x57
  (n98 +
  1)
  w224 ∧
  x58
  (n98 +
  1)
  w224 <
  x58
  n98
  w202))))
  (∃
  (o155
  :
  Option
  Addr),
  ∃
  (k320
  :
  Nat),
  ∃
  (k321
  :
  Nat),
  ∃
  (o156
  :
  Option
  Addr),
  ∃
  (k322
  :
  Nat),
  ∃
  (k323
  :
  Nat),
  ∃
  (o157
  :
  Option
  Addr),
  ∃
  (k324
  :
  Nat),
  ∃
  (k325
  :
  Nat),
  ∃
  (n111
  :
  Int),
  ∃
  (o158
  :
  Option
  Addr),
  ∃
  (k326
  :
  Nat),
  ∃
  (k327
  :
  Nat),
  V.rowAt
  w202
  (Addr.mk
  k271
  0
  none)
  0
  5 =
  some
  [Value.slice
  o155
  k320
  k321,
  Value.slice
  o156
  k322
  k323,
  Value.slice
  o157
  k324
  k325,
  Value.int
  IntKind.i64
  n111,
  Value.slice
  o158
  k326
  k327] ∧
  stR
  w202
  (Addr.mk
  k2
  0
  none)
  [Value.slice
  o155
  k320
  k321,
  Value.slice
  o156
  k322
  k323,
  Value.slice
  o157
  k324
  k325,
  Value.int
  IntKind.i64
  n111,
  Value.slice
  o158
  k326
  k327]
  fun
  (w225 :
  World) =>
  ∃
  (o159
  :
  Option
  Addr),
  ∃
  (k328
  :
  Nat),
  ∃
  (k329
  :
  Nat),
  ∃
  (o160
  :
  Option
  Addr),
  ∃
  (k330
  :
  Nat),
  ∃
  (k331
  :
  Nat),
  ∃
  (o161
  :
  Option
  Addr),
  ∃
  (k332
  :
  Nat),
  ∃
  (k333
  :
  Nat),
  ∃
  (n112
  :
  Int),
  ∃
  (o162
  :
  Option
  Addr),
  ∃
  (k334
  :
  Nat),
  ∃
  (k335
  :
  Nat),
  V.rowAt
  w225
  (Addr.mk
  k2
  0
  none)
  0
  5 =
  some
  [Value.slice
  o159
  k328
  k329,
  Value.slice
  o160
  k330
  k331,
  Value.slice
  o161
  k332
  k333,
  Value.int
  IntKind.i64
  n112,
  Value.slice
  o162
  k334
  k335] ∧
  ∀
  (w226 :
  World),
  hp
  w226 =
  hp
  w225 →
  R
  (Value.tuple
  (Array.mk
  [Value.agg
  (Array.mk
  [Value.slice
  o159
  k328
  k329,
  Value.slice
  o160
  k330
  k331,
  Value.slice
  o161
  k332
  k333,
  Value.int
  IntKind.i64
  n112,
  Value.slice
  o162
  k334
  k335]),
  Value.int
  IntKind.i64
  0]))
  w226)) ∧
  (∀
  (w227 :
  World),
  St
  w227
  (x50 ::
  x48 ::
  x51) →
  ∃
  (o163
  :
  Option
  Addr),
  ∃
  (k336
  :
  Nat),
  ∃
  (k337
  :
  Nat),
  ∃
  (o164
  :
  Option
  Addr),
  ∃
  (k338
  :
  Nat),
  ∃
  (k339
  :
  Nat),
  ∃
  (o165
  :
  Option
  Addr),
  ∃
  (k340
  :
  Nat),
  ∃
  (k341
  :
  Nat),
  ∃
  (n113
  :
  Int),
  ∃
  (o166
  :
  Option
  Addr),
  ∃
  (k342
  :
  Nat),
  ∃
  (k343
  :
  Nat),
  V.rowAt
  w227
  (Addr.mk
  k2
  0
  none)
  0
  5 =
  some
  [Value.slice
  o163
  k336
  k337,
  Value.slice
  o164
  k338
  k339,
  Value.slice
  o165
  k340
  k341,
  Value.int
  IntKind.i64
  n113,
  Value.slice
  o166
  k342
  k343] ∧
  ∀
  (w228 :
  World),
  hp
  w228 =
  hp
  w227 →
  R
  (Value.tuple
  (Array.mk
  [Value.agg
  (Array.mk
  [Value.slice
  o163
  k336
  k337,
  Value.slice
  o164
  k338
  k339,
  Value.slice
  o165
  k340
  k341,
  Value.int
  IntKind.i64
  n113,
  Value.slice
  o166
  k342
  k343]),
  Value.int
  IntKind.i64
  0]))
  w228) ∧
  True)) ∧
  new
  w18
  (Obj.cells
  (Array.mk
  [Value.slice
  none
  0
  0,
  Value.slice
  none
  0
  0,
  Value.slice
  none
  0
  0,
  Value.int
  IntKind.i64
  0,
  Value.slice
  none
  0
  0])
  27)
  fun
  (k344 :
  Nat)
  (w229 :
  World) =>
  I1
  w229 ∧
  (RunE
  Proofs.Tryd.prog
  Ev
  66
  [Value.slice
  o26
  k47
  k48]
  w229
  fun
  (v37 :
  Value)
  (w230 :
  World) =>
  ∃
  (o167
  :
  Option
  Addr),
  ∃
  (k345
  :
  Nat),
  ∃
  (k346
  :
  Nat),
  v37 =
  Value.slice
  o167
  k345
  k346 ∧
  I1
  w230 ∧
  new
  w230
  (Obj.cells
  (Array.mk
  [Value.string
  (ByteArray.mk
  (Array.mk
  []))])
  9)
  fun
  (k347 :
  Nat)
  (w231 :
  World) =>
  I1
  w231 ∧
  stR
  w231
  (Addr.mk
  k344
  0
  none)
  [Value.slice
  o27
  k49
  k50,
  Value.slice
  (some
  (Addr.mk
  k347
  0
  none))
  1
  1,
  Value.slice
  o167
  k345
  k346,
  Value.int
  IntKind.i64
  0,
  Value.slice
  none
  0
  0]
  fun
  (w232 :
  World) =>
  ∃
  (o168
  :
  Option
  Addr),
  World.cell?
  w232
  (Addr.mk
  k44
  0
  none) =
  some
  (Value.pointer
  o168) ∧
  RunE
  Proofs.Tryd.prog
  Ev
  67
  [Value.pointer
  o168]
  w232
  fun
  (v38 :
  Value)
  (w233 :
  World) =>
  ∃
  (n114
  :
  Int),
  v38 =
  Value.int
  IntKind.i64
  n114 ∧
  mkOk
  n114
  n114
  8 ∧
  new
  w233
  (Obj.cells
  (Array.mk
  (reps
  (Int.toNat
  n114)
  [Value.int
  IntKind.i64
  0]))
  3)
  fun
  (k348 :
  Nat)
  (w234 :
  World) =>
  new
  w234
  (Obj.cells
  (Array.mk
  [Value.slice
  none
  0
  0])
  24)
  fun
  (k349 :
  Nat)
  (w235 :
  World) =>
  st1
  w235
  (Addr.mk
  k349
  0
  none)
  (Value.slice
  (some
  (Addr.mk
  k348
  0
  none))
  (Int.toNat
  n114)
  (Int.toNat
  n114))
  fun
  (w236 :
  World) =>
  ∃
  (o169
  :
  Option
  Addr),
  World.cell?
  w236
  (Addr.mk
  k44
  0
  none) =
  some
  (Value.pointer
  o169) ∧
  RunE
  Proofs.Tryd.prog
  Ev
  68
  [Value.pointer
  o169]
  w236
  fun
  (v39 :
  Value)
  (w237 :
  World) =>
  ∃
  (g5
  :
  FuncId),
  ∃
  (x61
  :
  List
  Value),
  v39 =
  Value.func
  (Fn.func
  g5)
  (Array.mk
  [])
  (Array.mk
  x61) ∧
  ifT
  (Proofs.YtaheggomcnbbiaaDoor.Fn
  g5)
  (∃
  (x62
  :
  List
  (List
  Value)),
  ∃
  (x63
  :
  Asn),
  ∃
  (x64
  :
  Asn),
  ∃
  (I30
  :
  Nat →
  Asn),
  ∃
  (x65
  :
  Asn),
  ∃
  (I31
  :
  Nat →
  Asn),
  ∃
  (x66
  :
  List
  Asn),
  St
  w237
  (I30
  0 ::
  x63 ::
  x66) ∧
  (∀
  (x67 :
  Hp),
  starL
  x66
  x67 →
  x64
  x67) ∧
  Itr
  Proofs.Tryd.prog
  g5
  []
  x61
  x63
  x64
  x62 ∧
  (∀
  (x68 :
  List
  Value),
  x68 ∈
  x62 →
  ∃
  (n115
  :
  Int),
  x68 =
  [Value.int
  IntKind.i64
  n115]) ∧
  (∀
  (k350 :
  Nat)
  (n116 :
  Int),
  List.get?Internal
  x62
  k350 =
  some
  [Value.int
  IntKind.i64
  n116] →
  ∀
  (x69 :
  List
  Asn)
  (w238 :
  World),
  Sup
  x69
  x66 →
  St
  w238
  (I30
  k350 ::
  x69) →
  ∃
  (x70
  :
  Asn),
  St
  w238
  (x70 ::
  x69) ∧
  ∀
  (x71 :
  List
  Asn)
  (w239 :
  World),
  Sup
  x71
  x66 →
  St
  w239
  (x70 ::
  x71) →
  ∃
  (o170
  :
  Option
  Addr),
  ∃
  (k351
  :
  Nat),
  ∃
  (k352
  :
  Nat),
  World.cell?
  w239
  (Addr.mk
  k349
  0
  none) =
  some
  (Value.slice
  o170
  k351
  k352) ∧
  idx
  o170
  k351
  n116
  1
  fun
  (a33 :
  Addr) =>
  st1
  w239
  a33
  (Value.int
  IntKind.i64
  n116)
  fun
  (w240 :
  World) =>
  ∃
  (n117
  :
  Int),
  World.cell?
  w240
  (Addr.add
  (Addr.mk
  k44
  0
  none)
  1) =
  some
  (Value.int
  IntKind.i64
  n117) ∧
  br
  (decide
  (n117 ≤
  n116))
  (∃
  (o171
  :
  Option
  Addr),
  ∃
  (k353
  :
  Nat),
  ∃
  (k354
  :
  Nat),
  World.cell?
  w240
  (Addr.mk
  k349
  0
  none) =
  some
  (Value.slice
  o171
  k353
  k354) ∧
  ∃
  (n118
  :
  Int),
  World.cell?
  w240
  (Addr.add
  (Addr.mk
  k44
  0
  none)
  1) =
  some
  (Value.int
  IntKind.i64
  n118) ∧
  ∃
  (o172
  :
  Option
  Addr),
  ∃
  (k355
  :
  Nat),
  ∃
  (k356
  :
  Nat),
  World.cell?
  w240
  (Addr.add
  (Addr.mk
  k344
  0
  none)
  1) =
  some
  (Value.slice
  o172
  k355
  k356) ∧
  inI
  (n118 +
  (↑k355 :
  Int)) ∧
  idx
  o171
  k353
  n116
  1
  fun
  (a34 :
  Addr) =>
  st1
  w240
  a34
  (Value.int
  IntKind.i64
  (n118 +
  (↑k355 :
  Int)))
  fun
  (w241 :
  World) =>
  ∀
  (w242 :
  World),
  drawn
  w241
  w242 →
  ∃
  (I32
  :
  World →
  Prop),
  I32
  w242 ∧
  ∃
  (o173
  :
  Option
  Addr),
  ∃
  (k357
  :
  Nat),
  ∃
  (k358
  :
  Nat),
  (∀
  (w243 :
  World),
  I32
  w243 →
  World.cell?
  w243
  (Addr.add
  (Addr.mk
  k344
  0
  none)
  1) =
  some
  (Value.slice
  o173
  k357
  k358)) ∧
  ∃
  (o174
  :
  Option
  Addr),
  ∃
  (k359
  :
  Nat),
  ∃
  (k360
  :
  Nat),
  (∀
  (w244 :
  World),
  I32
  w244 →
  World.cell?
  w244
  (Addr.add
  (Addr.mk
  k1
  0
  none)
  1) =
  some
  (Value.slice
  o174
  k359
  k360)) ∧
  ∃
  (n119
  :
  Int),
  (∀
  (w245 :
  World),
  I32
  w245 →
  World.cell?
  w245
  (Addr.add
  (Addr.mk
  k44
  0
  none)
  1) =
  some
  (Value.int
  IntKind.i64
  n119)) ∧
  inI
  (n116 -
  n119) ∧
  idx
  o174
  k359
  (n116 -
  n119)
  1
  fun
  (a35 :
  Addr) =>
  ∃
  (s5
  :
  ByteArray),
  (∀
  (w246 :
  World),
  I32
  w246 →
  World.cell?
  w246
  a35 =
  some
  (Value.string
  s5)) ∧
  new
  w242
  (Obj.cells
  (Array.mk
  [Value.string
  s5])
  9)
  fun
  (k361 :
  Nat)
  (w247 :
  World) =>
  I32
  w247 ∧
  RunS
  Proofs.Tryd.prog
  (Builtin.append_
  (Array.mk
  [23,
  23])
  23
  (Array.mk
  [Value.slice
  o173
  k357
  k358,
  Value.slice
  (some
  (Addr.mk
  k361
  0
  none))
  1
  1]))
  w247
  fun
  (v40 :
  Value)
  (w248 :
  World) =>
  ∃
  (o175
  :
  Option
  Addr),
  ∃
  (k362
  :
  Nat),
  ∃
  (k363
  :
  Nat),
  v40 =
  Value.slice
  o175
  k362
  k363 ∧
  I32
  w248 ∧
  st1
  w248
  (Addr.add
  (Addr.mk
  k344
  0
  none)
  1)
  (Value.slice
  o175
  k362
  k363)
  fun
  (w249 :
  World) =>
  St
  w249
  (I30
  (k350 +
  1) ::
  x71))
  (St
  w240
  (I30
  (k350 +
  1) ::
  x71))) ∧
  (∀
  (w250 :
  World),
  St
  w250
  (I30
  (List.length
  x62) ::
  x63 ::
  x66) →
  ∃
  (o176
  :
  Option
  Addr),
  ∃
  (k364
  :
  Nat),
  ∃
  (k365
  :
  Nat),
  World.cell?
  w250
  (Addr.mk
  k349
  0
  none) =
  some
  (Value.slice
  o176
  k364
  k365) ∧
  ∃
  (n120
  :
  Int),
  World.cell?
  w250
  (Addr.add
  (Addr.mk
  k1
  0
  none)
  3) =
  some
  (Value.int
  IntKind.i64
  n120) ∧
  idx
  o176
  k364
  n120
  1
  fun
  (a36 :
  Addr) =>
  ∃
  (n121
  :
  Int),
  World.cell?
  w250
  a36 =
  some
  (Value.int
  IntKind.i64
  n121) ∧
  st1
  w250
  (Addr.add
  (Addr.mk
  k344
  0
  none)
  3)
  (Value.int
  IntKind.i64
  n121)
  fun
  (w251 :
  World) =>
  ∃
  (n122
  :
  Int),
  World.cell?
  w251
  (Addr.add
  (Addr.mk
  k44
  0
  none)
  1) =
  some
  (Value.int
  IntKind.i64
  n122) ∧
  ∃
  (n123
  :
  Int),
  World.cell?
  w251
  (Addr.add
  (Addr.mk
  k344
  0
  none)
  3) =
  some
  (Value.int
  IntKind.i64
  n123) ∧
  new
  w251
  (Obj.cells
  (Array.mk
  [Value.int
  IntKind.i64
  n123])
  3)
  fun
  (k366 :
  Nat)
  (w252 :
  World) =>
  new
  w252
  (Obj.cells
  (Array.mk
  [Value.int
  IntKind.i64
  n122,
  Value.slice
  (some
  (Addr.mk
  k366
  0
  none))
  1
  1,
  Value.int
  IntKind.i64
  0])
  51)
  fun
  (k367 :
  Nat)
  (w253 :
  World) =>
  st1
  w253
  (Addr.add
  (Addr.mk
  k344
  0
  none)
  4)
  (Value.slice
  (some
  (Addr.mk
  k367
  0
  none))
  1
  1)
  fun
  (w254 :
  World) =>
  ∃
  (o177
  :
  Option
  Addr),
  ∃
  (k368
  :
  Nat),
  ∃
  (k369
  :
  Nat),
  World.cell?
  w254
  (Addr.add
  (Addr.mk
  k1
  0
  none)
  4) =
  some
  (Value.slice
  o177
  k368
  k369) ∧
  ∃
  (x72
  :
  arrS
  (shs
  [(93,
  S1.one
  (Cs.int
  IntKind.i64))])
  (World →
  Prop)),
  ∃
  (x73
  :
  arrS
  (shs
  [(93,
  S1.one
  (Cs.int
  IntKind.i64))])
  (World →
  Nat)),
  x72
  0
  w254 ∧
  ∀
  (I33 :
  Nat →
  Value)
  (n124 :
  Int)
  (w255 :
  World),
  x72
  n124
  w255 →
  br
  (decide
  (n124 <
  (↑k368 :
  Int)))
  (idx
  o177
  k368
  n124
  3
  fun
  (a37 :
  Addr) =>
  ∃
  (n125
  :
  Int),
  ∃
  (o178
  :
  Option
  Addr),
  ∃
  (k370
  :
  Nat),
  ∃
  (k371
  :
  Nat),
  ∃
  (n126
  :
  Int),
  V.rowAt
  w255
  a37
  0
  3 =
  some
  [Value.int
  IntKind.i64
  n125,
  Value.slice
  o178
  k370
  k371,
  Value.int
  IntKind.i64
  n126] ∧
  new
  w255
  (Obj.cells
  (Array.mk
  [Value.int
  IntKind.i64
  0,
  Value.slice
  none
  0
  0,
  Value.int
  IntKind.i64
  0])
  51)
  fun
  (k372 :
  Nat)
  (w256 :
  World) =>
  stR
  w256
  (Addr.mk
  k372
  0
  none)
  [Value.int
  IntKind.i64
  n125,
  Value.slice
  o178
  k370
  k371,
  Value.int
  IntKind.i64
  n126]
  fun
  (w257 :
  World) =>
  ∃
  (o179
  :
  Option
  Addr),
  World.cell?
  w257
  (Addr.mk
  k44
  0
  none) =
  some
  (Value.pointer
  o179) ∧
  ∃
  (n127
  :
  Int),
  World.cell?
  w257
  (Addr.mk
  k372
  0
  none) =
  some
  (Value.int
  IntKind.i64
  n127) ∧
  RunE
  Proofs.Tryd.prog
  Ev
  63
  [Value.pointer
  o179,
  Value.int
  IntKind.i64
  n127]
  w257
  fun
  (v41 :
  Value)
  (w258 :
  World) =>
  ∃
  (b11
  :
  Bool),
  v41 =
  Value.bool
  b11 ∧
  br
  (!b11)
  (inI
  (n124 +
  1) ∧
  x72
  (n124 +
  1)
  w258 ∧
  x73
  (n124 +
  1)
  w258 <
  x73
  n124
  w255)
  (∃
  (o180
  :
  Option
  Addr),
  ∃
  (n128
  :
  Int),
  V.rowAt
  w258
  (Addr.mk
  k27
  0
  none)
  0
  2 =
  some
  [Value.pointer
  o180,
  Value.int
  IntKind.i64
  n128] ∧
  ∃
  (o181
  :
  Option
  Addr),
  ∃
  (k373
  :
  Nat),
  ∃
  (k374
  :
  Nat),
  World.cell?
  w258
  (Addr.add
  (Addr.mk
  k372
  0
  none)
  1) =
  some
  (Value.slice
  o181
  k373
  k374) ∧
  RunE
  Proofs.Tryd.prog
  Ev
  69
  [Value.agg
  (Array.mk
  [Value.pointer
  o180,
  Value.int
  IntKind.i64
  n128]),
  Value.slice
  o181
  k373
  k374]
  w258
  fun
  (v42 :
  Value)
  (w259 :
  World) =>
  ∃
  (b12
  :
  Bool),
  v42 =
  Value.bool
  b12 ∧
  br
  (!b12)
  (inI
  (n124 +
  1) ∧
  x72
  (n124 +
  1)
  w259 ∧
  x73
  (n124 +
  1)
  w259 <
  x73
  n124
  w255)
  (∀
  (w260 :
  World),
  drawn
  w259
  w260 →
  ∃
  (I34
  :
  World →
  Prop),
  I34
  w260 ∧
  ∃
  (o182
  :
  Option
  Addr),
  ∃
  (k375
  :
  Nat),
  ∃
  (k376
  :
  Nat),
  (∀
  (w261 :
  World),
  I34
  w261 →
  World.cell?
  w261
  (Addr.mk
  k349
  0
  none) =
  some
  (Value.slice
  o182
  k375
  k376)) ∧
  ∃
  (n129
  :
  Int),
  (∀
  (w262 :
  World),
  I34
  w262 →
  World.cell?
  w262
  (Addr.mk
  k372
  0
  none) =
  some
  (Value.int
  IntKind.i64
  n129)) ∧
  idx
  o182
  k375
  n129
  1
  fun
  (a38 :
  Addr) =>
  ∃
  (n130
  :
  Int),
  (∀
  (w263 :
  World),
  I34
  w263 →
  World.cell?
  w263
  a38 =
  some
  (Value.int
  IntKind.i64
  n130)) ∧
  ∃
  (n131
  :
  Int),
  (∀
  (w264 :
  World),
  I34
  w264 →
  World.cell?
  w264
  (Addr.add
  (Addr.mk
  k372
  0
  none)
  2) =
  some
  (Value.int
  IntKind.i64
  n131)) ∧
  new
  w260
  (Obj.cells
  (Array.mk
  [Value.int
  IntKind.i64
  0,
  Value.slice
  none
  0
  0,
  Value.int
  IntKind.i64
  0])
  51)
  fun
  (k377 :
  Nat)
  (w265 :
  World) =>
  I34
  w265 ∧
  stR
  w265
  (Addr.mk
  k377
  0
  none)
  [Value.int
  IntKind.i64
  n130,
  Value.slice
  none
  0
  0,
  Value.int
  IntKind.i64
  n131]
  fun
  (w266 :
  World) =>
  ∃
  (o183
  :
  Option
  Addr),
  ∃
  (k378
  :
  Nat),
  ∃
  (k379
  :
  Nat),
  World.cell?
  w266
  (Addr.add
  (Addr.mk
  k372
  0
  none)
  1) =
  some
  (Value.slice
  o183
  k378
  k379) ∧
  ∃
  (x74
  :
  arrS
  (shs
  [(121,
  S1.one
  (Cs.int
  IntKind.i64))])
  (World →
  Prop)),
  ∃
  (x75
  :
  arrS
  (shs
  [(121,
  S1.one
  (Cs.int
  IntKind.i64))])
  (World →
  Nat)),
  x74
  0
  w266 ∧
  ∀
  (I35 :
  Nat →
  Value)
  (n132 :
  Int)
  (w267 :
  World),
  x74
  n132
  w267 →
  br
  (decide
  (n132 <
  (↑k378 :
  Int)))
  (idx
  o183
  k378
  n132
  1
  fun
  (a39 :
  Addr) =>
  ∃
  (n133
  :
  Int),
  World.cell?
  w267
  a39 =
  some
  (Value.int
  IntKind.i64
  n133) ∧
  ∀
  (w268 :
  World),
  drawn
  w267
  w268 →
  ∃
  (I36
  :
  World →
  Prop),
  I36
  w268 ∧
  ∃
  (o184
  :
  Option
  Addr),
  ∃
  (k380
  :
  Nat),
  ∃
  (k381
  :
  Nat),
  (∀
  (w269 :
  World),
  I36
  w269 →
  World.cell?
  w269
  (Addr.add
  (Addr.mk
  k377
  0
  none)
  1) =
  some
  (Value.slice
  o184
  k380
  k381)) ∧
  ∃
  (o185
  :
  Option
  Addr),
  ∃
  (k382
  :
  Nat),
  ∃
  (k383
  :
  Nat),
  (∀
  (w270 :
  World),
  I36
  w270 →
  World.cell?
  w270
  (Addr.mk
  k349
  0
  none) =
  some
  (Value.slice
  o185
  k382
  k383)) ∧
  idx
  o185
  k382
  n133
  1
  fun
  (a40 :
  Addr) =>
  ∃
  (n134
  :
  Int),
  (∀
  (w271 :
  World),
  I36
  w271 →
  World.cell?
  w271
  a40 =
  some
  (Value.int
  IntKind.i64
  n134)) ∧
  new
  w268
  (Obj.cells
  (Array.mk
  [Value.int
  IntKind.i64
  n134])
  3)
  fun
  (k384 :
  Nat)
  (w272 :
  World) =>
  I36
  w272 ∧
  RunS
  Proofs.Tryd.prog
  (Builtin.append_
  (Array.mk
  [24,
  24])
  24
  (Array.mk
  [Value.slice
  o184
  k380
  k381,
  Value.slice
  (some
  (Addr.mk
  k384
  0
  none))
  1
  1]))
  w272
  fun
  (v43 :
  Value)
  (w273 :
  World) =>
  ∃
  (o186
  :
  Option
  Addr),
  ∃
  (k385
  :
  Nat),
  ∃
  (k386
  :
  Nat),
  v43 =
  Value.slice
  o186
  k385
  k386 ∧
  I36
  w273 ∧
  st1
  w273
  (Addr.add
  (Addr.mk
  k377
  0
  none)
  1)
  (Value.slice
  o186
  k385
  k386)
  fun
  (w274 :
  World) =>
  inI
  (n132 +
  1) ∧
  x74
  (n132 +
  1)
  w274 ∧
  x75
  (n132 +
  1)
  w274 <
  x75
  n132
  w267)
  (∃
  (o187
  :
  Option
  Addr),
  ∃
  (k387
  :
  Nat),
  ∃
  (k388
  :
  Nat),
  World.cell?
  w267
  (Addr.add
  (Addr.mk
  k344
  0
  none)
  4) =
  some
  (Value.slice
  o187
  k387
  k388) ∧
  ∃
  (n135
  :
  Int),
  ∃
  (o188
  :
  Option
  Addr),
  ∃
  (k389
  :
  Nat),
  ∃
  (k390
  :
  Nat),
  ∃
  (n136
  :
  Int),
  V.rowAt
  w267
  (Addr.mk
  k377
  0
  none)
  0
  3 =
  some
  [Value.int
  IntKind.i64
  n135,
  Value.slice
  o188
  k389
  k390,
  Value.int
  IntKind.i64
  n136] ∧
  new
  w267
  (Obj.cells
  (Array.mk
  [Value.int
  IntKind.i64
  n135,
  Value.slice
  o188
  k389
  k390,
  Value.int
  IntKind.i64
  n136])
  51)
  fun
  (k391 :
  Nat)
  (w275 :
  World) =>
  RunS
  Proofs.Tryd.prog
  (Builtin.append_
  (Array.mk
  [25,
  25])
  25
  (Array.mk
  [Value.slice
  o187
  k387
  k388,
  Value.slice
  (some
  (Addr.mk
  k391
  0
  none))
  1
  1]))
  w275
  fun
  (v44 :
  Value)
  (w276 :
  World) =>
  ∃
  (o189
  :
  Option
  Addr),
  ∃
  (k392
  :
  Nat),
  ∃
  (k393
  :
  Nat),
  v44 =
  Value.slice
  o189
  k392
  k393 ∧
  st1
  w276
  (Addr.add
  (Addr.mk
  k344
  0
  none)
  4)
  (Value.slice
  o189
  k392
  k393)
  fun
  (w277 :
  World) =>
  inI
  (n124 +
  1) ∧
  x72
  (n124 +
  1)
  w277 ∧
  x73
  (n124 +
  1)
  w277 <
  x73
  n124
  w255))))
  (∃
  (o190
  :
  Option
  Addr),
  ∃
  (k394
  :
  Nat),
  ∃
  (k395
  :
  Nat),
  ∃
  (o191
  :
  Option
  Addr),
  ∃
  (k396
  :
  Nat),
  ∃
  (k397
  :
  Nat),
  ∃
  (o192
  :
  Option
  Addr),
  ∃
  (k398
  :
  Nat),
  ∃
  (k399
  :
  Nat),
  ∃
  (n137
  :
  Int),
  ∃
  (o193
  :
  Option
  Addr),
  ∃
  (k400
  :
  Nat),
  ∃
  (k401
  :
  Nat),
  V.rowAt
  w255
  (Addr.mk
  k344
  0
  none)
  0
  5 =
  some
  [Value.slice
  o190
  k394
  k395,
  Value.slice
  o191
  k396
  k397,
  Value.slice
  o192
  k398
  k399,
  Value.int
  IntKind.i64
  n137,
  Value.slice
  o193
  k400
  k401] ∧
  stR
  w255
  (Addr.mk
  k2
  0
  none)
  [Value.slice
  o190
  k394
  k395,
  Value.slice
  o191
  k396
  k397,
  Value.slice
  o192
  k398
  k399,
  Value.int
  IntKind.i64
  n137,
  Value.slice
  o193
  k400
  k401]
  fun
  (w278 :
  World) =>
  ∃
  (o194
  :
  Option
  Addr),
  ∃
  (k402
  :
  Nat),
  ∃
  (k403
  :
  Nat),
  ∃
  (o195
  :
  Option
  Addr),
  ∃
  (k404
  :
  Nat),
  ∃
  (k405
  :
  Nat),
  ∃
  (o196
  :
  Option
  Addr),
  ∃
  (k406
  :
  Nat),
  ∃
  (k407
  :
  Nat),
  ∃
  (n138
  :
  Int),
  ∃
  (o197
  :
  Option
  Addr),
  ∃
  (k408
  :
  Nat),
  ∃
  (k409
  :
  Nat),
  V.rowAt
  w278
  (Addr.mk
  k2
  0
  none)
  0
  5 =
  some
  [Value.slice
  o194
  k402
  k403,
  Value.slice
  o195
  k404
  k405,
  Value.slice
  o196
  k406
  k407,
  Value.int
  IntKind.i64
  n138,
  Value.slice
  o197
  k408
  k409] ∧
  ∀
  (w279 :
  World),
  hp
  w279 =
  hp
  w278 →
  R
  (Value.tuple
  (Array.mk
  [Value.agg
  (Array.mk
  [Value.slice
  o194
  k402
  k403,
  Value.slice
  o195
  k404
  k405,
  Value.slice
  o196
  k406
  k407,
  Value.int
  IntKind.i64
  n138,
  Value.slice
  o197
  k408
  k409]),
  Value.int
  IntKind.i64
  0]))
  w279)) ∧
  (∀
  (w280 :
  World),
  St
  w280
  (x65 ::
  x63 ::
  x66) →
  ∃
  (o198
  :
  Option
  Addr),
  ∃
  (k410
  :
  Nat),
  ∃
  (k411
  :
  Nat),
  ∃
  (o199
  :
  Option
  Addr),
  ∃
  (k412
  :
  Nat),
  ∃
  (k413
  :
  Nat),
  ∃
  (o200
  :
  Option
  Addr),
  ∃
  (k414
  :
  Nat),
  ∃
  (k415
  :
  Nat),
  ∃
  (n139
  :
  Int),
  ∃
  (o201
  :
  Option
  Addr),
  ∃
  (k416
  :
  Nat),
  ∃
  (k417
  :
  Nat),
  V.rowAt
  w280
  (Addr.mk
  k2
  0
  none)
  0
  5 =
  some
  [Value.slice
  o198
  k410
  k411,
  Value.slice
  o199
  k412
  k413,
  Value.slice
  o200
  k414
  k415,
  Value.int
  IntKind.i64
  n139,
  Value.slice
  o201
  k416
  k417] ∧
  ∀
  (w281 :
  World),
  hp
  w281 =
  hp
  w280 →
  R
  (Value.tuple
  (Array.mk
  [Value.agg
  (Array.mk
  [Value.slice
  o198
  k410
  k411,
  Value.slice
  o199
  k412
  k413,
  Value.slice
  o200
  k414
  k415,
  Value.int
  IntKind.i64
  n139,
  Value.slice
  o201
  k416
  k417]),
  Value.int
  IntKind.i64
  0]))
  w281) ∧
  True)) ∧
  new
  w229
  (Obj.cells
  (Array.mk
  [Value.string
  (ByteArray.mk
  (Array.mk
  []))])
  9)
  fun
  (k418 :
  Nat)
  (w282 :
  World) =>
  I1
  w282 ∧
  RunE
  Proofs.Tryd.prog
  Ev
  66
  [Value.slice
  o26
  k47
  k48]
  w282
  fun
  (v45 :
  Value)
  (w283 :
  World) =>
  ∃
  (o202
  :
  Option
  Addr),
  ∃
  (k419
  :
  Nat),
  ∃
  (k420
  :
  Nat),
  v45 =
  Value.slice
  o202
  k419
  k420 ∧
  I1
  w283 ∧
  stR
  w283
  (Addr.mk
  k344
  0
  none)
  [Value.slice
  o27
  k49
  k50,
  Value.slice
  (some
  (Addr.mk
  k418
  0
  none))
  1
  1,
  Value.slice
  o202
  k419
  k420,
  Value.int
  IntKind.i64
  0,
  Value.slice
  none
  0
  0]
  fun
  (w284 :
  World) =>
  ∃
  (o203
  :
  Option
  Addr),
  World.cell?
  w284
  (Addr.mk
  k44
  0
  none) =
  some
  (Value.pointer
  o203) ∧
  RunE
  Proofs.Tryd.prog
  Ev
  67
  [Value.pointer
  o203]
  w284
  fun
  (v46 :
  Value)
  (w285 :
  World) =>
  ∃
  (n140
  :
  Int),
  v46 =
  Value.int
  IntKind.i64
  n140 ∧
  mkOk
  n140
  n140
  8 ∧
  new
  w285
  (Obj.cells
  (Array.mk
  (reps
  (Int.toNat
  n140)
  [Value.int
  IntKind.i64
  0]))
  3)
  fun
  (k421 :
  Nat)
  (w286 :
  World) =>
  new
  w286
  (Obj.cells
  (Array.mk
  [Value.slice
  none
  0
  0])
  24)
  fun
  (k422 :
  Nat)
  (w287 :
  World) =>
  st1
  w287
  (Addr.mk
  k422
  0
  none)
  (Value.slice
  (some
  (Addr.mk
  k421
  0
  none))
  (Int.toNat
  n140)
  (Int.toNat
  n140))
  fun
  (w288 :
  World) =>
  ∃
  (o204
  :
  Option
  Addr),
  World.cell?
  w288
  (Addr.mk
  k44
  0
  none) =
  some
  (Value.pointer
  o204) ∧
  RunE
  Proofs.Tryd.prog
  Ev
  68
  [Value.pointer
  o204]
  w288
  fun
  (v47 :
  Value)
  (w289 :
  World) =>
  ∃
  (g6
  :
  FuncId),
  ∃
  (x76
  :
  List
  Value),
  v47 =
  Value.func
  (Fn.func
  g6)
  (Array.mk
  [])
  (Array.mk
  x76) ∧
  ifT
  (Proofs.YtaheggomcnbbiaaDoor.Fn
  g6)
  (∃
  (x77
  :
  List
  (List
  Value)),
  ∃
  (x78
  :
  Asn),
  ∃
  (x79
  :
  Asn),
  ∃
  (I37
  :
  Nat →
  Asn),
  ∃
  (x80
  :
  Asn),
  ∃
  (I38
  :
  Nat →
  Asn),
  ∃
  (x81
  :
  List
  Asn),
  St
  w289
  (I37
  0 ::
  x78 ::
  x81) ∧
  (∀
  (x82 :
  Hp),
  starL
  x81
  x82 →
  x79
  x82) ∧
  Itr
  Proofs.Tryd.prog
  g6
  []
  x76
  x78
  x79
  x77 ∧
  (∀
  (x83 :
  List
  Value),
  x83 ∈
  x77 →
  ∃
  (n141
  :
  Int),
  x83 =
  [Value.int
  IntKind.i64
  n141]) ∧
  (∀
  (k423 :
  Nat)
  (n142 :
  Int),
  List.get?Internal
  x77
  k423 =
  some
  [Value.int
  IntKind.i64
  n142] →
  ∀
  (x84 :
  List
  Asn)
  (w290 :
  World),
  Sup
  x84
  x81 →
  St
  w290
  (I37
  k423 ::
  x84) →
  ∃
  (x85
  :
  Asn),
  St
  w290
  (x85 ::
  x84) ∧
  ∀
  (x86 :
  List
  Asn)
  (w291 :
  World),
  Sup
  x86
  x81 →
  St
  w291
  (x85 ::
  x86) →
  ∃
  (o205
  :
  Option
  Addr),
  ∃
  (k424
  :
  Nat),
  ∃
  (k425
  :
  Nat),
  World.cell?
  w291
  (Addr.mk
  k422
  0
  none) =
  some
  (Value.slice
  o205
  k424
  k425) ∧
  idx
  o205
  k424
  n142
  1
  fun
  (a41 :
  Addr) =>
  st1
  w291
  a41
  (Value.int
  IntKind.i64
  n142)
  fun
  (w292 :
  World) =>
  ∃
  (n143
  :
  Int),
  World.cell?
  w292
  (Addr.add
  (Addr.mk
  k44
  0
  none)
  1) =
  some
  (Value.int
  IntKind.i64
  n143) ∧
  br
  (decide
  (n143 ≤
  n142))
  (∃
  (o206
  :
  Option
  Addr),
  ∃
  (k426
  :
  Nat),
  ∃
  (k427
  :
  Nat),
  World.cell?
  w292
  (Addr.mk
  k422
  0
  none) =
  some
  (Value.slice
  o206
  k426
  k427) ∧
  ∃
  (n144
  :
  Int),
  World.cell?
  w292
  (Addr.add
  (Addr.mk
  k44
  0
  none)
  1) =
  some
  (Value.int
  IntKind.i64
  n144) ∧
  ∃
  (o207
  :
  Option
  Addr),
  ∃
  (k428
  :
  Nat),
  ∃
  (k429
  :
  Nat),
  World.cell?
  w292
  (Addr.add
  (Addr.mk
  k344
  0
  none)
  1) =
  some
  (Value.slice
  o207
  k428
  k429) ∧
  inI
  (n144 +
  (↑k428 :
  Int)) ∧
  idx
  o206
  k426
  n142
  1
  fun
  (a42 :
  Addr) =>
  st1
  w292
  a42
  (Value.int
  IntKind.i64
  (n144 +
  (↑k428 :
  Int)))
  fun
  (w293 :
  World) =>
  ∀
  (w294 :
  World),
  drawn
  w293
  w294 →
  ∃
  (I39
  :
  World →
  Prop),
  I39
  w294 ∧
  ∃
  (o208
  :
  Option
  Addr),
  ∃
  (k430
  :
  Nat),
  ∃
  (k431
  :
  Nat),
  (∀
  (w295 :
  World),
  I39
  w295 →
  World.cell?
  w295
  (Addr.add
  (Addr.mk
  k344
  0
  none)
  1) =
  some
  (Value.slice
  o208
  k430
  k431)) ∧
  ∃
  (o209
  :
  Option
  Addr),
  ∃
  (k432
  :
  Nat),
  ∃
  (k433
  :
  Nat),
  (∀
  (w296 :
  World),
  I39
  w296 →
  World.cell?
  w296
  (Addr.add
  (Addr.mk
  k1
  0
  none)
  1) =
  some
  (Value.slice
  o209
  k432
  k433)) ∧
  ∃
  (n145
  :
  Int),
  (∀
  (w297 :
  World),
  I39
  w297 →
  World.cell?
  w297
  (Addr.add
  (Addr.mk
  k44
  0
  none)
  1) =
  some
  (Value.int
  IntKind.i64
  n145)) ∧
  inI
  (n142 -
  n145) ∧
  idx
  o209
  k432
  (n142 -
  n145)
  1
  fun
  (a43 :
  Addr) =>
  ∃
  (s6
  :
  ByteArray),
  (∀
  (w298 :
  World),
  I39
  w298 →
  World.cell?
  w298
  a43 =
  some
  (Value.string
  s6)) ∧
  new
  w294
  (Obj.cells
  (Array.mk
  [Value.string
  s6])
  9)
  fun
  (k434 :
  Nat)
  (w299 :
  World) =>
  I39
  w299 ∧
  RunS
  Proofs.Tryd.prog
  (Builtin.append_
  (Array.mk
  [23,
  23])
  23
  (Array.mk
  [Value.slice
  o208
  k430
  k431,
  Value.slice
  (some
  (Addr.mk
  k434
  0
  none))
  1
  1]))
  w299
  fun
  (v48 :
  Value)
  (w300 :
  World) =>
  ∃
  (o210
  :
  Option
  Addr),
  ∃
  (k435
  :
  Nat),
  ∃
  (k436
  :
  Nat),
  v48 =
  Value.slice
  o210
  k435
  k436 ∧
  I39
  w300 ∧
  st1
  w300
  (Addr.add
  (Addr.mk
  k344
  0
  none)
  1)
  (Value.slice
  o210
  k435
  k436)
  fun
  (w301 :
  World) =>
  St
  w301
  (I37
  (k423 +
  1) ::
  x86))
  (St
  w292
  (I37
  (k423 +
  1) ::
  x86))) ∧
  (∀
  (w302 :
  World),
  St
  w302
  (I37
  (List.length
  x77) ::
  x78 ::
  x81) →
  ∃
  (o211
  :
  Option
  Addr),
  ∃
  (k437
  :
  Nat),
  ∃
  (k438
  :
  Nat),
  World.cell?
  w302
  (Addr.mk
  k422
  0
  none) =
  some
  (Value.slice
  o211
  k437
  k438) ∧
  ∃
  (n146
  :
  Int),
  World.cell?
  w302
  (Addr.add
  (Addr.mk
  k1
  0
  none)
  3) =
  some
  (Value.int
  IntKind.i64
  n146) ∧
  idx
  o211
  k437
  n146
  1
  fun
  (a44 :
  Addr) =>
  ∃
  (n147
  :
  Int),
  World.cell?
  w302
  a44 =
  some
  (Value.int
  IntKind.i64
  n147) ∧
  st1
  w302
  (Addr.add
  (Addr.mk
  k344
  0
  none)
  3)
  (Value.int
  IntKind.i64
  n147)
  fun
  (w303 :
  World) =>
  ∃
  (n148
  :
  Int),
  World.cell?
  w303
  (Addr.add
  (Addr.mk
  k44
  0
  none)
  1) =
  some
  (Value.int
  IntKind.i64
  n148) ∧
  ∃
  (n149
  :
  Int),
  World.cell?
  w303
  (Addr.add
  (Addr.mk
  k344
  0
  none)
  3) =
  some
  (Value.int
  IntKind.i64
  n149) ∧
  new
  w303
  (Obj.cells
  (Array.mk
  [Value.int
  IntKind.i64
  n149])
  3)
  fun
  (k439 :
  Nat)
  (w304 :
  World) =>
  new
  w304
  (Obj.cells
  (Array.mk
  [Value.int
  IntKind.i64
  n148,
  Value.slice
  (some
  (Addr.mk
  k439
  0
  none))
  1
  1,
  Value.int
  IntKind.i64
  0])
  51)
  fun
  (k440 :
  Nat)
  (w305 :
  World) =>
  st1
  w305
  (Addr.add
  (Addr.mk
  k344
  0
  none)
  4)
  (Value.slice
  (some
  (Addr.mk
  k440
  0
  none))
  1
  1)
  fun
  (w306 :
  World) =>
  ∃
  (o212
  :
  Option
  Addr),
  ∃
  (k441
  :
  Nat),
  ∃
  (k442
  :
  Nat),
  World.cell?
  w306
  (Addr.add
  (Addr.mk
  k1
  0
  none)
  4) =
  some
  (Value.slice
  o212
  k441
  k442) ∧
  ∃
  (x87
  :
  arrS
  (shs
  [(93,
  S1.one
  (Cs.int
  IntKind.i64))])
  (World →
  Prop)),
  ∃
  (x88
  :
  arrS
  (shs
  [(93,
  S1.one
  (Cs.int
  IntKind.i64))])
  (World →
  Nat)),
  x87
  0
  w306 ∧
  ∀
  (I40 :
  Nat →
  Value)
  (n150 :
  Int)
  (w307 :
  World),
  x87
  n150
  w307 →
  br
  (decide
  (n150 <
  (↑k441 :
  Int)))
  (idx
  o212
  k441
  n150
  3
  fun
  (a45 :
  Addr) =>
  ∃
  (n151
  :
  Int),
  ∃
  (o213
  :
  Option
  Addr),
  ∃
  (k443
  :
  Nat),
  ∃
  (k444
  :
  Nat),
  ∃
  (n152
  :
  Int),
  V.rowAt
  w307
  a45
  0
  3 =
  some
  [Value.int
  IntKind.i64
  n151,
  Value.slice
  o213
  k443
  k444,
  Value.int
  IntKind.i64
  n152] ∧
  new
  w307
  (Obj.cells
  (Array.mk
  [Value.int
  IntKind.i64
  0,
  Value.slice
  none
  0
  0,
  Value.int
  IntKind.i64
  0])
  51)
  fun
  (k445 :
  Nat)
  (w308 :
  World) =>
  stR
  w308
  (Addr.mk
  k445
  0
  none)
  [Value.int
  IntKind.i64
  n151,
  Value.slice
  o213
  k443
  k444,
  Value.int
  IntKind.i64
  n152]
  fun
  (w309 :
  World) =>
  ∃
  (o214
  :
  Option
  Addr),
  World.cell?
  w309
  (Addr.mk
  k44
  0
  none) =
  some
  (Value.pointer
  o214) ∧
  ∃
  (n153
  :
  Int),
  World.cell?
  w309
  (Addr.mk
  k445
  0
  none) =
  some
  (Value.int
  IntKind.i64
  n153) ∧
  RunE
  Proofs.Tryd.prog
  Ev
  63
  [Value.pointer
  o214,
  Value.int
  IntKind.i64
  n153]
  w309
  fun
  (v49 :
  Value)
  (w310 :
  World) =>
  ∃
  (b13
  :
  Bool),
  v49 =
  Value.bool
  b13 ∧
  br
  (!b13)
  (inI
  (n150 +
  1) ∧
  x87
  (n150 +
  1)
  w310 ∧
  x88
  (n150 +
  1)
  w310 <
  x88
  n150
  w307)
  (∃
  (o215
  :
  Option
  Addr),
  ∃
  (n154
  :
  Int),
  V.rowAt
  w310
  (Addr.mk
  k27
  0
  none)
  0
  2 =
  some
  [Value.pointer
  o215,
  Value.int
  IntKind.i64
  n154] ∧
  ∃
  (o216
  :
  Option
  Addr),
  ∃
  (k446
  :
  Nat),
  ∃
  (k447
  :
  Nat),
  World.cell?
  w310
  (Addr.add
  (Addr.mk
  k445
  0
  none)
  1) =
  some
  (Value.slice
  o216
  k446
  k447) ∧
  RunE
  Proofs.Tryd.prog
  Ev
  69
  [Value.agg
  (Array.mk
  [Value.pointer
  o215,
  Value.int
  IntKind.i64
  n154]),
  Value.slice
  o216
  k446
  k447]
  w310
  fun
  (v50 :
  Value)
  (w311 :
  World) =>
  ∃
  (b14
  :
  Bool),
  v50 =
  Value.bool
  b14 ∧
  br
  (!b14)
  (inI
  (n150 +
  1) ∧
  x87
  (n150 +
  1)
  w311 ∧
  x88
  (n150 +
  1)
  w311 <
  x88
  n150
  w307)
  (∀
  (w312 :
  World),
  drawn
  w311
  w312 →
  ∃
  (I41
  :
  World →
  Prop),
  I41
  w312 ∧
  ∃
  (o217
  :
  Option
  Addr),
  ∃
  (k448
  :
  Nat),
  ∃
  (k449
  :
  Nat),
  (∀
  (w313 :
  World),
  I41
  w313 →
  World.cell?
  w313
  (Addr.mk
  k422
  0
  none) =
  some
  (Value.slice
  o217
  k448
  k449)) ∧
  ∃
  (n155
  :
  Int),
  (∀
  (w314 :
  World),
  I41
  w314 →
  World.cell?
  w314
  (Addr.mk
  k445
  0
  none) =
  some
  (Value.int
  IntKind.i64
  n155)) ∧
  idx
  o217
  k448
  n155
  1
  fun
  (a46 :
  Addr) =>
  ∃
  (n156
  :
  Int),
  (∀
  (w315 :
  World),
  I41
  w315 →
  World.cell?
  w315
  a46 =
  some
  (Value.int
  IntKind.i64
  n156)) ∧
  ∃
  (n157
  :
  Int),
  (∀
  (w316 :
  World),
  I41
  w316 →
  World.cell?
  w316
  (Addr.add
  (Addr.mk
  k445
  0
  none)
  2) =
  some
  (Value.int
  IntKind.i64
  n157)) ∧
  new
  w312
  (Obj.cells
  (Array.mk
  [Value.int
  IntKind.i64
  0,
  Value.slice
  none
  0
  0,
  Value.int
  IntKind.i64
  0])
  51)
  fun
  (k450 :
  Nat)
  (w317 :
  World) =>
  I41
  w317 ∧
  stR
  w317
  (Addr.mk
  k450
  0
  none)
  [Value.int
  IntKind.i64
  n156,
  Value.slice
  none
  0
  0,
  Value.int
  IntKind.i64
  n157]
  fun
  (w318 :
  World) =>
  ∃
  (o218
  :
  Option
  Addr),
  ∃
  (k451
  :
  Nat),
  ∃
  (k452
  :
  Nat),
  World.cell?
  w318
  (Addr.add
  (Addr.mk
  k445
  0
  none)
  1) =
  some
  (Value.slice
  o218
  k451
  k452) ∧
  ∃
  (x89
  :
  arrS
  (shs
  [(121,
  S1.one
  (Cs.int
  IntKind.i64))])
  (World →
  Prop)),
  ∃
  (x90
  :
  arrS
  (shs
  [(121,
  S1.one
  (Cs.int
  IntKind.i64))])
  (World →
  Nat)),
  x89
  0
  w318 ∧
  ∀
  (I42 :
  Nat →
  Value)
  (n158 :
  Int)
  (w319 :
  World),
  x89
  n158
  w319 →
  br
  (decide
  (n158 <
  (↑k451 :
  Int)))
  (idx
  o218
  k451
  n158
  1
  fun
  (a47 :
  Addr) =>
  ∃
  (n159
  :
  Int),
  World.cell?
  w319
  a47 =
  some
  (Value.int
  IntKind.i64
  n159) ∧
  ∀
  (w320 :
  World),
  drawn
  w319
  w320 →
  ∃
  (I43
  :
  World →
  Prop),
  I43
  w320 ∧
  ∃
  (o219
  :
  Option
  Addr),
  ∃
  (k453
  :
  Nat),
  ∃
  (k454
  :
  Nat),
  (∀
  (w321 :
  World),
  I43
  w321 →
  World.cell?
  w321
  (Addr.add
  (Addr.mk
  k450
  0
  none)
  1) =
  some
  (Value.slice
  o219
  k453
  k454)) ∧
  ∃
  (o220
  :
  Option
  Addr),
  ∃
  (k455
  :
  Nat),
  ∃
  (k456
  :
  Nat),
  (∀
  (w322 :
  World),
  I43
  w322 →
  World.cell?
  w322
  (Addr.mk
  k422
  0
  none) =
  some
  (Value.slice
  o220
  k455
  k456)) ∧
  idx
  o220
  k455
  n159
  1
  fun
  (a48 :
  Addr) =>
  ∃
  (n160
  :
  Int),
  (∀
  (w323 :
  World),
  I43
  w323 →
  World.cell?
  w323
  a48 =
  some
  (Value.int
  IntKind.i64
  n160)) ∧
  new
  w320
  (Obj.cells
  (Array.mk
  [Value.int
  IntKind.i64
  n160])
  3)
  fun
  (k457 :
  Nat)
  (w324 :
  World) =>
  I43
  w324 ∧
  RunS
  Proofs.Tryd.prog
  (Builtin.append_
  (Array.mk
  [24,
  24])
  24
  (Array.mk
  [Value.slice
  o219
  k453
  k454,
  Value.slice
  (some
  (Addr.mk
  k457
  0
  none))
  1
  1]))
  w324
  fun
  (v51 :
  Value)
  (w325 :
  World) =>
  ∃
  (o221
  :
  Option
  Addr),
  ∃
  (k458
  :
  Nat),
  ∃
  (k459
  :
  Nat),
  v51 =
  Value.slice
  o221
  k458
  k459 ∧
  I43
  w325 ∧
  st1
  w325
  (Addr.add
  (Addr.mk
  k450
  0
  none)
  1)
  (Value.slice
  o221
  k458
  k459)
  fun
  (w326 :
  World) =>
  inI
  (n158 +
  1) ∧
  x89
  (n158 +
  1)
  w326 ∧
  x90
  (n158 +
  1)
  w326 <
  x90
  n158
  w319)
  (∃
  (o222
  :
  Option
  Addr),
  ∃
  (k460
  :
  Nat),
  ∃
  (k461
  :
  Nat),
  World.cell?
  w319
  (Addr.add
  (Addr.mk
  k344
  0
  none)
  4) =
  some
  (Value.slice
  o222
  k460
  k461) ∧
  ∃
  (n161
  :
  Int),
  ∃
  (o223
  :
  Option
  Addr),
  ∃
  (k462
  :
  Nat),
  ∃
  (k463
  :
  Nat),
  ∃
  (n162
  :
  Int),
  V.rowAt
  w319
  (Addr.mk
  k450
  0
  none)
  0
  3 =
  some
  [Value.int
  IntKind.i64
  n161,
  Value.slice
  o223
  k462
  k463,
  Value.int
  IntKind.i64
  n162] ∧
  new
  w319
  (Obj.cells
  (Array.mk
  [Value.int
  IntKind.i64
  n161,
  Value.slice
  o223
  k462
  k463,
  Value.int
  IntKind.i64
  n162])
  51)
  fun
  (k464 :
  Nat)
  (w327 :
  World) =>
  RunS
  Proofs.Tryd.prog
  (Builtin.append_
  (Array.mk
  [25,
  25])
  25
  (Array.mk
  [Value.slice
  o222
  k460
  k461,
  Value.slice
  (some
  (Addr.mk
  k464
  0
  none))
  1
  1]))
  w327
  fun
  (v52 :
  Value)
  (w328 :
  World) =>
  ∃
  (o224
  :
  Option
  Addr),
  ∃
  (k465
  :
  Nat),
  ∃
  (k466
  :
  Nat),
  v52 =
  Value.slice
  o224
  k465
  k466 ∧
  st1
  w328
  (Addr.add
  (Addr.mk
  k344
  0
  none)
  4)
  (Value.slice
  o224
  k465
  k466)
  fun
  (w329 :
  World) =>
  inI
  (n150 +
  1) ∧
  x87
  (n150 +
  1)
  w329 ∧
  x88
  (n150 +
  1)
  w329 <
  x88
  n150
  w307))))
  (∃
  (o225
  :
  Option
  Addr),
  ∃
  (k467
  :
  Nat),
  ∃
  (k468
  :
  Nat),
  ∃
  (o226
  :
  Option
  Addr),
  ∃
  (k469
  :
  Nat),
  ∃
  (k470
  :
  Nat),
  ∃
  (o227
  :
  Option
  Addr),
  ∃
  (k471
  :
  Nat),
  ∃
  (k472
  :
  Nat),
  ∃
  (n163
  :
  Int),
  ∃
  (o228
  :
  Option
  Addr),
  ∃
  (k473
  :
  Nat),
  ∃
  (k474
  :
  Nat),
  V.rowAt
  w307
  (Addr.mk
  k344
  0
  none)
  0
  5 =
  some
  [Value.slice
  o225
  k467
  k468,
  Value.slice
  o226
  k469
  k470,
  Value.slice
  o227
  k471
  k472,
  Value.int
  IntKind.i64
  n163,
  Value.slice
  o228
  k473
  k474] ∧
  stR
  w307
  (Addr.mk
  k2
  0
  none)
  [Value.slice
  o225
  k467
  k468,
  Value.slice
  o226
  k469
  k470,
  Value.slice
  o227
  k471
  k472,
  Value.int
  IntKind.i64
  n163,
  Value.slice
  o228
  k473
  k474]
  fun
  (w330 :
  World) =>
  ∃
  (o229
  :
  Option
  Addr),
  ∃
  (k475
  :
  Nat),
  ∃
  (k476
  :
  Nat),
  ∃
  (o230
  :
  Option
  Addr),
  ∃
  (k477
  :
  Nat),
  ∃
  (k478
  :
  Nat),
  ∃
  (o231
  :
  Option
  Addr),
  ∃
  (k479
  :
  Nat),
  ∃
  (k480
  :
  Nat),
  ∃
  (n164
  :
  Int),
  ∃
  (o232
  :
  Option
  Addr),
  ∃
  (k481
  :
  Nat),
  ∃
  (k482
  :
  Nat),
  V.rowAt
  w330
  (Addr.mk
  k2
  0
  none)
  0
  5 =
  some
  [Value.slice
  o229
  k475
  k476,
  Value.slice
  o230
  k477
  k478,
  Value.slice
  o231
  k479
  k480,
  Value.int
  IntKind.i64
  n164,
  Value.slice
  o232
  k481
  k482] ∧
  ∀
  (w331 :
  World),
  hp
  w331 =
  hp
  w330 →
  R
  (Value.tuple
  (Array.mk
  [Value.agg
  (Array.mk
  [Value.slice
  o229
  k475
  k476,
  Value.slice
  o230
  k477
  k478,
  Value.slice
  o231
  k479
  k480,
  Value.int
  IntKind.i64
  n164,
  Value.slice
  o232
  k481
  k482]),
  Value.int
  IntKind.i64
  0]))
  w331)) ∧
  (∀
  (w332 :
  World),
  St
  w332
  (x80 ::
  x78 ::
  x81) →
  ∃
  (o233
  :
  Option
  Addr),
  ∃
  (k483
  :
  Nat),
  ∃
  (k484
  :
  Nat),
  ∃
  (o234
  :
  Option
  Addr),
  ∃
  (k485
  :
  Nat),
  ∃
  (k486
  :
  Nat),
  ∃
  (o235
  :
  Option
  Addr),
  ∃
  (k487
  :
  Nat),
  ∃
  (k488
  :
  Nat),
  ∃
  (n165
  :
  Int),
  ∃
  (o236
  :
  Option
  Addr),
  ∃
  (k489
  :
  Nat),
  ∃
  (k490
  :
  Nat),
  V.rowAt
  w332
  (Addr.mk
  k2
  0
  none)
  0
  5 =
  some
  [Value.slice
  o233
  k483
  k484,
  Value.slice
  o234
  k485
  k486,
  Value.slice
  o235
  k487
  k488,
  Value.int
  IntKind.i64
  n165,
  Value.slice
  o236
  k489
  k490] ∧
  ∀
  (w333 :
  World),
  hp
  w333 =
  hp
  w332 →
  R
  (Value.tuple
  (Array.mk
  [Value.agg
  (Array.mk
  [Value.slice
  o233
  k483
  k484,
  Value.slice
  o234
  k485
  k486,
  Value.slice
  o235
  k487
  k488,
  Value.int
  IntKind.i64
  n165,
  Value.slice
  o236
  k489
  k490]),
  Value.int
  IntKind.i64
  0]))
  w333) ∧
  True)) ∧
  (new w15
  (Obj.cells
  (Array.mk
  [Value.string
  (ByteArray.mk
  (Array.mk
  []))])
  9)
  fun
  (k491 :
  Nat)
  (w334 :
  World) =>
  I1
  w334 ∧
  (RunE
  Proofs.Tryd.prog
  Ev
  65
  [Value.slice
  o25
  k45
  k46]
  w334
  fun
  (v53 :
  Value)
  (w335 :
  World) =>
  ∃
  (o237
  :
  Option
  Addr),
  ∃
  (k492
  :
  Nat),
  ∃
  (k493
  :
  Nat),
  v53 =
  Value.slice
  o237
  k492
  k493 ∧
  I1
  w335 ∧
  (RunE
  Proofs.Tryd.prog
  Ev
  66
  [Value.slice
  o26
  k47
  k48]
  w335
  fun
  (v54 :
  Value)
  (w336 :
  World) =>
  ∃
  (o238
  :
  Option
  Addr),
  ∃
  (k494
  :
  Nat),
  ∃
  (k495
  :
  Nat),
  v54 =
  Value.slice
  o238
  k494
  k495 ∧
  I1
  w336 ∧
  new
  w336
  (Obj.cells
  (Array.mk
  [Value.slice
  none
  0
  0,
  Value.slice
  none
  0
  0,
  Value.slice
  none
  0
  0,
  Value.int
  IntKind.i64
  0,
  Value.slice
  none
  0
  0])
  27)
  fun
  (k496 :
  Nat)
  (w337 :
  World) =>
  I1
  w337 ∧
  stR
  w337
  (Addr.mk
  k496
  0
  none)
  [Value.slice
  o237
  k492
  k493,
  Value.slice
  (some
  (Addr.mk
  k491
  0
  none))
  1
  1,
  Value.slice
  o238
  k494
  k495,
  Value.int
  IntKind.i64
  0,
  Value.slice
  none
  0
  0]
  fun
  (w338 :
  World) =>
  ∃
  (o239
  :
  Option
  Addr),
  World.cell?
  w338
  (Addr.mk
  k44
  0
  none) =
  some
  (Value.pointer
  o239) ∧
  RunE
  Proofs.Tryd.prog
  Ev
  67
  [Value.pointer
  o239]
  w338
  fun
  (v55 :
  Value)
  (w339 :
  World) =>
  ∃
  (n166
  :
  Int),
  v55 =
  Value.int
  IntKind.i64
  n166 ∧
  mkOk
  n166
  n166
  8 ∧
  new
  w339
  (Obj.cells
  (Array.mk
  (reps
  (Int.toNat
  n166)
  [Value.int
  IntKind.i64
  0]))
  3)
  fun
  (k497 :
  Nat)
  (w340 :
  World) =>
  new
  w340
  (Obj.cells
  (Array.mk
  [Value.slice
  none
  0
  0])
  24)
  fun
  (k498 :
  Nat)
  (w341 :
  World) =>
  st1
  w341
  (Addr.mk
  k498
  0
  none)
  (Value.slice
  (some
  (Addr.mk
  k497
  0
  none))
  (Int.toNat
  n166)
  (Int.toNat
  n166))
  fun
  (w342 :
  World) =>
  ∃
  (o240
  :
  Option
  Addr),
  World.cell?
  w342
  (Addr.mk
  k44
  0
  none) =
  some
  (Value.pointer
  o240) ∧
  RunE
  Proofs.Tryd.prog
  Ev
  68
  [Value.pointer
  o240]
  w342
  fun
  (v56 :
  Value)
  (w343 :
  World) =>
  ∃
  (g7
  :
  FuncId),
  ∃
  (x91
  :
  List
  Value),
  v56 =
  Value.func
  (Fn.func
  g7)
  (Array.mk
  [])
  (Array.mk
  x91) ∧
  ifT
  (Proofs.YtaheggomcnbbiaaDoor.Fn
  g7)
  (∃
  (x92
  :
  List
  (List
  Value)),
  ∃
  (x93
  :
  Asn),
  ∃
  (x94
  :
  Asn),
  ∃
  (I44
  :
  Nat →
  Asn),
  ∃
  (x95
  :
  Asn),
  ∃
  (I45
  :
  Nat →
  Asn),
  ∃
  (x96
  :
  List
  Asn),
  St
  w343
  (I44
  0 ::
  x93 ::
  x96) ∧
  (∀
  (x97 :
  Hp),
  starL
  x96
  x97 →
  x94
  x97) ∧
  Itr
  Proofs.Tryd.prog
  g7
  []
  x91
  x93
  x94
  x92 ∧
  (∀
  (x98 :
  List
  Value),
  x98 ∈
  x92 →
  ∃
  (n167
  :
  Int),
  x98 =
  [Value.int
  IntKind.i64
  n167]) ∧
  (∀
  (k499 :
  Nat)
  (n168 :
  Int),
  List.get?Internal
  x92
  k499 =
  some
  [Value.int
  IntKind.i64
  n168] →
  ∀
  (x99 :
  List
  Asn)
  (w344 :
  World),
  Sup
  x99
  x96 →
  St
  w344
  (I44
  k499 ::
  x99) →
  ∃
  (x100
  :
  Asn),
  St
  w344
  (x100 ::
  x99) ∧
  ∀
  (x101 :
  List
  Asn)
  (w345 :
  World),
  Sup
  x101
  x96 →
  St
  w345
  (x100 ::
  x101) →
  ∃
  (o241
  :
  Option
  Addr),
  ∃
  (k500
  :
  Nat),
  ∃
  (k501
  :
  Nat),
  World.cell?
  w345
  (Addr.mk
  k498
  0
  none) =
  some
  (Value.slice
  o241
  k500
  k501) ∧
  idx
  o241
  k500
  n168
  1
  fun
  (a49 :
  Addr) =>
  st1
  w345
  a49
  (Value.int
  IntKind.i64
  n168)
  fun
  (w346 :
  World) =>
  ∃
  (n169
  :
  Int),
  World.cell?
  w346
  (Addr.add
  (Addr.mk
  k44
  0
  none)
  1) =
  some
  (Value.int
  IntKind.i64
  n169) ∧
  br
  (decide
  (n169 ≤
  n168))
  (∃
  (o242
  :
  Option
  Addr),
  ∃
  (k502
  :
  Nat),
  ∃
  (k503
  :
  Nat),
  World.cell?
  w346
  (Addr.mk
  k498
  0
  none) =
  some
  (Value.slice
  o242
  k502
  k503) ∧
  ∃
  (n170
  :
  Int),
  World.cell?
  w346
  (Addr.add
  (Addr.mk
  k44
  0
  none)
  1) =
  some
  (Value.int
  IntKind.i64
  n170) ∧
  ∃
  (o243
  :
  Option
  Addr),
  ∃
  (k504
  :
  Nat),
  ∃
  (k505
  :
  Nat),
  World.cell?
  w346
  (Addr.add
  (Addr.mk
  k496
  0
  none)
  1) =
  some
  (Value.slice
  o243
  k504
  k505) ∧
  inI
  (n170 +
  (↑k504 :
  Int)) ∧
  idx
  o242
  k502
  n168
  1
  fun
  (a50 :
  Addr) =>
  st1
  w346
  a50
  (Value.int
  IntKind.i64
  (n170 +
  (↑k504 :
  Int)))
  fun
  (w347 :
  World) =>
  ∀
  (w348 :
  World),
  drawn
  w347
  w348 →
  ∃
  (I46
  :
  World →
  Prop),
  I46
  w348 ∧
  ∃
  (o244
  :
  Option
  Addr),
  ∃
  (k506
  :
  Nat),
  ∃
  (k507
  :
  Nat),
  (∀
  (w349 :
  World),
  I46
  w349 →
  World.cell?
  w349
  (Addr.add
  (Addr.mk
  k496
  0
  none)
  1) =
  some
  (Value.slice
  o244
  k506
  k507)) ∧
  ∃
  (o245
  :
  Option
  Addr),
  ∃
  (k508
  :
  Nat),
  ∃
  (k509
  :
  Nat),
  (∀
  (w350 :
  World),
  I46
  w350 →
  World.cell?
  w350
  (Addr.add
  (Addr.mk
  k1
  0
  none)
  1) =
  some
  (Value.slice
  o245
  k508
  k509)) ∧
  ∃
  (n171
  :
  Int),
  (∀
  (w351 :
  World),
  I46
  w351 →
  World.cell?
  w351
  (Addr.add
  (Addr.mk
  k44
  0
  none)
  1) =
  some
  (Value.int
  IntKind.i64
  n171)) ∧
  inI
  (n168 -
  n171) ∧
  idx
  o245
  k508
  (n168 -
  n171)
  1
  fun
  (a51 :
  Addr) =>
  ∃
  (s7
  :
  ByteArray),
  (∀
  (w352 :
  World),
  I46
  w352 →
  World.cell?
  w352
  a51 =
  some
  (Value.string
  s7)) ∧
  new
  w348
  (Obj.cells
  (Array.mk
  [Value.string
  s7])
  9)
  fun
  (k510 :
  Nat)
  (w353 :
  World) =>
  I46
  w353 ∧
  RunS
  Proofs.Tryd.prog
  (Builtin.append_
  (Array.mk
  [23,
  23])
  23
  (Array.mk
  [Value.slice
  o244
  k506
  k507,
  Value.slice
  (some
  (Addr.mk
  k510
  0
  none))
  1
  1]))
  w353
  fun
  (v57 :
  Value)
  (w354 :
  World) =>
  ∃
  (o246
  :
  Option
  Addr),
  ∃
  (k511
  :
  Nat),
  ∃
  (k512
  :
  Nat),
  v57 =
  Value.slice
  o246
  k511
  k512 ∧
  I46
  w354 ∧
  st1
  w354
  (Addr.add
  (Addr.mk
  k496
  0
  none)
  1)
  (Value.slice
  o246
  k511
  k512)
  fun
  (w355 :
  World) =>
  St
  w355
  (I44
  (k499 +
  1) ::
  x101))
  (St
  w346
  (I44
  (k499 +
  1) ::
  x101))) ∧
  (∀
  (w356 :
  World),
  St
  w356
  (I44
  (List.length
  x92) ::
  x93 ::
  x96) →
  ∃
  (o247
  :
  Option
  Addr),
  ∃
  (k513
  :
  Nat),
  ∃
  (k514
  :
  Nat),
  World.cell?
  w356
  (Addr.mk
  k498
  0
  none) =
  some
  (Value.slice
  o247
  k513
  k514) ∧
  ∃
  (n172
  :
  Int),
  World.cell?
  w356
  (Addr.add
  (Addr.mk
  k1
  0
  none)
  3) =
  some
  (Value.int
  IntKind.i64
  n172) ∧
  idx
  o247
  k513
  n172
  1
  fun
  (a52 :
  Addr) =>
  ∃
  (n173
  :
  Int),
  World.cell?
  w356
  a52 =
  some
  (Value.int
  IntKind.i64
  n173) ∧
  st1
  w356
  (Addr.add
  (Addr.mk
  k496
  0
  none)
  3)
  (Value.int
  IntKind.i64
  n173)
  fun
  (w357 :
  World) =>
  ∃
  (n174
  :
  Int),
  World.cell?
  w357
  (Addr.add
  (Addr.mk
  k44
  0
  none)
  1) =
  some
  (Value.int
  IntKind.i64
  n174) ∧
  ∃
  (n175
  :
  Int),
  World.cell?
  w357
  (Addr.add
  (Addr.mk
  k496
  0
  none)
  3) =
  some
  (Value.int
  IntKind.i64
  n175) ∧
  new
  w357
  (Obj.cells
  (Array.mk
  [Value.int
  IntKind.i64
  n175])
  3)
  fun
  (k515 :
  Nat)
  (w358 :
  World) =>
  new
  w358
  (Obj.cells
  (Array.mk
  [Value.int
  IntKind.i64
  n174,
  Value.slice
  (some
  (Addr.mk
  k515
  0
  none))
  1
  1,
  Value.int
  IntKind.i64
  0])
  51)
  fun
  (k516 :
  Nat)
  (w359 :
  World) =>
  st1
  w359
  (Addr.add
  (Addr.mk
  k496
  0
  none)
  4)
  (Value.slice
  (some
  (Addr.mk
  k516
  0
  none))
  1
  1)
  fun
  (w360 :
  World) =>
  ∃
  (o248
  :
  Option
  Addr),
  ∃
  (k517
  :
  Nat),
  ∃
  (k518
  :
  Nat),
  World.cell?
  w360
  (Addr.add
  (Addr.mk
  k1
  0
  none)
  4) =
  some
  (Value.slice
  o248
  k517
  k518) ∧
  ∃
  (x102
  :
  arrS
  (shs
  [(93,
  S1.one
  (Cs.int
  IntKind.i64))])
  (World →
  Prop)),
  ∃
  (x103
  :
  arrS
  (shs
  [(93,
  S1.one
  (Cs.int
  IntKind.i64))])
  (World →
  Nat)),
  x102
  0
  w360 ∧
  ∀
  (I47 :
  Nat →
  Value)
  (n176 :
  Int)
  (w361 :
  World),
  x102
  n176
  w361 →
  br
  (decide
  (n176 <
  (↑k517 :
  Int)))
  (idx
  o248
  k517
  n176
  3
  fun
  (a53 :
  Addr) =>
  ∃
  (n177
  :
  Int),
  ∃
  (o249
  :
  Option
  Addr),
  ∃
  (k519
  :
  Nat),
  ∃
  (k520
  :
  Nat),
  ∃
  (n178
  :
  Int),
  V.rowAt
  w361
  a53
  0
  3 =
  some
  [Value.int
  IntKind.i64
  n177,
  Value.slice
  o249
  k519
  k520,
  Value.int
  IntKind.i64
  n178] ∧
  new
  w361
  (Obj.cells
  (Array.mk
  [Value.int
  IntKind.i64
  0,
  Value.slice
  none
  0
  0,
  Value.int
  IntKind.i64
  0])
  51)
  fun
  (k521 :
  Nat)
  (w362 :
  World) =>
  stR
  w362
  (Addr.mk
  k521
  0
  none)
  [Value.int
  IntKind.i64
  n177,
  Value.slice
  o249
  k519
  k520,
  Value.int
  IntKind.i64
  n178]
  fun
  (w363 :
  World) =>
  ∃
  (o250
  :
  Option
  Addr),
  World.cell?
  w363
  (Addr.mk
  k44
  0
  none) =
  some
  (Value.pointer
  o250) ∧
  ∃
  (n179
  :
  Int),
  World.cell?
  w363
  (Addr.mk
  k521
  0
  none) =
  some
  (Value.int
  IntKind.i64
  n179) ∧
  RunE
  Proofs.Tryd.prog
  Ev
  63
  [Value.pointer
  o250,
  Value.int
  IntKind.i64
  n179]
  w363
  fun
  (v58 :
  Value)
  (w364 :
  World) =>
  ∃
  (b15
  :
  Bool),
  v58 =
  Value.bool
  b15 ∧
  br
  (!b15)
  (inI
  (n176 +
  1) ∧
  x102
  (n176 +
  1)
  w364 ∧
  x103
  (n176 +
  1)
  w364 <
  x103
  n176
  w361)
  (∃
  (o251
  :
  Option
  Addr),
  ∃
  (n180
  :
  Int),
  V.rowAt
  w364
  (Addr.mk
  k27
  0
  none)
  0
  2 =
  some
  [Value.pointer
  o251,
  Value.int
  IntKind.i64
  n180] ∧
  ∃
  (o252
  :
  Option
  Addr),
  ∃
  (k522
  :
  Nat),
  ∃
  (k523
  :
  Nat),
  World.cell?
  w364
  (Addr.add
  (Addr.mk
  k521
  0
  none)
  1) =
  some
  (Value.slice
  o252
  k522
  k523) ∧
  RunE
  Proofs.Tryd.prog
  Ev
  69
  [Value.agg
  (Array.mk
  [Value.pointer
  o251,
  Value.int
  IntKind.i64
  n180]),
  Value.slice
  o252
  k522
  k523]
  w364
  fun
  (v59 :
  Value)
  (w365 :
  World) =>
  ∃
  (b16
  :
  Bool),
  v59 =
  Value.bool
  b16 ∧
  br
  (!b16)
  (inI
  (n176 +
  1) ∧
  x102
  (n176 +
  1)
  w365 ∧
  x103
  (n176 +
  1)
  w365 <
  x103
  n176
  w361)
  (∀
  (w366 :
  World),
  drawn
  w365
  w366 →
  ∃
  (I48
  :
  World →
  Prop),
  I48
  w366 ∧
  ∃
  (o253
  :
  Option
  Addr),
  ∃
  (k524
  :
  Nat),
  ∃
  (k525
  :
  Nat),
  (∀
  (w367 :
  World),
  I48
  w367 →
  World.cell?
  w367
  (Addr.mk
  k498
  0
  none) =
  some
  (Value.slice
  o253
  k524
  k525)) ∧
  ∃
  (n181
  :
  Int),
  (∀
  (w368 :
  World),
  I48
  w368 →
  World.cell?
  w368
  (Addr.mk
  k521
  0
  none) =
  some
  (Value.int
  IntKind.i64
  n181)) ∧
  idx
  o253
  k524
  n181
  1
  fun
  (a54 :
  Addr) =>
  ∃
  (n182
  :
  Int),
  (∀
  (w369 :
  World),
  I48
  w369 →
  World.cell?
  w369
  a54 =
  some
  (Value.int
  IntKind.i64
  n182)) ∧
  ∃
  (n183
  :
  Int),
  (∀
  (w370 :
  World),
  I48
  w370 →
  World.cell?
  w370
  (Addr.add
  (Addr.mk
  k521
  0
  none)
  2) =
  some
  (Value.int
  IntKind.i64
  n183)) ∧
  new
  w366
  (Obj.cells
  (Array.mk
  [Value.int
  IntKind.i64
  0,
  Value.slice
  none
  0
  0,
  Value.int
  IntKind.i64
  0])
  51)
  fun
  (k526 :
  Nat)
  (w371 :
  World) =>
  I48
  w371 ∧
  stR
  w371
  (Addr.mk
  k526
  0
  none)
  [Value.int
  IntKind.i64
  n182,
  Value.slice
  none
  0
  0,
  Value.int
  IntKind.i64
  n183]
  fun
  (w372 :
  World) =>
  ∃
  (o254
  :
  Option
  Addr),
  ∃
  (k527
  :
  Nat),
  ∃
  (k528
  :
  Nat),
  World.cell?
  w372
  (Addr.add
  (Addr.mk
  k521
  0
  none)
  1) =
  some
  (Value.slice
  o254
  k527
  k528) ∧
  ∃
  (x104
  :
  arrS
  (shs
  [(121,
  S1.one
  (Cs.int
  IntKind.i64))])
  (World →
  Prop)),
  ∃
  (x105
  :
  arrS
  (shs
  [(121,
  S1.one
  (Cs.int
  IntKind.i64))])
  (World →
  Nat)),
  x104
  0
  w372 ∧
  ∀
  (I49 :
  Nat →
  Value)
  (n184 :
  Int)
  (w373 :
  World),
  x104
  n184
  w373 →
  br
  (decide
  (n184 <
  (↑k527 :
  Int)))
  (idx
  o254
  k527
  n184
  1
  fun
  (a55 :
  Addr) =>
  ∃
  (n185
  :
  Int),
  World.cell?
  w373
  a55 =
  some
  (Value.int
  IntKind.i64
  n185) ∧
  ∀
  (w374 :
  World),
  drawn
  w373
  w374 →
  ∃
  (I50
  :
  World →
  Prop),
  I50
  w374 ∧
  ∃
  (o255
  :
  Option
  Addr),
  ∃
  (k529
  :
  Nat),
  ∃
  (k530
  :
  Nat),
  (∀
  (w375 :
  World),
  I50
  w375 →
  World.cell?
  w375
  (Addr.add
  (Addr.mk
  k526
  0
  none)
  1) =
  some
  (Value.slice
  o255
  k529
  k530)) ∧
  ∃
  (o256
  :
  Option
  Addr),
  ∃
  (k531
  :
  Nat),
  ∃
  (k532
  :
  Nat),
  (∀
  (w376 :
  World),
  I50
  w376 →
  World.cell?
  w376
  (Addr.mk
  k498
  0
  none) =
  some
  (Value.slice
  o256
  k531
  k532)) ∧
  idx
  o256
  k531
  n185
  1
  fun
  (a56 :
  Addr) =>
  ∃
  (n186
  :
  Int),
  (∀
  (w377 :
  World),
  I50
  w377 →
  World.cell?
  w377
  a56 =
  some
  (Value.int
  IntKind.i64
  n186)) ∧
  new
  w374
  (Obj.cells
  (Array.mk
  [Value.int
  IntKind.i64
  n186])
  3)
  fun
  (k533 :
  Nat)
  (w378 :
  World) =>
  I50
  w378 ∧
  RunS
  Proofs.Tryd.prog
  (Builtin.append_
  (Array.mk
  [24,
  24])
  24
  (Array.mk
  [Value.slice
  o255
  k529
  k530,
  Value.slice
  (some
  (Addr.mk
  k533
  0
  none))
  1
  1]))
  w378
  fun
  (v60 :
  Value)
  (w379 :
  World) =>
  ∃
  (o257
  :
  Option
  Addr),
  ∃
  (k534
  :
  Nat),
  ∃
  (k535
  :
  Nat),
  v60 =
  Value.slice
  o257
  k534
  k535 ∧
  I50
  w379 ∧
  st1
  w379
  (Addr.add
  (Addr.mk
  k526
  0
  none)
  1)
  (Value.slice
  o257
  k534
  k535)
  fun
  (w380 :
  World) =>
  inI
  (n184 +
  1) ∧
  x104
  (n184 +
  1)
  w380 ∧
  x105
  (n184 +
  1)
  w380 <
  x105
  n184
  w373)
  (∃
  (o258
  :
  Option
  Addr),
  ∃
  (k536
  :
  Nat),
  ∃
  (k537
  :
  Nat),
  World.cell?
  w373
  (Addr.add
  (Addr.mk
  k496
  0
  none)
  4) =
  some
  (Value.slice
  o258
  k536
  k537) ∧
  ∃
  (n187
  :
  Int),
  ∃
  (o259
  :
  Option
  Addr),
  ∃
  (k538
  :
  Nat),
  ∃
  (k539
  :
  Nat),
  ∃
  (n188
  :
  Int),
  V.rowAt
  w373
  (Addr.mk
  k526
  0
  none)
  0
  3 =
  some
  [Value.int
  IntKind.i64
  n187,
  Value.slice
  o259
  k538
  k539,
  Value.int
  IntKind.i64
  n188] ∧
  new
  w373
  (Obj.cells
  (Array.mk
  [Value.int
  IntKind.i64
  n187,
  Value.slice
  o259
  k538
  k539,
  Value.int
  IntKind.i64
  n188])
  51)
  fun
  (k540 :
  Nat)
  (w381 :
  World) =>
  RunS
  Proofs.Tryd.prog
  (Builtin.append_
  (Array.mk
  [25,
  25])
  25
  (Array.mk
  [Value.slice
  o258
  k536
  k537,
  Value.slice
  (some
  (Addr.mk
  k540
  0
  none))
  1
  1]))
  w381
  fun
  (v61 :
  Value)
  (w382 :
  World) =>
  ∃
  (o260
  :
  Option
  Addr),
  ∃
  (k541
  :
  Nat),
  ∃
  (k542
  :
  Nat),
  v61 =
  Value.slice
  o260
  k541
  k542 ∧
  st1
  w382
  (Addr.add
  (Addr.mk
  k496
  0
  none)
  4)
  (Value.slice
  o260
  k541
  k542)
  fun
  (w383 :
  World) =>
  inI
  (n176 +
  1) ∧
  x102
  (n176 +
  1)
  w383 ∧
  x103
  (n176 +
  1)
  w383 <
  x103
  n176
  w361))))
  (∃
  (o261
  :
  Option
  Addr),
  ∃
  (k543
  :
  Nat),
  ∃
  (k544
  :
  Nat),
  ∃
  (o262
  :
  Option
  Addr),
  ∃
  (k545
  :
  Nat),
  ∃
  (k546
  :
  Nat),
  ∃
  (o263
  :
  Option
  Addr),
  ∃
  (k547
  :
  Nat),
  ∃
  (k548
  :
  Nat),
  ∃
  (n189
  :
  Int),
  ∃
  (o264
  :
  Option
  Addr),
  ∃
  (k549
  :
  Nat),
  ∃
  (k550
  :
  Nat),
  V.rowAt
  w361
  (Addr.mk
  k496
  0
  none)
  0
  5 =
  some
  [Value.slice
  o261
  k543
  k544,
  Value.slice
  o262
  k545
  k546,
  Value.slice
  o263
  k547
  k548,
  Value.int
  IntKind.i64
  n189,
  Value.slice
  o264
  k549
  k550] ∧
  stR
  w361
  (Addr.mk
  k2
  0
  none)
  [Value.slice
  o261
  k543
  k544,
  Value.slice
  o262
  k545
  k546,
  Value.slice
  o263
  k547
  k548,
  Value.int
  IntKind.i64
  n189,
  Value.slice
  o264
  k549
  k550]
  fun
  (w384 :
  World) =>
  ∃
  (o265
  :
  Option
  Addr),
  ∃
  (k551
  :
  Nat),
  ∃
  (k552
  :
  Nat),
  ∃
  (o266
  :
  Option
  Addr),
  ∃
  (k553
  :
  Nat),
  ∃
  (k554
  :
  Nat),
  ∃
  (o267
  :
  Option
  Addr),
  ∃
  (k555
  :
  Nat),
  ∃
  (k556
  :
  Nat),
  ∃
  (n190
  :
  Int),
  ∃
  (o268
  :
  Option
  Addr),
  ∃
  (k557
  :
  Nat),
  ∃
  (k558
  :
  Nat),
  V.rowAt
  w384
  (Addr.mk
  k2
  0
  none)
  0
  5 =
  some
  [Value.slice
  o265
  k551
  k552,
  Value.slice
  o266
  k553
  k554,
  Value.slice
  o267
  k555
  k556,
  Value.int
  IntKind.i64
  n190,
  Value.slice
  o268
  k557
  k558] ∧
  ∀
  (w385 :
  World),
  hp
  w385 =
  hp
  w384 →
  R
  (Value.tuple
  (Array.mk
  [Value.agg
  (Array.mk
  [Value.slice
  o265
  k551
  k552,
  Value.slice
  o266
  k553
  k554,
  Value.slice
  o267
  k555
  k556,
  Value.int
  IntKind.i64
  n190,
  Value.slice
  o268
  k557
  k558]),
  Value.int
  IntKind.i64
  0]))
  w385)) ∧
  (∀
  (w386 :
  World),
  St
  w386
  (x95 ::
  x93 ::
  x96) →
  ∃
  (o269
  :
  Option
  Addr),
  ∃
  (k559
  :
  Nat),
  ∃
  (k560
  :
  Nat),
  ∃
  (o270
  :
  Option
  Addr),
  ∃
  (k561
  :
  Nat),
  ∃
  (k562
  :
  Nat),
  ∃
  (o271
  :
  Option
  Addr),
  ∃
  (k563
  :
  Nat),
  ∃
  (k564
  :
  Nat),
  ∃
  (n191
  :
  Int),
  ∃
  (o272
  :
  Option
  Addr),
  ∃
  (k565
  :
  Nat),
  ∃
  (k566
  :
  Nat),
  V.rowAt
  w386
  (Addr.mk
  k2
  0
  none)
  0
  5 =
  some
  [Value.slice
  o269
  k559
  k560,
  Value.slice
  o270
  k561
  k562,
  Value.slice
  o271
  k563
  k564,
  Value.int
  IntKind.i64
  n191,
  Value.slice
  o272
  k565
  k566] ∧
  ∀
  (w387 :
  World),
  hp
  w387 =
  hp
  w386 →
  R
  (Value.tuple
  (Array.mk
  [Value.agg
  (Array.mk
  [Value.slice
  o269
  k559
  k560,
  Value.slice
  o270
  k561
  k562,
  Value.slice
  o271
  k563
  k564,
  Value.int
  IntKind.i64
  n191,
  Value.slice
  o272
  k565
  k566]),
  Value.int
  IntKind.i64
  0]))
  w387) ∧
  True)) ∧
  new
  w335
  (Obj.cells
  (Array.mk
  [Value.slice
  none
  0
  0,
  Value.slice
  none
  0
  0,
  Value.slice
  none
  0
  0,
  Value.int
  IntKind.i64
  0,
  Value.slice
  none
  0
  0])
  27)
  fun
  (k567 :
  Nat)
  (w388 :
  World) =>
  I1
  w388 ∧
  RunE
  Proofs.Tryd.prog
  Ev
  66
  [Value.slice
  o26
  k47
  k48]
  w388
  fun
  (v62 :
  Value)
  (w389 :
  World) =>
  ∃
  (o273
  :
  Option
  Addr),
  ∃
  (k568
  :
  Nat),
  ∃
  (k569
  :
  Nat),
  v62 =
  Value.slice
  o273
  k568
  k569 ∧
  I1
  w389 ∧
  stR
  w389
  (Addr.mk
  k567
  0
  none)
  [Value.slice
  o237
  k492
  k493,
  Value.slice
  (some
  (Addr.mk
  k491
  0
  none))
  1
  1,
  Value.slice
  o273
  k568
  k569,
  Value.int
  IntKind.i64
  0,
  Value.slice
  none
  0
  0]
  fun
  (w390 :
  World) =>
  ∃
  (o274
  :
  Option
  Addr),
  World.cell?
  w390
  (Addr.mk
  k44
  0
  none) =
  some
  (Value.pointer
  o274) ∧
  RunE
  Proofs.Tryd.prog
  Ev
  67
  [Value.pointer
  o274]
  w390
  fun
  (v63 :
  Value)
  (w391 :
  World) =>
  ∃
  (n192
  :
  Int),
  v63 =
  Value.int
  IntKind.i64
  n192 ∧
  mkOk
  n192
  n192
  8 ∧
  new
  w391
  (Obj.cells
  (Array.mk
  (reps
  (Int.toNat
  n192)
  [Value.int
  IntKind.i64
  0]))
  3)
  fun
  (k570 :
  Nat)
  (w392 :
  World) =>
  new
  w392
  (Obj.cells
  (Array.mk
  [Value.slice
  none
  0
  0])
  24)
  fun
  (k571 :
  Nat)
  (w393 :
  World) =>
  st1
  w393
  (Addr.mk
  k571
  0
  none)
  (Value.slice
  (some
  (Addr.mk
  k570
  0
  none))
  (Int.toNat
  n192)
  (Int.toNat
  n192))
  fun
  (w394 :
  World) =>
  ∃
  (o275
  :
  Option
  Addr),
  World.cell?
  w394
  (Addr.mk
  k44
  0
  none) =
  some
  (Value.pointer
  o275) ∧
  RunE
  Proofs.Tryd.prog
  Ev
  68
  [Value.pointer
  o275]
  w394
  fun
  (v64 :
  Value)
  (w395 :
  World) =>
  ∃
  (g8
  :
  FuncId),
  ∃
  (x106
  :
  List
  Value),
  v64 =
  Value.func
  (Fn.func
  g8)
  (Array.mk
  [])
  (Array.mk
  x106) ∧
  ifT
  (Proofs.YtaheggomcnbbiaaDoor.Fn
  g8)
  (∃
  (x107
  :
  List
  (List
  Value)),
  ∃
  (x108
  :
  Asn),
  ∃
  (x109
  :
  Asn),
  ∃
  (I51
  :
  Nat →
  Asn),
  ∃
  (x110
  :
  Asn),
  ∃
  (I52
  :
  Nat →
  Asn),
  ∃
  (x111
  :
  List
  Asn),
  St
  w395
  (I51
  0 ::
  x108 ::
  x111) ∧
  (∀
  (x112 :
  Hp),
  starL
  x111
  x112 →
  x109
  x112) ∧
  Itr
  Proofs.Tryd.prog
  g8
  []
  x106
  x108
  x109
  x107 ∧
  (∀
  (x113 :
  List
  Value),
  x113 ∈
  x107 →
  ∃
  (n193
  :
  Int),
  x113 =
  [Value.int
  IntKind.i64
  n193]) ∧
  (∀
  (k572 :
  Nat)
  (n194 :
  Int),
  List.get?Internal
  x107
  k572 =
  some
  [Value.int
  IntKind.i64
  n194] →
  ∀
  (x114 :
  List
  Asn)
  (w396 :
  World),
  Sup
  x114
  x111 →
  St
  w396
  (I51
  k572 ::
  x114) →
  ∃
  (x115
  :
  Asn),
  St
  w396
  (x115 ::
  x114) ∧
  ∀
  (x116 :
  List
  Asn)
  (w397 :
  World),
  Sup
  x116
  x111 →
  St
  w397
  (x115 ::
  x116) →
  ∃
  (o276
  :
  Option
  Addr),
  ∃
  (k573
  :
  Nat),
  ∃
  (k574
  :
  Nat),
  World.cell?
  w397
  (Addr.mk
  k571
  0
  none) =
  some
  (Value.slice
  o276
  k573
  k574) ∧
  idx
  o276
  k573
  n194
  1
  fun
  (a57 :
  Addr) =>
  st1
  w397
  a57
  (Value.int
  IntKind.i64
  n194)
  fun
  (w398 :
  World) =>
  ∃
  (n195
  :
  Int),
  World.cell?
  w398
  (Addr.add
  (Addr.mk
  k44
  0
  none)
  1) =
  some
  (Value.int
  IntKind.i64
  n195) ∧
  br
  (decide
  (n195 ≤
  n194))
  (∃
  (o277
  :
  Option
  Addr),
  ∃
  (k575
  :
  Nat),
  ∃
  (k576
  :
  Nat),
  World.cell?
  w398
  (Addr.mk
  k571
  0
  none) =
  some
  (Value.slice
  o277
  k575
  k576) ∧
  ∃
  (n196
  :
  Int),
  World.cell?
  w398
  (Addr.add
  (Addr.mk
  k44
  0
  none)
  1) =
  some
  (Value.int
  IntKind.i64
  n196) ∧
  ∃
  (o278
  :
  Option
  Addr),
  ∃
  (k577
  :
  Nat),
  ∃
  (k578
  :
  Nat),
  World.cell?
  w398
  (Addr.add
  (Addr.mk
  k567
  0
  none)
  1) =
  some
  (Value.slice
  o278
  k577
  k578) ∧
  inI
  (n196 +
  (↑k577 :
  Int)) ∧
  idx
  o277
  k575
  n194
  1
  fun
  (a58 :
  Addr) =>
  st1
  w398
  a58
  (Value.int
  IntKind.i64
  (n196 +
  (↑k577 :
  Int)))
  fun
  (w399 :
  World) =>
  ∀
  (w400 :
  World),
  drawn
  w399
  w400 →
  ∃
  (I53
  :
  World →
  Prop),
  I53
  w400 ∧
  ∃
  (o279
  :
  Option
  Addr),
  ∃
  (k579
  :
  Nat),
  ∃
  (k580
  :
  Nat),
  (∀
  (w401 :
  World),
  I53
  w401 →
  World.cell?
  w401
  (Addr.add
  (Addr.mk
  k567
  0
  none)
  1) =
  some
  (Value.slice
  o279
  k579
  k580)) ∧
  ∃
  (o280
  :
  Option
  Addr),
  ∃
  (k581
  :
  Nat),
  ∃
  (k582
  :
  Nat),
  (∀
  (w402 :
  World),
  I53
  w402 →
  World.cell?
  w402
  (Addr.add
  (Addr.mk
  k1
  0
  none)
  1) =
  some
  (Value.slice
  o280
  k581
  k582)) ∧
  ∃
  (n197
  :
  Int),
  (∀
  (w403 :
  World),
  I53
  w403 →
  World.cell?
  w403
  (Addr.add
  (Addr.mk
  k44
  0
  none)
  1) =
  some
  (Value.int
  IntKind.i64
  n197)) ∧
  inI
  (n194 -
  n197) ∧
  idx
  o280
  k581
  (n194 -
  n197)
  1
  fun
  (a59 :
  Addr) =>
  ∃
  (s8
  :
  ByteArray),
  (∀
  (w404 :
  World),
  I53
  w404 →
  World.cell?
  w404
  a59 =
  some
  (Value.string
  s8)) ∧
  new
  w400
  (Obj.cells
  (Array.mk
  [Value.string
  s8])
  9)
  fun
  (k583 :
  Nat)
  (w405 :
  World) =>
  I53
  w405 ∧
  RunS
  Proofs.Tryd.prog
  (Builtin.append_
  (Array.mk
  [23,
  23])
  23
  (Array.mk
  [Value.slice
  o279
  k579
  k580,
  Value.slice
  (some
  (Addr.mk
  k583
  0
  none))
  1
  1]))
  w405
  fun
  (v65 :
  Value)
  (w406 :
  World) =>
  ∃
  (o281
  :
  Option
  Addr),
  ∃
  (k584
  :
  Nat),
  ∃
  (k585
  :
  Nat),
  v65 =
  Value.slice
  o281
  k584
  k585 ∧
  I53
  w406 ∧
  st1
  w406
  (Addr.add
  (Addr.mk
  k567
  0
  none)
  1)
  (Value.slice
  o281
  k584
  k585)
  fun
  (w407 :
  World) =>
  St
  w407
  (I51
  (k572 +
  1) ::
  x116))
  (St
  w398
  (I51
  (k572 +
  1) ::
  x116))) ∧
  (∀
  (w408 :
  World),
  St
  w408
  (I51
  (List.length
  x107) ::
  x108 ::
  x111) →
  ∃
  (o282
  :
  Option
  Addr),
  ∃
  (k586
  :
  Nat),
  ∃
  (k587
  :
  Nat),
  World.cell?
  w408
  (Addr.mk
  k571
  0
  none) =
  some
  (Value.slice
  o282
  k586
  k587) ∧
  ∃
  (n198
  :
  Int),
  World.cell?
  w408
  (Addr.add
  (Addr.mk
  k1
  0
  none)
  3) =
  some
  (Value.int
  IntKind.i64
  n198) ∧
  idx
  o282
  k586
  n198
  1
  fun
  (a60 :
  Addr) =>
  ∃
  (n199
  :
  Int),
  World.cell?
  w408
  a60 =
  some
  (Value.int
  IntKind.i64
  n199) ∧
  st1
  w408
  (Addr.add
  (Addr.mk
  k567
  0
  none)
  3)
  (Value.int
  IntKind.i64
  n199)
  fun
  (w409 :
  World) =>
  ∃
  (n200
  :
  Int),
  World.cell?
  w409
  (Addr.add
  (Addr.mk
  k44
  0
  none)
  1) =
  some
  (Value.int
  IntKind.i64
  n200) ∧
  ∃
  (n201
  :
  Int),
  World.cell?
  w409
  (Addr.add
  (Addr.mk
  k567
  0
  none)
  3) =
  some
  (Value.int
  IntKind.i64
  n201) ∧
  new
  w409
  (Obj.cells
  (Array.mk
  [Value.int
  IntKind.i64
  n201])
  3)
  fun
  (k588 :
  Nat)
  (w410 :
  World) =>
  new
  w410
  (Obj.cells
  (Array.mk
  [Value.int
  IntKind.i64
  n200,
  Value.slice
  (some
  (Addr.mk
  k588
  0
  none))
  1
  1,
  Value.int
  IntKind.i64
  0])
  51)
  fun
  (k589 :
  Nat)
  (w411 :
  World) =>
  st1
  w411
  (Addr.add
  (Addr.mk
  k567
  0
  none)
  4)
  (Value.slice
  (some
  (Addr.mk
  k589
  0
  none))
  1
  1)
  fun
  (w412 :
  World) =>
  ∃
  (o283
  :
  Option
  Addr),
  ∃
  (k590
  :
  Nat),
  ∃
  (k591
  :
  Nat),
  World.cell?
  w412
  (Addr.add
  (Addr.mk
  k1
  0
  none)
  4) =
  some
  (Value.slice
  o283
  k590
  k591) ∧
  ∃
  (x117
  :
  arrS
  (shs
  [(93,
  S1.one
  (Cs.int
  IntKind.i64))])
  (World →
  Prop)),
  ∃
  (x118
  :
  arrS
  (shs
  [(93,
  S1.one
  (Cs.int
  IntKind.i64))])
  (World →
  Nat)),
  x117
  0
  w412 ∧
  ∀
  (I54 :
  Nat →
  Value)
  (n202 :
  Int)
  (w413 :
  World),
  x117
  n202
  w413 →
  br
  (decide
  (n202 <
  (↑k590 :
  Int)))
  (idx
  o283
  k590
  n202
  3
  fun
  (a61 :
  Addr) =>
  ∃
  (n203
  :
  Int),
  ∃
  (o284
  :
  Option
  Addr),
  ∃
  (k592
  :
  Nat),
  ∃
  (k593
  :
  Nat),
  ∃
  (n204
  :
  Int),
  V.rowAt
  w413
  a61
  0
  3 =
  some
  [Value.int
  IntKind.i64
  n203,
  Value.slice
  o284
  k592
  k593,
  Value.int
  IntKind.i64
  n204] ∧
  new
  w413
  (Obj.cells
  (Array.mk
  [Value.int
  IntKind.i64
  0,
  Value.slice
  none
  0
  0,
  Value.int
  IntKind.i64
  0])
  51)
  fun
  (k594 :
  Nat)
  (w414 :
  World) =>
  stR
  w414
  (Addr.mk
  k594
  0
  none)
  [Value.int
  IntKind.i64
  n203,
  Value.slice
  o284
  k592
  k593,
  Value.int
  IntKind.i64
  n204]
  fun
  (w415 :
  World) =>
  ∃
  (o285
  :
  Option
  Addr),
  World.cell?
  w415
  (Addr.mk
  k44
  0
  none) =
  some
  (Value.pointer
  o285) ∧
  ∃
  (n205
  :
  Int),
  World.cell?
  w415
  (Addr.mk
  k594
  0
  none) =
  some
  (Value.int
  IntKind.i64
  n205) ∧
  RunE
  Proofs.Tryd.prog
  Ev
  63
  [Value.pointer
  o285,
  Value.int
  IntKind.i64
  n205]
  w415
  fun
  (v66 :
  Value)
  (w416 :
  World) =>
  ∃
  (b17
  :
  Bool),
  v66 =
  Value.bool
  b17 ∧
  br
  (!b17)
  (inI
  (n202 +
  1) ∧
  x117
  (n202 +
  1)
  w416 ∧
  x118
  (n202 +
  1)
  w416 <
  x118
  n202
  w413)
  (∃
  (o286
  :
  Option
  Addr),
  ∃
  (n206
  :
  Int),
  V.rowAt
  w416
  (Addr.mk
  k27
  0
  none)
  0
  2 =
  some
  [Value.pointer
  o286,
  Value.int
  IntKind.i64
  n206] ∧
  ∃
  (o287
  :
  Option
  Addr),
  ∃
  (k595
  :
  Nat),
  ∃
  (k596
  :
  Nat),
  World.cell?
  w416
  (Addr.add
  (Addr.mk
  k594
  0
  none)
  1) =
  some
  (Value.slice
  o287
  k595
  k596) ∧
  RunE
  Proofs.Tryd.prog
  Ev
  69
  [Value.agg
  (Array.mk
  [Value.pointer
  o286,
  Value.int
  IntKind.i64
  n206]),
  Value.slice
  o287
  k595
  k596]
  w416
  fun
  (v67 :
  Value)
  (w417 :
  World) =>
  ∃
  (b18
  :
  Bool),
  v67 =
  Value.bool
  b18 ∧
  br
  (!b18)
  (inI
  (n202 +
  1) ∧
  x117
  (n202 +
  1)
  w417 ∧
  x118
  (n202 +
  1)
  w417 <
  x118
  n202
  w413)
  (∀
  (w418 :
  World),
  drawn
  w417
  w418 →
  ∃
  (I55
  :
  World →
  Prop),
  I55
  w418 ∧
  ∃
  (o288
  :
  Option
  Addr),
  ∃
  (k597
  :
  Nat),
  ∃
  (k598
  :
  Nat),
  (∀
  (w419 :
  World),
  I55
  w419 →
  World.cell?
  w419
  (Addr.mk
  k571
  0
  none) =
  some
  (Value.slice
  o288
  k597
  k598)) ∧
  ∃
  (n207
  :
  Int),
  (∀
  (w420 :
  World),
  I55
  w420 →
  World.cell?
  w420
  (Addr.mk
  k594
  0
  none) =
  some
  (Value.int
  IntKind.i64
  n207)) ∧
  idx
  o288
  k597
  n207
  1
  fun
  (a62 :
  Addr) =>
  ∃
  (n208
  :
  Int),
  (∀
  (w421 :
  World),
  I55
  w421 →
  World.cell?
  w421
  a62 =
  some
  (Value.int
  IntKind.i64
  n208)) ∧
  ∃
  (n209
  :
  Int),
  (∀
  (w422 :
  World),
  I55
  w422 →
  World.cell?
  w422
  (Addr.add
  (Addr.mk
  k594
  0
  none)
  2) =
  some
  (Value.int
  IntKind.i64
  n209)) ∧
  new
  w418
  (Obj.cells
  (Array.mk
  [Value.int
  IntKind.i64
  0,
  Value.slice
  none
  0
  0,
  Value.int
  IntKind.i64
  0])
  51)
  fun
  (k599 :
  Nat)
  (w423 :
  World) =>
  I55
  w423 ∧
  stR
  w423
  (Addr.mk
  k599
  0
  none)
  [Value.int
  IntKind.i64
  n208,
  Value.slice
  none
  0
  0,
  Value.int
  IntKind.i64
  n209]
  fun
  (w424 :
  World) =>
  ∃
  (o289
  :
  Option
  Addr),
  ∃
  (k600
  :
  Nat),
  ∃
  (k601
  :
  Nat),
  World.cell?
  w424
  (Addr.add
  (Addr.mk
  k594
  0
  none)
  1) =
  some
  (Value.slice
  o289
  k600
  k601) ∧
  ∃
  (x119
  :
  arrS
  (shs
  [(121,
  S1.one
  (Cs.int
  IntKind.i64))])
  (World →
  Prop)),
  ∃
  (x120
  :
  arrS
  (shs
  [(121,
  S1.one
  (Cs.int
  IntKind.i64))])
  (World →
  Nat)),
  x119
  0
  w424 ∧
  ∀
  (I56 :
  Nat →
  Value)
  (n210 :
  Int)
  (w425 :
  World),
  x119
  n210
  w425 →
  br
  (decide
  (n210 <
  (↑k600 :
  Int)))
  (idx
  o289
  k600
  n210
  1
  fun
  (a63 :
  Addr) =>
  ∃
  (n211
  :
  Int),
  World.cell?
  w425
  a63 =
  some
  (Value.int
  IntKind.i64
  n211) ∧
  ∀
  (w426 :
  World),
  drawn
  w425
  w426 →
  ∃
  (I57
  :
  World →
  Prop),
  I57
  w426 ∧
  ∃
  (o290
  :
  Option
  Addr),
  ∃
  (k602
  :
  Nat),
  ∃
  (k603
  :
  Nat),
  (∀
  (w427 :
  World),
  I57
  w427 →
  World.cell?
  w427
  (Addr.add
  (Addr.mk
  k599
  0
  none)
  1) =
  some
  (Value.slice
  o290
  k602
  k603)) ∧
  ∃
  (o291
  :
  Option
  Addr),
  ∃
  (k604
  :
  Nat),
  ∃
  (k605
  :
  Nat),
  (∀
  (w428 :
  World),
  I57
  w428 →
  World.cell?
  w428
  (Addr.mk
  k571
  0
  none) =
  some
  (Value.slice
  o291
  k604
  k605)) ∧
  idx
  o291
  k604
  n211
  1
  fun
  (a64 :
  Addr) =>
  ∃
  (n212
  :
  Int),
  (∀
  (w429 :
  World),
  I57
  w429 →
  World.cell?
  w429
  a64 =
  some
  (Value.int
  IntKind.i64
  n212)) ∧
  new
  w426
  (Obj.cells
  (Array.mk
  [Value.int
  IntKind.i64
  n212])
  3)
  fun
  (k606 :
  Nat)
  (w430 :
  World) =>
  I57
  w430 ∧
  RunS
  Proofs.Tryd.prog
  (Builtin.append_
  (Array.mk
  [24,
  24])
  24
  (Array.mk
  [Value.slice
  o290
  k602
  k603,
  Value.slice
  (some
  (Addr.mk
  k606
  0
  none))
  1
  1]))
  w430
  fun
  (v68 :
  Value)
  (w431 :
  World) =>
  ∃
  (o292
  :
  Option
  Addr),
  ∃
  (k607
  :
  Nat),
  ∃
  (k608
  :
  Nat),
  v68 =
  Value.slice
  o292
  k607
  k608 ∧
  I57
  w431 ∧
  st1
  w431
  (Addr.add
  (Addr.mk
  k599
  0
  none)
  1)
  (Value.slice
  o292
  k607
  k608)
  fun
  (w432 :
  World) =>
  inI
  (n210 +
  1) ∧
  x119
  (n210 +
  1)
  w432 ∧
  x120
  (n210 +
  1)
  w432 <
  x120
  n210
  w425)
  (∃
  (o293
  :
  Option
  Addr),
  ∃
  (k609
  :
  Nat),
  ∃
  (k610
  :
  Nat),
  World.cell?
  w425
  (Addr.add
  (Addr.mk
  k567
  0
  none)
  4) =
  some
  (Value.slice
  o293
  k609
  k610) ∧
  ∃
  (n213
  :
  Int),
  ∃
  (o294
  :
  Option
  Addr),
  ∃
  (k611
  :
  Nat),
  ∃
  (k612
  :
  Nat),
  ∃
  (n214
  :
  Int),
  V.rowAt
  w425
  (Addr.mk
  k599
  0
  none)
  0
  3 =
  some
  [Value.int
  IntKind.i64
  n213,
  Value.slice
  o294
  k611
  k612,
  Value.int
  IntKind.i64
  n214] ∧
  new
  w425
  (Obj.cells
  (Array.mk
  [Value.int
  IntKind.i64
  n213,
  Value.slice
  o294
  k611
  k612,
  Value.int
  IntKind.i64
  n214])
  51)
  fun
  (k613 :
  Nat)
  (w433 :
  World) =>
  RunS
  Proofs.Tryd.prog
  (Builtin.append_
  (Array.mk
  [25,
  25])
  25
  (Array.mk
  [Value.slice
  o293
  k609
  k610,
  Value.slice
  (some
  (Addr.mk
  k613
  0
  none))
  1
  1]))
  w433
  fun
  (v69 :
  Value)
  (w434 :
  World) =>
  ∃
  (o295
  :
  Option
  Addr),
  ∃
  (k614
  :
  Nat),
  ∃
  (k615
  :
  Nat),
  v69 =
  Value.slice
  o295
  k614
  k615 ∧
  st1
  w434
  (Addr.add
  (Addr.mk
  k567
  0
  none)
  4)
  (Value.slice
  o295
  k614
  k615)
  fun
  (w435 :
  World) =>
  inI
  (n202 +
  1) ∧
  x117
  (n202 +
  1)
  w435 ∧
  x118
  (n202 +
  1)
  w435 <
  x118
  n202
  w413))))
  (∃
  (o296
  :
  Option
  Addr),
  ∃
  (k616
  :
  Nat),
  ∃
  (k617
  :
  Nat),
  ∃
  (o297
  :
  Option
  Addr),
  ∃
  (k618
  :
  Nat),
  ∃
  (k619
  :
  Nat),
  ∃
  (o298
  :
  Option
  Addr),
  ∃
  (k620
  :
  Nat),
  ∃
  (k621
  :
  Nat),
  ∃
  (n215
  :
  Int),
  ∃
  (o299
  :
  Option
  Addr),
  ∃
  (k622
  :
  Nat),
  ∃
  (k623
  :
  Nat),
  V.rowAt
  w413
  (Addr.mk
  k567
  0
  none)
  0
  5 =
  some
  [Value.slice
  o296
  k616
  k617,
  Value.slice
  o297
  k618
  k619,
  Value.slice
  o298
  k620
  k621,
  Value.int
  IntKind.i64
  n215,
  Value.slice
  o299
  k622
  k623] ∧
  stR
  w413
  (Addr.mk
  k2
  0
  none)
  [Value.slice
  o296
  k616
  k617,
  Value.slice
  o297
  k618
  k619,
  Value.slice
  o298
  k620
  k621,
  Value.int
  IntKind.i64
  n215,
  Value.slice
  o299
  k622
  k623]
  fun
  (w436 :
  World) =>
  ∃
  (o300
  :
  Option
  Addr),
  ∃
  (k624
  :
  Nat),
  ∃
  (k625
  :
  Nat),
  ∃
  (o301
  :
  Option
  Addr),
  ∃
  (k626
  :
  Nat),
  ∃
  (k627
  :
  Nat),
  ∃
  (o302
  :
  Option
  Addr),
  ∃
  (k628
  :
  Nat),
  ∃
  (k629
  :
  Nat),
  ∃
  (n216
  :
  Int),
  ∃
  (o303
  :
  Option
  Addr),
  ∃
  (k630
  :
  Nat),
  ∃
  (k631
  :
  Nat),
  V.rowAt
  w436
  (Addr.mk
  k2
  0
  none)
  0
  5 =
  some
  [Value.slice
  o300
  k624
  k625,
  Value.slice
  o301
  k626
  k627,
  Value.slice
  o302
  k628
  k629,
  Value.int
  IntKind.i64
  n216,
  Value.slice
  o303
  k630
  k631] ∧
  ∀
  (w437 :
  World),
  hp
  w437 =
  hp
  w436 →
  R
  (Value.tuple
  (Array.mk
  [Value.agg
  (Array.mk
  [Value.slice
  o300
  k624
  k625,
  Value.slice
  o301
  k626
  k627,
  Value.slice
  o302
  k628
  k629,
  Value.int
  IntKind.i64
  n216,
  Value.slice
  o303
  k630
  k631]),
  Value.int
  IntKind.i64
  0]))
  w437)) ∧
  (∀
  (w438 :
  World),
  St
  w438
  (x110 ::
  x108 ::
  x111) →
  ∃
  (o304
  :
  Option
  Addr),
  ∃
  (k632
  :
  Nat),
  ∃
  (k633
  :
  Nat),
  ∃
  (o305
  :
  Option
  Addr),
  ∃
  (k634
  :
  Nat),
  ∃
  (k635
  :
  Nat),
  ∃
  (o306
  :
  Option
  Addr),
  ∃
  (k636
  :
  Nat),
  ∃
  (k637
  :
  Nat),
  ∃
  (n217
  :
  Int),
  ∃
  (o307
  :
  Option
  Addr),
  ∃
  (k638
  :
  Nat),
  ∃
  (k639
  :
  Nat),
  V.rowAt
  w438
  (Addr.mk
  k2
  0
  none)
  0
  5 =
  some
  [Value.slice
  o304
  k632
  k633,
  Value.slice
  o305
  k634
  k635,
  Value.slice
  o306
  k636
  k637,
  Value.int
  IntKind.i64
  n217,
  Value.slice
  o307
  k638
  k639] ∧
  ∀
  (w439 :
  World),
  hp
  w439 =
  hp
  w438 →
  R
  (Value.tuple
  (Array.mk
  [Value.agg
  (Array.mk
  [Value.slice
  o304
  k632
  k633,
  Value.slice
  o305
  k634
  k635,
  Value.slice
  o306
  k636
  k637,
  Value.int
  IntKind.i64
  n217,
  Value.slice
  o307
  k638
  k639]),
  Value.int
  IntKind.i64
  0]))
  w439) ∧
  True)) ∧
  new
  w334
  (Obj.cells
  (Array.mk
  [Value.slice
  none
  0
  0,
  Value.slice
  none
  0
  0,
  Value.slice
  none
  0
  0,
  Value.int
  IntKind.i64
  0,
  Value.slice
  none
  0
  0])
  27)
  fun
  (k640 :
  Nat)
  (w440 :
  World) =>
  I1
  w440 ∧
  RunE
  Proofs.Tryd.prog
  Ev
  65
  [Value.slice
  o25
  k45
  k46]
  w440
  fun
  (v70 :
  Value)
  (w441 :
  World) =>
  ∃
  (o308
  :
  Option
  Addr),
  ∃
  (k641
  :
  Nat),
  ∃
  (k642
  :
  Nat),
  v70 =
  Value.slice
  o308
  k641
  k642 ∧
  I1
  w441 ∧
  RunE
  Proofs.Tryd.prog
  Ev
  66
  [Value.slice
  o26
  k47
  k48]
  w441
  fun
  (v71 :
  Value)
  (w442 :
  World) =>
  ∃
  (o309
  :
  Option
  Addr),
  ∃
  (k643
  :
  Nat),
  ∃
  (k644
  :
  Nat),
  v71 =
  Value.slice
  o309
  k643
  k644 ∧
  I1
  w442 ∧
  stR
  w442
  (Addr.mk
  k640
  0
  none)
  [Value.slice
  o308
  k641
  k642,
  Value.slice
  (some
  (Addr.mk
  k491
  0
  none))
  1
  1,
  Value.slice
  o309
  k643
  k644,
  Value.int
  IntKind.i64
  0,
  Value.slice
  none
  0
  0]
  fun
  (w443 :
  World) =>
  ∃
  (o310
  :
  Option
  Addr),
  World.cell?
  w443
  (Addr.mk
  k44
  0
  none) =
  some
  (Value.pointer
  o310) ∧
  RunE
  Proofs.Tryd.prog
  Ev
  67
  [Value.pointer
  o310]
  w443
  fun
  (v72 :
  Value)
  (w444 :
  World) =>
  ∃
  (n218
  :
  Int),
  v72 =
  Value.int
  IntKind.i64
  n218 ∧
  mkOk
  n218
  n218
  8 ∧
  new
  w444
  (Obj.cells
  (Array.mk
  (reps
  (Int.toNat
  n218)
  [Value.int
  IntKind.i64
  0]))
  3)
  fun
  (k645 :
  Nat)
  (w445 :
  World) =>
  new
  w445
  (Obj.cells
  (Array.mk
  [Value.slice
  none
  0
  0])
  24)
  fun
  (k646 :
  Nat)
  (w446 :
  World) =>
  st1
  w446
  (Addr.mk
  k646
  0
  none)
  (Value.slice
  (some
  (Addr.mk
  k645
  0
  none))
  (Int.toNat
  n218)
  (Int.toNat
  n218))
  fun
  (w447 :
  World) =>
  ∃
  (o311
  :
  Option
  Addr),
  World.cell?
  w447
  (Addr.mk
  k44
  0
  none) =
  some
  (Value.pointer
  o311) ∧
  RunE
  Proofs.Tryd.prog
  Ev
  68
  [Value.pointer
  o311]
  w447
  fun
  (v73 :
  Value)
  (w448 :
  World) =>
  ∃
  (g9
  :
  FuncId),
  ∃
  (x121
  :
  List
  Value),
  v73 =
  Value.func
  (Fn.func
  g9)
  (Array.mk
  [])
  (Array.mk
  x121) ∧
  ifT
  (Proofs.YtaheggomcnbbiaaDoor.Fn
  g9)
  (∃
  (x122
  :
  List
  (List
  Value)),
  ∃
  (x123
  :
  Asn),
  ∃
  (x124
  :
  Asn),
  ∃
  (I58
  :
  Nat →
  Asn),
  ∃
  (x125
  :
  Asn),
  ∃
  (I59
  :
  Nat →
  Asn),
  ∃
  (x126
  :
  List
  Asn),
  St
  w448
  (I58
  0 ::
  x123 ::
  x126) ∧
  (∀
  (x127 :
  Hp),
  starL
  x126
  x127 →
  x124
  x127) ∧
  Itr
  Proofs.Tryd.prog
  g9
  []
  x121
  x123
  x124
  x122 ∧
  (∀
  (x128 :
  List
  Value),
  x128 ∈
  x122 →
  ∃
  (n219
  :
  Int),
  x128 =
  [Value.int
  IntKind.i64
  n219]) ∧
  (∀
  (k647 :
  Nat)
  (n220 :
  Int),
  List.get?Internal
  x122
  k647 =
  some
  [Value.int
  IntKind.i64
  n220] →
  ∀
  (x129 :
  List
  Asn)
  (w449 :
  World),
  Sup
  x129
  x126 →
  St
  w449
  (I58
  k647 ::
  x129) →
  ∃
  (x130
  :
  Asn),
  St
  w449
  (x130 ::
  x129) ∧
  ∀
  (x131 :
  List
  Asn)
  (w450 :
  World),
  Sup
  x131
  x126 →
  St
  w450
  (x130 ::
  x131) →
  ∃
  (o312
  :
  Option
  Addr),
  ∃
  (k648
  :
  Nat),
  ∃
  (k649
  :
  Nat),
  World.cell?
  w450
  (Addr.mk
  k646
  0
  none) =
  some
  (Value.slice
  o312
  k648
  k649) ∧
  idx
  o312
  k648
  n220
  1
  fun
  (a65 :
  Addr) =>
  st1
  w450
  a65
  (Value.int
  IntKind.i64
  n220)
  fun
  (w451 :
  World) =>
  ∃
  (n221
  :
  Int),
  World.cell?
  w451
  (Addr.add
  (Addr.mk
  k44
  0
  none)
  1) =
  some
  (Value.int
  IntKind.i64
  n221) ∧
  br
  (decide
  (n221 ≤
  n220))
  (∃
  (o313
  :
  Option
  Addr),
  ∃
  (k650
  :
  Nat),
  ∃
  (k651
  :
  Nat),
  World.cell?
  w451
  (Addr.mk
  k646
  0
  none) =
  some
  (Value.slice
  o313
  k650
  k651) ∧
  ∃
  (n222
  :
  Int),
  World.cell?
  w451
  (Addr.add
  (Addr.mk
  k44
  0
  none)
  1) =
  some
  (Value.int
  IntKind.i64
  n222) ∧
  ∃
  (o314
  :
  Option
  Addr),
  ∃
  (k652
  :
  Nat),
  ∃
  (k653
  :
  Nat),
  World.cell?
  w451
  (Addr.add
  (Addr.mk
  k640
  0
  none)
  1) =
  some
  (Value.slice
  o314
  k652
  k653) ∧
  inI
  (n222 +
  (↑k652 :
  Int)) ∧
  idx
  o313
  k650
  n220
  1
  fun
  (a66 :
  Addr) =>
  st1
  w451
  a66
  (Value.int
  IntKind.i64
  (n222 +
  (↑k652 :
  Int)))
  fun
  (w452 :
  World) =>
  ∀
  (w453 :
  World),
  drawn
  w452
  w453 →
  ∃
  (I60
  :
  World →
  Prop),
  I60
  w453 ∧
  ∃
  (o315
  :
  Option
  Addr),
  ∃
  (k654
  :
  Nat),
  ∃
  (k655
  :
  Nat),
  (∀
  (w454 :
  World),
  I60
  w454 →
  World.cell?
  w454
  (Addr.add
  (Addr.mk
  k640
  0
  none)
  1) =
  some
  (Value.slice
  o315
  k654
  k655)) ∧
  ∃
  (o316
  :
  Option
  Addr),
  ∃
  (k656
  :
  Nat),
  ∃
  (k657
  :
  Nat),
  (∀
  (w455 :
  World),
  I60
  w455 →
  World.cell?
  w455
  (Addr.add
  (Addr.mk
  k1
  0
  none)
  1) =
  some
  (Value.slice
  o316
  k656
  k657)) ∧
  ∃
  (n223
  :
  Int),
  (∀
  (w456 :
  World),
  I60
  w456 →
  World.cell?
  w456
  (Addr.add
  (Addr.mk
  k44
  0
  none)
  1) =
  some
  (Value.int
  IntKind.i64
  n223)) ∧
  inI
  (n220 -
  n223) ∧
  idx
  o316
  k656
  (n220 -
  n223)
  1
  fun
  (a67 :
  Addr) =>
  ∃
  (s9
  :
  ByteArray),
  (∀
  (w457 :
  World),
  I60
  w457 →
  World.cell?
  w457
  a67 =
  some
  (Value.string
  s9)) ∧
  new
  w453
  (Obj.cells
  (Array.mk
  [Value.string
  s9])
  9)
  fun
  (k658 :
  Nat)
  (w458 :
  World) =>
  I60
  w458 ∧
  RunS
  Proofs.Tryd.prog
  (Builtin.append_
  (Array.mk
  [23,
  23])
  23
  (Array.mk
  [Value.slice
  o315
  k654
  k655,
  Value.slice
  (some
  (Addr.mk
  k658
  0
  none))
  1
  1]))
  w458
  fun
  (v74 :
  Value)
  (w459 :
  World) =>
  ∃
  (o317
  :
  Option
  Addr),
  ∃
  (k659
  :
  Nat),
  ∃
  (k660
  :
  Nat),
  v74 =
  Value.slice
  o317
  k659
  k660 ∧
  I60
  w459 ∧
  st1
  w459
  (Addr.add
  (Addr.mk
  k640
  0
  none)
  1)
  (Value.slice
  o317
  k659
  k660)
  fun
  (w460 :
  World) =>
  St
  w460
  (I58
  (k647 +
  1) ::
  x131))
  (St
  w451
  (I58
  (k647 +
  1) ::
  x131))) ∧
  (∀
  (w461 :
  World),
  St
  w461
  (I58
  (List.length
  x122) ::
  x123 ::
  x126) →
  ∃
  (o318
  :
  Option
  Addr),
  ∃
  (k661
  :
  Nat),
  ∃
  (k662
  :
  Nat),
  World.cell?
  w461
  (Addr.mk
  k646
  0
  none) =
  some
  (Value.slice
  o318
  k661
  k662) ∧
  ∃
  (n224
  :
  Int),
  World.cell?
  w461
  (Addr.add
  (Addr.mk
  k1
  0
  none)
  3) =
  some
  (Value.int
  IntKind.i64
  n224) ∧
  idx
  o318
  k661
  n224
  1
  fun
  (a68 :
  Addr) =>
  ∃
  (n225
  :
  Int),
  World.cell?
  w461
  a68 =
  some
  (Value.int
  IntKind.i64
  n225) ∧
  st1
  w461
  (Addr.add
  (Addr.mk
  k640
  0
  none)
  3)
  (Value.int
  IntKind.i64
  n225)
  fun
  (w462 :
  World) =>
  ∃
  (n226
  :
  Int),
  World.cell?
  w462
  (Addr.add
  (Addr.mk
  k44
  0
  none)
  1) =
  some
  (Value.int
  IntKind.i64
  n226) ∧
  ∃
  (n227
  :
  Int),
  World.cell?
  w462
  (Addr.add
  (Addr.mk
  k640
  0
  none)
  3) =
  some
  (Value.int
  IntKind.i64
  n227) ∧
  new
  w462
  (Obj.cells
  (Array.mk
  [Value.int
  IntKind.i64
  n227])
  3)
  fun
  (k663 :
  Nat)
  (w463 :
  World) =>
  new
  w463
  (Obj.cells
  (Array.mk
  [Value.int
  IntKind.i64
  n226,
  Value.slice
  (some
  (Addr.mk
  k663
  0
  none))
  1
  1,
  Value.int
  IntKind.i64
  0])
  51)
  fun
  (k664 :
  Nat)
  (w464 :
  World) =>
  st1
  w464
  (Addr.add
  (Addr.mk
  k640
  0
  none)
  4)
  (Value.slice
  (some
  (Addr.mk
  k664
  0
  none))
  1
  1)
  fun
  (w465 :
  World) =>
  ∃
  (o319
  :
  Option
  Addr),
  ∃
  (k665
  :
  Nat),
  ∃
  (k666
  :
  Nat),
  World.cell?
  w465
  (Addr.add
  (Addr.mk
  k1
  0
  none)
  4) =
  some
  (Value.slice
  o319
  k665
  k666) ∧
  ∃
  (x132
  :
  arrS
  (shs
  [(93,
  S1.one
  (Cs.int
  IntKind.i64))])
  (World →
  Prop)),
  ∃
  (x133
  :
  arrS
  (shs
  [(93,
  S1.one
  (Cs.int
  IntKind.i64))])
  (World →
  Nat)),
  x132
  0
  w465 ∧
  ∀
  (I61 :
  Nat →
  Value)
  (n228 :
  Int)
  (w466 :
  World),
  x132
  n228
  w466 →
  br
  (decide
  (n228 <
  (↑k665 :
  Int)))
  (idx
  o319
  k665
  n228
  3
  fun
  (a69 :
  Addr) =>
  ∃
  (n229
  :
  Int),
  ∃
  (o320
  :
  Option
  Addr),
  ∃
  (k667
  :
  Nat),
  ∃
  (k668
  :
  Nat),
  ∃
  (n230
  :
  Int),
  V.rowAt
  w466
  a69
  0
  3 =
  some
  [Value.int
  IntKind.i64
  n229,
  Value.slice
  o320
  k667
  k668,
  Value.int
  IntKind.i64
  n230] ∧
  new
  w466
  (Obj.cells
  (Array.mk
  [Value.int
  IntKind.i64
  0,
  Value.slice
  none
  0
  0,
  Value.int
  IntKind.i64
  0])
  51)
  fun
  (k669 :
  Nat)
  (w467 :
  World) =>
  stR
  w467
  (Addr.mk
  k669
  0
  none)
  [Value.int
  IntKind.i64
  n229,
  Value.slice
  o320
  k667
  k668,
  Value.int
  IntKind.i64
  n230]
  fun
  (w468 :
  World) =>
  ∃
  (o321
  :
  Option
  Addr),
  World.cell?
  w468
  (Addr.mk
  k44
  0
  none) =
  some
  (Value.pointer
  o321) ∧
  ∃
  (n231
  :
  Int),
  World.cell?
  w468
  (Addr.mk
  k669
  0
  none) =
  some
  (Value.int
  IntKind.i64
  n231) ∧
  RunE
  Proofs.Tryd.prog
  Ev
  63
  [Value.pointer
  o321,
  Value.int
  IntKind.i64
  n231]
  w468
  fun
  (v75 :
  Value)
  (w469 :
  World) =>
  ∃
  (b19
  :
  Bool),
  v75 =
  Value.bool
  b19 ∧
  br
  (!b19)
  (inI
  (n228 +
  1) ∧
  x132
  (n228 +
  1)
  w469 ∧
  x133
  (n228 +
  1)
  w469 <
  x133
  n228
  w466)
  (∃
  (o322
  :
  Option
  Addr),
  ∃
  (n232
  :
  Int),
  V.rowAt
  w469
  (Addr.mk
  k27
  0
  none)
  0
  2 =
  some
  [Value.pointer
  o322,
  Value.int
  IntKind.i64
  n232] ∧
  ∃
  (o323
  :
  Option
  Addr),
  ∃
  (k670
  :
  Nat),
  ∃
  (k671
  :
  Nat),
  World.cell?
  w469
  (Addr.add
  (Addr.mk
  k669
  0
  none)
  1) =
  some
  (Value.slice
  o323
  k670
  k671) ∧
  RunE
  Proofs.Tryd.prog
  Ev
  69
  [Value.agg
  (Array.mk
  [Value.pointer
  o322,
  Value.int
  IntKind.i64
  n232]),
  Value.slice
  o323
  k670
  k671]
  w469
  fun
  (v76 :
  Value)
  (w470 :
  World) =>
  ∃
  (b20
  :
  Bool),
  v76 =
  Value.bool
  b20 ∧
  br
  (!b20)
  (inI
  (n228 +
  1) ∧
  x132
  (n228 +
  1)
  w470 ∧
  x133
  (n228 +
  1)
  w470 <
  x133
  n228
  w466)
  (∀
  (w471 :
  World),
  drawn
  w470
  w471 →
  ∃
  (I62
  :
  World →
  Prop),
  I62
  w471 ∧
  ∃
  (o324
  :
  Option
  Addr),
  ∃
  (k672
  :
  Nat),
  ∃
  (k673
  :
  Nat),
  (∀
  (w472 :
  World),
  I62
  w472 →
  World.cell?
  w472
  (Addr.mk
  k646
  0
  none) =
  some
  (Value.slice
  o324
  k672
  k673)) ∧
  ∃
  (n233
  :
  Int),
  (∀
  (w473 :
  World),
  I62
  w473 →
  World.cell?
  w473
  (Addr.mk
  k669
  0
  none) =
  some
  (Value.int
  IntKind.i64
  n233)) ∧
  idx
  o324
  k672
  n233
  1
  fun
  (a70 :
  Addr) =>
  ∃
  (n234
  :
  Int),
  (∀
  (w474 :
  World),
  I62
  w474 →
  World.cell?
  w474
  a70 =
  some
  (Value.int
  IntKind.i64
  n234)) ∧
  ∃
  (n235
  :
  Int),
  (∀
  (w475 :
  World),
  I62
  w475 →
  World.cell?
  w475
  (Addr.add
  (Addr.mk
  k669
  0
  none)
  2) =
  some
  (Value.int
  IntKind.i64
  n235)) ∧
  new
  w471
  (Obj.cells
  (Array.mk
  [Value.int
  IntKind.i64
  0,
  Value.slice
  none
  0
  0,
  Value.int
  IntKind.i64
  0])
  51)
  fun
  (k674 :
  Nat)
  (w476 :
  World) =>
  I62
  w476 ∧
  stR
  w476
  (Addr.mk
  k674
  0
  none)
  [Value.int
  IntKind.i64
  n234,
  Value.slice
  none
  0
  0,
  Value.int
  IntKind.i64
  n235]
  fun
  (w477 :
  World) =>
  ∃
  (o325
  :
  Option
  Addr),
  ∃
  (k675
  :
  Nat),
  ∃
  (k676
  :
  Nat),
  World.cell?
  w477
  (Addr.add
  (Addr.mk
  k669
  0
  none)
  1) =
  some
  (Value.slice
  o325
  k675
  k676) ∧
  ∃
  (x134
  :
  arrS
  (shs
  [(121,
  S1.one
  (Cs.int
  IntKind.i64))])
  (World →
  Prop)),
  ∃
  (x135
  :
  arrS
  (shs
  [(121,
  S1.one
  (Cs.int
  IntKind.i64))])
  (World →
  Nat)),
  x134
  0
  w477 ∧
  ∀
  (I63 :
  Nat →
  Value)
  (n236 :
  Int)
  (w478 :
  World),
  x134
  n236
  w478 →
  br
  (decide
  (n236 <
  (↑k675 :
  Int)))
  (idx
  o325
  k675
  n236
  1
  fun
  (a71 :
  Addr) =>
  ∃
  (n237
  :
  Int),
  World.cell?
  w478
  a71 =
  some
  (Value.int
  IntKind.i64
  n237) ∧
  ∀
  (w479 :
  World),
  drawn
  w478
  w479 →
  ∃
  (I64
  :
  World →
  Prop),
  I64
  w479 ∧
  ∃
  (o326
  :
  Option
  Addr),
  ∃
  (k677
  :
  Nat),
  ∃
  (k678
  :
  Nat),
  (∀
  (w480 :
  World),
  I64
  w480 →
  World.cell?
  w480
  (Addr.add
  (Addr.mk
  k674
  0
  none)
  1) =
  some
  (Value.slice
  o326
  k677
  k678)) ∧
  ∃
  (o327
  :
  Option
  Addr),
  ∃
  (k679
  :
  Nat),
  ∃
  (k680
  :
  Nat),
  (∀
  (w481 :
  World),
  I64
  w481 →
  World.cell?
  w481
  (Addr.mk
  k646
  0
  none) =
  some
  (Value.slice
  o327
  k679
  k680)) ∧
  idx
  o327
  k679
  n237
  1
  fun
  (a72 :
  Addr) =>
  ∃
  (n238
  :
  Int),
  (∀
  (w482 :
  World),
  I64
  w482 →
  World.cell?
  w482
  a72 =
  some
  (Value.int
  IntKind.i64
  n238)) ∧
  new
  w479
  (Obj.cells
  (Array.mk
  [Value.int
  IntKind.i64
  n238])
  3)
  fun
  (k681 :
  Nat)
  (w483 :
  World) =>
  I64
  w483 ∧
  RunS
  Proofs.Tryd.prog
  (Builtin.append_
  (Array.mk
  [24,
  24])
  24
  (Array.mk
  [Value.slice
  o326
  k677
  k678,
  Value.slice
  (some
  (Addr.mk
  k681
  0
  none))
  1
  1]))
  w483
  fun
  (v77 :
  Value)
  (w484 :
  World) =>
  ∃
  (o328
  :
  Option
  Addr),
  ∃
  (k682
  :
  Nat),
  ∃
  (k683
  :
  Nat),
  v77 =
  Value.slice
  o328
  k682
  k683 ∧
  I64
  w484 ∧
  st1
  w484
  (Addr.add
  (Addr.mk
  k674
  0
  none)
  1)
  (Value.slice
  o328
  k682
  k683)
  fun
  (w485 :
  World) =>
  inI
  (n236 +
  1) ∧
  x134
  (n236 +
  1)
  w485 ∧
  x135
  (n236 +
  1)
  w485 <
  x135
  n236
  w478)
  (∃
  (o329
  :
  Option
  Addr),
  ∃
  (k684
  :
  Nat),
  ∃
  (k685
  :
  Nat),
  World.cell?
  w478
  (Addr.add
  (Addr.mk
  k640
  0
  none)
  4) =
  some
  (Value.slice
  o329
  k684
  k685) ∧
  ∃
  (n239
  :
  Int),
  ∃
  (o330
  :
  Option
  Addr),
  ∃
  (k686
  :
  Nat),
  ∃
  (k687
  :
  Nat),
  ∃
  (n240
  :
  Int),
  V.rowAt
  w478
  (Addr.mk
  k674
  0
  none)
  0
  3 =
  some
  [Value.int
  IntKind.i64
  n239,
  Value.slice
  o330
  k686
  k687,
  Value.int
  IntKind.i64
  n240] ∧
  new
  w478
  (Obj.cells
  (Array.mk
  [Value.int
  IntKind.i64
  n239,
  Value.slice
  o330
  k686
  k687,
  Value.int
  IntKind.i64
  n240])
  51)
  fun
  (k688 :
  Nat)
  (w486 :
  World) =>
  RunS
  Proofs.Tryd.prog
  (Builtin.append_
  (Array.mk
  [25,
  25])
  25
  (Array.mk
  [Value.slice
  o329
  k684
  k685,
  Value.slice
  (some
  (Addr.mk
  k688
  0
  none))
  1
  1]))
  w486
  fun
  (v78 :
  Value)
  (w487 :
  World) =>
  ∃
  (o331
  :
  Option
  Addr),
  ∃
  (k689
  :
  Nat),
  ∃
  (k690
  :
  Nat),
  v78 =
  Value.slice
  o331
  k689
  k690 ∧
  st1
  w487
  (Addr.add
  (Addr.mk
  k640
  0
  none)
  4)
  (Value.slice
  o331
  k689
  k690)
  fun
  (w488 :
  World) =>
  inI
  (n228 +
  1) ∧
  x132
  (n228 +
  1)
  w488 ∧
  x133
  (n228 +
  1)
  w488 <
  x133
  n228
  w466))))
  (∃
  (o332
  :
  Option
  Addr),
  ∃
  (k691
  :
  Nat),
  ∃
  (k692
  :
  Nat),
  ∃
  (o333
  :
  Option
  Addr),
  ∃
  (k693
  :
  Nat),
  ∃
  (k694
  :
  Nat),
  ∃
  (o334
  :
  Option
  Addr),
  ∃
  (k695
  :
  Nat),
  ∃
  (k696
  :
  Nat),
  ∃
  (n241
  :
  Int),
  ∃
  (o335
  :
  Option
  Addr),
  ∃
  (k697
  :
  Nat),
  ∃
  (k698
  :
  Nat),
  V.rowAt
  w466
  (Addr.mk
  k640
  0
  none)
  0
  5 =
  some
  [Value.slice
  o332
  k691
  k692,
  Value.slice
  o333
  k693
  k694,
  Value.slice
  o334
  k695
  k696,
  Value.int
  IntKind.i64
  n241,
  Value.slice
  o335
  k697
  k698] ∧
  stR
  w466
  (Addr.mk
  k2
  0
  none)
  [Value.slice
  o332
  k691
  k692,
  Value.slice
  o333
  k693
  k694,
  Value.slice
  o334
  k695
  k696,
  Value.int
  IntKind.i64
  n241,
  Value.slice
  o335
  k697
  k698]
  fun
  (w489 :
  World) =>
  ∃
  (o336
  :
  Option
  Addr),
  ∃
  (k699
  :
  Nat),
  ∃
  (k700
  :
  Nat),
  ∃
  (o337
  :
  Option
  Addr),
  ∃
  (k701
  :
  Nat),
  ∃
  (k702
  :
  Nat),
  ∃
  (o338
  :
  Option
  Addr),
  ∃
  (k703
  :
  Nat),
  ∃
  (k704
  :
  Nat),
  ∃
  (n242
  :
  Int),
  ∃
  (o339
  :
  Option
  Addr),
  ∃
  (k705
  :
  Nat),
  ∃
  (k706
  :
  Nat),
  V.rowAt
  w489
  (Addr.mk
  k2
  0
  none)
  0
  5 =
  some
  [Value.slice
  o336
  k699
  k700,
  Value.slice
  o337
  k701
  k702,
  Value.slice
  o338
  k703
  k704,
  Value.int
  IntKind.i64
  n242,
  Value.slice
  o339
  k705
  k706] ∧
  ∀
  (w490 :
  World),
  hp
  w490 =
  hp
  w489 →
  R
  (Value.tuple
  (Array.mk
  [Value.agg
  (Array.mk
  [Value.slice
  o336
  k699
  k700,
  Value.slice
  o337
  k701
  k702,
  Value.slice
  o338
  k703
  k704,
  Value.int
  IntKind.i64
  n242,
  Value.slice
  o339
  k705
  k706]),
  Value.int
  IntKind.i64
  0]))
  w490)) ∧
  (∀
  (w491 :
  World),
  St
  w491
  (x125 ::
  x123 ::
  x126) →
  ∃
  (o340
  :
  Option
  Addr),
  ∃
  (k707
  :
  Nat),
  ∃
  (k708
  :
  Nat),
  ∃
  (o341
  :
  Option
  Addr),
  ∃
  (k709
  :
  Nat),
  ∃
  (k710
  :
  Nat),
  ∃
  (o342
  :
  Option
  Addr),
  ∃
  (k711
  :
  Nat),
  ∃
  (k712
  :
  Nat),
  ∃
  (n243
  :
  Int),
  ∃
  (o343
  :
  Option
  Addr),
  ∃
  (k713
  :
  Nat),
  ∃
  (k714
  :
  Nat),
  V.rowAt
  w491
  (Addr.mk
  k2
  0
  none)
  0
  5 =
  some
  [Value.slice
  o340
  k707
  k708,
  Value.slice
  o341
  k709
  k710,
  Value.slice
  o342
  k711
  k712,
  Value.int
  IntKind.i64
  n243,
  Value.slice
  o343
  k713
  k714] ∧
  ∀
  (w492 :
  World),
  hp
  w492 =
  hp
  w491 →
  R
  (Value.tuple
  (Array.mk
  [Value.agg
  (Array.mk
  [Value.slice
  o340
  k707
  k708,
  Value.slice
  o341
  k709
  k710,
  Value.slice
  o342
  k711
  k712,
  Value.int
  IntKind.i64
  n243,
  Value.slice
  o343
  k713
  k714]),
  Value.int
  IntKind.i64
  0]))
  w492) ∧
  True)) ∧
  new w15
  (Obj.cells
  (Array.mk
  [Value.slice
  none
  0
  0,
  Value.slice
  none
  0
  0,
  Value.slice
  none
  0
  0,
  Value.int
  IntKind.i64
  0,
  Value.slice
  none
  0
  0])
  27)
  fun
  (k715 :
  Nat)
  (w493 :
  World) =>
  I1
  w493 ∧
  (RunE
  Proofs.Tryd.prog
  Ev
  65
  [Value.slice
  o25
  k45
  k46]
  w493
  fun
  (v79 :
  Value)
  (w494 :
  World) =>
  ∃
  (o344
  :
  Option
  Addr),
  ∃
  (k716
  :
  Nat),
  ∃
  (k717
  :
  Nat),
  v79 =
  Value.slice
  o344
  k716
  k717 ∧
  I1
  w494 ∧
  (RunE
  Proofs.Tryd.prog
  Ev
  66
  [Value.slice
  o26
  k47
  k48]
  w494
  fun
  (v80 :
  Value)
  (w495 :
  World) =>
  ∃
  (o345
  :
  Option
  Addr),
  ∃
  (k718
  :
  Nat),
  ∃
  (k719
  :
  Nat),
  v80 =
  Value.slice
  o345
  k718
  k719 ∧
  I1
  w495 ∧
  new
  w495
  (Obj.cells
  (Array.mk
  [Value.string
  (ByteArray.mk
  (Array.mk
  []))])
  9)
  fun
  (k720 :
  Nat)
  (w496 :
  World) =>
  I1
  w496 ∧
  stR
  w496
  (Addr.mk
  k715
  0
  none)
  [Value.slice
  o344
  k716
  k717,
  Value.slice
  (some
  (Addr.mk
  k720
  0
  none))
  1
  1,
  Value.slice
  o345
  k718
  k719,
  Value.int
  IntKind.i64
  0,
  Value.slice
  none
  0
  0]
  fun
  (w497 :
  World) =>
  ∃
  (o346
  :
  Option
  Addr),
  World.cell?
  w497
  (Addr.mk
  k44
  0
  none) =
  some
  (Value.pointer
  o346) ∧
  RunE
  Proofs.Tryd.prog
  Ev
  67
  [Value.pointer
  o346]
  w497
  fun
  (v81 :
  Value)
  (w498 :
  World) =>
  ∃
  (n244
  :
  Int),
  v81 =
  Value.int
  IntKind.i64
  n244 ∧
  mkOk
  n244
  n244
  8 ∧
  new
  w498
  (Obj.cells
  (Array.mk
  (reps
  (Int.toNat
  n244)
  [Value.int
  IntKind.i64
  0]))
  3)
  fun
  (k721 :
  Nat)
  (w499 :
  World) =>
  new
  w499
  (Obj.cells
  (Array.mk
  [Value.slice
  none
  0
  0])
  24)
  fun
  (k722 :
  Nat)
  (w500 :
  World) =>
  st1
  w500
  (Addr.mk
  k722
  0
  none)
  (Value.slice
  (some
  (Addr.mk
  k721
  0
  none))
  (Int.toNat
  n244)
  (Int.toNat
  n244))
  fun
  (w501 :
  World) =>
  ∃
  (o347
  :
  Option
  Addr),
  World.cell?
  w501
  (Addr.mk
  k44
  0
  none) =
  some
  (Value.pointer
  o347) ∧
  RunE
  Proofs.Tryd.prog
  Ev
  68
  [Value.pointer
  o347]
  w501
  fun
  (v82 :
  Value)
  (w502 :
  World) =>
  ∃
  (g10
  :
  FuncId),
  ∃
  (x136
  :
  List
  Value),
  v82 =
  Value.func
  (Fn.func
  g10)
  (Array.mk
  [])
  (Array.mk
  x136) ∧
  ifT
  (Proofs.YtaheggomcnbbiaaDoor.Fn
  g10)
  (∃
  (x137
  :
  List
  (List
  Value)),
  ∃
  (x138
  :
  Asn),
  ∃
  (x139
  :
  Asn),
  ∃
  (I65
  :
  Nat →
  Asn),
  ∃
  (x140
  :
  Asn),
  ∃
  (I66
  :
  Nat →
  Asn),
  ∃
  (x141
  :
  List
  Asn),
  St
  w502
  (I65
  0 ::
  x138 ::
  x141) ∧
  (∀
  (x142 :
  Hp),
  starL
  x141
  x142 →
  x139
  x142) ∧
  Itr
  Proofs.Tryd.prog
  g10
  []
  x136
  x138
  x139
  x137 ∧
  (∀
  (x143 :
  List
  Value),
  x143 ∈
  x137 →
  ∃
  (n245
  :
  Int),
  x143 =
  [Value.int
  IntKind.i64
  n245]) ∧
  (∀
  (k723 :
  Nat)
  (n246 :
  Int),
  List.get?Internal
  x137
  k723 =
  some
  [Value.int
  IntKind.i64
  n246] →
  ∀
  (x144 :
  List
  Asn)
  (w503 :
  World),
  Sup
  x144
  x141 →
  St
  w503
  (I65
  k723 ::
  x144) →
  ∃
  (x145
  :
  Asn),
  St
  w503
  (x145 ::
  x144) ∧
  ∀
  (x146 :
  List
  Asn)
  (w504 :
  World),
  Sup
  x146
  x141 →
  St
  w504
  (x145 ::
  x146) →
  ∃
  (o348
  :
  Option
  Addr),
  ∃
  (k724
  :
  Nat),
  ∃
  (k725
  :
  Nat),
  World.cell?
  w504
  (Addr.mk
  k722
  0
  none) =
  some
  (Value.slice
  o348
  k724
  k725) ∧
  idx
  o348
  k724
  n246
  1
  fun
  (a73 :
  Addr) =>
  st1
  w504
  a73
  (Value.int
  IntKind.i64
  n246)
  fun
  (w505 :
  World) =>
  ∃
  (n247
  :
  Int),
  World.cell?
  w505
  (Addr.add
  (Addr.mk
  k44
  0
  none)
  1) =
  some
  (Value.int
  IntKind.i64
  n247) ∧
  br
  (decide
  (n247 ≤
  n246))
  (∃
  (o349
  :
  Option
  Addr),
  ∃
  (k726
  :
  Nat),
  ∃
  (k727
  :
  Nat),
  World.cell?
  w505
  (Addr.mk
  k722
  0
  none) =
  some
  (Value.slice
  o349
  k726
  k727) ∧
  ∃
  (n248
  :
  Int),
  World.cell?
  w505
  (Addr.add
  (Addr.mk
  k44
  0
  none)
  1) =
  some
  (Value.int
  IntKind.i64
  n248) ∧
  ∃
  (o350
  :
  Option
  Addr),
  ∃
  (k728
  :
  Nat),
  ∃
  (k729
  :
  Nat),
  World.cell?
  w505
  (Addr.add
  (Addr.mk
  k715
  0
  none)
  1) =
  some
  (Value.slice
  o350
  k728
  k729) ∧
  inI
  (n248 +
  (↑k728 :
  Int)) ∧
  idx
  o349
  k726
  n246
  1
  fun
  (a74 :
  Addr) =>
  st1
  w505
  a74
  (Value.int
  IntKind.i64
  (n248 +
  (↑k728 :
  Int)))
  fun
  (w506 :
  World) =>
  ∀
  (w507 :
  World),
  drawn
  w506
  w507 →
  ∃
  (I67
  :
  World →
  Prop),
  I67
  w507 ∧
  ∃
  (o351
  :
  Option
  Addr),
  ∃
  (k730
  :
  Nat),
  ∃
  (k731
  :
  Nat),
  (∀
  (w508 :
  World),
  I67
  w508 →
  World.cell?
  w508
  (Addr.add
  (Addr.mk
  k715
  0
  none)
  1) =
  some
  (Value.slice
  o351
  k730
  k731)) ∧
  ∃
  (o352
  :
  Option
  Addr),
  ∃
  (k732
  :
  Nat),
  ∃
  (k733
  :
  Nat),
  (∀
  (w509 :
  World),
  I67
  w509 →
  World.cell?
  w509
  (Addr.add
  (Addr.mk
  k1
  0
  none)
  1) =
  some
  (Value.slice
  o352
  k732
  k733)) ∧
  ∃
  (n249
  :
  Int),
  (∀
  (w510 :
  World),
  I67
  w510 →
  World.cell?
  w510
  (Addr.add
  (Addr.mk
  k44
  0
  none)
  1) =
  some
  (Value.int
  IntKind.i64
  n249)) ∧
  inI
  (n246 -
  n249) ∧
  idx
  o352
  k732
  (n246 -
  n249)
  1
  fun
  (a75 :
  Addr) =>
  ∃
  (s10
  :
  ByteArray),
  (∀
  (w511 :
  World),
  I67
  w511 →
  World.cell?
  w511
  a75 =
  some
  (Value.string
  s10)) ∧
  new
  w507
  (Obj.cells
  (Array.mk
  [Value.string
  s10])
  9)
  fun
  (k734 :
  Nat)
  (w512 :
  World) =>
  I67
  w512 ∧
  RunS
  Proofs.Tryd.prog
  (Builtin.append_
  (Array.mk
  [23,
  23])
  23
  (Array.mk
  [Value.slice
  o351
  k730
  k731,
  Value.slice
  (some
  (Addr.mk
  k734
  0
  none))
  1
  1]))
  w512
  fun
  (v83 :
  Value)
  (w513 :
  World) =>
  ∃
  (o353
  :
  Option
  Addr),
  ∃
  (k735
  :
  Nat),
  ∃
  (k736
  :
  Nat),
  v83 =
  Value.slice
  o353
  k735
  k736 ∧
  I67
  w513 ∧
  st1
  w513
  (Addr.add
  (Addr.mk
  k715
  0
  none)
  1)
  (Value.slice
  o353
  k735
  k736)
  fun
  (w514 :
  World) =>
  St
  w514
  (I65
  (k723 +
  1) ::
  x146))
  (St
  w505
  (I65
  (k723 +
  1) ::
  x146))) ∧
  (∀
  (w515 :
  World),
  St
  w515
  (I65
  (List.length
  x137) ::
  x138 ::
  x141) →
  ∃
  (o354
  :
  Option
  Addr),
  ∃
  (k737
  :
  Nat),
  ∃
  (k738
  :
  Nat),
  World.cell?
  w515
  (Addr.mk
  k722
  0
  none) =
  some
  (Value.slice
  o354
  k737
  k738) ∧
  ∃
  (n250
  :
  Int),
  World.cell?
  w515
  (Addr.add
  (Addr.mk
  k1
  0
  none)
  3) =
  some
  (Value.int
  IntKind.i64
  n250) ∧
  idx
  o354
  k737
  n250
  1
  fun
  (a76 :
  Addr) =>
  ∃
  (n251
  :
  Int),
  World.cell?
  w515
  a76 =
  some
  (Value.int
  IntKind.i64
  n251) ∧
  st1
  w515
  (Addr.add
  (Addr.mk
  k715
  0
  none)
  3)
  (Value.int
  IntKind.i64
  n251)
  fun
  (w516 :
  World) =>
  ∃
  (n252
  :
  Int),
  World.cell?
  w516
  (Addr.add
  (Addr.mk
  k44
  0
  none)
  1) =
  some
  (Value.int
  IntKind.i64
  n252) ∧
  ∃
  (n253
  :
  Int),
  World.cell?
  w516
  (Addr.add
  (Addr.mk
  k715
  0
  none)
  3) =
  some
  (Value.int
  IntKind.i64
  n253) ∧
  new
  w516
  (Obj.cells
  (Array.mk
  [Value.int
  IntKind.i64
  n253])
  3)
  fun
  (k739 :
  Nat)
  (w517 :
  World) =>
  new
  w517
  (Obj.cells
  (Array.mk
  [Value.int
  IntKind.i64
  n252,
  Value.slice
  (some
  (Addr.mk
  k739
  0
  none))
  1
  1,
  Value.int
  IntKind.i64
  0])
  51)
  fun
  (k740 :
  Nat)
  (w518 :
  World) =>
  st1
  w518
  (Addr.add
  (Addr.mk
  k715
  0
  none)
  4)
  (Value.slice
  (some
  (Addr.mk
  k740
  0
  none))
  1
  1)
  fun
  (w519 :
  World) =>
  ∃
  (o355
  :
  Option
  Addr),
  ∃
  (k741
  :
  Nat),
  ∃
  (k742
  :
  Nat),
  World.cell?
  w519
  (Addr.add
  (Addr.mk
  k1
  0
  none)
  4) =
  some
  (Value.slice
  o355
  k741
  k742) ∧
  ∃
  (x147
  :
  arrS
  (shs
  [(93,
  S1.one
  (Cs.int
  IntKind.i64))])
  (World →
  Prop)),
  ∃
  (x148
  :
  arrS
  (shs
  [(93,
  S1.one
  (Cs.int
  IntKind.i64))])
  (World →
  Nat)),
  x147
  0
  w519 ∧
  ∀
  (I68 :
  Nat →
  Value)
  (n254 :
  Int)
  (w520 :
  World),
  x147
  n254
  w520 →
  br
  (decide
  (n254 <
  (↑k741 :
  Int)))
  (idx
  o355
  k741
  n254
  3
  fun
  (a77 :
  Addr) =>
  ∃
  (n255
  :
  Int),
  ∃
  (o356
  :
  Option
  Addr),
  ∃
  (k743
  :
  Nat),
  ∃
  (k744
  :
  Nat),
  ∃
  (n256
  :
  Int),
  V.rowAt
  w520
  a77
  0
  3 =
  some
  [Value.int
  IntKind.i64
  n255,
  Value.slice
  o356
  k743
  k744,
  Value.int
  IntKind.i64
  n256] ∧
  new
  w520
  (Obj.cells
  (Array.mk
  [Value.int
  IntKind.i64
  0,
  Value.slice
  none
  0
  0,
  Value.int
  IntKind.i64
  0])
  51)
  fun
  (k745 :
  Nat)
  (w521 :
  World) =>
  stR
  w521
  (Addr.mk
  k745
  0
  none)
  [Value.int
  IntKind.i64
  n255,
  Value.slice
  o356
  k743
  k744,
  Value.int
  IntKind.i64
  n256]
  fun
  (w522 :
  World) =>
  ∃
  (o357
  :
  Option
  Addr),
  World.cell?
  w522
  (Addr.mk
  k44
  0
  none) =
  some
  (Value.pointer
  o357) ∧
  ∃
  (n257
  :
  Int),
  World.cell?
  w522
  (Addr.mk
  k745
  0
  none) =
  some
  (Value.int
  IntKind.i64
  n257) ∧
  RunE
  Proofs.Tryd.prog
  Ev
  63
  [Value.pointer
  o357,
  Value.int
  IntKind.i64
  n257]
  w522
  fun
  (v84 :
  Value)
  (w523 :
  World) =>
  ∃
  (b21
  :
  Bool),
  v84 =
  Value.bool
  b21 ∧
  br
  (!b21)
  (inI
  (n254 +
  1) ∧
  x147
  (n254 +
  1)
  w523 ∧
  x148
  (n254 +
  1)
  w523 <
  x148
  n254
  w520)
  (∃
  (o358
  :
  Option
  Addr),
  ∃
  (n258
  :
  Int),
  V.rowAt
  w523
  (Addr.mk
  k27
  0
  none)
  0
  2 =
  some
  [Value.pointer
  o358,
  Value.int
  IntKind.i64
  n258] ∧
  ∃
  (o359
  :
  Option
  Addr),
  ∃
  (k746
  :
  Nat),
  ∃
  (k747
  :
  Nat),
  World.cell?
  w523
  (Addr.add
  (Addr.mk
  k745
  0
  none)
  1) =
  some
  (Value.slice
  o359
  k746
  k747) ∧
  RunE
  Proofs.Tryd.prog
  Ev
  69
  [Value.agg
  (Array.mk
  [Value.pointer
  o358,
  Value.int
  IntKind.i64
  n258]),
  Value.slice
  o359
  k746
  k747]
  w523
  fun
  (v85 :
  Value)
  (w524 :
  World) =>
  ∃
  (b22
  :
  Bool),
  v85 =
  Value.bool
  b22 ∧
  br
  (!b22)
  (inI
  (n254 +
  1) ∧
  x147
  (n254 +
  1)
  w524 ∧
  x148
  (n254 +
  1)
  w524 <
  x148
  n254
  w520)
  (∀
  (w525 :
  World),
  drawn
  w524
  w525 →
  ∃
  (I69
  :
  World →
  Prop),
  I69
  w525 ∧
  ∃
  (o360
  :
  Option
  Addr),
  ∃
  (k748
  :
  Nat),
  ∃
  (k749
  :
  Nat),
  (∀
  (w526 :
  World),
  I69
  w526 →
  World.cell?
  w526
  (Addr.mk
  k722
  0
  none) =
  some
  (Value.slice
  o360
  k748
  k749)) ∧
  ∃
  (n259
  :
  Int),
  (∀
  (w527 :
  World),
  I69
  w527 →
  World.cell?
  w527
  (Addr.mk
  k745
  0
  none) =
  some
  (Value.int
  IntKind.i64
  n259)) ∧
  idx
  o360
  k748
  n259
  1
  fun
  (a78 :
  Addr) =>
  ∃
  (n260
  :
  Int),
  (∀
  (w528 :
  World),
  I69
  w528 →
  World.cell?
  w528
  a78 =
  some
  (Value.int
  IntKind.i64
  n260)) ∧
  ∃
  (n261
  :
  Int),
  (∀
  (w529 :
  World),
  I69
  w529 →
  World.cell?
  w529
  (Addr.add
  (Addr.mk
  k745
  0
  none)
  2) =
  some
  (Value.int
  IntKind.i64
  n261)) ∧
  new
  w525
  (Obj.cells
  (Array.mk
  [Value.int
  IntKind.i64
  0,
  Value.slice
  none
  0
  0,
  Value.int
  IntKind.i64
  0])
  51)
  fun
  (k750 :
  Nat)
  (w530 :
  World) =>
  I69
  w530 ∧
  stR
  w530
  (Addr.mk
  k750
  0
  none)
  [Value.int
  IntKind.i64
  n260,
  Value.slice
  none
  0
  0,
  Value.int
  IntKind.i64
  n261]
  fun
  (w531 :
  World) =>
  ∃
  (o361
  :
  Option
  Addr),
  ∃
  (k751
  :
  Nat),
  ∃
  (k752
  :
  Nat),
  World.cell?
  w531
  (Addr.add
  (Addr.mk
  k745
  0
  none)
  1) =
  some
  (Value.slice
  o361
  k751
  k752) ∧
  ∃
  (x149
  :
  arrS
  (shs
  [(121,
  S1.one
  (Cs.int
  IntKind.i64))])
  (World →
  Prop)),
  ∃
  (x150
  :
  arrS
  (shs
  [(121,
  S1.one
  (Cs.int
  IntKind.i64))])
  (World →
  Nat)),
  x149
  0
  w531 ∧
  ∀
  (I70 :
  Nat →
  Value)
  (n262 :
  Int)
  (w532 :
  World),
  x149
  n262
  w532 →
  br
  (decide
  (n262 <
  (↑k751 :
  Int)))
  (idx
  o361
  k751
  n262
  1
  fun
  (a79 :
  Addr) =>
  ∃
  (n263
  :
  Int),
  World.cell?
  w532
  a79 =
  some
  (Value.int
  IntKind.i64
  n263) ∧
  ∀
  (w533 :
  World),
  drawn
  w532
  w533 →
  ∃
  (I71
  :
  World →
  Prop),
  I71
  w533 ∧
  ∃
  (o362
  :
  Option
  Addr),
  ∃
  (k753
  :
  Nat),
  ∃
  (k754
  :
  Nat),
  (∀
  (w534 :
  World),
  I71
  w534 →
  World.cell?
  w534
  (Addr.add
  (Addr.mk
  k750
  0
  none)
  1) =
  some
  (Value.slice
  o362
  k753
  k754)) ∧
  ∃
  (o363
  :
  Option
  Addr),
  ∃
  (k755
  :
  Nat),
  ∃
  (k756
  :
  Nat),
  (∀
  (w535 :
  World),
  I71
  w535 →
  World.cell?
  w535
  (Addr.mk
  k722
  0
  none) =
  some
  (Value.slice
  o363
  k755
  k756)) ∧
  idx
  o363
  k755
  n263
  1
  fun
  (a80 :
  Addr) =>
  ∃
  (n264
  :
  Int),
  (∀
  (w536 :
  World),
  I71
  w536 →
  World.cell?
  w536
  a80 =
  some
  (Value.int
  IntKind.i64
  n264)) ∧
  new
  w533
  (Obj.cells
  (Array.mk
  [Value.int
  IntKind.i64
  n264])
  3)
  fun
  (k757 :
  Nat)
  (w537 :
  World) =>
  I71
  w537 ∧
  RunS
  Proofs.Tryd.prog
  (Builtin.append_
  (Array.mk
  [24,
  24])
  24
  (Array.mk
  [Value.slice
  o362
  k753
  k754,
  Value.slice
  (some
  (Addr.mk
  k757
  0
  none))
  1
  1]))
  w537
  fun
  (v86 :
  Value)
  (w538 :
  World) =>
  ∃
  (o364
  :
  Option
  Addr),
  ∃
  (k758
  :
  Nat),
  ∃
  (k759
  :
  Nat),
  v86 =
  Value.slice
  o364
  k758
  k759 ∧
  I71
  w538 ∧
  st1
  w538
  (Addr.add
  (Addr.mk
  k750
  0
  none)
  1)
  (Value.slice
  o364
  k758
  k759)
  fun
  (w539 :
  World) =>
  inI
  (n262 +
  1) ∧
  x149
  (n262 +
  1)
  w539 ∧
  x150
  (n262 +
  1)
  w539 <
  x150
  n262
  w532)
  (∃
  (o365
  :
  Option
  Addr),
  ∃
  (k760
  :
  Nat),
  ∃
  (k761
  :
  Nat),
  World.cell?
  w532
  (Addr.add
  (Addr.mk
  k715
  0
  none)
  4) =
  some
  (Value.slice
  o365
  k760
  k761) ∧
  ∃
  (n265
  :
  Int),
  ∃
  (o366
  :
  Option
  Addr),
  ∃
  (k762
  :
  Nat),
  ∃
  (k763
  :
  Nat),
  ∃
  (n266
  :
  Int),
  V.rowAt
  w532
  (Addr.mk
  k750
  0
  none)
  0
  3 =
  some
  [Value.int
  IntKind.i64
  n265,
  Value.slice
  o366
  k762
  k763,
  Value.int
  IntKind.i64
  n266] ∧
  new
  w532
  (Obj.cells
  (Array.mk
  [Value.int
  IntKind.i64
  n265,
  Value.slice
  o366
  k762
  k763,
  Value.int
  IntKind.i64
  n266])
  51)
  fun
  (k764 :
  Nat)
  (w540 :
  World) =>
  RunS
  Proofs.Tryd.prog
  (Builtin.append_
  (Array.mk
  [25,
  25])
  25
  (Array.mk
  [Value.slice
  o365
  k760
  k761,
  Value.slice
  (some
  (Addr.mk
  k764
  0
  none))
  1
  1]))
  w540
  fun
  (v87 :
  Value)
  (w541 :
  World) =>
  ∃
  (o367
  :
  Option
  Addr),
  ∃
  (k765
  :
  Nat),
  ∃
  (k766
  :
  Nat),
  v87 =
  Value.slice
  o367
  k765
  k766 ∧
  st1
  w541
  (Addr.add
  (Addr.mk
  k715
  0
  none)
  4)
  (Value.slice
  o367
  k765
  k766)
  fun
  (w542 :
  World) =>
  inI
  (n254 +
  1) ∧
  x147
  (n254 +
  1)
  w542 ∧
  x148
  (n254 +
  1)
  w542 <
  x148
  n254
  w520))))
  (∃
  (o368
  :
  Option
  Addr),
  ∃
  (k767
  :
  Nat),
  ∃
  (k768
  :
  Nat),
  ∃
  (o369
  :
  Option
  Addr),
  ∃
  (k769
  :
  Nat),
  ∃
  (k770
  :
  Nat),
  ∃
  (o370
  :
  Option
  Addr),
  ∃
  (k771
  :
  Nat),
  ∃
  (k772
  :
  Nat),
  ∃
  (n267
  :
  Int),
  ∃
  (o371
  :
  Option
  Addr),
  ∃
  (k773
  :
  Nat),
  ∃
  (k774
  :
  Nat),
  V.rowAt
  w520
  (Addr.mk
  k715
  0
  none)
  0
  5 =
  some
  [Value.slice
  o368
  k767
  k768,
  Value.slice
  o369
  k769
  k770,
  Value.slice
  o370
  k771
  k772,
  Value.int
  IntKind.i64
  n267,
  Value.slice
  o371
  k773
  k774] ∧
  stR
  w520
  (Addr.mk
  k2
  0
  none)
  [Value.slice
  o368
  k767
  k768,
  Value.slice
  o369
  k769
  k770,
  Value.slice
  o370
  k771
  k772,
  Value.int
  IntKind.i64
  n267,
  Value.slice
  o371
  k773
  k774]
  fun
  (w543 :
  World) =>
  ∃
  (o372
  :
  Option
  Addr),
  ∃
  (k775
  :
  Nat),
  ∃
  (k776
  :
  Nat),
  ∃
  (o373
  :
  Option
  Addr),
  ∃
  (k777
  :
  Nat),
  ∃
  (k778
  :
  Nat),
  ∃
  (o374
  :
  Option
  Addr),
  ∃
  (k779
  :
  Nat),
  ∃
  (k780
  :
  Nat),
  ∃
  (n268
  :
  Int),
  ∃
  (o375
  :
  Option
  Addr),
  ∃
  (k781
  :
  Nat),
  ∃
  (k782
  :
  Nat),
  V.rowAt
  w543
  (Addr.mk
  k2
  0
  none)
  0
  5 =
  some
  [Value.slice
  o372
  k775
  k776,
  Value.slice
  o373
  k777
  k778,
  Value.slice
  o374
  k779
  k780,
  Value.int
  IntKind.i64
  n268,
  Value.slice
  o375
  k781
  k782] ∧
  ∀
  (w544 :
  World),
  hp
  w544 =
  hp
  w543 →
  R
  (Value.tuple
  (Array.mk
  [Value.agg
  (Array.mk
  [Value.slice
  o372
  k775
  k776,
  Value.slice
  o373
  k777
  k778,
  Value.slice
  o374
  k779
  k780,
  Value.int
  IntKind.i64
  n268,
  Value.slice
  o375
  k781
  k782]),
  Value.int
  IntKind.i64
  0]))
  w544)) ∧
  (∀
  (w545 :
  World),
  St
  w545
  (x140 ::
  x138 ::
  x141) →
  ∃
  (o376
  :
  Option
  Addr),
  ∃
  (k783
  :
  Nat),
  ∃
  (k784
  :
  Nat),
  ∃
  (o377
  :
  Option
  Addr),
  ∃
  (k785
  :
  Nat),
  ∃
  (k786
  :
  Nat),
  ∃
  (o378
  :
  Option
  Addr),
  ∃
  (k787
  :
  Nat),
  ∃
  (k788
  :
  Nat),
  ∃
  (n269
  :
  Int),
  ∃
  (o379
  :
  Option
  Addr),
  ∃
  (k789
  :
  Nat),
  ∃
  (k790
  :
  Nat),
  V.rowAt
  w545
  (Addr.mk
  k2
  0
  none)
  0
  5 =
  some
  [Value.slice
  o376
  k783
  k784,
  Value.slice
  o377
  k785
  k786,
  Value.slice
  o378
  k787
  k788,
  Value.int
  IntKind.i64
  n269,
  Value.slice
  o379
  k789
  k790] ∧
  ∀
  (w546 :
  World),
  hp
  w546 =
  hp
  w545 →
  R
  (Value.tuple
  (Array.mk
  [Value.agg
  (Array.mk
  [Value.slice
  o376
  k783
  k784,
  Value.slice
  o377
  k785
  k786,
  Value.slice
  o378
  k787
  k788,
  Value.int
  IntKind.i64
  n269,
  Value.slice
  o379
  k789
  k790]),
  Value.int
  IntKind.i64
  0]))
  w546) ∧
  True)) ∧
  new
  w494
  (Obj.cells
  (Array.mk
  [Value.string
  (ByteArray.mk
  (Array.mk
  []))])
  9)
  fun
  (k791 :
  Nat)
  (w547 :
  World) =>
  I1
  w547 ∧
  RunE
  Proofs.Tryd.prog
  Ev
  66
  [Value.slice
  o26
  k47
  k48]
  w547
  fun
  (v88 :
  Value)
  (w548 :
  World) =>
  ∃
  (o380
  :
  Option
  Addr),
  ∃
  (k792
  :
  Nat),
  ∃
  (k793
  :
  Nat),
  v88 =
  Value.slice
  o380
  k792
  k793 ∧
  I1
  w548 ∧
  stR
  w548
  (Addr.mk
  k715
  0
  none)
  [Value.slice
  o344
  k716
  k717,
  Value.slice
  (some
  (Addr.mk
  k791
  0
  none))
  1
  1,
  Value.slice
  o380
  k792
  k793,
  Value.int
  IntKind.i64
  0,
  Value.slice
  none
  0
  0]
  fun
  (w549 :
  World) =>
  ∃
  (o381
  :
  Option
  Addr),
  World.cell?
  w549
  (Addr.mk
  k44
  0
  none) =
  some
  (Value.pointer
  o381) ∧
  RunE
  Proofs.Tryd.prog
  Ev
  67
  [Value.pointer
  o381]
  w549
  fun
  (v89 :
  Value)
  (w550 :
  World) =>
  ∃
  (n270
  :
  Int),
  v89 =
  Value.int
  IntKind.i64
  n270 ∧
  mkOk
  n270
  n270
  8 ∧
  new
  w550
  (Obj.cells
  (Array.mk
  (reps
  (Int.toNat
  n270)
  [Value.int
  IntKind.i64
  0]))
  3)
  fun
  (k794 :
  Nat)
  (w551 :
  World) =>
  new
  w551
  (Obj.cells
  (Array.mk
  [Value.slice
  none
  0
  0])
  24)
  fun
  (k795 :
  Nat)
  (w552 :
  World) =>
  st1
  w552
  (Addr.mk
  k795
  0
  none)
  (Value.slice
  (some
  (Addr.mk
  k794
  0
  none))
  (Int.toNat
  n270)
  (Int.toNat
  n270))
  fun
  (w553 :
  World) =>
  ∃
  (o382
  :
  Option
  Addr),
  World.cell?
  w553
  (Addr.mk
  k44
  0
  none) =
  some
  (Value.pointer
  o382) ∧
  RunE
  Proofs.Tryd.prog
  Ev
  68
  [Value.pointer
  o382]
  w553
  fun
  (v90 :
  Value)
  (w554 :
  World) =>
  ∃
  (g11
  :
  FuncId),
  ∃
  (x151
  :
  List
  Value),
  v90 =
  Value.func
  (Fn.func
  g11)
  (Array.mk
  [])
  (Array.mk
  x151) ∧
  ifT
  (Proofs.YtaheggomcnbbiaaDoor.Fn
  g11)
  (∃
  (x152
  :
  List
  (List
  Value)),
  ∃
  (x153
  :
  Asn),
  ∃
  (x154
  :
  Asn),
  ∃
  (I72
  :
  Nat →
  Asn),
  ∃
  (x155
  :
  Asn),
  ∃
  (I73
  :
  Nat →
  Asn),
  ∃
  (x156
  :
  List
  Asn),
  St
  w554
  (I72
  0 ::
  x153 ::
  x156) ∧
  (∀
  (x157 :
  Hp),
  starL
  x156
  x157 →
  x154
  x157) ∧
  Itr
  Proofs.Tryd.prog
  g11
  []
  x151
  x153
  x154
  x152 ∧
  (∀
  (x158 :
  List
  Value),
  x158 ∈
  x152 →
  ∃
  (n271
  :
  Int),
  x158 =
  [Value.int
  IntKind.i64
  n271]) ∧
  (∀
  (k796 :
  Nat)
  (n272 :
  Int),
  List.get?Internal
  x152
  k796 =
  some
  [Value.int
  IntKind.i64
  n272] →
  ∀
  (x159 :
  List
  Asn)
  (w555 :
  World),
  Sup
  x159
  x156 →
  St
  w555
  (I72
  k796 ::
  x159) →
  ∃
  (x160
  :
  Asn),
  St
  w555
  (x160 ::
  x159) ∧
  ∀
  (x161 :
  List
  Asn)
  (w556 :
  World),
  Sup
  x161
  x156 →
  St
  w556
  (x160 ::
  x161) →
  ∃
  (o383
  :
  Option
  Addr),
  ∃
  (k797
  :
  Nat),
  ∃
  (k798
  :
  Nat),
  World.cell?
  w556
  (Addr.mk
  k795
  0
  none) =
  some
  (Value.slice
  o383
  k797
  k798) ∧
  idx
  o383
  k797
  n272
  1
  fun
  (a81 :
  Addr) =>
  st1
  w556
  a81
  (Value.int
  IntKind.i64
  n272)
  fun
  (w557 :
  World) =>
  ∃
  (n273
  :
  Int),
  World.cell?
  w557
  (Addr.add
  (Addr.mk
  k44
  0
  none)
  1) =
  some
  (Value.int
  IntKind.i64
  n273) ∧
  br
  (decide
  (n273 ≤
  n272))
  (∃
  (o384
  :
  Option
  Addr),
  ∃
  (k799
  :
  Nat),
  ∃
  (k800
  :
  Nat),
  World.cell?
  w557
  (Addr.mk
  k795
  0
  none) =
  some
  (Value.slice
  o384
  k799
  k800) ∧
  ∃
  (n274
  :
  Int),
  World.cell?
  w557
  (Addr.add
  (Addr.mk
  k44
  0
  none)
  1) =
  some
  (Value.int
  IntKind.i64
  n274) ∧
  ∃
  (o385
  :
  Option
  Addr),
  ∃
  (k801
  :
  Nat),
  ∃
  (k802
  :
  Nat),
  World.cell?
  w557
  (Addr.add
  (Addr.mk
  k715
  0
  none)
  1) =
  some
  (Value.slice
  o385
  k801
  k802) ∧
  inI
  (n274 +
  (↑k801 :
  Int)) ∧
  idx
  o384
  k799
  n272
  1
  fun
  (a82 :
  Addr) =>
  st1
  w557
  a82
  (Value.int
  IntKind.i64
  (n274 +
  (↑k801 :
  Int)))
  fun
  (w558 :
  World) =>
  ∀
  (w559 :
  World),
  drawn
  w558
  w559 →
  ∃
  (I74
  :
  World →
  Prop),
  I74
  w559 ∧
  ∃
  (o386
  :
  Option
  Addr),
  ∃
  (k803
  :
  Nat),
  ∃
  (k804
  :
  Nat),
  (∀
  (w560 :
  World),
  I74
  w560 →
  World.cell?
  w560
  (Addr.add
  (Addr.mk
  k715
  0
  none)
  1) =
  some
  (Value.slice
  o386
  k803
  k804)) ∧
  ∃
  (o387
  :
  Option
  Addr),
  ∃
  (k805
  :
  Nat),
  ∃
  (k806
  :
  Nat),
  (∀
  (w561 :
  World),
  I74
  w561 →
  World.cell?
  w561
  (Addr.add
  (Addr.mk
  k1
  0
  none)
  1) =
  some
  (Value.slice
  o387
  k805
  k806)) ∧
  ∃
  (n275
  :
  Int),
  (∀
  (w562 :
  World),
  I74
  w562 →
  World.cell?
  w562
  (Addr.add
  (Addr.mk
  k44
  0
  none)
  1) =
  some
  (Value.int
  IntKind.i64
  n275)) ∧
  inI
  (n272 -
  n275) ∧
  idx
  o387
  k805
  (n272 -
  n275)
  1
  fun
  (a83 :
  Addr) =>
  ∃
  (s11
  :
  ByteArray),
  (∀
  (w563 :
  World),
  I74
  w563 →
  World.cell?
  w563
  a83 =
  some
  (Value.string
  s11)) ∧
  new
  w559
  (Obj.cells
  (Array.mk
  [Value.string
  s11])
  9)
  fun
  (k807 :
  Nat)
  (w564 :
  World) =>
  I74
  w564 ∧
  RunS
  Proofs.Tryd.prog
  (Builtin.append_
  (Array.mk
  [23,
  23])
  23
  (Array.mk
  [Value.slice
  o386
  k803
  k804,
  Value.slice
  (some
  (Addr.mk
  k807
  0
  none))
  1
  1]))
  w564
  fun
  (v91 :
  Value)
  (w565 :
  World) =>
  ∃
  (o388
  :
  Option
  Addr),
  ∃
  (k808
  :
  Nat),
  ∃
  (k809
  :
  Nat),
  v91 =
  Value.slice
  o388
  k808
  k809 ∧
  I74
  w565 ∧
  st1
  w565
  (Addr.add
  (Addr.mk
  k715
  0
  none)
  1)
  (Value.slice
  o388
  k808
  k809)
  fun
  (w566 :
  World) =>
  St
  w566
  (I72
  (k796 +
  1) ::
  x161))
  (St
  w557
  (I72
  (k796 +
  1) ::
  x161))) ∧
  (∀
  (w567 :
  World),
  St
  w567
  (I72
  (List.length
  x152) ::
  x153 ::
  x156) →
  ∃
  (o389
  :
  Option
  Addr),
  ∃
  (k810
  :
  Nat),
  ∃
  (k811
  :
  Nat),
  World.cell?
  w567
  (Addr.mk
  k795
  0
  none) =
  some
  (Value.slice
  o389
  k810
  k811) ∧
  ∃
  (n276
  :
  Int),
  World.cell?
  w567
  (Addr.add
  (Addr.mk
  k1
  0
  none)
  3) =
  some
  (Value.int
  IntKind.i64
  n276) ∧
  idx
  o389
  k810
  n276
  1
  fun
  (a84 :
  Addr) =>
  ∃
  (n277
  :
  Int),
  World.cell?
  w567
  a84 =
  some
  (Value.int
  IntKind.i64
  n277) ∧
  st1
  w567
  (Addr.add
  (Addr.mk
  k715
  0
  none)
  3)
  (Value.int
  IntKind.i64
  n277)
  fun
  (w568 :
  World) =>
  ∃
  (n278
  :
  Int),
  World.cell?
  w568
  (Addr.add
  (Addr.mk
  k44
  0
  none)
  1) =
  some
  (Value.int
  IntKind.i64
  n278) ∧
  ∃
  (n279
  :
  Int),
  World.cell?
  w568
  (Addr.add
  (Addr.mk
  k715
  0
  none)
  3) =
  some
  (Value.int
  IntKind.i64
  n279) ∧
  new
  w568
  (Obj.cells
  (Array.mk
  [Value.int
  IntKind.i64
  n279])
  3)
  fun
  (k812 :
  Nat)
  (w569 :
  World) =>
  new
  w569
  (Obj.cells
  (Array.mk
  [Value.int
  IntKind.i64
  n278,
  Value.slice
  (some
  (Addr.mk
  k812
  0
  none))
  1
  1,
  Value.int
  IntKind.i64
  0])
  51)
  fun
  (k813 :
  Nat)
  (w570 :
  World) =>
  st1
  w570
  (Addr.add
  (Addr.mk
  k715
  0
  none)
  4)
  (Value.slice
  (some
  (Addr.mk
  k813
  0
  none))
  1
  1)
  fun
  (w571 :
  World) =>
  ∃
  (o390
  :
  Option
  Addr),
  ∃
  (k814
  :
  Nat),
  ∃
  (k815
  :
  Nat),
  World.cell?
  w571
  (Addr.add
  (Addr.mk
  k1
  0
  none)
  4) =
  some
  (Value.slice
  o390
  k814
  k815) ∧
  ∃
  (x162
  :
  arrS
  (shs
  [(93,
  S1.one
  (Cs.int
  IntKind.i64))])
  (World →
  Prop)),
  ∃
  (x163
  :
  arrS
  (shs
  [(93,
  S1.one
  (Cs.int
  IntKind.i64))])
  (World →
  Nat)),
  x162
  0
  w571 ∧
  ∀
  (I75 :
  Nat →
  Value)
  (n280 :
  Int)
  (w572 :
  World),
  x162
  n280
  w572 →
  br
  (decide
  (n280 <
  (↑k814 :
  Int)))
  (idx
  o390
  k814
  n280
  3
  fun
  (a85 :
  Addr) =>
  ∃
  (n281
  :
  Int),
  ∃
  (o391
  :
  Option
  Addr),
  ∃
  (k816
  :
  Nat),
  ∃
  (k817
  :
  Nat),
  ∃
  (n282
  :
  Int),
  V.rowAt
  w572
  a85
  0
  3 =
  some
  [Value.int
  IntKind.i64
  n281,
  Value.slice
  o391
  k816
  k817,
  Value.int
  IntKind.i64
  n282] ∧
  new
  w572
  (Obj.cells
  (Array.mk
  [Value.int
  IntKind.i64
  0,
  Value.slice
  none
  0
  0,
  Value.int
  IntKind.i64
  0])
  51)
  fun
  (k818 :
  Nat)
  (w573 :
  World) =>
  stR
  w573
  (Addr.mk
  k818
  0
  none)
  [Value.int
  IntKind.i64
  n281,
  Value.slice
  o391
  k816
  k817,
  Value.int
  IntKind.i64
  n282]
  fun
  (w574 :
  World) =>
  ∃
  (o392
  :
  Option
  Addr),
  World.cell?
  w574
  (Addr.mk
  k44
  0
  none) =
  some
  (Value.pointer
  o392) ∧
  ∃
  (n283
  :
  Int),
  World.cell?
  w574
  (Addr.mk
  k818
  0
  none) =
  some
  (Value.int
  IntKind.i64
  n283) ∧
  RunE
  Proofs.Tryd.prog
  Ev
  63
  [Value.pointer
  o392,
  Value.int
  IntKind.i64
  n283]
  w574
  fun
  (v92 :
  Value)
  (w575 :
  World) =>
  ∃
  (b23
  :
  Bool),
  v92 =
  Value.bool
  b23 ∧
  br
  (!b23)
  (inI
  (n280 +
  1) ∧
  x162
  (n280 +
  1)
  w575 ∧
  x163
  (n280 +
  1)
  w575 <
  x163
  n280
  w572)
  (∃
  (o393
  :
  Option
  Addr),
  ∃
  (n284
  :
  Int),
  V.rowAt
  w575
  (Addr.mk
  k27
  0
  none)
  0
  2 =
  some
  [Value.pointer
  o393,
  Value.int
  IntKind.i64
  n284] ∧
  ∃
  (o394
  :
  Option
  Addr),
  ∃
  (k819
  :
  Nat),
  ∃
  (k820
  :
  Nat),
  World.cell?
  w575
  (Addr.add
  (Addr.mk
  k818
  0
  none)
  1) =
  some
  (Value.slice
  o394
  k819
  k820) ∧
  RunE
  Proofs.Tryd.prog
  Ev
  69
  [Value.agg
  (Array.mk
  [Value.pointer
  o393,
  Value.int
  IntKind.i64
  n284]),
  Value.slice
  o394
  k819
  k820]
  w575
  fun
  (v93 :
  Value)
  (w576 :
  World) =>
  ∃
  (b24
  :
  Bool),
  v93 =
  Value.bool
  b24 ∧
  br
  (!b24)
  (inI
  (n280 +
  1) ∧
  x162
  (n280 +
  1)
  w576 ∧
  x163
  (n280 +
  1)
  w576 <
  x163
  n280
  w572)
  (∀
  (w577 :
  World),
  drawn
  w576
  w577 →
  ∃
  (I76
  :
  World →
  Prop),
  I76
  w577 ∧
  ∃
  (o395
  :
  Option
  Addr),
  ∃
  (k821
  :
  Nat),
  ∃
  (k822
  :
  Nat),
  (∀
  (w578 :
  World),
  I76
  w578 →
  World.cell?
  w578
  (Addr.mk
  k795
  0
  none) =
  some
  (Value.slice
  o395
  k821
  k822)) ∧
  ∃
  (n285
  :
  Int),
  (∀
  (w579 :
  World),
  I76
  w579 →
  World.cell?
  w579
  (Addr.mk
  k818
  0
  none) =
  some
  (Value.int
  IntKind.i64
  n285)) ∧
  idx
  o395
  k821
  n285
  1
  fun
  (a86 :
  Addr) =>
  ∃
  (n286
  :
  Int),
  (∀
  (w580 :
  World),
  I76
  w580 →
  World.cell?
  w580
  a86 =
  some
  (Value.int
  IntKind.i64
  n286)) ∧
  ∃
  (n287
  :
  Int),
  (∀
  (w581 :
  World),
  I76
  w581 →
  World.cell?
  w581
  (Addr.add
  (Addr.mk
  k818
  0
  none)
  2) =
  some
  (Value.int
  IntKind.i64
  n287)) ∧
  new
  w577
  (Obj.cells
  (Array.mk
  [Value.int
  IntKind.i64
  0,
  Value.slice
  none
  0
  0,
  Value.int
  IntKind.i64
  0])
  51)
  fun
  (k823 :
  Nat)
  (w582 :
  World) =>
  I76
  w582 ∧
  stR
  w582
  (Addr.mk
  k823
  0
  none)
  [Value.int
  IntKind.i64
  n286,
  Value.slice
  none
  0
  0,
  Value.int
  IntKind.i64
  n287]
  fun
  (w583 :
  World) =>
  ∃
  (o396
  :
  Option
  Addr),
  ∃
  (k824
  :
  Nat),
  ∃
  (k825
  :
  Nat),
  World.cell?
  w583
  (Addr.add
  (Addr.mk
  k818
  0
  none)
  1) =
  some
  (Value.slice
  o396
  k824
  k825) ∧
  ∃
  (x164
  :
  arrS
  (shs
  [(121,
  S1.one
  (Cs.int
  IntKind.i64))])
  (World →
  Prop)),
  ∃
  (x165
  :
  arrS
  (shs
  [(121,
  S1.one
  (Cs.int
  IntKind.i64))])
  (World →
  Nat)),
  x164
  0
  w583 ∧
  ∀
  (I77 :
  Nat →
  Value)
  (n288 :
  Int)
  (w584 :
  World),
  x164
  n288
  w584 →
  br
  (decide
  (n288 <
  (↑k824 :
  Int)))
  (idx
  o396
  k824
  n288
  1
  fun
  (a87 :
  Addr) =>
  ∃
  (n289
  :
  Int),
  World.cell?
  w584
  a87 =
  some
  (Value.int
  IntKind.i64
  n289) ∧
  ∀
  (w585 :
  World),
  drawn
  w584
  w585 →
  ∃
  (I78
  :
  World →
  Prop),
  I78
  w585 ∧
  ∃
  (o397
  :
  Option
  Addr),
  ∃
  (k826
  :
  Nat),
  ∃
  (k827
  :
  Nat),
  (∀
  (w586 :
  World),
  I78
  w586 →
  World.cell?
  w586
  (Addr.add
  (Addr.mk
  k823
  0
  none)
  1) =
  some
  (Value.slice
  o397
  k826
  k827)) ∧
  ∃
  (o398
  :
  Option
  Addr),
  ∃
  (k828
  :
  Nat),
  ∃
  (k829
  :
  Nat),
  (∀
  (w587 :
  World),
  I78
  w587 →
  World.cell?
  w587
  (Addr.mk
  k795
  0
  none) =
  some
  (Value.slice
  o398
  k828
  k829)) ∧
  idx
  o398
  k828
  n289
  1
  fun
  (a88 :
  Addr) =>
  ∃
  (n290
  :
  Int),
  (∀
  (w588 :
  World),
  I78
  w588 →
  World.cell?
  w588
  a88 =
  some
  (Value.int
  IntKind.i64
  n290)) ∧
  new
  w585
  (Obj.cells
  (Array.mk
  [Value.int
  IntKind.i64
  n290])
  3)
  fun
  (k830 :
  Nat)
  (w589 :
  World) =>
  I78
  w589 ∧
  RunS
  Proofs.Tryd.prog
  (Builtin.append_
  (Array.mk
  [24,
  24])
  24
  (Array.mk
  [Value.slice
  o397
  k826
  k827,
  Value.slice
  (some
  (Addr.mk
  k830
  0
  none))
  1
  1]))
  w589
  fun
  (v94 :
  Value)
  (w590 :
  World) =>
  ∃
  (o399
  :
  Option
  Addr),
  ∃
  (k831
  :
  Nat),
  ∃
  (k832
  :
  Nat),
  v94 =
  Value.slice
  o399
  k831
  k832 ∧
  I78
  w590 ∧
  st1
  w590
  (Addr.add
  (Addr.mk
  k823
  0
  none)
  1)
  (Value.slice
  o399
  k831
  k832)
  fun
  (w591 :
  World) =>
  inI
  (n288 +
  1) ∧
  x164
  (n288 +
  1)
  w591 ∧
  x165
  (n288 +
  1)
  w591 <
  x165
  n288
  w584)
  (∃
  (o400
  :
  Option
  Addr),
  ∃
  (k833
  :
  Nat),
  ∃
  (k834
  :
  Nat),
  World.cell?
  w584
  (Addr.add
  (Addr.mk
  k715
  0
  none)
  4) =
  some
  (Value.slice
  o400
  k833
  k834) ∧
  ∃
  (n291
  :
  Int),
  ∃
  (o401
  :
  Option
  Addr),
  ∃
  (k835
  :
  Nat),
  ∃
  (k836
  :
  Nat),
  ∃
  (n292
  :
  Int),
  V.rowAt
  w584
  (Addr.mk
  k823
  0
  none)
  0
  3 =
  some
  [Value.int
  IntKind.i64
  n291,
  Value.slice
  o401
  k835
  k836,
  Value.int
  IntKind.i64
  n292] ∧
  new
  w584
  (Obj.cells
  (Array.mk
  [Value.int
  IntKind.i64
  n291,
  Value.slice
  o401
  k835
  k836,
  Value.int
  IntKind.i64
  n292])
  51)
  fun
  (k837 :
  Nat)
  (w592 :
  World) =>
  RunS
  Proofs.Tryd.prog
  (Builtin.append_
  (Array.mk
  [25,
  25])
  25
  (Array.mk
  [Value.slice
  o400
  k833
  k834,
  Value.slice
  (some
  (Addr.mk
  k837
  0
  none))
  1
  1]))
  w592
  fun
  (v95 :
  Value)
  (w593 :
  World) =>
  ∃
  (o402
  :
  Option
  Addr),
  ∃
  (k838
  :
  Nat),
  ∃
  (k839
  :
  Nat),
  v95 =
  Value.slice
  o402
  k838
  k839 ∧
  st1
  w593
  (Addr.add
  (Addr.mk
  k715
  0
  none)
  4)
  (Value.slice
  o402
  k838
  k839)
  fun
  (w594 :
  World) =>
  inI
  (n280 +
  1) ∧
  x162
  (n280 +
  1)
  w594 ∧
  x163
  (n280 +
  1)
  w594 <
  x163
  n280
  w572))))
  (∃
  (o403
  :
  Option
  Addr),
  ∃
  (k840
  :
  Nat),
  ∃
  (k841
  :
  Nat),
  ∃
  (o404
  :
  Option
  Addr),
  ∃
  (k842
  :
  Nat),
  ∃
  (k843
  :
  Nat),
  ∃
  (o405
  :
  Option
  Addr),
  ∃
  (k844
  :
  Nat),
  ∃
  (k845
  :
  Nat),
  ∃
  (n293
  :
  Int),
  ∃
  (o406
  :
  Option
  Addr),
  ∃
  (k846
  :
  Nat),
  ∃
  (k847
  :
  Nat),
  V.rowAt
  w572
  (Addr.mk
  k715
  0
  none)
  0
  5 =
  some
  [Value.slice
  o403
  k840
  k841,
  Value.slice
  o404
  k842
  k843,
  Value.slice
  o405
  k844
  k845,
  Value.int
  IntKind.i64
  n293,
  Value.slice
  o406
  k846
  k847] ∧
  stR
  w572
  (Addr.mk
  k2
  0
  none)
  [Value.slice
  o403
  k840
  k841,
  Value.slice
  o404
  k842
  k843,
  Value.slice
  o405
  k844
  k845,
  Value.int
  IntKind.i64
  n293,
  Value.slice
  o406
  k846
  k847]
  fun
  (w595 :
  World) =>
  ∃
  (o407
  :
  Option
  Addr),
  ∃
  (k848
  :
  Nat),
  ∃
  (k849
  :
  Nat),
  ∃
  (o408
  :
  Option
  Addr),
  ∃
  (k850
  :
  Nat),
  ∃
  (k851
  :
  Nat),
  ∃
  (o409
  :
  Option
  Addr),
  ∃
  (k852
  :
  Nat),
  ∃
  (k853
  :
  Nat),
  ∃
  (n294
  :
  Int),
  ∃
  (o410
  :
  Option
  Addr),
  ∃
  (k854
  :
  Nat),
  ∃
  (k855
  :
  Nat),
  V.rowAt
  w595
  (Addr.mk
  k2
  0
  none)
  0
  5 =
  some
  [Value.slice
  o407
  k848
  k849,
  Value.slice
  o408
  k850
  k851,
  Value.slice
  o409
  k852
  k853,
  Value.int
  IntKind.i64
  n294,
  Value.slice
  o410
  k854
  k855] ∧
  ∀
  (w596 :
  World),
  hp
  w596 =
  hp
  w595 →
  R
  (Value.tuple
  (Array.mk
  [Value.agg
  (Array.mk
  [Value.slice
  o407
  k848
  k849,
  Value.slice
  o408
  k850
  k851,
  Value.slice
  o409
  k852
  k853,
  Value.int
  IntKind.i64
  n294,
  Value.slice
  o410
  k854
  k855]),
  Value.int
  IntKind.i64
  0]))
  w596)) ∧
  (∀
  (w597 :
  World),
  St
  w597
  (x155 ::
  x153 ::
  x156) →
  ∃
  (o411
  :
  Option
  Addr),
  ∃
  (k856
  :
  Nat),
  ∃
  (k857
  :
  Nat),
  ∃
  (o412
  :
  Option
  Addr),
  ∃
  (k858
  :
  Nat),
  ∃
  (k859
  :
  Nat),
  ∃
  (o413
  :
  Option
  Addr),
  ∃
  (k860
  :
  Nat),
  ∃
  (k861
  :
  Nat),
  ∃
  (n295
  :
  Int),
  ∃
  (o414
  :
  Option
  Addr),
  ∃
  (k862
  :
  Nat),
  ∃
  (k863
  :
  Nat),
  V.rowAt
  w597
  (Addr.mk
  k2
  0
  none)
  0
  5 =
  some
  [Value.slice
  o411
  k856
  k857,
  Value.slice
  o412
  k858
  k859,
  Value.slice
  o413
  k860
  k861,
  Value.int
  IntKind.i64
  n295,
  Value.slice
  o414
  k862
  k863] ∧
  ∀
  (w598 :
  World),
  hp
  w598 =
  hp
  w597 →
  R
  (Value.tuple
  (Array.mk
  [Value.agg
  (Array.mk
  [Value.slice
  o411
  k856
  k857,
  Value.slice
  o412
  k858
  k859,
  Value.slice
  o413
  k860
  k861,
  Value.int
  IntKind.i64
  n295,
  Value.slice
  o414
  k862
  k863]),
  Value.int
  IntKind.i64
  0]))
  w598) ∧
  True)) ∧
  new
  w493
  (Obj.cells
  (Array.mk
  [Value.string
  (ByteArray.mk
  (Array.mk
  []))])
  9)
  fun
  (k864 :
  Nat)
  (w599 :
  World) =>
  I1
  w599 ∧
  RunE
  Proofs.Tryd.prog
  Ev
  65
  [Value.slice
  o25
  k45
  k46]
  w599
  fun
  (v96 :
  Value)
  (w600 :
  World) =>
  ∃
  (o415
  :
  Option
  Addr),
  ∃
  (k865
  :
  Nat),
  ∃
  (k866
  :
  Nat),
  v96 =
  Value.slice
  o415
  k865
  k866 ∧
  I1
  w600 ∧
  RunE
  Proofs.Tryd.prog
  Ev
  66
  [Value.slice
  o26
  k47
  k48]
  w600
  fun
  (v97 :
  Value)
  (w601 :
  World) =>
  ∃
  (o416
  :
  Option
  Addr),
  ∃
  (k867
  :
  Nat),
  ∃
  (k868
  :
  Nat),
  v97 =
  Value.slice
  o416
  k867
  k868 ∧
  I1
  w601 ∧
  stR
  w601
  (Addr.mk
  k715
  0
  none)
  [Value.slice
  o415
  k865
  k866,
  Value.slice
  (some
  (Addr.mk
  k864
  0
  none))
  1
  1,
  Value.slice
  o416
  k867
  k868,
  Value.int
  IntKind.i64
  0,
  Value.slice
  none
  0
  0]
  fun
  (w602 :
  World) =>
  ∃
  (o417
  :
  Option
  Addr),
  World.cell?
  w602
  (Addr.mk
  k44
  0
  none) =
  some
  (Value.pointer
  o417) ∧
  RunE
  Proofs.Tryd.prog
  Ev
  67
  [Value.pointer
  o417]
  w602
  fun
  (v98 :
  Value)
  (w603 :
  World) =>
  ∃
  (n296
  :
  Int),
  v98 =
  Value.int
  IntKind.i64
  n296 ∧
  mkOk
  n296
  n296
  8 ∧
  new
  w603
  (Obj.cells
  (Array.mk
  (reps
  (Int.toNat
  n296)
  [Value.int
  IntKind.i64
  0]))
  3)
  fun
  (k869 :
  Nat)
  (w604 :
  World) =>
  new
  w604
  (Obj.cells
  (Array.mk
  [Value.slice
  none
  0
  0])
  24)
  fun
  (k870 :
  Nat)
  (w605 :
  World) =>
  st1
  w605
  (Addr.mk
  k870
  0
  none)
  (Value.slice
  (some
  (Addr.mk
  k869
  0
  none))
  (Int.toNat
  n296)
  (Int.toNat
  n296))
  fun
  (w606 :
  World) =>
  ∃
  (o418
  :
  Option
  Addr),
  World.cell?
  w606
  (Addr.mk
  k44
  0
  none) =
  some
  (Value.pointer
  o418) ∧
  RunE
  Proofs.Tryd.prog
  Ev
  68
  [Value.pointer
  o418]
  w606
  fun
  (v99 :
  Value)
  (w607 :
  World) =>
  ∃
  (g12
  :
  FuncId),
  ∃
  (x166
  :
  List
  Value),
  v99 =
  Value.func
  (Fn.func
  g12)
  (Array.mk
  [])
  (Array.mk
  x166) ∧
  ifT
  (Proofs.YtaheggomcnbbiaaDoor.Fn
  g12)
  (∃
  (x167
  :
  List
  (List
  Value)),
  ∃
  (x168
  :
  Asn),
  ∃
  (x169
  :
  Asn),
  ∃
  (I79
  :
  Nat →
  Asn),
  ∃
  (x170
  :
  Asn),
  ∃
  (I80
  :
  Nat →
  Asn),
  ∃
  (x171
  :
  List
  Asn),
  St
  w607
  (I79
  0 ::
  x168 ::
  x171) ∧
  (∀
  (x172 :
  Hp),
  starL
  x171
  x172 →
  x169
  x172) ∧
  Itr
  Proofs.Tryd.prog
  g12
  []
  x166
  x168
  x169
  x167 ∧
  (∀
  (x173 :
  List
  Value),
  x173 ∈
  x167 →
  ∃
  (n297
  :
  Int),
  x173 =
  [Value.int
  IntKind.i64
  n297]) ∧
  (∀
  (k871 :
  Nat)
  (n298 :
  Int),
  List.get?Internal
  x167
  k871 =
  some
  [Value.int
  IntKind.i64
  n298] →
  ∀
  (x174 :
  List
  Asn)
  (w608 :
  World),
  Sup
  x174
  x171 →
  St
  w608
  (I79
  k871 ::
  x174) →
  ∃
  (x175
  :
  Asn),
  St
  w608
  (x175 ::
  x174) ∧
  ∀
  (x176 :
  List
  Asn)
  (w609 :
  World),
  Sup
  x176
  x171 →
  St
  w609
  (x175 ::
  x176) →
  ∃
  (o419
  :
  Option
  Addr),
  ∃
  (k872
  :
  Nat),
  ∃
  (k873
  :
  Nat),
  World.cell?
  w609
  (Addr.mk
  k870
  0
  none) =
  some
  (Value.slice
  o419
  k872
  k873) ∧
  idx
  o419
  k872
  n298
  1
  fun
  (a89 :
  Addr) =>
  st1
  w609
  a89
  (Value.int
  IntKind.i64
  n298)
  fun
  (w610 :
  World) =>
  ∃
  (n299
  :
  Int),
  World.cell?
  w610
  (Addr.add
  (Addr.mk
  k44
  0
  none)
  1) =
  some
  (Value.int
  IntKind.i64
  n299) ∧
  br
  (decide
  (n299 ≤
  n298))
  (∃
  (o420
  :
  Option
  Addr),
  ∃
  (k874
  :
  Nat),
  ∃
  (k875
  :
  Nat),
  World.cell?
  w610
  (Addr.mk
  k870
  0
  none) =
  some
  (Value.slice
  o420
  k874
  k875) ∧
  ∃
  (n300
  :
  Int),
  World.cell?
  w610
  (Addr.add
  (Addr.mk
  k44
  0
  none)
  1) =
  some
  (Value.int
  IntKind.i64
  n300) ∧
  ∃
  (o421
  :
  Option
  Addr),
  ∃
  (k876
  :
  Nat),
  ∃
  (k877
  :
  Nat),
  World.cell?
  w610
  (Addr.add
  (Addr.mk
  k715
  0
  none)
  1) =
  some
  (Value.slice
  o421
  k876
  k877) ∧
  inI
  (n300 +
  (↑k876 :
  Int)) ∧
  idx
  o420
  k874
  n298
  1
  fun
  (a90 :
  Addr) =>
  st1
  w610
  a90
  (Value.int
  IntKind.i64
  (n300 +
  (↑k876 :
  Int)))
  fun
  (w611 :
  World) =>
  ∀
  (w612 :
  World),
  drawn
  w611
  w612 →
  ∃
  (I81
  :
  World →
  Prop),
  I81
  w612 ∧
  ∃
  (o422
  :
  Option
  Addr),
  ∃
  (k878
  :
  Nat),
  ∃
  (k879
  :
  Nat),
  (∀
  (w613 :
  World),
  I81
  w613 →
  World.cell?
  w613
  (Addr.add
  (Addr.mk
  k715
  0
  none)
  1) =
  some
  (Value.slice
  o422
  k878
  k879)) ∧
  ∃
  (o423
  :
  Option
  Addr),
  ∃
  (k880
  :
  Nat),
  ∃
  (k881
  :
  Nat),
  (∀
  (w614 :
  World),
  I81
  w614 →
  World.cell?
  w614
  (Addr.add
  (Addr.mk
  k1
  0
  none)
  1) =
  some
  (Value.slice
  o423
  k880
  k881)) ∧
  ∃
  (n301
  :
  Int),
  (∀
  (w615 :
  World),
  I81
  w615 →
  World.cell?
  w615
  (Addr.add
  (Addr.mk
  k44
  0
  none)
  1) =
  some
  (Value.int
  IntKind.i64
  n301)) ∧
  inI
  (n298 -
  n301) ∧
  idx
  o423
  k880
  (n298 -
  n301)
  1
  fun
  (a91 :
  Addr) =>
  ∃
  (s12
  :
  ByteArray),
  (∀
  (w616 :
  World),
  I81
  w616 →
  World.cell?
  w616
  a91 =
  some
  (Value.string
  s12)) ∧
  new
  w612
  (Obj.cells
  (Array.mk
  [Value.string
  s12])
  9)
  fun
  (k882 :
  Nat)
  (w617 :
  World) =>
  I81
  w617 ∧
  RunS
  Proofs.Tryd.prog
  (Builtin.append_
  (Array.mk
  [23,
  23])
  23
  (Array.mk
  [Value.slice
  o422
  k878
  k879,
  Value.slice
  (some
  (Addr.mk
  k882
  0
  none))
  1
  1]))
  w617
  fun
  (v100 :
  Value)
  (w618 :
  World) =>
  ∃
  (o424
  :
  Option
  Addr),
  ∃
  (k883
  :
  Nat),
  ∃
  (k884
  :
  Nat),
  v100 =
  Value.slice
  o424
  k883
  k884 ∧
  I81
  w618 ∧
  st1
  w618
  (Addr.add
  (Addr.mk
  k715
  0
  none)
  1)
  (Value.slice
  o424
  k883
  k884)
  fun
  (w619 :
  World) =>
  St
  w619
  (I79
  (k871 +
  1) ::
  x176))
  (St
  w610
  (I79
  (k871 +
  1) ::
  x176))) ∧
  (∀
  (w620 :
  World),
  St
  w620
  (I79
  (List.length
  x167) ::
  x168 ::
  x171) →
  ∃
  (o425
  :
  Option
  Addr),
  ∃
  (k885
  :
  Nat),
  ∃
  (k886
  :
  Nat),
  World.cell?
  w620
  (Addr.mk
  k870
  0
  none) =
  some
  (Value.slice
  o425
  k885
  k886) ∧
  ∃
  (n302
  :
  Int),
  World.cell?
  w620
  (Addr.add
  (Addr.mk
  k1
  0
  none)
  3) =
  some
  (Value.int
  IntKind.i64
  n302) ∧
  idx
  o425
  k885
  n302
  1
  fun
  (a92 :
  Addr) =>
  ∃
  (n303
  :
  Int),
  World.cell?
  w620
  a92 =
  some
  (Value.int
  IntKind.i64
  n303) ∧
  st1
  w620
  (Addr.add
  (Addr.mk
  k715
  0
  none)
  3)
  (Value.int
  IntKind.i64
  n303)
  fun
  (w621 :
  World) =>
  ∃
  (n304
  :
  Int),
  World.cell?
  w621
  (Addr.add
  (Addr.mk
  k44
  0
  none)
  1) =
  some
  (Value.int
  IntKind.i64
  n304) ∧
  ∃
  (n305
  :
  Int),
  World.cell?
  w621
  (Addr.add
  (Addr.mk
  k715
  0
  none)
  3) =
  some
  (Value.int
  IntKind.i64
  n305) ∧
  new
  w621
  (Obj.cells
  (Array.mk
  [Value.int
  IntKind.i64
  n305])
  3)
  fun
  (k887 :
  Nat)
  (w622 :
  World) =>
  new
  w622
  (Obj.cells
  (Array.mk
  [Value.int
  IntKind.i64
  n304,
  Value.slice
  (some
  (Addr.mk
  k887
  0
  none))
  1
  1,
  Value.int
  IntKind.i64
  0])
  51)
  fun
  (k888 :
  Nat)
  (w623 :
  World) =>
  st1
  w623
  (Addr.add
  (Addr.mk
  k715
  0
  none)
  4)
  (Value.slice
  (some
  (Addr.mk
  k888
  0
  none))
  1
  1)
  fun
  (w624 :
  World) =>
  ∃
  (o426
  :
  Option
  Addr),
  ∃
  (k889
  :
  Nat),
  ∃
  (k890
  :
  Nat),
  World.cell?
  w624
  (Addr.add
  (Addr.mk
  k1
  0
  none)
  4) =
  some
  (Value.slice
  o426
  k889
  k890) ∧
  ∃
  (x177
  :
  arrS
  (shs
  [(93,
  S1.one
  (Cs.int
  IntKind.i64))])
  (World →
  Prop)),
  ∃
  (x178
  :
  arrS
  (shs
  [(93,
  S1.one
  (Cs.int
  IntKind.i64))])
  (World →
  Nat)),
  x177
  0
  w624 ∧
  ∀
  (I82 :
  Nat →
  Value)
  (n306 :
  Int)
  (w625 :
  World),
  x177
  n306
  w625 →
  br
  (decide
  (n306 <
  (↑k889 :
  Int)))
  (idx
  o426
  k889
  n306
  3
  fun
  (a93 :
  Addr) =>
  ∃
  (n307
  :
  Int),
  ∃
  (o427
  :
  Option
  Addr),
  ∃
  (k891
  :
  Nat),
  ∃
  (k892
  :
  Nat),
  ∃
  (n308
  :
  Int),
  V.rowAt
  w625
  a93
  0
  3 =
  some
  [Value.int
  IntKind.i64
  n307,
  Value.slice
  o427
  k891
  k892,
  Value.int
  IntKind.i64
  n308] ∧
  new
  w625
  (Obj.cells
  (Array.mk
  [Value.int
  IntKind.i64
  0,
  Value.slice
  none
  0
  0,
  Value.int
  IntKind.i64
  0])
  51)
  fun
  (k893 :
  Nat)
  (w626 :
  World) =>
  stR
  w626
  (Addr.mk
  k893
  0
  none)
  [Value.int
  IntKind.i64
  n307,
  Value.slice
  o427
  k891
  k892,
  Value.int
  IntKind.i64
  n308]
  fun
  (w627 :
  World) =>
  ∃
  (o428
  :
  Option
  Addr),
  World.cell?
  w627
  (Addr.mk
  k44
  0
  none) =
  some
  (Value.pointer
  o428) ∧
  ∃
  (n309
  :
  Int),
  World.cell?
  w627
  (Addr.mk
  k893
  0
  none) =
  some
  (Value.int
  IntKind.i64
  n309) ∧
  RunE
  Proofs.Tryd.prog
  Ev
  63
  [Value.pointer
  o428,
  Value.int
  IntKind.i64
  n309]
  w627
  fun
  (v101 :
  Value)
  (w628 :
  World) =>
  ∃
  (b25
  :
  Bool),
  v101 =
  Value.bool
  b25 ∧
  br
  (!b25)
  (inI
  (n306 +
  1) ∧
  x177
  (n306 +
  1)
  w628 ∧
  x178
  (n306 +
  1)
  w628 <
  x178
  n306
  w625)
  (∃
  (o429
  :
  Option
  Addr),
  ∃
  (n310
  :
  Int),
  V.rowAt
  w628
  (Addr.mk
  k27
  0
  none)
  0
  2 =
  some
  [Value.pointer
  o429,
  Value.int
  IntKind.i64
  n310] ∧
  ∃
  (o430
  :
  Option
  Addr),
  ∃
  (k894
  :
  Nat),
  ∃
  (k895
  :
  Nat),
  World.cell?
  w628
  (Addr.add
  (Addr.mk
  k893
  0
  none)
  1) =
  some
  (Value.slice
  o430
  k894
  k895) ∧
  RunE
  Proofs.Tryd.prog
  Ev
  69
  [Value.agg
  (Array.mk
  [Value.pointer
  o429,
  Value.int
  IntKind.i64
  n310]),
  Value.slice
  o430
  k894
  k895]
  w628
  fun
  (v102 :
  Value)
  (w629 :
  World) =>
  ∃
  (b26
  :
  Bool),
  v102 =
  Value.bool
  b26 ∧
  br
  (!b26)
  (inI
  (n306 +
  1) ∧
  x177
  (n306 +
  1)
  w629 ∧
  x178
  (n306 +
  1)
  w629 <
  x178
  n306
  w625)
  (∀
  (w630 :
  World),
  drawn
  w629
  w630 →
  ∃
  (I83
  :
  World →
  Prop),
  I83
  w630 ∧
  ∃
  (o431
  :
  Option
  Addr),
  ∃
  (k896
  :
  Nat),
  ∃
  (k897
  :
  Nat),
  (∀
  (w631 :
  World),
  I83
  w631 →
  World.cell?
  w631
  (Addr.mk
  k870
  0
  none) =
  some
  (Value.slice
  o431
  k896
  k897)) ∧
  ∃
  (n311
  :
  Int),
  (∀
  (w632 :
  World),
  I83
  w632 →
  World.cell?
  w632
  (Addr.mk
  k893
  0
  none) =
  some
  (Value.int
  IntKind.i64
  n311)) ∧
  idx
  o431
  k896
  n311
  1
  fun
  (a94 :
  Addr) =>
  ∃
  (n312
  :
  Int),
  (∀
  (w633 :
  World),
  I83
  w633 →
  World.cell?
  w633
  a94 =
  some
  (Value.int
  IntKind.i64
  n312)) ∧
  ∃
  (n313
  :
  Int),
  (∀
  (w634 :
  World),
  I83
  w634 →
  World.cell?
  w634
  (Addr.add
  (Addr.mk
  k893
  0
  none)
  2) =
  some
  (Value.int
  IntKind.i64
  n313)) ∧
  new
  w630
  (Obj.cells
  (Array.mk
  [Value.int
  IntKind.i64
  0,
  Value.slice
  none
  0
  0,
  Value.int
  IntKind.i64
  0])
  51)
  fun
  (k898 :
  Nat)
  (w635 :
  World) =>
  I83
  w635 ∧
  stR
  w635
  (Addr.mk
  k898
  0
  none)
  [Value.int
  IntKind.i64
  n312,
  Value.slice
  none
  0
  0,
  Value.int
  IntKind.i64
  n313]
  fun
  (w636 :
  World) =>
  ∃
  (o432
  :
  Option
  Addr),
  ∃
  (k899
  :
  Nat),
  ∃
  (k900
  :
  Nat),
  World.cell?
  w636
  (Addr.add
  (Addr.mk
  k893
  0
  none)
  1) =
  some
  (Value.slice
  o432
  k899
  k900) ∧
  ∃
  (x179
  :
  arrS
  (shs
  [(121,
  S1.one
  (Cs.int
  IntKind.i64))])
  (World →
  Prop)),
  ∃
  (x180
  :
  arrS
  (shs
  [(121,
  S1.one
  (Cs.int
  IntKind.i64))])
  (World →
  Nat)),
  x179
  0
  w636 ∧
  ∀
  (I84 :
  Nat →
  Value)
  (n314 :
  Int)
  (w637 :
  World),
  x179
  n314
  w637 →
  br
  (decide
  (n314 <
  (↑k899 :
  Int)))
  (idx
  o432
  k899
  n314
  1
  fun
  (a95 :
  Addr) =>
  ∃
  (n315
  :
  Int),
  World.cell?
  w637
  a95 =
  some
  (Value.int
  IntKind.i64
  n315) ∧
  ∀
  (w638 :
  World),
  drawn
  w637
  w638 →
  ∃
  (I85
  :
  World →
  Prop),
  I85
  w638 ∧
  ∃
  (o433
  :
  Option
  Addr),
  ∃
  (k901
  :
  Nat),
  ∃
  (k902
  :
  Nat),
  (∀
  (w639 :
  World),
  I85
  w639 →
  World.cell?
  w639
  (Addr.add
  (Addr.mk
  k898
  0
  none)
  1) =
  some
  (Value.slice
  o433
  k901
  k902)) ∧
  ∃
  (o434
  :
  Option
  Addr),
  ∃
  (k903
  :
  Nat),
  ∃
  (k904
  :
  Nat),
  (∀
  (w640 :
  World),
  I85
  w640 →
  World.cell?
  w640
  (Addr.mk
  k870
  0
  none) =
  some
  (Value.slice
  o434
  k903
  k904)) ∧
  idx
  o434
  k903
  n315
  1
  fun
  (a96 :
  Addr) =>
  ∃
  (n316
  :
  Int),
  (∀
  (w641 :
  World),
  I85
  w641 →
  World.cell?
  w641
  a96 =
  some
  (Value.int
  IntKind.i64
  n316)) ∧
  new
  w638
  (Obj.cells
  (Array.mk
  [Value.int
  IntKind.i64
  n316])
  3)
  fun
  (k905 :
  Nat)
  (w642 :
  World) =>
  I85
  w642 ∧
  RunS
  Proofs.Tryd.prog
  (Builtin.append_
  (Array.mk
  [24,
  24])
  24
  (Array.mk
  [Value.slice
  o433
  k901
  k902,
  Value.slice
  (some
  (Addr.mk
  k905
  0
  none))
  1
  1]))
  w642
  fun
  (v103 :
  Value)
  (w643 :
  World) =>
  ∃
  (o435
  :
  Option
  Addr),
  ∃
  (k906
  :
  Nat),
  ∃
  (k907
  :
  Nat),
  v103 =
  Value.slice
  o435
  k906
  k907 ∧
  I85
  w643 ∧
  st1
  w643
  (Addr.add
  (Addr.mk
  k898
  0
  none)
  1)
  (Value.slice
  o435
  k906
  k907)
  fun
  (w644 :
  World) =>
  inI
  (n314 +
  1) ∧
  x179
  (n314 +
  1)
  w644 ∧
  x180
  (n314 +
  1)
  w644 <
  x180
  n314
  w637)
  (∃
  (o436
  :
  Option
  Addr),
  ∃
  (k908
  :
  Nat),
  ∃
  (k909
  :
  Nat),
  World.cell?
  w637
  (Addr.add
  (Addr.mk
  k715
  0
  none)
  4) =
  some
  (Value.slice
  o436
  k908
  k909) ∧
  ∃
  (n317
  :
  Int),
  ∃
  (o437
  :
  Option
  Addr),
  ∃
  (k910
  :
  Nat),
  ∃
  (k911
  :
  Nat),
  ∃
  (n318
  :
  Int),
  V.rowAt
  w637
  (Addr.mk
  k898
  0
  none)
  0
  3 =
  some
  [Value.int
  IntKind.i64
  n317,
  Value.slice
  o437
  k910
  k911,
  Value.int
  IntKind.i64
  n318] ∧
  new
  w637
  (Obj.cells
  (Array.mk
  [Value.int
  IntKind.i64
  n317,
  Value.slice
  o437
  k910
  k911,
  Value.int
  IntKind.i64
  n318])
  51)
  fun
  (k912 :
  Nat)
  (w645 :
  World) =>
  RunS
  Proofs.Tryd.prog
  (Builtin.append_
  (Array.mk
  [25,
  25])
  25
  (Array.mk
  [Value.slice
  o436
  k908
  k909,
  Value.slice
  (some
  (Addr.mk
  k912
  0
  none))
  1
  1]))
  w645
  fun
  (v104 :
  Value)
  (w646 :
  World) =>
  ∃
  (o438
  :
  Option
  Addr),
  ∃
  (k913
  :
  Nat),
  ∃
  (k914
  :
  Nat),
  v104 =
  Value.slice
  o438
  k913
  k914 ∧
  st1
  w646
  (Addr.add
  (Addr.mk
  k715
  0
  none)
  4)
  (Value.slice
  o438
  k913
  k914)
  fun
  (w647 :
  World) =>
  inI
  (n306 +
  1) ∧
  x177
  (n306 +
  1)
  w647 ∧
  x178
  (n306 +
  1)
  w647 <
  x178
  n306
  w625))))
  (∃
  (o439
  :
  Option
  Addr),
  ∃
  (k915
  :
  Nat),
  ∃
  (k916
  :
  Nat),
  ∃
  (o440
  :
  Option
  Addr),
  ∃
  (k917
  :
  Nat),
  ∃
  (k918
  :
  Nat),
  ∃
  (o441
  :
  Option
  Addr),
  ∃
  (k919
  :
  Nat),
  ∃
  (k920
  :
  Nat),
  ∃
  (n319
  :
  Int),
  ∃
  (o442
  :
  Option
  Addr),
  ∃
  (k921
  :
  Nat),
  ∃
  (k922
  :
  Nat),
  V.rowAt
  w625
  (Addr.mk
  k715
  0
  none)
  0
  5 =
  some
  [Value.slice
  o439
  k915
  k916,
  Value.slice
  o440
  k917
  k918,
  Value.slice
  o441
  k919
  k920,
  Value.int
  IntKind.i64
  n319,
  Value.slice
  o442
  k921
  k922] ∧
  stR
  w625
  (Addr.mk
  k2
  0
  none)
  [Value.slice
  o439
  k915
  k916,
  Value.slice
  o440
  k917
  k918,
  Value.slice
  o441
  k919
  k920,
  Value.int
  IntKind.i64
  n319,
  Value.slice
  o442
  k921
  k922]
  fun
  (w648 :
  World) =>
  ∃
  (o443
  :
  Option
  Addr),
  ∃
  (k923
  :
  Nat),
  ∃
  (k924
  :
  Nat),
  ∃
  (o444
  :
  Option
  Addr),
  ∃
  (k925
  :
  Nat),
  ∃
  (k926
  :
  Nat),
  ∃
  (o445
  :
  Option
  Addr),
  ∃
  (k927
  :
  Nat),
  ∃
  (k928
  :
  Nat),
  ∃
  (n320
  :
  Int),
  ∃
  (o446
  :
  Option
  Addr),
  ∃
  (k929
  :
  Nat),
  ∃
  (k930
  :
  Nat),
  V.rowAt
  w648
  (Addr.mk
  k2
  0
  none)
  0
  5 =
  some
  [Value.slice
  o443
  k923
  k924,
  Value.slice
  o444
  k925
  k926,
  Value.slice
  o445
  k927
  k928,
  Value.int
  IntKind.i64
  n320,
  Value.slice
  o446
  k929
  k930] ∧
  ∀
  (w649 :
  World),
  hp
  w649 =
  hp
  w648 →
  R
  (Value.tuple
  (Array.mk
  [Value.agg
  (Array.mk
  [Value.slice
  o443
  k923
  k924,
  Value.slice
  o444
  k925
  k926,
  Value.slice
  o445
  k927
  k928,
  Value.int
  IntKind.i64
  n320,
  Value.slice
  o446
  k929
  k930]),
  Value.int
  IntKind.i64
  0]))
  w649)) ∧
  (∀
  (w650 :
  World),
  St
  w650
  (x170 ::
  x168 ::
  x171) →
  ∃
  (o447
  :
  Option
  Addr),
  ∃
  (k931
  :
  Nat),
  ∃
  (k932
  :
  Nat),
  ∃
  (o448
  :
  Option
  Addr),
  ∃
  (k933
  :
  Nat),
  ∃
  (k934
  :
  Nat),
  ∃
  (o449
  :
  Option
  Addr),
  ∃
  (k935
  :
  Nat),
  ∃
  (k936
  :
  Nat),
  ∃
  (n321
  :
  Int),
  ∃
  (o450
  :
  Option
  Addr),
  ∃
  (k937
  :
  Nat),
  ∃
  (k938
  :
  Nat),
  V.rowAt
  w650
  (Addr.mk
  k2
  0
  none)
  0
  5 =
  some
  [Value.slice
  o447
  k931
  k932,
  Value.slice
  o448
  k933
  k934,
  Value.slice
  o449
  k935
  k936,
  Value.int
  IntKind.i64
  n321,
  Value.slice
  o450
  k937
  k938] ∧
  ∀
  (w651 :
  World),
  hp
  w651 =
  hp
  w650 →
  R
  (Value.tuple
  (Array.mk
  [Value.agg
  (Array.mk
  [Value.slice
  o447
  k931
  k932,
  Value.slice
  o448
  k933
  k934,
  Value.slice
  o449
  k935
  k936,
  Value.int
  IntKind.i64
  n321,
  Value.slice
  o450
  k937
  k938]),
  Value.int
  IntKind.i64
  0]))
  w651) ∧
  True)))
set_option maxRecDepth 100000 in
theorem run_reach_Reduce (p0g_0a : Option Addr) (p0g_0l : Nat) (p0g_0c : Nat) (p0g_1a : Option Addr) (p0g_1l : Nat) (p0g_1c : Nat) (p0g_2a : Option Addr) (p0g_2l : Nat) (p0g_2c : Nat) (p0g_3 : Int) (p0g_4a : Option Addr) (p0g_4l : Nat) (p0g_4c : Nat) (w : World) (R : Value → World → Prop) (h : vc_reach_Reduce p0g_0a p0g_0l p0g_0c p0g_1a p0g_1l p0g_1c p0g_2a p0g_2l p0g_2c p0g_3 p0g_4a p0g_4l p0g_4c w R) : Run Tryd.prog 31 [(.agg #[(.slice p0g_0a p0g_0l p0g_0c), (.slice p0g_1a p0g_1l p0g_1c), (.slice p0g_2a p0g_2l p0g_2c), (.int .i64 p0g_3), (.slice p0g_4a p0g_4l p0g_4c)])] w R :=
  run_ev tyOk fnOk mixed Tryd.func31 ann_reach_Reduce ((by kernel_rfl : fnV Tryd.prog Ty Fn Ev ann_reach_Reduce Tryd.f31 [(.agg #[(.slice p0g_0a p0g_0l p0g_0c), (.slice p0g_1a p0g_1l p0g_1c), (.slice p0g_2a p0g_2l p0g_2c), (.int .i64 p0g_3), (.slice p0g_4a p0g_4l p0g_4c)])] w R = vc_reach_Reduce p0g_0a p0g_0l p0g_0c p0g_1a p0g_1l p0g_1c p0g_2a p0g_2l p0g_2c p0g_3 p0g_4a p0g_4l p0g_4c w R) ▸ h)

end Go.Proofs.YtaheggomcnbbiaaDoor
set_option linter.unusedVariables false
namespace Go.Proofs.YtaheggomcnbbiaaDoor
open Go.V
set_option maxRecDepth 100000 in
def tail_Red (k1 k2 k27 k44 k54 : Nat) (w22 : World) (R : Value → World → Prop) : Prop :=
  ∃ (o29 : Option Addr), World.cell? w22 (Addr.mk k44 0 none) = some (Value.pointer o29) ∧ RunE Proofs.Tryd.prog Ev 67 [Value.pointer o29] w22 fun (v7 :
  Value) (w23 : World) => ∃ (n10 : Int), v7 = Value.int IntKind.i64 n10 ∧ mkOk n10 n10 8 ∧ new w23 (Obj.cells (Array.mk (reps (Int.toNat n10) [Value.int
  IntKind.i64 0])) 3) fun (k55 : Nat) (w24 : World) => new w24 (Obj.cells (Array.mk [Value.slice none 0 0]) 24) fun (k56 : Nat) (w25 : World) => st1 w25
  (Addr.mk k56 0 none) (Value.slice (some (Addr.mk k55 0 none)) (Int.toNat n10) (Int.toNat n10)) fun (w26 : World) => ∃ (o30 : Option Addr), World.cell?
  w26 (Addr.mk k44 0 none) = some (Value.pointer o30) ∧ RunE Proofs.Tryd.prog Ev 68 [Value.pointer o30] w26 fun (v8 : Value) (w27 : World) => ∃ (g1 :
  FuncId), ∃ (x1 : List Value), v8 = Value.func (Fn.func g1) (Array.mk []) (Array.mk x1) ∧ ifT (Proofs.YtaheggomcnbbiaaDoor.Fn g1) (∃ (x2 : List (List Value)), ∃ (x3 :
  Asn), ∃ (x4 : Asn), ∃ (I2 : Nat → Asn), ∃ (x5 : Asn), ∃ (I3 : Nat → Asn), ∃ (x6 : List Asn), St w27 (I2 0 :: x3 :: x6) ∧ (∀ (x7 : Hp), starL x6 x7 → x4
  x7) ∧ Itr Proofs.Tryd.prog g1 [] x1 x3 x4 x2 ∧ (∀ (x8 : List Value), x8 ∈ x2 → ∃ (n11 : Int), x8 = [Value.int IntKind.i64 n11]) ∧ (∀ (k57 : Nat) (n12 :
  Int), List.get?Internal x2 k57 = some [Value.int IntKind.i64 n12] → ∀ (x9 : List Asn) (w28 : World), Sup x9 x6 → St w28 (I2 k57 :: x9) → ∃ (x10 : Asn),
  St w28 (x10 :: x9) ∧ ∀ (x11 : List Asn) (w29 : World), Sup x11 x6 → St w29 (x10 :: x11) → ∃ (o31 : Option Addr), ∃ (k58 : Nat), ∃ (k59 : Nat),
  World.cell? w29 (Addr.mk k56 0 none) = some (Value.slice o31 k58 k59) ∧ idx o31 k58 n12 1 fun (a1 : Addr) => st1 w29 a1 (Value.int IntKind.i64 n12) fun
  (w30 : World) => ∃ (n13 : Int), World.cell? w30 (Addr.add (Addr.mk k44 0 none) 1) = some (Value.int IntKind.i64 n13) ∧ br (decide (n13 ≤ n12)) (∃ (o32
  : Option Addr), ∃ (k60 : Nat), ∃ (k61 : Nat), World.cell? w30 (Addr.mk k56 0 none) = some (Value.slice o32 k60 k61) ∧ ∃ (n14 : Int), World.cell? w30
  (Addr.add (Addr.mk k44 0 none) 1) = some (Value.int IntKind.i64 n14) ∧ ∃ (o33 : Option Addr), ∃ (k62 : Nat), ∃ (k63 : Nat), World.cell? w30 (Addr.add
  (Addr.mk k54 0 none) 1) = some (Value.slice o33 k62 k63) ∧ inI (n14 + (↑k62 : Int)) ∧ idx o32 k60 n12 1 fun (a2 : Addr) => st1 w30 a2 (Value.int
  IntKind.i64 (n14 + (↑k62 : Int))) fun (w31 : World) => ∀ (w32 : World), drawn w31 w32 → ∃ (I4 : World → Prop), I4 w32 ∧ ∃ (o34 : Option Addr), ∃ (k64 :
  Nat), ∃ (k65 : Nat), (∀ (w33 : World), I4 w33 → World.cell? w33 (Addr.add (Addr.mk k54 0 none) 1) = some (Value.slice o34 k64 k65)) ∧ ∃ (o35 : Option
  Addr), ∃ (k66 : Nat), ∃ (k67 : Nat), (∀ (w34 : World), I4 w34 → World.cell? w34 (Addr.add (Addr.mk k1 0 none) 1) = some (Value.slice o35 k66 k67)) ∧ ∃
  (n15 : Int), (∀ (w35 : World), I4 w35 → World.cell? w35 (Addr.add (Addr.mk k44 0 none) 1) = some (Value.int IntKind.i64 n15)) ∧ inI (n12 - n15) ∧ idx
  o35 k66 (n12 - n15) 1 fun (a3 : Addr) => ∃ (s1 : ByteArray), (∀ (w36 : World), I4 w36 → World.cell? w36 a3 = some (Value.string s1)) ∧ new w32
  (Obj.cells (Array.mk [Value.string s1]) 9) fun (k68 : Nat) (w37 : World) => I4 w37 ∧ RunS Proofs.Tryd.prog (Builtin.append_ (Array.mk [23, 23]) 23
  (Array.mk [Value.slice o34 k64 k65, Value.slice (some (Addr.mk k68 0 none)) 1 1])) w37 fun (v9 : Value) (w38 : World) => ∃ (o36 : Option Addr), ∃ (k69
  : Nat), ∃ (k70 : Nat), v9 = Value.slice o36 k69 k70 ∧ I4 w38 ∧ st1 w38 (Addr.add (Addr.mk k54 0 none) 1) (Value.slice o36 k69 k70) fun (w39 : World) =>
  St w39 (I2 (k57 + 1) :: x11)) (St w30 (I2 (k57 + 1) :: x11))) ∧ (∀ (w40 : World), St w40 (I2 (List.length x2) :: x3 :: x6) → ∃ (o37 : Option Addr), ∃
  (k71 : Nat), ∃ (k72 : Nat), World.cell? w40 (Addr.mk k56 0 none) = some (Value.slice o37 k71 k72) ∧ ∃ (n16 : Int), World.cell? w40 (Addr.add (Addr.mk
  k1 0 none) 3) = some (Value.int IntKind.i64 n16) ∧ idx o37 k71 n16 1 fun (a4 : Addr) => ∃ (n17 : Int), World.cell? w40 a4 = some (Value.int IntKind.i64
  n17) ∧ st1 w40 (Addr.add (Addr.mk k54 0 none) 3) (Value.int IntKind.i64 n17) fun (w41 : World) => ∃ (n18 : Int), World.cell? w41 (Addr.add (Addr.mk k44
  0 none) 1) = some (Value.int IntKind.i64 n18) ∧ ∃ (n19 : Int), World.cell? w41 (Addr.add (Addr.mk k54 0 none) 3) = some (Value.int IntKind.i64 n19) ∧
  new w41 (Obj.cells (Array.mk [Value.int IntKind.i64 n19]) 3) fun (k73 : Nat) (w42 : World) => new w42 (Obj.cells (Array.mk [Value.int IntKind.i64 n18,
  Value.slice (some (Addr.mk k73 0 none)) 1 1, Value.int IntKind.i64 0]) 51) fun (k74 : Nat) (w43 : World) => st1 w43 (Addr.add (Addr.mk k54 0 none) 4)
  (Value.slice (some (Addr.mk k74 0 none)) 1 1) fun (w44 : World) => ∃ (o38 : Option Addr), ∃ (k75 : Nat), ∃ (k76 : Nat), World.cell? w44 (Addr.add
  (Addr.mk k1 0 none) 4) = some (Value.slice o38 k75 k76) ∧ ∃ (x12 : arrS (shs [(93, S1.one (Cs.int IntKind.i64))]) (World → Prop)), ∃ (x13 : arrS (shs
  [(93, S1.one (Cs.int IntKind.i64))]) (World → Nat)), x12 0 w44 ∧ ∀ (I5 : Nat → Value) (n20 : Int) (w45 : World), x12 n20 w45 → br (decide (n20 < (↑k75
  : Int))) (idx o38 k75 n20 3 fun (a5 : Addr) => ∃ (n21 : Int), ∃ (o39 : Option Addr), ∃ (k77 : Nat), ∃ (k78 : Nat), ∃ (n22 : Int), V.rowAt w45 a5 0 3 =
  some [Value.int IntKind.i64 n21, Value.slice o39 k77 k78, Value.int IntKind.i64 n22] ∧ new w45 (Obj.cells (Array.mk [Value.int IntKind.i64 0,
  Value.slice none 0 0, Value.int IntKind.i64 0]) 51) fun (k79 : Nat) (w46 : World) => stR w46 (Addr.mk k79 0 none) [Value.int IntKind.i64 n21,
  Value.slice o39 k77 k78, Value.int IntKind.i64 n22] fun (w47 : World) => ∃ (o40 : Option Addr), World.cell? w47 (Addr.mk k44 0 none) = some
  (Value.pointer o40) ∧ ∃ (n23 : Int), World.cell? w47 (Addr.mk k79 0 none) = some (Value.int IntKind.i64 n23) ∧ RunE Proofs.Tryd.prog Ev 63
  [Value.pointer o40, Value.int IntKind.i64 n23] w47 fun (v10 : Value) (w48 : World) => ∃ (b3 : Bool), v10 = Value.bool b3 ∧ br (!b3) (inI (n20 + 1) ∧
  x12 (n20 + 1) w48 ∧ x13 (n20 + 1) w48 < x13 n20 w45) (∃ (o41 : Option Addr), ∃ (n24 : Int), V.rowAt w48 (Addr.mk k27 0 none) 0 2 = some [Value.pointer
  o41, Value.int IntKind.i64 n24] ∧ ∃ (o42 : Option Addr), ∃ (k80 : Nat), ∃ (k81 : Nat), World.cell? w48 (Addr.add (Addr.mk k79 0 none) 1) = some
  (Value.slice o42 k80 k81) ∧ RunE Proofs.Tryd.prog Ev 69 [Value.agg (Array.mk [Value.pointer o41, Value.int IntKind.i64 n24]), Value.slice o42 k80 k81]
  w48 fun (v11 : Value) (w49 : World) => ∃ (b4 : Bool), v11 = Value.bool b4 ∧ br (!b4) (inI (n20 + 1) ∧ x12 (n20 + 1) w49 ∧ x13 (n20 + 1) w49 < x13 n20
  w45) (∀ (w50 : World), drawn w49 w50 → ∃ (I6 : World → Prop), I6 w50 ∧ ∃ (o43 : Option Addr), ∃ (k82 : Nat), ∃ (k83 : Nat), (∀ (w51 : World), I6 w51 →
  World.cell? w51 (Addr.mk k56 0 none) = some (Value.slice o43 k82 k83)) ∧ ∃ (n25 : Int), (∀ (w52 : World), I6 w52 → World.cell? w52 (Addr.mk k79 0 none)
  = some (Value.int IntKind.i64 n25)) ∧ idx o43 k82 n25 1 fun (a6 : Addr) => ∃ (n26 : Int), (∀ (w53 : World), I6 w53 → World.cell? w53 a6 = some
  (Value.int IntKind.i64 n26)) ∧ ∃ (n27 : Int), (∀ (w54 : World), I6 w54 → World.cell? w54 (Addr.add (Addr.mk k79 0 none) 2) = some (Value.int
  IntKind.i64 n27)) ∧ new w50 (Obj.cells (Array.mk [Value.int IntKind.i64 0, Value.slice none 0 0, Value.int IntKind.i64 0]) 51) fun (k84 : Nat) (w55 :
  World) => I6 w55 ∧ stR w55 (Addr.mk k84 0 none) [Value.int IntKind.i64 n26, Value.slice none 0 0, Value.int IntKind.i64 n27] fun (w56 : World) => ∃
  (o44 : Option Addr), ∃ (k85 : Nat), ∃ (k86 : Nat), World.cell? w56 (Addr.add (Addr.mk k79 0 none) 1) = some (Value.slice o44 k85 k86) ∧ ∃ (x14 : arrS
  (shs [(121, S1.one (Cs.int IntKind.i64))]) (World → Prop)), ∃ (x15 : arrS (shs [(121, S1.one (Cs.int IntKind.i64))]) (World → Nat)), x14 0 w56 ∧ ∀ (I7
  : Nat → Value) (n28 : Int) (w57 : World), x14 n28 w57 → br (decide (n28 < (↑k85 : Int))) (idx o44 k85 n28 1 fun (a7 : Addr) => ∃ (n29 : Int),
  World.cell? w57 a7 = some (Value.int IntKind.i64 n29) ∧ ∀ (w58 : World), drawn w57 w58 → ∃ (I8 : World → Prop), I8 w58 ∧ ∃ (o45 : Option Addr), ∃ (k87
  : Nat), ∃ (k88 : Nat), (∀ (w59 : World), I8 w59 → World.cell? w59 (Addr.add (Addr.mk k84 0 none) 1) = some (Value.slice o45 k87 k88)) ∧ ∃ (o46 : Option
  Addr), ∃ (k89 : Nat), ∃ (k90 : Nat), (∀ (w60 : World), I8 w60 → World.cell? w60 (Addr.mk k56 0 none) = some (Value.slice o46 k89 k90)) ∧ idx o46 k89
  n29 1 fun (a8 : Addr) => ∃ (n30 : Int), (∀ (w61 : World), I8 w61 → World.cell? w61 a8 = some (Value.int IntKind.i64 n30)) ∧ new w58 (Obj.cells
  (Array.mk [Value.int IntKind.i64 n30]) 3) fun (k91 : Nat) (w62 : World) => I8 w62 ∧ RunS Proofs.Tryd.prog (Builtin.append_ (Array.mk [24, 24]) 24
  (Array.mk [Value.slice o45 k87 k88, Value.slice (some (Addr.mk k91 0 none)) 1 1])) w62 fun (v12 : Value) (w63 : World) => ∃ (o47 : Option Addr), ∃ (k92
  : Nat), ∃ (k93 : Nat), v12 = Value.slice o47 k92 k93 ∧ I8 w63 ∧ st1 w63 (Addr.add (Addr.mk k84 0 none) 1) (Value.slice o47 k92 k93) fun (w64 : World)
  => inI (n28 + 1) ∧ x14 (n28 + 1) w64 ∧ x15 (n28 + 1) w64 < x15 n28 w57) (∃ (o48 : Option Addr), ∃ (k94 : Nat), ∃ (k95 : Nat), World.cell? w57 (Addr.add
  (Addr.mk k54 0 none) 4) = some (Value.slice o48 k94 k95) ∧ ∃ (n31 : Int), ∃ (o49 : Option Addr), ∃ (k96 : Nat), ∃ (k97 : Nat), ∃ (n32 : Int), V.rowAt
  w57 (Addr.mk k84 0 none) 0 3 = some [Value.int IntKind.i64 n31, Value.slice o49 k96 k97, Value.int IntKind.i64 n32] ∧ new w57 (Obj.cells (Array.mk
  [Value.int IntKind.i64 n31, Value.slice o49 k96 k97, Value.int IntKind.i64 n32]) 51) fun (k98 : Nat) (w65 : World) => RunS Proofs.Tryd.prog
  (Builtin.append_ (Array.mk [25, 25]) 25 (Array.mk [Value.slice o48 k94 k95, Value.slice (some (Addr.mk k98 0 none)) 1 1])) w65 fun (v13 : Value) (w66 :
  World) => ∃ (o50 : Option Addr), ∃ (k99 : Nat), ∃ (k100 : Nat), v13 = Value.slice o50 k99 k100 ∧ st1 w66 (Addr.add (Addr.mk k54 0 none) 4) (Value.slice
  o50 k99 k100) fun (w67 : World) => inI (n20 + 1) ∧ x12 (n20 + 1) w67 ∧ x13 (n20 + 1) w67 < x13 n20 w45)))) (∃ (o51 : Option Addr), ∃ (k101 : Nat), ∃
  (k102 : Nat), ∃ (o52 : Option Addr), ∃ (k103 : Nat), ∃ (k104 : Nat), ∃ (o53 : Option Addr), ∃ (k105 : Nat), ∃ (k106 : Nat), ∃ (n33 : Int), ∃ (o54 :
  Option Addr), ∃ (k107 : Nat), ∃ (k108 : Nat), V.rowAt w45 (Addr.mk k54 0 none) 0 5 = some [Value.slice o51 k101 k102, Value.slice o52 k103 k104,
  Value.slice o53 k105 k106, Value.int IntKind.i64 n33, Value.slice o54 k107 k108] ∧ stR w45 (Addr.mk k2 0 none) [Value.slice o51 k101 k102, Value.slice
  o52 k103 k104, Value.slice o53 k105 k106, Value.int IntKind.i64 n33, Value.slice o54 k107 k108] fun (w68 : World) => ∃ (o55 : Option Addr), ∃ (k109 :
  Nat), ∃ (k110 : Nat), ∃ (o56 : Option Addr), ∃ (k111 : Nat), ∃ (k112 : Nat), ∃ (o57 : Option Addr), ∃ (k113 : Nat), ∃ (k114 : Nat), ∃ (n34 : Int), ∃
  (o58 : Option Addr), ∃ (k115 : Nat), ∃ (k116 : Nat), V.rowAt w68 (Addr.mk k2 0 none) 0 5 = some [Value.slice o55 k109 k110, Value.slice o56 k111 k112,
  Value.slice o57 k113 k114, Value.int IntKind.i64 n34, Value.slice o58 k115 k116] ∧ ∀ (w69 : World), hp w69 = hp w68 → R (Value.tuple (Array.mk
  [Value.agg (Array.mk [Value.slice o55 k109 k110, Value.slice o56 k111 k112, Value.slice o57 k113 k114, Value.int IntKind.i64 n34, Value.slice o58 k115
  k116]), Value.int IntKind.i64 0])) w69)) ∧ (∀ (w70 : World), St w70 (x5 :: x3 :: x6) → ∃ (o59 : Option Addr), ∃ (k117 : Nat), ∃ (k118 : Nat), ∃ (o60 :
  Option Addr), ∃ (k119 : Nat), ∃ (k120 : Nat), ∃ (o61 : Option Addr), ∃ (k121 : Nat), ∃ (k122 : Nat), ∃ (n35 : Int), ∃ (o62 : Option Addr), ∃ (k123 :
  Nat), ∃ (k124 : Nat), V.rowAt w70 (Addr.mk k2 0 none) 0 5 = some [Value.slice o59 k117 k118, Value.slice o60 k119 k120, Value.slice o61 k121 k122,
  Value.int IntKind.i64 n35, Value.slice o62 k123 k124] ∧ ∀ (w71 : World), hp w71 = hp w70 → R (Value.tuple (Array.mk [Value.agg (Array.mk [Value.slice
  o59 k117 k118, Value.slice o60 k119 k120, Value.slice o61 k121 k122, Value.int IntKind.i64 n35, Value.slice o62 k123 k124]), Value.int IntKind.i64 0]))
  w71) ∧ True)
end Go.Proofs.YtaheggomcnbbiaaDoor
set_option linter.unusedVariables false
namespace Go.V
theorem starL_freezeL : ∀ (N : List Asn) {M : List Asn} {h : Hp}, starL (N ++ M) h → ∃ h0, starL M h0 ∧ sub h0 h ∧ starL (N ++ [has h0]) h
  | [], M, h, hs => ⟨h, hs, sub.refl _, has_i (sub.refl _)⟩
  | A :: N, M, h, ⟨h1, h2, d, s1, s2, ha, hl⟩ => by
    obtain ⟨h0, k1, k2, k3⟩ := starL_freezeL N hl
    exact ⟨h0, k1, sub.trans k2 s2, h1, h2, d, s1, s2, ha, k3⟩
theorem St.freezeL {w : World} (N : List Asn) {M : List Asn} (h : St w (N ++ M)) : ∃ h0, starL M h0 ∧ St w (N ++ [V.has h0]) := by
  obtain ⟨h0, h1, _, h3⟩ := starL_freezeL N h
  exact ⟨h0, h1, h3⟩
theorem rdSet {L : List Asn} {h : Hp} {p : Option Addr} {bs : List Bool} (i : Nat) (hl : starL L h) (e : nthA L i = setO p bs := by rfl) (hi : Nat.blt i (lenA L) = true := by rfl) : setR h p bs := by
  obtain ⟨h1, s, ha⟩ := starL_nth i (by simpa [lenA_eq] using hi) hl
  rw [e] at ha
  exact (setO_R ha).mono s
theorem iv_set (xs : List Int) (i : Nat) (v : Int) : (iv xs).set i (.int .i64 v) = iv (xs.set i v) := by simp [iv, List.map_set]
theorem iv_rep (n : Nat) : List.replicate n (Value.int .i64 0) = iv (List.replicate n 0) := by simp [iv]
theorem set_set' {α : Type} (xs : List α) (i : Nat) (a b : α) : (xs.set i a).set i b = xs.set i b := by simp
theorem cel_num {w : World} {k u : Nat} {xs : List Int} {v : Int} (r : rowH (hp w) ⟨k, 0, none⟩ (iv xs)) (h : xs[u]? = some v) : w.cell? ((⟨k, 0, none⟩ : Addr).add u) = some (.int .i64 v) := r.cell (sub.refl _) (j := u) (by unfold iv; rw [List.getElem?_map, h]; rfl)
end Go.V
namespace Go.Proofs.YtaheggomcnbbiaaDoor
open Go.V
section
variable {w : World} {g : GramT} {x : GA}
set_option maxHeartbeats 8000000 in
theorem r_tail {H : Hp} {k1 k2 k27 k44 k54 k53 tc lc : Nat} {ta la qm qi : Option Addr} {may bs : List Bool} {R : Value → World → Prop} (hg : gR H g x) (B : GB H k1 x) (hb : okG g) (he : EitherP g) (hpd : PdP g may) (hus : UsP g bs) (hm : setR H qm may) (hi : setR H qi bs)
    (r27 : rowH H ⟨k27, 0, none⟩ [.pointer qm, .int .i64 (g.T : Int)]) (r44 : rowH H ⟨k44, 0, none⟩ [.pointer qi, .int .i64 (g.T : Int)]) (ht : tabA H)
    (h : St w [cel k54 [.slice ta g.terms.length tc, .slice (some ⟨k53, 0, none⟩) 1 1, .slice la g.levels.length lc, .int .i64 0, .slice none 0 0], own 2 ta g.terms.length tc (termsV g.terms), own 1 (some ⟨k53, 0, none⟩) 1 1 [.string .empty], own 1 la g.levels.length lc (iv g.levels), cel k2 [.slice none 0 0, .slice none 0 0, .slice none 0 0, .int .i64 0, .slice none 0 0], has H])
    (hR : ∀ (x' : GA) os w', ownX (redG g (may.drop g.T) (bs.drop g.T)) x' → os.length = (redG g (may.drop g.T) (bs.drop g.T)).prods.length → St w' (ownG (redG g (may.drop g.T) (bs.drop g.T)) x' os ++ [has H]) → R (.tuple #[.agg ⟨x'.cells⟩, .int .i64 0]) w') : tail_Red k1 k2 k27 k44 k54 w R := by
  unfold tail_Red
  obtain ⟨iG, bT, bN, pN, pT, bP⟩ := inG he
  obtain ⟨sg1, sg2⟩ := start_in he
  have tl : g.T = x.tl := hg.t.1
  have nl : g.N = x.nl := hg.n.1
  have pl := hg.p.1
  have hsx := hg.s
  have hbl := hus.1
  obtain ⟨b1, b2, b3, b4, b5, b6, b7⟩ := id hb
  obtain ⟨n, hn⟩ : ∃ n, n = g.T + g.N := ⟨_, rfl⟩
  rw [← hn] at hbl
  obtain ⟨uns, hun⟩ : ∃ uns, uns = bs.drop g.T := ⟨_, rfl⟩
  obtain ⟨pds, hpds⟩ : ∃ pds, pds = may.drop g.T := ⟨_, rfl⟩
  rw [← hun, ← hpds] at hR
  refine ⟨_, r44.cell0 (rdH 5 h.l), (s_Size (hi.mono (rdH 5 h.l))).mono ?_⟩
  rintro _ w23 ⟨rfl, rfl⟩
  refine ⟨_, rfl, ?_⟩
  rw [hbl]
  refine ⟨⟨by omega, rfl, by omega⟩, ?_⟩
  rw [Int.toNat_natCast, reps_one, iv_rep, ← toF_nil g.T n uns]
  refine newC_i h fun k55 w24 h => newC_i h fun k56 w25 h => st1_i h (by simp) fun w26 h => ⟨_, r44.cell0 (rdH 7 h.l), ?_⟩
  refine (s_All (hi.mono (rdH 7 h.l))).mono ?_
  rintro _ w27 ⟨b, rfl, h9⟩
  have h := h9.on1 h
  obtain ⟨ks, hks⟩ : ∃ ks, ks = mb bs := ⟨_, rfl⟩
  have hTs : ∀ {w : World}, sub H (hp w) → w.cell? ((⟨k44, 0, none⟩ : Addr).add 1) = some (.int .i64 (g.T : Int)) := fun s => r44.cell s (j := 1) rfl
  refine ⟨_, _, rfl, ifT_iff.2 ⟨rfl, ivm (mb bs), itD b bs.length (fnB bs), tabA, fun i => ex fun y : Option Addr × Nat => sta [cel k56 [.slice (some ⟨k55, 0, none⟩) n n], cel k55 (iv (toF g.T n uns (ks.take i))), cel k54 [.slice ta g.terms.length tc, .slice y.1 (nmL g (ks.take i)).length y.2, .slice la g.levels.length lc, .int .i64 0, .slice none 0 0], own 1 y.1 (nmL g (ks.take i)).length y.2 ((nmL g (ks.take i)).map fun s => Value.string s)], pu False, fun _ => pu False, [own 2 ta g.terms.length tc (termsV g.terms), own 1 la g.levels.length lc (iv g.levels), cel k2 [.slice none 0 0, .slice none 0 0, .slice none 0 0, .int .i64 0, .slice none 0 0], has H], ?_, fun h hh => rdV.mono (rdH 3 hh) ht, c_All_itr, ?_, ?_, ?_, ?_, trivial⟩⟩
  · refine St.ex.2 ⟨(some ⟨k53, 0, none⟩, 1), St.flat.2 ?_⟩
    exact h.pick 9 [1, 2, 3, 5, 0, 4, 6, 7, 8]
  · intro y hy
    simp only [ivm, List.mem_map] at hy
    obtain ⟨k, _, rfl⟩ := hy
    exact ⟨_, rfl⟩
  · intro i y hy L' w10 _ hs
    refine ⟨_, hs, fun L'' w29 hsup hs3 => ?_⟩
    obtain ⟨⟨na, nc⟩, hs3⟩ := St.ex.1 hs3
    have hs3 := St.flat.1 hs3
    have hy : (ivm (mb bs))[i]? = some [.int .i64 y] := hy
    obtain ⟨s, hk, rfl⟩ : ∃ k, (mb bs)[i]? = some k ∧ y = (k : Int) := by
      unfold ivm at hy
      rw [List.getElem?_map] at hy
      cases hki : (mb bs)[i]? with
      | none => rw [hki] at hy; cases hy
      | some k => rw [hki] at hy; simp at hy; exact ⟨k, rfl, hy.symm⟩
    obtain ⟨hm1, hm2, hm3⟩ := membs_get hk
    rw [hbl] at hm2
    rw [← hks] at hk
    have hpre : ks.take i = membs s (fnB bs) := by rw [hks]; exact hm3
    have et : ks.take (i + 1) = ks.take i ++ [s] := by rw [List.take_add_one, hk]; rfl
    have hs3 : St w29 (cel k56 [.slice (some ⟨k55, 0, none⟩) n n] :: cel k55 (iv (toF g.T n uns (ks.take i))) :: cel k54 [.slice ta g.terms.length tc, .slice na (nmL g (ks.take i)).length nc, .slice la g.levels.length lc, .int .i64 0, .slice none 0 0] :: own 1 na (nmL g (ks.take i)).length nc ((nmL g (ks.take i)).map fun s => Value.string s) :: L'') := hs3
    have sL : ∀ {w : World} {A1 A2 A3 A4 : Asn}, St w (A1 :: A2 :: A3 :: A4 :: L'') → sub H (hp w) := fun h => rdH 3 (hsup _ h.tail.tail.tail.tail)
    have hlen := hs3.l
    refine ⟨_, _, _, hs3.cell 0, idx_i rfl hm2 ?_⟩
    rw [add_lit0]
    refine st1_i (hs3.pick 4 [1, 0, 2, 3]) (by rw [iv_len, toF_len]; exact hm2) fun w30 h => ?_
    have h : St w30 (cel k55 ((iv (toF g.T n uns (ks.take i))).set s (.int .i64 (s : Int))) :: cel k56 [.slice (some ⟨k55, 0, none⟩) n n] :: cel k54 [.slice ta g.terms.length tc, .slice na (nmL g (ks.take i)).length nc, .slice la g.levels.length lc, .int .i64 0, .slice none 0 0] :: own 1 na (nmL g (ks.take i)).length nc ((nmL g (ks.take i)).map fun s => Value.string s) :: L'') := h
    rw [iv_set] at h
    refine ⟨_, hTs (sL h), br_intro (fun h4 => ?_) fun h4 => ?_⟩
    rotate_left
    · have h4 : s < g.T := by have := of_decide_eq_false h4; omega
      have e1 : (toF g.T n uns (ks.take i)).set s (s : Int) = toF g.T n uns (ks.take (i + 1)) := by
        rw [et, ← toF_set hm2, num_term h4]
      rw [e1] at h
      refine St.ex.2 ⟨(na, nc), St.flat.2 ?_⟩
      have e2 : nmL g (ks.take (i + 1)) = nmL g (ks.take i) := by rw [et, nmL_lo h4]
      dsimp only
      rw [e2]
      exact h.pick 4 [1, 0, 2, 3]
    have h4 : g.T ≤ s := by have := of_decide_eq_true h4; omega
    have hln : (nmL g (ks.take i)).length = 1 + cnt (s - g.T) (fnB uns) := by rw [hpre, nmL_len h4, hun]
    have hcn : cnt (s - g.T) (fnB uns) ≤ s - g.T := cnt_le _ _
    have hsn : s - g.T < g.N := by omega
    obtain ⟨nm, ad, hn1, hna, hn2⟩ := hg.n.get1 (i := s - g.T) (by omega)
    have r54 : rowH (hp w30) ⟨k54, 0, none⟩ [.slice ta g.terms.length tc, .slice na (nmL g (ks.take i)).length nc, .slice la g.levels.length lc, .int .i64 0, .slice none 0 0] := rdCel 2 h.l
    refine ⟨_, _, _, h.swap.cell 0, _, hTs (sL h), _, _, _, r54.cell (sub.refl _) (j := 1) rfl, ⟨by omega, by omega⟩, idx_i rfl hm2 ?_⟩
    rw [add_lit0]
    refine st1_i h (by rw [iv_len, List.length_set, toF_len]; exact hm2) fun w31 h => ?_
    rw [iv_set, set_set'] at h
    have e1 : (toF g.T n uns (ks.take i)).set s ((g.T : Int) + ((nmL g (ks.take i)).length : Int)) = toF g.T n uns (ks.take (i + 1)) := by
      have hu : fnB uns (s - g.T) = true := by rw [hun, fnB_dropL, show g.T + (s - g.T) = s from by omega]; exact hm1
      rw [et, ← toF_set hm2, num_non h4 hu, hln]
      congr 1
      omega
    rw [e1] at h
    intro w32 hd
    have h := h.drawn hd
    have r54' : rowH (hp w32) ⟨k54, 0, none⟩ [.slice ta g.terms.length tc, .slice na (nmL g (ks.take i)).length nc, .slice la g.levels.length lc, .int .i64 0, .slice none 0 0] := rdCel 2 h.l
    have em : (s : Int) - (g.T : Int) = ((s - g.T : Nat) : Int) := by omega
    refine ⟨fun w => rowH (hp w) ⟨k54, 0, none⟩ [.slice ta g.terms.length tc, .slice na (nmL g (ks.take i)).length nc, .slice la g.levels.length lc, .int .i64 0, .slice none 0 0] ∧ sub H (hp w), ⟨r54', sL h⟩, _, _, _, fun w s => s.1.cell (sub.refl _) (j := 1) rfl, _, _, _, fun w s => B.c1 s.2, _, fun w s => hTs s.2, ⟨by omega, by omega⟩, ?_⟩
    rw [em]
    refine idx_i hna (by omega) ⟨nm, fun w s => hn2 _ s.2, newC_i h fun k68 w37 h => ⟨⟨rdCel 3 h.l, sL h.tail⟩, ?_⟩⟩
    refine (app_one tyOk (rfl : kdOfT Ty _ = .slice _) (rfl : kdOfT Ty _ = .slice _) rfl rfl rfl (h.pick 5 [0, 4, 1, 2, 3]) rfl (by simp [oneC]) (by show (_ + 1) * 16 ≤ _; rw [hln]; omega) (by rw [hln]; omega)).mono ?_
    rintro _ w38 ⟨o', c', rfl, h⟩
    have h : St w38 (own 1 o' ((nmL g (ks.take i)).length + 1) c' (((nmL g (ks.take i)).map fun s => Value.string s) ++ [.string nm]) :: cel k68 [.string nm] :: cel k55 (iv (toF g.T n uns (ks.take (i + 1)))) :: cel k56 [.slice (some ⟨k55, 0, none⟩) n n] :: cel k54 [.slice ta g.terms.length tc, .slice na (nmL g (ks.take i)).length nc, .slice la g.levels.length lc, .int .i64 0, .slice none 0 0] :: L'') := h
    refine ⟨_, _, _, rfl, ⟨rdCel 4 h.l, rdH 3 (hsup _ h.tail.tail.tail.tail.tail)⟩, ?_⟩
    rw [add_lit0]
    refine st1_i (h.pick 5 [4, 0, 2, 3]) (by simp) fun w39 h => ?_
    refine St.ex.2 ⟨(o', c'), St.flat.2 ?_⟩
    have e2 : nmL g (ks.take (i + 1)) = nmL g (ks.take i) ++ [nm] := by
      rw [et, nmL_hi h4]
      unfold nameU
      rw [List.getD_eq_getElem?_getD, hn1]; rfl
    have e3 : (nmL g (ks.take (i + 1))).length = (nmL g (ks.take i)).length + 1 := by rw [e2, List.length_append]; rfl
    have e4 : ((nmL g (ks.take i)).map fun s => Value.string s) ++ [.string nm] = (nmL g (ks.take (i + 1))).map fun s => Value.string s := by rw [e2, List.map_append]; rfl
    rw [e4, ← e3] at h
    exact h.pick 4 [3, 2, 0, 1]
  · intro w40 hs
    obtain ⟨⟨na, nc⟩, hs⟩ := St.ex.1 hs
    have hs := St.flat.1 hs
    have e : (ivm (mb bs)).length = ks.length := by rw [hks]; simp [ivm]
    dsimp only at hs
    rw [e, List.take_length] at hs
    have h : St w40 [cel k56 [.slice (some ⟨k55, 0, none⟩) n n], cel k55 (iv (toF g.T n uns ks)), cel k54 [.slice ta g.terms.length tc, .slice na (nmL g ks).length nc, .slice la g.levels.length lc, .int .i64 0, .slice none 0 0], own 1 na (nmL g ks).length nc ((nmL g ks).map fun s => Value.string s), itD b bs.length (fnB bs), own 2 ta g.terms.length tc (termsV g.terms), own 1 la g.levels.length lc (iv g.levels), cel k2 [.slice none 0 0, .slice none 0 0, .slice none 0 0, .int .i64 0, .slice none 0 0], has H] := hs
    clear hs
    have enm : nmL g ks = nonsU g uns := by rw [hks, nmL_all (by rw [hus.1]), hun]
    rw [enm] at h
    have to : ∀ {s : Int}, 0 ≤ s → s < (g.T : Int) + g.N → (toF g.T n uns ks)[s.toNat]? = some (numU g.T uns s) := fun {s} h1 h2 => by
      have := toF_all he hus (s := s.toNat) (by omega)
      rw [toNat_back h1] at this
      rw [hn, hun, hks]; exact this
    obtain ⟨st, hst⟩ : ∃ st, st = numU g.T uns g.start := ⟨_, rfl⟩
    -- the table of numbers is only read from here on
    obtain ⟨H2, hl2, h⟩ := St.freezeL [_, _, _, _, _] (M := [_, _, _]) (h.pick 9 [2, 3, 5, 6, 7, 0, 1, 8])
    have sH : sub H H2 := rdH 2 hl2
    have r56 : rowH H2 ⟨k56, 0, none⟩ [.slice (some ⟨k55, 0, none⟩) n n] := rdCel 0 hl2
    have r55 : rowH H2 ⟨k55, 0, none⟩ (iv (toF g.T n uns ks)) := rdCel 1 hl2
    have h : St w40 [cel k54 [.slice ta g.terms.length tc, .slice na (nonsU g uns).length nc, .slice la g.levels.length lc, .int .i64 0, .slice none 0 0], own 1 na (nonsU g uns).length nc ((nonsU g uns).map fun s => Value.string s), own 2 ta g.terms.length tc (termsV g.terms), own 1 la g.levels.length lc (iv g.levels), cel k2 [.slice none 0 0, .slice none 0 0, .slice none 0 0, .int .i64 0, .slice none 0 0], has H2] := h
    have c55 : ∀ {w : World} {s : Int}, sub H2 (hp w) → 0 ≤ s → s < (g.T : Int) + g.N → w.cell? ((⟨k55, 0, none⟩ : Addr).add s.toNat) = some (.int .i64 (numU g.T uns s)) := fun s h1 h2 => cel_num (r55.mono s) (to h1 h2)
    refine ⟨_, _, _, r56.cell0 (rdH 5 h.l), _, B.c3 (sub.trans sH (rdH 5 h.l)), ?_⟩
    rw [hsx, ← toNat_back (show (0 : Int) ≤ g.start by omega)]
    refine idx_i rfl (by omega) ⟨_, c55 (rdH 5 h.l) (by omega) (by omega), ?_⟩
    rw [← hst, add_lit0]
    refine st1_i h (by simp) fun w41 h => ?_
    have h : St w41 [cel k54 [.slice ta g.terms.length tc, .slice na (nonsU g uns).length nc, .slice la g.levels.length lc, .int .i64 st, .slice none 0 0], own 1 na (nonsU g uns).length nc ((nonsU g uns).map fun s => Value.string s), own 2 ta g.terms.length tc (termsV g.terms), own 1 la g.levels.length lc (iv g.levels), cel k2 [.slice none 0 0, .slice none 0 0, .slice none 0 0, .int .i64 0, .slice none 0 0], has H2] := h
    refine ⟨_, hTs (sub.trans sH (rdH 5 h.l)), _, h.cell 3, newC_i h fun k73 w42 h => newC_i h fun k74 w43 h => ?_⟩
    rw [add_lit0]
    refine st1_i (h.pick 8 [2, 0, 1, 3, 4, 5, 6, 7]) (by simp) fun w44 h => ?_
    obtain ⟨K, hK⟩ := name_it (fun (pa : Option Addr) (m pc : Nat) => [Value.slice ta g.terms.length tc, .slice na (nonsU g uns).length nc, .slice la g.levels.length lc, .int .i64 st, .slice pa m pc])
    have h : St w44 [cel k54 (K (some ⟨k74, 0, none⟩) 1 1), cel k74 [.int .i64 (g.T : Int), .slice (some ⟨k73, 0, none⟩) 1 1, .int .i64 0], cel k73 (iv [st]), own 1 na (nonsU g uns).length nc ((nonsU g uns).map fun s => Value.string s), own 2 ta g.terms.length tc (termsV g.terms), own 1 la g.levels.length lc (iv g.levels), cel k2 [.slice none 0 0, .slice none 0 0, .slice none 0 0, .int .i64 0, .slice none 0 0], has H2] := by rw [hK]; exact h
    have h73 : St w44 (own 1 (some ⟨k73, 0, none⟩) 1 1 (iv [st]) :: _) := own_some (cs := []) (vs := iv [st]) (h.pick 8 [2, 0, 1, 3, 4, 5, 6, 7]) rfl rfl (Nat.le_refl _)
    have h74 : St w44 (own 3 (some ⟨k74, 0, none⟩) 1 1 (prodsV [(some ⟨k73, 0, none⟩, 1)] [firstU g uns]) :: _) := own_some (cs := []) (vs := prodsV [(some ⟨k73, 0, none⟩, 1)] [firstU g uns]) (b := k74) (by
      have := h73.pick 8 [2, 0, 1, 3, 4, 5, 6, 7]
      rw [List.append_nil]
      have e : prodsV [(some ⟨k73, 0, none⟩, 1)] [firstU g uns] = [.int .i64 (g.T : Int), .slice (some ⟨k73, 0, none⟩) 1 1, .int .i64 0] := rfl
      rw [e]; exact this) rfl rfl (Nat.le_refl _)
    obtain ⟨PS, hPS⟩ := name_it (fun (j : Nat) => firstU g uns :: keptU g pds uns (g.prods.take j))
    have h : St w44 [own 1 (some ⟨k73, 0, none⟩) 1 1 (iv [st]), sta (rightsA [] []), cel k54 (K (some ⟨k74, 0, none⟩) 1 1), own 3 (some ⟨k74, 0, none⟩) 1 1 (prodsV [(some ⟨k73, 0, none⟩, 1)] [firstU g uns]), own 1 na (nonsU g uns).length nc ((nonsU g uns).map fun s => Value.string s), own 2 ta g.terms.length tc (termsV g.terms), own 1 la g.levels.length lc (iv g.levels), cel k2 [.slice none 0 0, .slice none 0 0, .slice none 0 0, .int .i64 0, .slice none 0 0], has H2] := by
      have h6 : St w44 (sta (rightsA [] []) :: _) := St.flat.2 (show St w44 ([] ++ _) from h74)
      exact h6.pick 9 [2, 0, 3, 1, 4, 5, 6, 7, 8]
    have h := St.snoc (A := own 1 (some ⟨k73, 0, none⟩) 1 1 (iv [st])) (M := rightsA [] []) h
    have eR0 : (rightsA [] [] ++ [own 1 (some ⟨k73, 0, none⟩) 1 1 (iv [st])]) = rightsA [((some ⟨k73, 0, none⟩ : Option Addr), 1)] [firstU g uns] := by
      unfold rightsA firstU; rw [← hst]; rfl
    rw [eR0] at h
    have hlk : ∀ j, (PS j).length ≤ 1 + j := fun j => by
      rw [hPS]
      have := List.length_filter_le (keepU g pds uns) (g.prods.take j)
      simp only [List.length_cons, keptU, List.length_map]
      rw [List.length_take] at this
      omega
    refine ⟨_, _, _, B.c4 (sub.trans sH (rdH 7 h.l)), fun n w' => ∃ (j : Nat) (pa : Option Addr) (pc : Nat) (os : List (Option Addr × Nat)), n = j ∧ j ≤ g.prods.length ∧ os.length = (PS j).length ∧ St w' [cel k54 (K pa (PS j).length pc), own 3 pa (PS j).length pc (prodsV os (PS j)), sta (rightsA os (PS j)), own 1 na (nonsU g uns).length nc ((nonsU g uns).map fun s => Value.string s), own 2 ta g.terms.length tc (termsV g.terms), own 1 la g.levels.length lc (iv g.levels), cel k2 [.slice none 0 0, .slice none 0 0, .slice none 0 0, .int .i64 0, .slice none 0 0], has H2], fun n _ => g.prods.length - n.toNat, ⟨0, some ⟨k74, 0, none⟩, 1, [(some ⟨k73, 0, none⟩, 1)], rfl, by omega, by rw [hPS]; rfl, ?_⟩, ?_⟩
    · have e0 : PS 0 = [firstU g uns] := by rw [hPS]; simp [keptU]
      rw [e0]
      exact h.pick 8 [1, 2, 0, 3, 4, 5, 6, 7]
    clear h h73 h74
    rintro _ n2 w45 ⟨j, pa, pc, os, rfl, hj, hos, h⟩
    refine br_intro (fun h2 => ?_) fun h2 => ?_
    rotate_left
    · have h2 : j = g.prods.length := by have := of_decide_eq_false h2; omega
      subst h2
      have eP : PS g.prods.length = (redG g pds uns).prods := by rw [hPS]; simp [redG, List.take_length]
      rw [eP] at h hos
      have r54 : rowH (hp w45) ⟨k54, 0, none⟩ (K pa (redG g pds uns).prods.length pc) := rdCel 0 h.l
      rw [hK] at r54
      refine ⟨_, _, _, _, _, _, _, _, _, _, _, _, _, r54.at (sub.refl _) rfl, stR_i (h.pick 8 [6, 1, 2, 3, 4, 5, 7]) rfl (by intro v hv; simp at hv; rcases hv with rfl | rfl | rfl | rfl | rfl <;> rfl) fun w68 h => ?_⟩
      refine ⟨_, _, _, _, _, _, _, _, _, _, _, _, _, h.row.at (sub.refl _) rfl, fun w69 h69 => ?_⟩
      have h := h.eq h69
      refine hR ⟨ta, g.terms.length, tc, na, (nonsU g uns).length, nc, la, g.levels.length, lc, st, pa, (redG g pds uns).prods.length, pc⟩ os w69 ⟨rfl, rfl, rfl, hst, rfl⟩ hos ?_
      exact St.on (N := [_, _, _, _, _]) (h.pick 7 [1, 2, 4, 3, 5, 6]) (has_i sH)
    have h2 : j < g.prods.length := by have := of_decide_eq_true h2; omega
    obtain ⟨p, ad, vs, hp1, hpa, hp2, ra, rl, rc, rfl, hrc, hp3⟩ := hg.p.get (i := j) (by omega)
    have hpm := List.mem_of_getElem? hp1
    obtain ⟨hpl, hpr⟩ := iG p hpm
    have b7' := b7 p hpm
    have rl1 := hp3.1
    have et : g.prods.take (j + 1) = g.prods.take j ++ [p] := by rw [List.take_add_one, hp1]; rfl
    have hPj : PS (j + 1) = PS j ++ (if keepU g pds uns p then [prodU g uns p] else []) := by
      rw [hPS]; dsimp only; rw [et, keptU_snoc]; rfl
    have hkq := keep_eq iG hpd (bs := bs) hpm
    rw [← hpds, ← hun] at hkq
    have hlj := hlk j
    have sH1 : ∀ {w : World}, sub H2 (hp w) → sub H (hp w) := fun s => sub.trans sH s
    have nxF : ∀ {w' : World}, keepU g pds uns p = false → St w' [cel k54 (K pa (PS j).length pc), own 3 pa (PS j).length pc (prodsV os (PS j)), sta (rightsA os (PS j)), own 1 na (nonsU g uns).length nc ((nonsU g uns).map fun s => Value.string s), own 2 ta g.terms.length tc (termsV g.terms), own 1 la g.levels.length lc (iv g.levels), cel k2 [.slice none 0 0, .slice none 0 0, .slice none 0 0, .int .i64 0, .slice none 0 0], has H2] → inI ((j : Int) + 1) ∧ (∃ (j' : Nat) (pa : Option Addr) (pc : Nat) (os : List (Option Addr × Nat)), (j : Int) + 1 = j' ∧ j' ≤ g.prods.length ∧ os.length = (PS j').length ∧ St w' [cel k54 (K pa (PS j').length pc), own 3 pa (PS j').length pc (prodsV os (PS j')), sta (rightsA os (PS j')), own 1 na (nonsU g uns).length nc ((nonsU g uns).map fun s => Value.string s), own 2 ta g.terms.length tc (termsV g.terms), own 1 la g.levels.length lc (iv g.levels), cel k2 [.slice none 0 0, .slice none 0 0, .slice none 0 0, .int .i64 0, .slice none 0 0], has H2]) ∧ g.prods.length - ((j : Int) + 1).toNat < g.prods.length - (j : Int).toNat := fun {w'} hk h => by
      have e : PS (j + 1) = PS j := by rw [hPj, hk]; simp
      refine ⟨⟨by omega, by omega⟩, ⟨j + 1, pa, pc, os, by simp, by omega, by rw [e]; exact hos, ?_⟩, msr h2⟩
      rw [e]; exact h
    refine idx_n hpa (by omega) ⟨_, _, _, _, _, hp2.at (sH1 (rdH 7 h.l)) rfl, newC_i h fun k79 w46 h => stR_i h rfl (by simp [oneC]) fun w47 h => ?_⟩
    have r79 : rowH (hp w47) ⟨k79, 0, none⟩ [.int .i64 p.left, .slice ra rl rc, .int .i64 p.level] := rdCel 0 h.l
    refine ⟨_, r44.cell0 (sH1 (rdH 8 h.l)), _, r79.cell0 (sub.refl _), (s_Has (hi.mono (sH1 (rdH 8 h.l))) p.left).mono ?_⟩
    rintro _ w48 ⟨rfl, rfl⟩
    refine ⟨_, rfl, br_intro (fun h5 => nxF (by rw [← hkq]; rw [show hasB bs p.left = false by simpa using h5]; rfl) (h.pick 9 [1, 2, 3, 4, 5, 6, 7, 8])) fun h5 => ?_⟩
    have h5 : hasB bs p.left = true := by simpa using h5
    refine ⟨_, _, r27.at (sH1 (rdH 8 h.l)) rfl, _, _, _, r79.cell (sub.refl _) (j := 1) rfl, (r_all (hm.mono (sH1 (rdH 8 h.l))) (hp3.mono (sH1 (rdH 8 h.l))) (by omega)).mono ?_⟩
    rintro _ w49 ⟨rfl, g49⟩
    have h := h.gr g49
    refine ⟨_, rfl, br_intro (fun h6 => nxF (by rw [← hkq]; rw [show allH may p.right = false by simpa using h6, Bool.and_false]) (h.pick 9 [1, 2, 3, 4, 5, 6, 7, 8])) fun h6 => ?_⟩
    have h6 : allH may p.right = true := by simpa using h6
    have hkT : keepU g pds uns p = true := by rw [← hkq, h5, h6]; rfl
    intro w50 hd
    have h := h.drawn hd
    have eL : p.left = ((p.left.toNat : Nat) : Int) := by omega
    refine ⟨fun w => rowH (hp w) ⟨k79, 0, none⟩ [.int .i64 p.left, .slice ra rl rc, .int .i64 p.level] ∧ sub H2 (hp w), ⟨rdCel 0 h.l, rdH 8 h.l⟩, _, _, _, fun w s => r56.cell0 s.2, _, fun w s => s.1.cell0 (sub.refl _), ?_⟩
    rw [eL]
    refine idx_i rfl (by omega) ⟨_, fun w s => c55 s.2 (by omega) (by omega), p.level, fun w s => s.1.cell (sub.refl _) (j := 2) rfl, newC_i h fun k84 w55 h => ⟨⟨by rw [← eL]; exact rdCel 1 h.l, rdH 9 h.l⟩, stR_i h rfl (by simp [oneC]) fun w56 h => ?_⟩⟩
    have r79' : rowH (hp w56) ⟨k79, 0, none⟩ [.int .i64 p.left, .slice ra rl rc, .int .i64 p.level] := rdCel 1 h.l
    refine ⟨_, _, _, r79'.cell (sub.refl _) (j := 1) rfl, ?_⟩
    obtain ⟨M, hM⟩ : ∃ M, M = [cel k54 (K pa (PS j).length pc), own 3 pa (PS j).length pc (prodsV os (PS j)), sta (rightsA os (PS j)), own 1 na (nonsU g uns).length nc ((nonsU g uns).map fun s => Value.string s), own 2 ta g.terms.length tc (termsV g.terms), own 1 la g.levels.length lc (iv g.levels), cel k2 [.slice none 0 0, .slice none 0 0, .slice none 0 0, .int .i64 0, .slice none 0 0], has H2] := ⟨_, rfl⟩
    have sM : ∀ {w : World} {A1 A2 : Asn}, St w (A1 :: A2 :: M) → sub H2 (hp w) := fun {w A1 A2} h => by rw [hM] at h; exact rdH 9 h.l
    refine ⟨fun n w' => ∃ (i : Nat) (qa : Option Addr) (qc : Nat), n = i ∧ i ≤ rl ∧ St w' (cel k84 [.int .i64 (numU g.T uns p.left), .slice qa i qc, .int .i64 p.level] :: own 1 qa i qc (iv ((p.right.take i).map (numU g.T uns))) :: M), fun n _ => rl - n.toNat, ⟨0, none, 0, rfl, by omega, ?_⟩, ?_⟩
    · have h := own_nil 1 (h.pick 10 [0, 2, 3, 4, 5, 6, 7, 8, 9])
      rw [hM]
      exact h.swap
    clear h
    rintro _ n28 w57 ⟨i, qa, qc, rfl, hi', h⟩
    refine br_intro (fun h7 => ?_) fun h7 => ?_
    · have h7 : i < rl := by have := of_decide_eq_true h7; omega
      obtain ⟨s, ad2, hs1, hsa, hs2⟩ := hp3.get1 h7
      have hsr := hpr s (List.mem_of_getElem? hs1)
      have es : s = ((s.toNat : Nat) : Int) := by omega
      have et2 : p.right.take (i + 1) = p.right.take i ++ [s] := by rw [List.take_add_one, hs1]; rfl
      refine idx_i hsa h7 ⟨s, hs2 _ (sH1 (sM h)), fun w58 hd => ?_⟩
      have h := h.drawn hd
      refine ⟨fun w => rowH (hp w) ⟨k84, 0, none⟩ [.int .i64 (numU g.T uns p.left), .slice qa i qc, .int .i64 p.level] ∧ sub H2 (hp w), ⟨rdCel 0 h.l, sM h⟩, _, _, _, fun w s => s.1.cell (sub.refl _) (j := 1) rfl, _, _, _, fun w s => r56.cell0 s.2, ?_⟩
      rw [es]
      refine idx_i rfl (by omega) ⟨_, fun w q => c55 q.2 (by omega) (by omega), newC_i h fun k91 w62 h => ⟨⟨rdCel 1 h.l, sM h.tail⟩, ?_⟩⟩
      refine (app_one tyOk (rfl : kdOfT Ty _ = .slice _) (rfl : kdOfT Ty _ = .slice _) rfl rfl rfl (h.pick 3 [0, 2, 1]) rfl (by simp [oneC]) (by show (i + 1) * 8 ≤ _; omega) (by omega)).mono ?_
      rintro _ w63 ⟨o', c', rfl, h⟩
      have h : St w63 (own 1 o' (i + 1) c' (iv ((p.right.take i).map (numU g.T uns)) ++ [.int .i64 (numU g.T uns s)]) :: cel k91 [.int .i64 (numU g.T uns s)] :: cel k84 [.int .i64 (numU g.T uns p.left), .slice qa i qc, .int .i64 p.level] :: M) := h
      refine ⟨_, _, _, rfl, ⟨rdCel 2 h.l, sM h.tail⟩, ?_⟩
      rw [add_lit0]
      refine st1_i (h.pick 3 [2, 0]) (by simp) fun w64 h => ⟨⟨by omega, by omega⟩, ⟨i + 1, o', c', by simp, by omega, ?_⟩, msr h7⟩
      have e : iv ((p.right.take i).map (numU g.T uns)) ++ [.int .i64 (numU g.T uns s)] = iv ((p.right.take (i + 1)).map (numU g.T uns)) := by rw [et2]; simp [iv]
      rw [e] at h
      exact h
    have h7 : i = rl := by have := of_decide_eq_false h7; omega
    have hcur := h
    subst h7
    rw [List.take_of_length_le (by omega)] at hcur
    have h := hcur
    have hqr : (prodU g uns p).right.length = i := by show (p.right.map _).length = i; rw [List.length_map]; omega
    have h : St w57 (cel k84 (prodV ((qa, qc), prodU g uns p)) :: own 1 qa i qc (iv (prodU g uns p).right) :: M) := by
      unfold prodV; dsimp only; rw [hqr]; exact h
    rw [hM] at h
    have r54 : rowH (hp w57) ⟨k54, 0, none⟩ (K pa (PS j).length pc) := rdCel 2 h.l
    rw [hK] at r54
    refine ⟨_, _, _, r54.cell (sub.refl _) (j := 4) rfl, _, _, _, _, _, h.row.at (sub.refl _) rfl, newC_i h fun k98 w65 h => ?_⟩
    have h : St w65 [cel k98 (prodV ((qa, qc), prodU g uns p)), cel k84 (prodV ((qa, qc), prodU g uns p)), own 1 qa i qc (iv (prodU g uns p).right), cel k54 (K pa (PS j).length pc), own 3 pa (PS j).length pc (prodsV os (PS j)), sta (rightsA os (PS j)), own 1 na (nonsU g uns).length nc ((nonsU g uns).map fun s => Value.string s), own 2 ta g.terms.length tc (termsV g.terms), own 1 la g.levels.length lc (iv g.levels), cel k2 [.slice none 0 0, .slice none 0 0, .slice none 0 0, .int .i64 0, .slice none 0 0], has H2] := h
    refine (app_one tyOk (rfl : kdOfT Ty _ = .slice _) (rfl : kdOfT Ty _ = .slice _) rfl rfl rfl (h.pick 11 [0, 4, 2, 3, 5, 6, 7, 8, 9, 10]) rfl (by simp [oneC, prodV]) (by show ((PS j).length + 1) * 40 ≤ _; omega) (by show (PS j).length < _; omega)).mono ?_
    rintro _ w66 ⟨pa', pc', rfl, h⟩
    refine ⟨_, _, _, rfl, ?_⟩
    refine st1_i (h.pick 10 [3, 0, 2, 4, 5, 6, 7, 8, 9]) (by rw [hK]; simp) fun w67 h => ?_
    have eK : (K pa (PS j).length pc).set 4 (.slice pa' ((PS j).length + 1) pc') = K pa' ((PS j).length + 1) pc' := by rw [hK]; rfl
    have ePj : PS (j + 1) = PS j ++ [prodU g uns p] := by rw [hPj, hkT]; rfl
    have eln : (PS (j + 1)).length = (PS j).length + 1 := by rw [ePj, List.length_append]; rfl
    have h : St w67 [cel k54 (K pa' ((PS j).length + 1) pc'), own 3 pa' ((PS j).length + 1) pc' (prodsV os (PS j) ++ prodV ((qa, qc), prodU g uns p)), own 1 qa i qc (iv (prodU g uns p).right), sta (rightsA os (PS j)), own 1 na (nonsU g uns).length nc ((nonsU g uns).map fun s => Value.string s), own 2 ta g.terms.length tc (termsV g.terms), own 1 la g.levels.length lc (iv g.levels), cel k2 [.slice none 0 0, .slice none 0 0, .slice none 0 0, .int .i64 0, .slice none 0 0], has H2] := by rw [← eK]; exact h
    have h := St.snoc (A := own 1 qa i qc (iv (prodU g uns p).right)) (M := rightsA os (PS j)) (h.pick 9 [2, 3, 0, 1, 4, 5, 6, 7, 8])
    have e1 := rightsA_snoc hos (qa, qc) (prodU g uns p)
    have e2 := prodsV_snoc hos (qa, qc) (prodU g uns p)
    dsimp only at e1
    rw [hqr] at e1
    rw [← e1, ← e2, ← ePj] at h
    refine ⟨⟨by omega, by omega⟩, ⟨j + 1, pa', pc', os ++ [(qa, qc)], by simp, by omega, by rw [eln, List.length_append, hos]; rfl, ?_⟩, msr h2⟩
    rw [eln]
    exact h.pick 8 [1, 2, 0, 3, 4, 5, 6, 7]
  · intro w13 hs
    exact (St.pu.1 hs).1.elim
end
end Go.Proofs.YtaheggomcnbbiaaDoor
set_option linter.unusedVariables false
namespace Go.V
def noG : GA := ⟨none, 0, 0, none, 0, 0, none, 0, 0, 0, none, 0, 0⟩
theorem own_noG {w : World} {M : List Asn} (h : St w M) : St w (ownG emptyG noG [] ++ M) := by
  have h1 : St w (own 1 none 0 0 [] :: M) := own_nil 1 h
  have h2 : St w (own 1 none 0 0 [] :: _) := own_nil 1 h1
  have h3 : St w (own 2 none 0 0 [] :: _) := own_nil 2 h2
  have h4 : St w (sta (rightsA [] []) :: _) := St.flat.2 (show St w ([] ++ _) from h3)
  exact own_nil 3 h4
end Go.V
namespace Go.Proofs.YtaheggomcnbbiaaDoor
open Go.V
section
variable {w : World} {g : GramT} {x : GA} {a : Option Addr} {l c : Nat}
theorem r_CloneT {ts : List TermT} (hr : rdS (hp w) ts a l) (hb : ts.length * 24 ≤ 140737488355328) (hb2 : ts.length ≤ 9223372036854775807) : Run Tryd.prog n_slices_Clone_api_Term_api_Term_ [.slice a l c] w fun v w' => ∃ o c', v = .slice o ts.length c' ∧ St w' (own 2 o ts.length c' (termsV ts) :: all w) := by
  refine run_slices_Clone_api_Term_api_Term_ _ _ _ w _ ?_
  have hl := hr.1
  cases a with
  | none =>
    have h0 : ts = [] := by
      cases ts with
      | nil => rfl
      | cons t ts => obtain ⟨ad, _, e, _⟩ := hr.2 0 t rfl; cases e
    subst h0
    exact ⟨none, 0, rfl, own_nil 2 (St.all w)⟩
  | some ad =>
    refine newC_i (St.all w) fun b w1 h1 => ?_
    have h2 : St w1 (own 2 (some ⟨b, 0, none⟩) 0 0 [] :: all w) := own_some (cs := []) h1 rfl rfl (Nat.le_refl _)
    have hr := hr.mono h1.gone1
    refine (app_own' tyOk (rfl : kdOfT Ty _ = .slice _) rfl rfl rfl h2 (n := l) (news := termsV ts) (src_slice tyOk (rfl : kdOfT Ty _ = .slice _) (by rw [termsV_len, hl]) (.inr ⟨ad, rfl, fun j u hj => (rdT_row hr).cell (sub.refl _) hj⟩) (by
      intro u hu
      obtain ⟨t, _, ht⟩ := List.mem_flatMap.1 hu
      simp [termV] at ht; rcases ht with rfl | rfl <;> rfl)) (by show (0 + l) * 24 ≤ _; omega) (by omega)).mono ?_
    rintro _ w2 ⟨a', c', rfl, h3⟩
    rw [Nat.zero_add, ← hl] at h3 ⊢
    rw [List.nil_append] at h3
    exact ⟨_, _, _, rfl, a', c', rfl, h3⟩
theorem r_CloneI {xs : List Int} (hr : rdS (hp w) xs a l) (hb : xs.length * 8 ≤ 140737488355328) (hb2 : xs.length ≤ 9223372036854775807) : Run Tryd.prog n_slices_Clone_int_int_ [.slice a l c] w fun v w' => ∃ o c', v = .slice o xs.length c' ∧ St w' (own 1 o xs.length c' (iv xs) :: all w) := by
  refine run_slices_Clone_int_int_ _ _ _ w _ ?_
  have hl := hr.1
  cases a with
  | none =>
    have h0 : xs = [] := by
      cases xs with
      | nil => rfl
      | cons t ts => obtain ⟨ad, _, e, _⟩ := hr.2 0 t rfl; cases e
    subst h0
    exact ⟨none, 0, rfl, own_nil 1 (St.all w)⟩
  | some ad =>
    refine newC_i (St.all w) fun b w1 h1 => ?_
    have h2 : St w1 (own 1 (some ⟨b, 0, none⟩) 0 0 [] :: all w) := own_some (cs := []) h1 rfl rfl (Nat.le_refl _)
    have hr := hr.mono h1.gone1
    refine (app_own' tyOk (rfl : kdOfT Ty _ = .slice _) rfl rfl rfl h2 (n := l) (news := iv xs) (src_slice tyOk (rfl : kdOfT Ty _ = .slice _) (by rw [iv_len, hl, Nat.mul_one]) (by
        rcases hr.iv with h0 | ⟨ad', e, hc⟩
        · exact .inl (by have := congrArg List.length h0; rw [iv_len, hl] at this; exact this)
        · cases e; exact .inr ⟨ad, rfl, fun j u hj => cellH_w (hc j u hj)⟩) (by
      intro u hu
      obtain ⟨t, _, rfl⟩ := List.mem_map.1 hu
      rfl)) (by show (0 + l) * 8 ≤ _; omega) (by omega)).mono ?_
    rintro _ w2 ⟨a', c', rfl, h3⟩
    rw [Nat.zero_add, ← hl] at h3 ⊢
    rw [List.nil_append] at h3
    exact ⟨_, _, _, rfl, a', c', rfl, h3⟩
set_option maxHeartbeats 8000000 in
theorem r_Reduce (hg : gR (hp w) g x) (hb : okG g) (ht : tabA (hp w)) : Run Tryd.prog n_reach_Reduce [.agg ⟨x.cells⟩] w fun v w' => ∃ (x' : GA) (G : GramT) (os : List (Option Addr × Nat)) (e : Int), v = .tuple #[.agg ⟨x'.cells⟩, .int .i64 e] ∧ ownX G x' ∧ os.length = G.prods.length ∧ RedRes g e G ∧ St w' (ownG G x' os ++ all w) := by
  refine run_reach_Reduce _ _ _ _ _ _ _ _ _ _ _ _ _ w _ ?_
  refine gbox hg fun k1 w1 gw hg B => ?_
  have gs : sub (hp w) (hp w1) := gw
  have h1 := St.all w1
  unfold V.all at h1
  have hst := hg.s
  have htl := hg.t.1
  have hll := hg.l.1
  have ht1 : tabA (hp w1) := rdV.mono gw ht
  generalize hH : hp w1 = H at *
  refine newC_i h1 fun k2 w2 h => ?_
  refine ⟨_, _, _, _, _, _, _, _, _, _, _, _, _, B.row (rdH 1 h.l), (g_Valid (x := x) (hg.mono (rdH 1 h.l)) hb).mono ?_⟩
  rintro _ w3 ⟨⟨r1, rfl, e1⟩, g3⟩
  have h := h.gr g3
  have bad : ∀ {w4 : World} {e : Int} {M : List Asn}, RedRes g e emptyG → St w4 (cel k2 [.slice none 0 0, .slice none 0 0, .slice none 0 0, .int .i64 0, .slice none 0 0] :: M) → (∀ h, starL M h → sub H h) → ∀ w5, hp w5 = hp w4 → ∃ (x' : GA) (G : GramT) (os : List (Option Addr × Nat)) (e' : Int), Value.tuple #[.agg #[.slice none 0 0, .slice none 0 0, .slice none 0 0, .int .i64 0, .slice none 0 0], .int .i64 e] = .tuple #[.agg ⟨x'.cells⟩, .int .i64 e'] ∧ ownX G x' ∧ os.length = G.prods.length ∧ RedRes g e' G ∧ St w5 (ownG G x' os ++ all w) := fun {w4 e M} hr h hM w5 h5 => by
    refine ⟨noG, emptyG, [], e, rfl, ⟨rfl, rfl, rfl, rfl, rfl⟩, rfl, hr, own_noG ?_⟩
    exact has_i (sub.trans gs (by rw [h5]; exact hM _ h.tail))
  refine ⟨_, rfl, br_intro (fun hb1 => ?_) fun hb1 => ?_⟩
  · have hn : ¬ ValidP g := fun hv => by rw [e1.2 hv] at hb1; cases hb1
    exact stR_i h rfl (by intro v hv; simp at hv; rcases hv with rfl | rfl | rfl | rfl | rfl <;> rfl) fun w4 h => ⟨_, _, _, _, _, _, _, _, _, _, _, _, _, h.row.at (sub.refl _) rfl, bad (.inl ⟨hn, rfl, rfl⟩) h fun _ hh => rdH 0 hh⟩
  have hv : ValidP g := e1.1 (by simpa using hb1)
  have he : EitherP g := .inl hv
  obtain ⟨iG, bT, bN, pN, pT, bP⟩ := inG he
  obtain ⟨sg1, sg2⟩ := start_in he
  refine ⟨_, _, _, _, _, _, _, _, _, _, _, _, _, B.row (rdH 1 h.l), (r_productive (x := x) (hg.mono (rdH 1 h.l)) hb he).mono ?_⟩
  rintro _ w6 ⟨pm, may, rfl, hpd, h6⟩
  have h := h6.on1 h
  refine ⟨_, _, rfl, newC_i h fun k27 w7 h => stR_i h rfl (by simp [oneC]) fun w8 h => ?_⟩
  have r27' : rowH (hp w8) ⟨k27, 0, none⟩ [.pointer (some ⟨pm, 0, none⟩), .int .i64 (g.T : Int)] := rdCel 0 h.l
  have hm8 : setR (hp w8) (some ⟨pm, 0, none⟩) may := h.swap.setR
  refine ⟨_, r27'.cell0 (sub.refl _), _, B.c3 (rdH 3 h.l), ?_⟩
  rw [hst]
  refine (s_Has hm8 g.start).mono ?_
  rintro _ w9 ⟨rfl, rfl⟩
  have hpg : hasB may g.start = true ↔ Pd g g.start := by rw [hasB_pos (by omega), hpd.2, toNat_back (by omega)]
  refine ⟨_, rfl, br_intro (fun hb2 => ?_) fun hb2 => ?_⟩
  · have hn : ¬ Pd g g.start := fun hp' => by rw [hpg.2 hp'] at hb2; cases hb2
    exact stR_i (h.pick 4 [2, 0, 1, 3]) rfl (by intro v hv; simp at hv; rcases hv with rfl | rfl | rfl | rfl | rfl <;> rfl) fun w10 h => ⟨_, _, _, _, _, _, _, _, _, _, _, _, _, h.row.at (sub.refl _) rfl, bad (.inr (.inl ⟨hv, hn, rfl, rfl⟩)) h fun _ hh => rdH 2 hh⟩
  have hPd : Pd g g.start := hpg.1 (by simpa using hb2)
  refine ⟨_, _, _, _, _, _, _, _, _, _, _, _, _, B.row (rdH 3 h.l), _, _, r27'.at (sub.refl _) rfl, (r_useful (x := x) (hg.mono (rdH 3 h.l)) hb he hm8 hpd).mono ?_⟩
  rintro _ w12 ⟨pi, bs, rfl, hus, h12⟩
  have h := h12.on1 h
  refine ⟨_, _, rfl, newC_i h fun k44 w13 h => stR_i h rfl (by simp [oneC]) fun w14 h => fun w15 hd => ?_⟩
  have h := h.drawn hd
  obtain ⟨H2, hl2, h⟩ := St.freezeL [_] (M := [_, _, _, _, _]) (h.pick 6 [4, 0, 1, 2, 3, 5])
  have sH : sub H H2 := rdH 4 hl2
  have r44 : rowH H2 ⟨k44, 0, none⟩ [.pointer (some ⟨pi, 0, none⟩), .int .i64 (g.T : Int)] := rdCel 0 hl2
  have r27 : rowH H2 ⟨k27, 0, none⟩ [.pointer (some ⟨pm, 0, none⟩), .int .i64 (g.T : Int)] := rdCel 2 hl2
  have hiH : setR H2 (some ⟨pi, 0, none⟩) bs := rdSet 1 hl2
  have hmH : setR H2 (some ⟨pm, 0, none⟩) may := rdSet 3 hl2
  have hgH : gR H2 g x := hg.mono sH
  have BH : GB H2 k1 x := ⟨fun s => B.c0 (sub.trans sH s), fun s => B.c1 (sub.trans sH s), fun s => B.c2 (sub.trans sH s), fun s => B.c3 (sub.trans sH s), fun s => B.c4 (sub.trans sH s), fun s => B.row (sub.trans sH s)⟩
  have htH : tabA H2 := rdV.mono sH ht1
  have h : St w15 [cel k2 [.slice none 0 0, .slice none 0 0, .slice none 0 0, .int .i64 0, .slice none 0 0], has H2] := h
  obtain ⟨b1, b2, b3, b4, b5, b6, b7⟩ := id hb
  have hT' : g.T = g.terms.length := rfl
  have hRR : ∀ (x' : GA) os w', ownX (redG g (may.drop g.T) (bs.drop g.T)) x' → os.length = (redG g (may.drop g.T) (bs.drop g.T)).prods.length → St w' (ownG (redG g (may.drop g.T) (bs.drop g.T)) x' os ++ [has H2]) → ∃ (x'' : GA) (G : GramT) (os' : List (Option Addr × Nat)) (e : Int), Value.tuple #[.agg ⟨x'.cells⟩, .int .i64 0] = .tuple #[.agg ⟨x''.cells⟩, .int .i64 e] ∧ ownX G x'' ∧ os'.length = G.prods.length ∧ RedRes g e G ∧ St w' (ownG G x'' os' ++ all w) := fun x' os w' h1 h2 h3 =>
    ⟨x', _, os, 0, rfl, h1, h2, .inr (.inr ⟨hv, hPd, rfl, _, _, hpd.nons, hus.nons, rfl⟩), St.on (N := [_, _, _, _, _]) h3 (has_i (sub.trans gs sH))⟩
  have tl : ∀ {k53 kG cT cL : Nat} {oT oL : Option Addr} {w22 : World}, St w22 [cel kG [.slice oT g.terms.length cT, .slice (some ⟨k53, 0, none⟩) 1 1, .slice oL g.levels.length cL, .int .i64 0, .slice none 0 0], own 2 oT g.terms.length cT (termsV g.terms), own 1 (some ⟨k53, 0, none⟩) 1 1 [.string .empty], own 1 oL g.levels.length cL (iv g.levels), cel k2 [.slice none 0 0, .slice none 0 0, .slice none 0 0, .int .i64 0, .slice none 0 0], has H2] → tail_Red k1 k2 k27 k44 kG w22 (fun v w' => ∃ (x' : GA) (G : GramT) (os : List (Option Addr × Nat)) (e : Int), v = .tuple #[.agg ⟨x'.cells⟩, .int .i64 e] ∧ ownX G x' ∧ os.length = G.prods.length ∧ RedRes g e G ∧ St w' (ownG G x' os ++ all w)) := fun h => r_tail hgH BH hb he hpd hus hmH hiH r27 r44 htH h hRR
  clear hRR
  refine ⟨fun w => sub H2 (hp w), rdH 1 h.l, _, _, _, fun w s => BH.c0 s, _, _, _, fun w s => BH.c2 s, ?_⟩
  refine ⟨?_, ?_, ?_⟩
  · refine (r_CloneT (hgH.t.mono (rdH 1 h.l)) (by omega) (by omega)).mono ?_
    rintro _ _ ⟨oT, cT, rfl, hN⟩
    have h := hN.on1 h
    refine ⟨_, _, _, rfl, rdH 2 h.l, ?_⟩
    refine ⟨?_, ?_, ?_⟩
    · refine (r_CloneI (hgH.l.mono (rdH 2 h.l)) (by omega) (by omega)).mono ?_
      rintro _ _ ⟨oL, cL, rfl, hN⟩
      have h := hN.on1 h
      refine ⟨_, _, _, rfl, rdH 3 h.l, ?_⟩
      refine ⟨?_, ?_⟩
      · refine newC_i h fun kS _ h => ⟨rdH 4 h.l, ?_⟩
        refine newC_i h fun kG _ h => ⟨rdH 5 h.l, ?_⟩
        have h := own_some (cs := []) (vs := [.string .empty]) (l := 1) (c := 1) (sz := 1) (h.pick 6 [1, 0, 3, 2, 4, 5]) rfl rfl (Nat.le_refl _)
        refine stR_i (h.pick 6 [1, 2, 0, 3, 4, 5]) rfl (by intro v hv; simp at hv; rcases hv with rfl | rfl | rfl | rfl | rfl <;> rfl) fun w22 h => ?_
        have t := tl h
        exact t
      · refine newC_i h fun kG _ h => ⟨rdH 4 h.l, ?_⟩
        refine newC_i h fun kS _ h => ⟨rdH 5 h.l, ?_⟩
        have h := own_some (cs := []) (vs := [.string .empty]) (l := 1) (c := 1) (sz := 1) (h.pick 6 [0, 1, 3, 2, 4, 5]) rfl rfl (Nat.le_refl _)
        refine stR_i (h.pick 6 [1, 2, 0, 3, 4, 5]) rfl (by intro v hv; simp at hv; rcases hv with rfl | rfl | rfl | rfl | rfl <;> rfl) fun w22 h => ?_
        have t := tl h
        exact t
    · refine newC_i h fun kS _ h => ⟨rdH 3 h.l, ?_⟩
      refine ⟨?_, ?_⟩
      · refine (r_CloneI (hgH.l.mono (rdH 3 h.l)) (by omega) (by omega)).mono ?_
        rintro _ _ ⟨oL, cL, rfl, hN⟩
        have h := hN.on1 h
        refine ⟨_, _, _, rfl, rdH 4 h.l, ?_⟩
        refine newC_i h fun kG _ h => ⟨rdH 5 h.l, ?_⟩
        have h := own_some (cs := []) (vs := [.string .empty]) (l := 1) (c := 1) (sz := 1) (h.pick 6 [2, 0, 3, 1, 4, 5]) rfl rfl (Nat.le_refl _)
        refine stR_i (h.pick 6 [1, 2, 0, 3, 4, 5]) rfl (by intro v hv; simp at hv; rcases hv with rfl | rfl | rfl | rfl | rfl <;> rfl) fun w22 h => ?_
        have t := tl h
        exact t
      · refine newC_i h fun kG _ h => ⟨rdH 4 h.l, ?_⟩
        refine (r_CloneI (hgH.l.mono (rdH 4 h.l)) (by omega) (by omega)).mono ?_
        rintro _ _ ⟨oL, cL, rfl, hN⟩
        have h := hN.on1 h
        refine ⟨_, _, _, rfl, rdH 5 h.l, ?_⟩
        have h := own_some (cs := []) (vs := [.string .empty]) (l := 1) (c := 1) (sz := 1) (h.pick 6 [2, 1, 3, 0, 4, 5]) rfl rfl (Nat.le_refl _)
        refine stR_i (h.pick 6 [1, 2, 0, 3, 4, 5]) rfl (by intro v hv; simp at hv; rcases hv with rfl | rfl | rfl | rfl | rfl <;> rfl) fun w22 h => ?_
        have t := tl h
        exact t
    · refine newC_i h fun kG _ h => ⟨rdH 3 h.l, ?_⟩
      refine ⟨?_, ?_⟩
      · refine (r_CloneI (hgH.l.mono (rdH 3 h.l)) (by omega) (by omega)).mono ?_
        rintro _ _ ⟨oL, cL, rfl, hN⟩
        have h := hN.on1 h
        refine ⟨_, _, _, rfl, rdH 4 h.l, ?_⟩
        refine newC_i h fun kS _ h => ⟨rdH 5 h.l, ?_⟩
        have h := own_some (cs := []) (vs := [.string .empty]) (l := 1) (c := 1) (sz := 1) (h.pick 6 [0, 2, 3, 1, 4, 5]) rfl rfl (Nat.le_refl _)
        refine stR_i (h.pick 6 [1, 2, 0, 3, 4, 5]) rfl (by intro v hv; simp at hv; rcases hv with rfl | rfl | rfl | rfl | rfl <;> rfl) fun w22 h => ?_
        have t := tl h
        exact t
      · refine newC_i h fun kS _ h => ⟨rdH 4 h.l, ?_⟩
        refine (r_CloneI (hgH.l.mono (rdH 4 h.l)) (by omega) (by omega)).mono ?_
        rintro _ _ ⟨oL, cL, rfl, hN⟩
        have h := hN.on1 h
        refine ⟨_, _, _, rfl, rdH 5 h.l, ?_⟩
        have h := own_some (cs := []) (vs := [.string .empty]) (l := 1) (c := 1) (sz := 1) (h.pick 6 [1, 2, 3, 0, 4, 5]) rfl rfl (Nat.le_refl _)
        refine stR_i (h.pick 6 [1, 2, 0, 3, 4, 5]) rfl (by intro v hv; simp at hv; rcases hv with rfl | rfl | rfl | rfl | rfl <;> rfl) fun w22 h => ?_
        have t := tl h
        exact t
  · refine newC_i h fun kS _ h => ⟨rdH 2 h.l, ?_⟩
    refine ⟨?_, ?_⟩
    · refine (r_CloneT (hgH.t.mono (rdH 2 h.l)) (by omega) (by omega)).mono ?_
      rintro _ _ ⟨oT, cT, rfl, hN⟩
      have h := hN.on1 h
      refine ⟨_, _, _, rfl, rdH 3 h.l, ?_⟩
      refine ⟨?_, ?_⟩
      · refine (r_CloneI (hgH.l.mono (rdH 3 h.l)) (by omega) (by omega)).mono ?_
        rintro _ _ ⟨oL, cL, rfl, hN⟩
        have h := hN.on1 h
        refine ⟨_, _, _, rfl, rdH 4 h.l, ?_⟩
        refine newC_i h fun kG _ h => ⟨rdH 5 h.l, ?_⟩
        have h := own_some (cs := []) (vs := [.string .empty]) (l := 1) (c := 1) (sz := 1) (h.pick 6 [3, 0, 2, 1, 4, 5]) rfl rfl (Nat.le_refl _)
        refine stR_i (h.pick 6 [1, 2, 0, 3, 4, 5]) rfl (by intro v hv; simp at hv; rcases hv with rfl | rfl | rfl | rfl | rfl <;> rfl) fun w22 h => ?_
        have t := tl h
        exact t
      · refine newC_i h fun kG _ h => ⟨rdH 4 h.l, ?_⟩
        refine (r_CloneI (hgH.l.mono (rdH 4 h.l)) (by omega) (by omega)).mono ?_
        rintro _ _ ⟨oL, cL, rfl, hN⟩
        have h := hN.on1 h
        refine ⟨_, _, _, rfl, rdH 5 h.l, ?_⟩
        have h := own_some (cs := []) (vs := [.string .empty]) (l := 1) (c := 1) (sz := 1) (h.pick 6 [3, 1, 2, 0, 4, 5]) rfl rfl (Nat.le_refl _)
        refine stR_i (h.pick 6 [1, 2, 0, 3, 4, 5]) rfl (by intro v hv; simp at hv; rcases hv with rfl | rfl | rfl | rfl | rfl <;> rfl) fun w22 h => ?_
        have t := tl h
        exact t
    · refine newC_i h fun kG _ h => ⟨rdH 3 h.l, ?_⟩
      refine (r_CloneT (hgH.t.mono (rdH 3 h.l)) (by omega) (by omega)).mono ?_
      rintro _ _ ⟨oT, cT, rfl, hN⟩
      have h := hN.on1 h
      refine ⟨_, _, _, rfl, rdH 4 h.l, ?_⟩
      refine (r_CloneI (hgH.l.mono (rdH 4 h.l)) (by omega) (by omega)).mono ?_
      rintro _ _ ⟨oL, cL, rfl, hN⟩
      have h := hN.on1 h
      refine ⟨_, _, _, rfl, rdH 5 h.l, ?_⟩
      have h := own_some (cs := []) (vs := [.string .empty]) (l := 1) (c := 1) (sz := 1) (h.pick 6 [3, 2, 1, 0, 4, 5]) rfl rfl (Nat.le_refl _)
      refine stR_i (h.pick 6 [1, 2, 0, 3, 4, 5]) rfl (by intro v hv; simp at hv; rcases hv with rfl | rfl | rfl | rfl | rfl <;> rfl) fun w22 h => ?_
      have t := tl h
      exact t
  · refine newC_i h fun kG _ h => ⟨rdH 2 h.l, ?_⟩
    refine ⟨?_, ?_⟩
    · refine (r_CloneT (hgH.t.mono (rdH 2 h.l)) (by omega) (by omega)).mono ?_
      rintro _ _ ⟨oT, cT, rfl, hN⟩
      have h := hN.on1 h
      refine ⟨_, _, _, rfl, rdH 3 h.l, ?_⟩
      refine ⟨?_, ?_⟩
      · refine (r_CloneI (hgH.l.mono (rdH 3 h.l)) (by omega) (by omega)).mono ?_
        rintro _ _ ⟨oL, cL, rfl, hN⟩
        have h := hN.on1 h
        refine ⟨_, _, _, rfl, rdH 4 h.l, ?_⟩
        refine newC_i h fun kS _ h => ⟨rdH 5 h.l, ?_⟩
        have h := own_some (cs := []) (vs := [.string .empty]) (l := 1) (c := 1) (sz := 1) (h.pick 6 [0, 3, 2, 1, 4, 5]) rfl rfl (Nat.le_refl _)
        refine stR_i (h.pick 6 [1, 2, 0, 3, 4, 5]) rfl (by intro v hv; simp at hv; rcases hv with rfl | rfl | rfl | rfl | rfl <;> rfl) fun w22 h => ?_
        have t := tl h
        exact t
      · refine newC_i h fun kS _ h => ⟨rdH 4 h.l, ?_⟩
        refine (r_CloneI (hgH.l.mono (rdH 4 h.l)) (by omega) (by omega)).mono ?_
        rintro _ _ ⟨oL, cL, rfl, hN⟩
        have h := hN.on1 h
        refine ⟨_, _, _, rfl, rdH 5 h.l, ?_⟩
        have h := own_some (cs := []) (vs := [.string .empty]) (l := 1) (c := 1) (sz := 1) (h.pick 6 [1, 3, 2, 0, 4, 5]) rfl rfl (Nat.le_refl _)
        refine stR_i (h.pick 6 [1, 2, 0, 3, 4, 5]) rfl (by intro v hv; simp at hv; rcases hv with rfl | rfl | rfl | rfl | rfl <;> rfl) fun w22 h => ?_
        have t := tl h
        exact t
    · refine newC_i h fun kS _ h => ⟨rdH 3 h.l, ?_⟩
      refine (r_CloneT (hgH.t.mono (rdH 3 h.l)) (by omega) (by omega)).mono ?_
      rintro _ _ ⟨oT, cT, rfl, hN⟩
      have h := hN.on1 h
      refine ⟨_, _, _, rfl, rdH 4 h.l, ?_⟩
      refine (r_CloneI (hgH.l.mono (rdH 4 h.l)) (by omega) (by omega)).mono ?_
      rintro _ _ ⟨oL, cL, rfl, hN⟩
      have h := hN.on1 h
      refine ⟨_, _, _, rfl, rdH 5 h.l, ?_⟩
      have h := own_some (cs := []) (vs := [.string .empty]) (l := 1) (c := 1) (sz := 1) (h.pick 6 [2, 3, 1, 0, 4, 5]) rfl rfl (Nat.le_refl _)
      refine stR_i (h.pick 6 [1, 2, 0, 3, 4, 5]) rfl (by intro v hv; simp at hv; rcases hv with rfl | rfl | rfl | rfl | rfl <;> rfl) fun w22 h => ?_
      have t := tl h
      exact t
end
end Go.Proofs.YtaheggomcnbbiaaDoor
