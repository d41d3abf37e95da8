/- Texts of this claim, one behind the other. -/
import Derived.Test.YtngdohpikfcifaaGreatDoorG1
import Derived.Lib.TrailingZeros
import Derived.Laws.IdiomCopy
import Derived.MapKept
import Derived.Laws.RangeAny
import Derived.Laws.Strings
import Derived.Lib.OthersKept
import Derived.Laws.StructEq
set_option linter.unusedVariables false
set_option linter.unusedSectionVars false
set_option maxRecDepth 100000
set_option maxHeartbeats 16000000
namespace Go.Proofs.YtngdohpikfcifaaGreatDoor
open Go.V
abbrev sS:FuncId:=8
def oP:bj:={ rngs:=[],loops:=[(6,[(4,(.one (.int .i64)))])],joins:=[],blocks:=[] }
def qh (a:Option Addr) (b c:Nat) (d:Option Addr) (e f:Nat) (g:Option Addr) (i j:Nat) (k:Int) (l:Option Addr) (m n:Nat) (w:World) (R:Value→WP):Prop :=  new w (oC [vS a b c,vS d e f,vS g i j,iI k,vS l m n] 27) fun k1 w1=>new w1 (oC [vS none 0 0,vS none 0 0,vS none 0 0,iI 0,vS none 0 0] 27) fun k2 w2=>∃ n1,World.cell? w2 (Addr.add (aM k1) 3) = some (iI n1)∧new w2 (oC [vS none 0 0,vS none 0 0,vS none 0 0,iI 0,vS none 0 0] 27) fun k3 w3=>iA w3 (aM k3) [vS none 0 0,vS none 0 0,vS none 0 0,iI n1,vS none 0 0] fun w4=>∃ o1 k4 k5,World.cell? w4 (aM k3) = some (vS o1 k4 k5)∧∃ o2 k6 k7,World.cell? w4 (aM k1) = some (vS o2 k6 k7)∧az Proofs.Tryz.prog (f_ 22 (Array.mk [vS o1 k4 k5,vS o2 k6 k7])) w4 fun v1 w5=>∃ o3 k8 k9,v1 = vS o3 k8 k9∧st1 w5 (aM k3) (vS o3 k8 k9) fun w6=>∃ o4 k10 k11,World.cell? w6 (Addr.add (aM k3) 1) = some (vS o4 k10 k11)∧∃ o5 k12 k13,World.cell? w6 (Addr.add (aM k1) 1) = some (vS o5 k12 k13)∧az Proofs.Tryz.prog (f_ 23 (Array.mk [vS o4 k10 k11,vS o5 k12 k13])) w6 fun v2 w7=>∃ o6 k14 k15,v2 = vS o6 k14 k15∧st1 w7 (Addr.add (aM k3) 1) (vS o6 k14 k15) fun w8=>∃ o7 k16 k17,World.cell? w8 (Addr.add (aM k3) 2) = some (vS o7 k16 k17)∧∃ o8 k18 k19,World.cell? w8 (Addr.add (aM k1) 2) = some (vS o8 k18 k19)∧az Proofs.Tryz.prog (f_ 24 (Array.mk [vS o7 k16 k17,vS o8 k18 k19])) w8 fun v3 w9=>∃ o9 k20 k21,v3 = vS o9 k20 k21∧st1 w9 (Addr.add (aM k3) 2) (vS o9 k20 k21) fun w10=>∃ (x1:lP [(4,aI)]),∃ (x2:lN [(4,aI)]),x1 0 w10∧∀ (I1:Nat→Value) (n2:Int) (w11:World),x1 n2 w11→∃ o10 k22 k23,World.cell? w11 (Addr.add (aM k1) 4) = some (vS o10 k22 k23)∧br (decide (n2 < (↑k22:Int))) (∀ w12,drawn w11 w12→∃ (I2:World→Prop),I2 w12∧∃ o11 k24 k25,(∀ w13,I2 w13→World.cell? w13 (Addr.add (aM k1) 4) = some (vS o11 k24 k25))∧idx o11 k24 n2 3 fun a1=>∃ n3,(∀ w14,I2 w14→World.cell? w14 a1 = some (iI n3))∧∃ o12 k26 k27,(∀ w15,I2 w15→World.cell? w15 (Addr.add (aM k1) 4) = some (vS o12 k26 k27))∧idx o12 k26 n2 3 fun a2=>∃ n4,(∀ w16,I2 w16→World.cell? w16 (Addr.add a2 2) = some (iI n4))∧new w12 (oC [iI 0,vS none 0 0,iI 0] 55) fun k28 w17=>I2 w17∧iA w17 (aM k28) [iI n3,vS none 0 0,iI n4] fun w18=>∀ w19,drawn w18 w19→∃ (I3:World→Prop),I3 w19∧∃ o13 k29 k30,(∀ w20,I3 w20→World.cell? w20 (Addr.add (aM k28) 1) = some (vS o13 k29 k30))∧∃ o14 k31 k32,(∀ w21,I3 w21→World.cell? w21 (Addr.add (aM k1) 4) = some (vS o14 k31 k32))∧idx o14 k31 n2 3 fun a3=>∃ o15 k33 k34,(∀ w22,I3 w22→World.cell? w22 (Addr.add a3 1) = some (vS o15 k33 k34))∧az Proofs.Tryz.prog (f_ 24 (Array.mk [vS o13 k29 k30,vS o15 k33 k34])) w19 fun v4 w23=>∃ o16 k35 k36,v4 = vS o16 k35 k36∧I3 w23∧st1 w23 (Addr.add (aM k28) 1) (vS o16 k35 k36) fun w24=>∃ o17 k37 k38,World.cell? w24 (Addr.add (aM k3) 4) = some (vS o17 k37 k38)∧∃ n5 o18 k39 k40 n6,V.rowAt w24 (aM k28) 0 3 = some [iI n5,vS o18 k39 k40,iI n6]∧new w24 (oC [iI n5,vS o18 k39 k40,iI n6] 55) fun k41 w25=>az Proofs.Tryz.prog (f_ 25 (Array.mk [vS o17 k37 k38,vS (some (aM k41)) 1 1])) w25 fun v5 w26=>∃ o19 k42 k43,v5 = vS o19 k42 k43∧st1 w26 (Addr.add (aM k3) 4) (vS o19 k42 k43) fun w27=>aG (n2 + 1)∧x1 (n2 + 1) w27∧x2 (n2 + 1) w27 < x2 n2 w11) (∃ o20 k44 k45 o21 k46 k47 o22 k48 k49 n7 o23 k50 k51,V.rowAt w11 (aM k3) 0 5 = some [vS o20 k44 k45,vS o21 k46 k47,vS o22 k48 k49,iI n7,vS o23 k50 k51]∧iA w11 (aM k2) [vS o20 k44 k45,vS o21 k46 k47,vS o22 k48 k49,iI n7,vS o23 k50 k51] fun w28=>∃ o24 k52 k53 o25 k54 k55 o26 k56 k57 n8 o27 k58 k59,V.rowAt w28 (aM k2) 0 5 = some [vS o24 k52 k53,vS o25 k54 k55,vS o26 k56 k57,iI n8,vS o27 k58 k59]∧R (vG [vS o24 k52 k53,vS o25 k54 k55,vS o26 k56 k57,iI n8,vS o27 k58 k59]) w28)
theorem oQ (a:Option Addr) (b c:Nat) (d:Option Addr) (e f:Nat) (g:Option Addr) (i j:Nat) (k:Int) (l:Option Addr) (m n:Nat) (w:World) (R:Value→WP) (h:qh a b c d e f g i j k l m n w R):aC Tryz.prog 8 [(.agg #[(.slice a b c),(.slice d e f),(.slice g i j),(.int .i64 k),(.slice l m n)])] w R:=rv Tryz.func8 oP (by kernel_rfl) h

abbrev sU:FuncId:=14
def oS:bj:={ rngs:=[],loops:=[(5,[(6,(.one (.int .i64)))]),(10,[(7,(.one (.int .i64)))]),(15,[(8,(.one (.int .i64)))])],joins:=[(3,[(52,(.one .bool))])],blocks:=[] }
def qi (a:Option Addr) (b c:Nat) (d:Option Addr) (e f:Nat) (g:Option Addr) (i j:Nat) (k:Int) (l:Option Addr) (m n:Nat) (o:Option Addr) (p q:Nat) (s:Option Addr) (t u:Nat) (v:Option Addr) (x y:Nat) (z:Int) (aa:Option Addr) (ab ac:Nat) (w:World) (R:Value→WP):Prop :=  new w (oC [vS a b c,vS d e f,vS g i j,iI k,vS l m n] 27) fun k1 w1=>new w1 (oC [vS o p q,vS s t u,vS v x y,iI z,vS aa ab ac] 27) fun k2 w2=>∃ o1 k3 k4,World.cell? w2 (Addr.add (aM k1) 2) = some (vS o1 k3 k4)∧∃ o2 k5 k6,World.cell? w2 (Addr.add (aM k2) 2) = some (vS o2 k5 k6)∧au Proofs.Tryz.prog Ev 23 [vS o1 k3 k4,vS o2 k5 k6] w2 fun v1 w3=>∃ b1,v1 = vB b1∧∃ (x1:lP [(52,yL)]),br (!b1) (x1 true w3) (∃ n1,World.cell? w3 (Addr.add (aM k1) 3) = some (iI n1)∧∃ n2,World.cell? w3 (Addr.add (aM k2) 3) = some (iI n2)∧br (n1 != n2) (x1 true w3) (∃ o3 k7 k8,World.cell? w3 (aM k1) = some (vS o3 k7 k8)∧∃ o4 k9 k10,World.cell? w3 (aM k2) = some (vS o4 k9 k10)∧br ((↑k7:Int) != (↑k9:Int)) (x1 true w3) (∃ o5 k11 k12,World.cell? w3 (Addr.add (aM k1) 1) = some (vS o5 k11 k12)∧∃ o6 k13 k14,World.cell? w3 (Addr.add (aM k2) 1) = some (vS o6 k13 k14)∧br ((↑k11:Int) != (↑k13:Int)) (x1 true w3) (∃ o7 k15 k16,World.cell? w3 (Addr.add (aM k1) 4) = some (vS o7 k15 k16)∧∃ o8 k17 k18,World.cell? w3 (Addr.add (aM k2) 4) = some (vS o8 k17 k18)∧x1 ((↑k15:Int) != (↑k17:Int)) w3))))∧∀ (I1:Nat→Value) (b2:Bool) (w4:World),x1 b2 w4→br b2 (R (vB false) w4) (∃ (x2:lP [(6,aI)]),∃ (x3:lN [(6,aI)]),x2 0 w4∧∀ (I2:Nat→Value) (n3:Int) (w5:World),x2 n3 w5→∃ o9 k19 k20,World.cell? w5 (aM k1) = some (vS o9 k19 k20)∧br (decide (n3 < (↑k19:Int))) (∀ w6,drawn w5 w6→∃ (I3:World→Prop),I3 w6∧∃ o10 k21 k22,(∀ w7,I3 w7→World.cell? w7 (aM k1) = some (vS o10 k21 k22))∧idx o10 k21 n3 2 fun a1=>∃ s1 n4,(∀ w8,I3 w8→V.rowAt w8 a1 0 2 = some [Value.string s1,iI n4])∧∃ o11 k23 k24,(∀ w9,I3 w9→World.cell? w9 (aM k2) = some (vS o11 k23 k24))∧idx o11 k23 n3 2 fun a2=>∃ s2 n5,(∀ w10,I3 w10→V.rowAt w10 a2 0 2 = some [Value.string s2,iI n5])∧∃ v2,(∀ w11,I3 w11→Sem.run Proofs.Tryz.prog (iX BinOp.neq 92 (Operand.tmp 64) (Operand.tmp 69) (vG [Value.string s1,iI n4]) (vG [Value.string s2,iI n5])) w11 = Result.ok v2 w11)∧∃ b3,v2 = vB b3∧br b3 (R (vB false) w6) (aG (n3 + 1)∧x2 (n3 + 1) w6∧x3 (n3 + 1) w6 < x3 n3 w5)) (∃ (x4:lP [(7,aI)]),∃ (x5:lN [(7,aI)]),x4 0 w5∧∀ (I4:Nat→Value) (n6:Int) (w12:World),x4 n6 w12→∃ o12 k25 k26,World.cell? w12 (Addr.add (aM k1) 1) = some (vS o12 k25 k26)∧br (decide (n6 < (↑k25:Int))) (∀ w13,drawn w12 w13→∃ (I5:World→Prop),I5 w13∧∃ o13 k27 k28,(∀ w14,I5 w14→World.cell? w14 (Addr.add (aM k1) 1) = some (vS o13 k27 k28))∧idx o13 k27 n6 1 fun a3=>∃ s3,(∀ w15,I5 w15→World.cell? w15 a3 = some (Value.string s3))∧∃ o14 k29 k30,(∀ w16,I5 w16→World.cell? w16 (Addr.add (aM k2) 1) = some (vS o14 k29 k30))∧idx o14 k29 n6 1 fun a4=>∃ s4,(∀ w17,I5 w17→World.cell? w17 a4 = some (Value.string s4))∧br (!ByteArray.toList s3 == ByteArray.toList s4) (R (vB false) w13) (aG (n6 + 1)∧x4 (n6 + 1) w13∧x5 (n6 + 1) w13 < x5 n6 w12)) (∃ (x6:lP [(8,aI)]),∃ (x7:lN [(8,aI)]),x6 0 w12∧∀ (I6:Nat→Value) (n7:Int) (w18:World),x6 n7 w18→∃ o15 k31 k32,World.cell? w18 (Addr.add (aM k1) 4) = some (vS o15 k31 k32)∧br (decide (n7 < (↑k31:Int))) (∃ o16 k33 k34,World.cell? w18 (Addr.add (aM k1) 4) = some (vS o16 k33 k34)∧idx o16 k33 n7 3 fun a5=>∃ n8 o17 k35 k36 n9,V.rowAt w18 a5 0 3 = some [iI n8,vS o17 k35 k36,iI n9]∧new w18 (oC [iI 0,vS none 0 0,iI 0] 55) fun k37 w19=>iA w19 (aM k37) [iI n8,vS o17 k35 k36,iI n9] fun w20=>∃ o18 k38 k39,World.cell? w20 (Addr.add (aM k2) 4) = some (vS o18 k38 k39)∧idx o18 k38 n7 3 fun a6=>∃ n10 o19 k40 k41 n11,V.rowAt w20 a6 0 3 = some [iI n10,vS o19 k40 k41,iI n11]∧new w20 (oC [iI 0,vS none 0 0,iI 0] 55) fun k42 w21=>iA w21 (aM k42) [iI n10,vS o19 k40 k41,iI n11] fun w22=>∃ o20 k43 k44,World.cell? w22 (Addr.add (aM k37) 1) = some (vS o20 k43 k44)∧∃ o21 k45 k46,World.cell? w22 (Addr.add (aM k42) 1) = some (vS o21 k45 k46)∧au Proofs.Tryz.prog Ev 23 [vS o20 k43 k44,vS o21 k45 k46] w22 fun v3 w23=>∃ b4,v3 = vB b4∧br (!b4) (R (vB false) w23) (∃ n12,World.cell? w23 (aM k37) = some (iI n12)∧∃ n13,World.cell? w23 (aM k42) = some (iI n13)∧br (n12 != n13) (R (vB false) w23) (∃ n14,World.cell? w23 (Addr.add (aM k37) 2) = some (iI n14)∧∃ n15,World.cell? w23 (Addr.add (aM k42) 2) = some (iI n15)∧br (n14 != n15) (R (vB false) w23) (aG (n7 + 1)∧x6 (n7 + 1) w23∧x7 (n7 + 1) w23 < x7 n7 w18)))) (R (vB true) w18))))
theorem oT (a:Option Addr) (b c:Nat) (d:Option Addr) (e f:Nat) (g:Option Addr) (i j:Nat) (k:Int) (l:Option Addr) (m n:Nat) (o:Option Addr) (p q:Nat) (s:Option Addr) (t u:Nat) (v:Option Addr) (x y:Nat) (z:Int) (aa:Option Addr) (ab ac:Nat) (w:World) (R:Value→WP) (h:qi a b c d e f g i j k l m n o p q s t u v x y z aa ab ac w R):aC Tryz.prog 14 [(.agg #[(.slice a b c),(.slice d e f),(.slice g i j),(.int .i64 k),(.slice l m n)]),(.agg #[(.slice o p q),(.slice s t u),(.slice v x y),(.int .i64 z),(.slice aa ab ac)])] w R:=rv Tryz.func14 oS (by kernel_rfl) h

abbrev oU:FuncId:=20
def mh:bj:={ rngs:=[],loops:=[],joins:=[(2,[(20,(.one .bool))])],blocks:=[] }
def nw (a:Option Addr) (b c:Nat) (d:Option Addr) (e f:Nat) (g:Option Addr) (i j:Nat) (k:Int) (l:Option Addr) (m n:Nat) (w:World) (R:Value→WP):Prop :=  new w (oC [vS a b c,vS d e f,vS g i j,iI k,vS l m n] 27) fun k1 w1=>∃ (x1:lP [(20,yL)]),(∃ o1 k2 k3,World.cell? w1 (Addr.add (aM k1) 1) = some (vS o1 k2 k3)∧br (decide ((↑k2:Int) < 2)) (x1 true w1) (∃ o2 k4 k5,World.cell? w1 (Addr.add (aM k1) 1) = some (vS o2 k4 k5)∧idx o2 k4 0 1 fun a1=>∃ s1,World.cell? w1 a1 = some (Value.string s1)∧br (!ByteArray.toList s1 == ByteArray.toList (ByteArray.mk (Array.mk []))) (x1 true w1) (∃ o3 k6 k7,World.cell? w1 (Addr.add (aM k1) 4) = some (vS o3 k6 k7)∧x1 (decide ((↑k6:Int) < 2)) w1)))∧∀ (I1:Nat→Value) (b1:Bool) (w2:World),x1 b1 w2→br b1 (R (vB false) w2) (∃ o4 k8 k9,World.cell? w2 (Addr.add (aM k1) 4) = some (vS o4 k8 k9)∧idx o4 k8 0 3 fun a2=>∃ n1 o5 k10 k11 n2,V.rowAt w2 a2 0 3 = some [iI n1,vS o5 k10 k11,iI n2]∧new w2 (oC [iI 0,vS none 0 0,iI 0] 55) fun k12 w3=>iA w3 (aM k12) [iI n1,vS o5 k10 k11,iI n2] fun w4=>∀ w5,drawn w4 w5→∃ (I2:World→Prop),I2 w5∧∃ n3,(∀ w6,I2 w6→World.cell? w6 (aM k12) = some (iI n3))∧∃ o6 k13 k14,(∀ w7,I2 w7→World.cell? w7 (aM k1) = some (vS o6 k13 k14))∧br (n3 != (↑k13:Int)) (R (vB false) w5) (∃ o7 k15 k16,(∀ w8,I2 w8→World.cell? w8 (Addr.add (aM k12) 1) = some (vS o7 k15 k16))∧br ((↑k15:Int) != 1) (R (vB false) w5) (∃ o8 k17 k18,(∀ w9,I2 w9→World.cell? w9 (Addr.add (aM k12) 1) = some (vS o8 k17 k18))∧idx o8 k17 0 1 fun a3=>∃ n4,(∀ w10,I2 w10→World.cell? w10 a3 = some (iI n4))∧∃ n5,(∀ w11,I2 w11→World.cell? w11 (Addr.add (aM k1) 3) = some (iI n5))∧br (n4 != n5) (R (vB false) w5) (∃ n6,(∀ w12,I2 w12→World.cell? w12 (Addr.add (aM k12) 2) = some (iI n6))∧br (n6 != 0) (R (vB false) w5) (∃ o9 k19 k20 o10 k21 k22 o11 k23 k24 n7 o12 k25 k26,V.rowAt w5 (aM k1) 0 5 = some [vS o9 k19 k20,vS o10 k21 k22,vS o11 k23 k24,iI n7,vS o12 k25 k26]∧au Proofs.Tryz.prog Ev 55 [vA (Array.mk [vS o9 k19 k20,vS o10 k21 k22,vS o11 k23 k24,iI n7,vS o12 k25 k26]),iI 1] w5 fun v1 w13=>∃ b2,v1 = vB b2∧R (vB b2) w13)))))
theorem mi (a:Option Addr) (b c:Nat) (d:Option Addr) (e f:Nat) (g:Option Addr) (i j:Nat) (k:Int) (l:Option Addr) (m n:Nat) (w:World) (R:Value→WP) (h:nw a b c d e f g i j k l m n w R):aC Tryz.prog 20 [(.agg #[(.slice a b c),(.slice d e f),(.slice g i j),(.int .i64 k),(.slice l m n)])] w R:=rv Tryz.func20 mh (by kernel_rfl) h

abbrev mj:FuncId:=23
def j7:bj:={ rngs:=[],loops:=[(4,[(5,(.one (.int .i64)))])],joins:=[],blocks:=[] }
def kZ (a:Option Addr) (b c:Nat) (d:Option Addr) (e f:Nat) (w:World) (R:Value→WP):Prop :=  br ((↑b:Int) != (↑e:Int)) (R (vB false) w) (∃ (x1:lP [(5,aI)]),∃ (x2:lN [(5,aI)]),x1 0 w∧∀ (I1:Nat→Value) (n1:Int) (w1:World),x1 n1 w1→br (decide (n1 < (↑b:Int))) (∀ w2,drawn w1 w2→∃ (I2:World→Prop),I2 w2∧idx a b n1 1 fun a1=>∃ n2,(∀ w3,I2 w3→World.cell? w3 a1 = some (iI n2))∧idx d e n1 1 fun a2=>∃ n3,(∀ w4,I2 w4→World.cell? w4 a2 = some (iI n3))∧br (n2 != n3) (R (vB false) w2) (aG (n1 + 1)∧x1 (n1 + 1) w2∧x2 (n1 + 1) w2 < x2 n1 w1)) (R (vB true) w1))
theorem j8 (a:Option Addr) (b c:Nat) (d:Option Addr) (e f:Nat) (w:World) (R:Value→WP) (h:kZ a b c d e f w R):aC Tryz.prog 23 [(.slice a b c),(.slice d e f)] w R:=rv Tryz.func23 j7 (by kernel_rfl) h

abbrev ny:FuncId:=25
def k_:bj:={ rngs:=[],loops:=[],joins:=[],blocks:=[] }
def ml (a:Option Addr) (b c:Nat) (d:Option Addr) (e f:Nat) (g:Option Addr) (i j:Nat) (k:Int) (l:Option Addr) (m n:Nat) (w:World) (R:Value→WP):Prop :=  new w (oC [vS a b c,vS d e f,vS g i j,iI k,vS l m n] 27) fun k1 w1=>∃ o1 k2 k3,World.cell? w1 (aM k1) = some (vS o1 k2 k3)∧∃ o2 k4 k5,World.cell? w1 (Addr.add (aM k1) 1) = some (vS o2 k4 k5)∧aG ((↑k2:Int) + (↑k4:Int))∧R (iI ((↑k2:Int) + (↑k4:Int))) w1
theorem lh (a:Option Addr) (b c:Nat) (d:Option Addr) (e f:Nat) (g:Option Addr) (i j:Nat) (k:Int) (l:Option Addr) (m n:Nat) (w:World) (R:Value→WP) (h:ml a b c d e f g i j k l m n w R):aC Tryz.prog 25 [(.agg #[(.slice a b c),(.slice d e f),(.slice g i j),(.int .i64 k),(.slice l m n)])] w R:=rv Tryz.func25 k_ (by kernel_rfl) h

abbrev CA:FuncId:=51
def EL:bj:={ rngs:=[],loops:=[],joins:=[],blocks:=[] }
def Av (a:Int) (b:Option Addr) (c d:Nat) (w:World) (R:Value→WP):Prop :=  aG ((if 1024 < if a < 0 then 0 else a then 1024 else if a < 0 then 0 else a) + 63)∧nz 64∧aG (Int.tdiv ((if 1024 < if a < 0 then 0 else a then 1024 else if a < 0 then 0 else a) + 63) 64)∧y7 (Int.tdiv ((if 1024 < if a < 0 then 0 else a then 1024 else if a < 0 then 0 else a) + 63) 64) (Int.tdiv ((if 1024 < if a < 0 then 0 else a then 1024 else if a < 0 then 0 else a) + 63) 64) 8∧new w (Obj.cells (Array.mk (gG (Int.toNat (Int.tdiv ((if 1024 < if a < 0 then 0 else a then 1024 else if a < 0 then 0 else a) + 63) 64)) [Value.int IntKind.u64 0])) 187) fun k1 w1=>new w1 (oC [vS (some (aM k1)) (Int.toNat (Int.tdiv ((if 1024 < if a < 0 then 0 else a then 1024 else if a < 0 then 0 else a) + 63) 64)) (Int.toNat (Int.tdiv ((if 1024 < if a < 0 then 0 else a then 1024 else if a < 0 then 0 else a) + 63) 64)),iI (if 1024 < if a < 0 then 0 else a then 1024 else if a < 0 then 0 else a)] 156) fun k2 w2=>au Proofs.Tryz.prog Ev 52 [vP (some (aM k2)),vS b c d] w2 fun v1 w3=>∃ n1,v1 = iI n1∧R (vP (some (aM k2))) w3
theorem EM (a:Int) (b:Option Addr) (c d:Nat) (w:World) (R:Value→WP) (h:Av a b c d w R):aC Tryz.prog 51 [(.int .i64 a),(.slice b c d)] w R:=rv Tryz.func51 EL (by kernel_rfl) h

abbrev qj:FuncId:=52
def xv:bj:={ rngs:=[],loops:=[(3,[(5,(.one (.int .i64))),(10,(.one (.int .i64)))])],joins:=[],blocks:=[] }
def y_ (a b:Option Addr) (c d:Nat) (w:World) (R:Value→WP):Prop :=  ∃ (x1:lP [(5,aI),(10,aI)]),∃ (x2:lN [(5,aI),(10,aI)]),x1 0 0 w∧∀ (I1:Nat→Value) (n1 n2:Int) (w1:World),x1 n1 n2 w1→br (decide (n2 < (↑c:Int))) (idx b c n2 1 fun a1=>∃ n3,World.cell? w1 a1 = some (iI n3)∧br (decide (0≤n3)) (au Proofs.Tryz.prog Ev 84 [vP a] w1 fun v1 w2=>∃ n4,v1 = iI n4∧br (decide (n3 < n4)) (nn a fun a2=>∃ o1 k1 k2,World.cell? w2 a2 = some (vS o1 k1 k2)∧au Proofs.Tryz.prog Ev 85 [vS o1 k1 k2,iI n3] w2 fun v2 w3=>∃ b1,v2 = vB b1∧br (!b1) (nn a fun a3=>∃ o2 k3 k4,World.cell? w3 a3 = some (vS o2 k3 k4)∧au Proofs.Tryz.prog Ev 86 [vS o2 k3 k4,iI n3] w3 fun v3 w4=>v3 = vT (Array.mk [])∧aG (n1 + 1)∧aG (n2 + 1)∧x1 (n1 + 1) (n2 + 1) w4∧x2 (n1 + 1) (n2 + 1) w4 < x2 n1 n2 w1) (aG (n2 + 1)∧x1 n1 (n2 + 1) w3∧x2 n1 (n2 + 1) w3 < x2 n1 n2 w1)) (aG (n2 + 1)∧x1 n1 (n2 + 1) w2∧x2 n1 (n2 + 1) w2 < x2 n1 n2 w1)) (aG (n2 + 1)∧x1 n1 (n2 + 1) w1∧x2 n1 (n2 + 1) w1 < x2 n1 n2 w1)) (R (iI n1) w1)
theorem xw (a b:Option Addr) (c d:Nat) (w:World) (R:Value→WP) (h:y_ a b c d w R):aC Tryz.prog 52 [(.pointer a),(.slice b c d)] w R:=rv Tryz.func52 xv (by kernel_rfl) h

abbrev ud:FuncId:=53
def qk:bj:={ rngs:=[],loops:=[],joins:=[],blocks:=[] }
def sV (a:Option Addr) (w:World) (R:Value→WP):Prop :=  au Proofs.Tryz.prog Ev 88 [vP a] w fun v1 w1=>∃ g1 x1,v1 = Value.func (Fn.func g1) (Array.mk []) (Array.mk x1)∧au Proofs.Tryz.prog Ev 87 [Value.func (Fn.func g1) (Array.mk []) (Array.mk x1)] w1 fun v2 w2=>∃ o1 k1 k2,v2 = vS o1 k1 k2∧R (vS o1 k1 k2) w2
theorem ql (a:Option Addr) (w:World) (R:Value→WP) (h:sV a w R):aC Tryz.prog 53 [(.pointer a)] w R:=rv Tryz.func53 qk (by kernel_rfl) h

abbrev sW:FuncId:=55
def oV:bj:={ rngs:=[],loops:=[],joins:=[(2,[(43,(.one .bool))])],blocks:=[] }
def qm (a:Option Addr) (b c:Nat) (d:Option Addr) (e f:Nat) (g:Option Addr) (i j:Nat) (k:Int) (l:Option Addr) (m n:Nat) (o:Int) (w:World) (R:Value→WP):Prop :=  new w (oC [vS a b c,vS d e f,vS g i j,iI k,vS l m n] 27) fun k1 w1=>∃ (x1:lP [(43,yL)]),(∃ o1 k2 k3,World.cell? w1 (Addr.add (aM k1) 1) = some (vS o1 k2 k3)∧aG (64 + o)∧br (decide (64 + o < (↑k2:Int))) (x1 true w1) (∃ o2 k4 k5,World.cell? w1 (aM k1) = some (vS o2 k4 k5)∧br (decide (65 < (↑k4:Int))) (x1 true w1) (∃ o3 k6 k7,World.cell? w1 (Addr.add (aM k1) 4) = some (vS o3 k6 k7)∧aG (96 + o)∧br (decide (96 + o < (↑k6:Int))) (x1 true w1) (∃ o4 k8 k9,World.cell? w1 (Addr.add (aM k1) 4) = some (vS o4 k8 k9)∧aG (1 + o)∧br (decide ((↑k8:Int) < 1 + o)) (x1 true w1) (∃ o5 k10 k11,World.cell? w1 (Addr.add (aM k1) 2) = some (vS o5 k10 k11)∧x1 (decide (64 < (↑k10:Int))) w1)))))∧∀ (I1:Nat→Value) (b1:Bool) (w2:World),x1 b1 w2→br b1 (R (vB false) w2) (∃ o6 k12 k13,World.cell? w2 (aM k1) = some (vS o6 k12 k13)∧aG ((↑k12:Int) - 1)∧∃ o7 k14 k15,World.cell? w2 (Addr.add (aM k1) 1) = some (vS o7 k14 k15)∧aG ((↑k12:Int) - 1 + (↑k14:Int))∧aG ((↑k12:Int) - 1 + (↑k14:Int) - o)∧br (decide (64 < (↑k12:Int) - 1 + (↑k14:Int) - o)) (R (vB false) w2) (∃ o8 k16 k17 o9 k18 k19 o10 k20 k21 n1 o11 k22 k23,V.rowAt w2 (aM k1) 0 5 = some [vS o8 k16 k17,vS o9 k18 k19,vS o10 k20 k21,iI n1,vS o11 k22 k23]∧au Proofs.Tryz.prog Ev 89 [vA (Array.mk [vS o8 k16 k17,vS o9 k18 k19,vS o10 k20 k21,iI n1,vS o11 k22 k23])] w2 fun v1 w3=>∃ b2,v1 = vB b2∧br (!b2) (R (vB false) w3) (∃ o12 k24 k25 o13 k26 k27 o14 k28 k29 n2 o15 k30 k31,V.rowAt w3 (aM k1) 0 5 = some [vS o12 k24 k25,vS o13 k26 k27,vS o14 k28 k29,iI n2,vS o15 k30 k31]∧au Proofs.Tryz.prog Ev 90 [vA (Array.mk [vS o12 k24 k25,vS o13 k26 k27,vS o14 k28 k29,iI n2,vS o15 k30 k31])] w3 fun v2 w4=>∃ b3,v2 = vB b3∧∃ o16 k32 k33 o17 k34 k35 o18 k36 k37 n3 o19 k38 k39,V.rowAt w4 (aM k1) 0 5 = some [vS o16 k32 k33,vS o17 k34 k35,vS o18 k36 k37,iI n3,vS o19 k38 k39]∧au Proofs.Tryz.prog Ev 91 [vA (Array.mk [vS o16 k32 k33,vS o17 k34 k35,vS o18 k36 k37,iI n3,vS o19 k38 k39]),iI o] w4 fun v3 w5=>∃ b4,v3 = vB b4∧∃ o20 k40 k41 o21 k42 k43 o22 k44 k45 n4 o23 k46 k47,V.rowAt w5 (aM k1) 0 5 = some [vS o20 k40 k41,vS o21 k42 k43,vS o22 k44 k45,iI n4,vS o23 k46 k47]∧∃ o24 k48 k49,World.cell? w5 (aM k1) = some (vS o24 k48 k49)∧aG ((↑k48:Int) + o)∧au Proofs.Tryz.prog Ev 92 [vA (Array.mk [vS o20 k40 k41,vS o21 k42 k43,vS o22 k44 k45,iI n4,vS o23 k46 k47]),iI o,iI ((↑k48:Int) + o)] w5 fun v4 w6=>∃ b5,v4 = vB b5∧∃ o25 k50 k51 o26 k52 k53 o27 k54 k55 n5 o28 k56 k57,V.rowAt w6 (aM k1) 0 5 = some [vS o25 k50 k51,vS o26 k52 k53,vS o27 k54 k55,iI n5,vS o28 k56 k57]∧au Proofs.Tryz.prog Ev 93 [vA (Array.mk [vS o25 k50 k51,vS o26 k52 k53,vS o27 k54 k55,iI n5,vS o28 k56 k57]),iI o] w6 fun v5 w7=>∃ o29 k58 k59,v5 = vS o29 k58 k59∧∀ w8,drawn w7 w8→∃ (I2:World→Prop),I2 w8∧br b3 (br b4 (br b5 (∃ o30 k60 k61,(∀ w9,I2 w9→World.cell? w9 (Addr.add (aM k1) 1) = some (vS o30 k60 k61))∧aG ((↑k60:Int) - o)∧br ((↑k58:Int) == (↑k60:Int) - o) (∃ n6,(∀ w10,I2 w10→World.cell? w10 (Addr.add (aM k1) 3) = some (iI n6))∧∃ o31 k62 k63,(∀ w11,I2 w11→World.cell? w11 (aM k1) = some (vS o31 k62 k63))∧aG ((↑k62:Int) + o)∧br (decide ((↑k62:Int) + o≤n6)) (∃ n7,(∀ w12,I2 w12→World.cell? w12 (Addr.add (aM k1) 3) = some (iI n7))∧∃ o32 k64 k65 o33 k66 k67 o34 k68 k69 n8 o35 k70 k71,(∀ w13,I2 w13→V.rowAt w13 (aM k1) 0 5 = some [vS o32 k64 k65,vS o33 k66 k67,vS o34 k68 k69,iI n8,vS o35 k70 k71])∧au Proofs.Tryz.prog Ev 25 [vA (Array.mk [vS o32 k64 k65,vS o33 k66 k67,vS o34 k68 k69,iI n8,vS o35 k70 k71])] w8 fun v6 w14=>∃ n9,v6 = iI n9∧I2 w14∧R (vB (decide (n7 < n9))) w14) (R (vB false) w8)) (R (vB false) w8)) (R (vB false) w8)) (R (vB false) w8)) (R (vB false) w8))))
theorem oW (a:Option Addr) (b c:Nat) (d:Option Addr) (e f:Nat) (g:Option Addr) (i j:Nat) (k:Int) (l:Option Addr) (m n:Nat) (o:Int) (w:World) (R:Value→WP) (h:qm a b c d e f g i j k l m n o w R):aC Tryz.prog 55 [(.agg #[(.slice a b c),(.slice d e f),(.slice g i j),(.int .i64 k),(.slice l m n)]),(.int .i64 o)] w R:=rv Tryz.func55 oV (by kernel_rfl) h

abbrev BQ:FuncId:=60
def za:bj:={ rngs:=[],loops:=[],joins:=[(2,[(21,(.one .bool))])],blocks:=[] }
def Aw (a:Option Addr) (b c:Nat) (d:Option Addr) (e f:Nat) (g:Option Addr) (i j:Nat) (k:Int) (l:Option Addr) (m n:Nat) (w:World) (R:Value→WP):Prop :=  new w (oC [vS a b c,vS d e f,vS g i j,iI k,vS l m n] 27) fun k1 w1=>∃ (x1:lP [(21,yL)]),(∃ o1 k2 k3,World.cell? w1 (Addr.add (aM k1) 1) = some (vS o1 k2 k3)∧br ((↑k2:Int) == 0) (x1 true w1) (∃ o2 k4 k5,World.cell? w1 (Addr.add (aM k1) 1) = some (vS o2 k4 k5)∧idx o2 k4 0 1 fun a1=>∃ s1,World.cell? w1 a1 = some (Value.string s1)∧br (!ByteArray.toList s1 == ByteArray.toList (ByteArray.mk (Array.mk []))) (x1 true w1) (∃ o3 k6 k7 o4 k8 k9 o5 k10 k11 n1 o6 k12 k13,V.rowAt w1 (aM k1) 0 5 = some [vS o3 k6 k7,vS o4 k8 k9,vS o5 k10 k11,iI n1,vS o6 k12 k13]∧au Proofs.Tryz.prog Ev 96 [vA (Array.mk [vS o3 k6 k7,vS o4 k8 k9,vS o5 k10 k11,iI n1,vS o6 k12 k13]),iI 1] w1 fun v1 w2=>∃ b1,v1 = vB b1∧x1 (!b1) w2)))∧∀ (I1:Nat→Value) (b2:Bool) (w3:World),x1 b2 w3→br b2 (R (vB false) w3) (∃ o7 k14 k15 o8 k16 k17 o9 k18 k19 n2 o10 k20 k21,V.rowAt w3 (aM k1) 0 5 = some [vS o7 k14 k15,vS o8 k16 k17,vS o9 k18 k19,iI n2,vS o10 k20 k21]∧au Proofs.Tryz.prog Ev 97 [vA (Array.mk [vS o7 k14 k15,vS o8 k16 k17,vS o9 k18 k19,iI n2,vS o10 k20 k21]),iI 1] w3 fun v2 w4=>∃ o11 k22 k23 b3,v2 = vT (Array.mk [vS o11 k22 k23,vB b3])∧∃ o12 k24 k25,World.cell? w4 (Addr.add (aM k1) 4) = some (vS o12 k24 k25)∧∀ w5,drawn w4 w5→∃ (I2:World→Prop),I2 w5∧br b3 (idx o12 k24 0 3 fun a2=>∃ n3,(∀ w6,I2 w6→World.cell? w6 a2 = some (iI n3))∧∃ o13 k26 k27,(∀ w7,I2 w7→World.cell? w7 (aM k1) = some (vS o13 k26 k27))∧br (n3 == (↑k26:Int)) (idx o12 k24 0 3 fun a3=>∃ o14 k28 k29,(∀ w8,I2 w8→World.cell? w8 (Addr.add a3 1) = some (vS o14 k28 k29))∧br ((↑k28:Int) == 1) (idx o12 k24 0 3 fun a4=>∃ o15 k30 k31,(∀ w9,I2 w9→World.cell? w9 (Addr.add a4 1) = some (vS o15 k30 k31))∧idx o15 k30 0 1 fun a5=>∃ n4,(∀ w10,I2 w10→World.cell? w10 a5 = some (iI n4))∧∃ n5,(∀ w11,I2 w11→World.cell? w11 (Addr.add (aM k1) 3) = some (iI n5))∧br (n4 == n5) (idx o12 k24 0 3 fun a6=>∃ n6,(∀ w12,I2 w12→World.cell? w12 (Addr.add a6 2) = some (iI n6))∧R (vB (n6 == 0)) w5) (R (vB false) w5)) (R (vB false) w5)) (R (vB false) w5)) (R (vB false) w5))
theorem zb (a:Option Addr) (b c:Nat) (d:Option Addr) (e f:Nat) (g:Option Addr) (i j:Nat) (k:Int) (l:Option Addr) (m n:Nat) (w:World) (R:Value→WP) (h:Aw a b c d e f g i j k l m n w R):aC Tryz.prog 60 [(.agg #[(.slice a b c),(.slice d e f),(.slice g i j),(.int .i64 k),(.slice l m n)])] w R:=rv Tryz.func60 za (by kernel_rfl) h

abbrev gJ:FuncId:=82
def gb:bj:={ rngs:=[],loops:=[],joins:=[],blocks:=[] }
def gv (a:Option Addr) (b c:Nat) (d:FuncId) (e:List Value) (w:World) (R:Value→WP):Prop :=  au Proofs.Tryz.prog Ev 119 [vS a b c,Value.func (Fn.func d) (Array.mk []) (Array.mk e)] w fun v1 w1=>∃ n1,v1 = iI n1∧R (vB (decide (0≤n1))) w1
theorem cN (a:Option Addr) (b c:Nat) (d:FuncId) (e:List Value) (w:World) (R:Value→WP) (h:gv a b c d e w R):aC Tryz.prog 82 [(.slice a b c),(.func (.func d) #[] ⟨e⟩)] w R:=rv Tryz.func82 gb (by kernel_rfl) h

abbrev zc:FuncId:=84
def vu:bj:={ rngs:=[],loops:=[],joins:=[],blocks:=[] }
def xx (a:Option Addr) (w:World) (R:Value→WP):Prop :=  br (Option.isNone a) (R (iI 0) w) (nn a fun a1=>∃ n1,World.cell? w (Addr.add a1 1) = some (iI n1)∧R (iI n1) w)
theorem vv (a:Option Addr) (w:World) (R:Value→WP) (h:xx a w R):aC Tryz.prog 84 [(.pointer a)] w R:=rv Tryz.func84 vu (by kernel_rfl) h

abbrev xy:FuncId:=85
def ue:bj:={ rngs:=[],loops:=[],joins:=[],blocks:=[] }
def vw (a:Option Addr) (b c:Nat) (d:Int) (w:World) (R:Value→WP):Prop :=  nz 64∧aG (Int.tdiv d 64)∧idx a b (Int.tdiv d 64) 1 fun a1=>∃ n1,World.cell? w a1 = some (Value.int IntKind.u64 n1)∧nz 64∧ns (Int.tmod d 64)∧R (vB (jy BinOp.and IntKind.u64 (y6 IntKind.u64 n1 (Int.tmod d 64)) 1 == 1)) w
theorem uf (a:Option Addr) (b c:Nat) (d:Int) (w:World) (R:Value→WP) (h:vw a b c d w R):aC Tryz.prog 85 [(.slice a b c),(.int .i64 d)] w R:=rv Tryz.func85 ue (by kernel_rfl) h

abbrev xz:FuncId:=86
def ug:bj:={ rngs:=[],loops:=[],joins:=[],blocks:=[] }
def vx (a:Option Addr) (b c:Nat) (d:Int) (w:World) (R:Value→WP):Prop :=  ∀ w1,drawn w w1→∃ (I1:World→Prop),I1 w1∧nz 64∧aG (Int.tdiv d 64)∧idx a b (Int.tdiv d 64) 1 fun a1=>∃ n1,(∀ w2,I1 w2→World.cell? w2 a1 = some (Value.int IntKind.u64 n1))∧nz 64∧ns (Int.tmod d 64)∧idx a b (Int.tdiv d 64) 1 fun a2=>st1 w1 a2 (Value.int IntKind.u64 (jy BinOp.or IntKind.u64 n1 (Kz IntKind.u64 1 (Int.tmod d 64)))) fun w3=>R (vT (Array.mk [])) w3
theorem uh (a:Option Addr) (b c:Nat) (d:Int) (w:World) (R:Value→WP) (h:vx a b c d w R):aC Tryz.prog 86 [(.slice a b c),(.int .i64 d)] w R:=rv Tryz.func86 ug (by kernel_rfl) h

abbrev oX:FuncId:=87
def mn:bj:={ rngs:=[],loops:=[],joins:=[],blocks:=[] }
def nA (a:FuncId) (b:List Value) (w:World) (R:Value→WP):Prop :=  au Proofs.Tryz.prog Ev 120 [vS none 0 0,Value.func (Fn.func a) (Array.mk []) (Array.mk b)] w fun v1 w1=>∃ o1 k1 k2,v1 = vS o1 k1 k2∧R (vS o1 k1 k2) w1
theorem mo (a:FuncId) (b:List Value) (w:World) (R:Value→WP) (h:nA a b w R):aC Tryz.prog 87 [(.func (.func a) #[] ⟨b⟩)] w R:=rv Tryz.func87 mn (by kernel_rfl) h

abbrev Ax:FuncId:=88
def xB:bj:={ rngs:=[],loops:=[],joins:=[],blocks:=[] }
def zd (a:Option Addr) (w:World) (R:Value→WP):Prop :=  new w (oC [vS none 0 0] 154) fun k1 w1=>br (!Option.isNone a) (nn a fun a1=>∃ o1 k2 k3,World.cell? w1 a1 = some (vS o1 k2 k3)∧au Proofs.Tryz.prog Ev 121 [vS o1 k2 k3] w1 fun v1 w2=>∃ o2 k4 k5,v1 = vS o2 k4 k5∧st1 w2 (aM k1) (vS o2 k4 k5) fun w3=>R (Value.func (Fn.func 122) (Array.mk []) (Array.mk [vP (some (aM k1))])) w3) (R (Value.func (Fn.func 122) (Array.mk []) (Array.mk [vP (some (aM k1))])) w1)
theorem xC (a:Option Addr) (w:World) (R:Value→WP) (h:zd a w R):aC Tryz.prog 88 [(.pointer a)] w R:=rv Tryz.func88 xB (by kernel_rfl) h

abbrev mq:FuncId:=89
def j9:bj:={ rngs:=[],loops:=[(4,[(3,(.one (.int .i64)))]),(10,[(5,(.one (.int .i64)))])],joins:=[(2,[(25,(.one .bool))]),(8,[(62,(.one .bool))])],blocks:=[] }
def lj (a:Option Addr) (b c:Nat) (d:Option Addr) (e f:Nat) (g:Option Addr) (i j:Nat) (k:Int) (l:Option Addr) (m n:Nat) (w:World) (R:Value→WP):Prop :=  new w (oC [vS a b c,vS d e f,vS g i j,iI k,vS l m n] 27) fun k1 w1=>∃ (x1:lP [(25,yL)]),(∃ o1 k2 k3,World.cell? w1 (aM k1) = some (vS o1 k2 k3)∧br ((↑k2:Int) == 0) (x1 true w1) (∃ o2 k4 k5,World.cell? w1 (aM k1) = some (vS o2 k4 k5)∧idx o2 k4 0 2 fun a1=>∃ s1,World.cell? w1 a1 = some (Value.string s1)∧br (!ByteArray.toList s1 == ByteArray.toList (ByteArray.mk (Array.mk []))) (x1 true w1) (∃ o3 k6 k7,World.cell? w1 (aM k1) = some (vS o3 k6 k7)∧idx o3 k6 0 2 fun a2=>∃ n1,World.cell? w1 (Addr.add a2 1) = some (iI n1)∧x1 (n1 != 0) w1)))∧∀ (I1:Nat→Value) (b1:Bool) (w2:World),x1 b1 w2→br b1 (R (vB false) w2) (∃ (x2:lP [(3,aI)]),∃ (x3:lN [(3,aI)]),x2 1 w2∧∀ (I2:Nat→Value) (n2:Int) (w3:World),x2 n2 w3→∃ o4 k8 k9,World.cell? w3 (aM k1) = some (vS o4 k8 k9)∧br (decide (n2 < (↑k8:Int))) (∃ o5 k10 k11,World.cell? w3 (aM k1) = some (vS o5 k10 k11)∧idx o5 k10 n2 2 fun a3=>∃ s2,World.cell? w3 a3 = some (Value.string s2)∧au Proofs.Tryz.prog Ev 124 [Value.string s2] w3 fun v1 w4=>∃ b2,v1 = vB b2∧∃ (x4:lP [(62,yL)]),(∀ w5,drawn w4 w5→∃ (I3:World→Prop),I3 w5∧br (!b2) (x4 true w5) (∃ o6 k12 k13,(∀ w6,I3 w6→World.cell? w6 (aM k1) = some (vS o6 k12 k13))∧idx o6 k12 n2 2 fun a4=>∃ n3,(∀ w7,I3 w7→World.cell? w7 (Addr.add a4 1) = some (iI n3))∧br (decide (n3 < 0)) (x4 true w5) (∃ o7 k14 k15,(∀ w8,I3 w8→World.cell? w8 (aM k1) = some (vS o7 k14 k15))∧idx o7 k14 n2 2 fun a5=>∃ n4,(∀ w9,I3 w9→World.cell? w9 (Addr.add a5 1) = some (iI n4))∧∃ o8 k16 k17,(∀ w10,I3 w10→World.cell? w10 (Addr.add (aM k1) 2) = some (vS o8 k16 k17))∧x4 (decide ((↑k16:Int) < n4)) w5)))∧∀ (I4:Nat→Value) (b3:Bool) (w11:World),x4 b3 w11→br b3 (R (vB false) w11) (∃ (x5:lP [(5,aI)]),∃ (x6:lN [(5,aI)]),x5 1 w11∧∀ (I5:Nat→Value) (n5:Int) (w12:World),x5 n5 w12→br (decide (n5 < n2)) (∀ w13,drawn w12 w13→∃ (I6:World→Prop),I6 w13∧∃ o9 k18 k19,(∀ w14,I6 w14→World.cell? w14 (aM k1) = some (vS o9 k18 k19))∧idx o9 k18 n5 2 fun a6=>∃ s3,(∀ w15,I6 w15→World.cell? w15 a6 = some (Value.string s3))∧∃ o10 k20 k21,(∀ w16,I6 w16→World.cell? w16 (aM k1) = some (vS o10 k20 k21))∧idx o10 k20 n2 2 fun a7=>∃ s4,(∀ w17,I6 w17→World.cell? w17 a7 = some (Value.string s4))∧br (ByteArray.toList s3 == ByteArray.toList s4) (R (vB false) w13) (aG (n5 + 1)∧x5 (n5 + 1) w13∧x6 (n5 + 1) w13 < x6 n5 w12)) (aG (n2 + 1)∧x2 (n2 + 1) w12∧x3 (n2 + 1) w12 < x3 n2 w3))) (R (vB true) w3))
theorem j_ (a:Option Addr) (b c:Nat) (d:Option Addr) (e f:Nat) (g:Option Addr) (i j:Nat) (k:Int) (l:Option Addr) (m n:Nat) (w:World) (R:Value→WP) (h:lj a b c d e f g i j k l m n w R):aC Tryz.prog 89 [(.agg #[(.slice a b c),(.slice d e f),(.slice g i j),(.int .i64 k),(.slice l m n)])] w R:=rv Tryz.func89 j9 (by kernel_rfl) h

abbrev lq:FuncId:=90
def jB:bj:={ rngs:=[],loops:=[(2,[(3,(.one (.int .i64)))]),(6,[(4,(.one .bool)),(5,(.one (.int .i64)))])],joins:=[],blocks:=[] }
def kf (a:Option Addr) (b c:Nat) (d:Option Addr) (e f:Nat) (g:Option Addr) (i j:Nat) (k:Int) (l:Option Addr) (m n:Nat) (w:World) (R:Value→WP):Prop :=  new w (oC [vS a b c,vS d e f,vS g i j,iI k,vS l m n] 27) fun k1 w1=>∃ (x1:lP [(3,aI)]),∃ (x2:lN [(3,aI)]),x1 0 w1∧∀ (I1:Nat→Value) (n1:Int) (w2:World),x1 n1 w2→∃ o1 k2 k3,World.cell? w2 (Addr.add (aM k1) 2) = some (vS o1 k2 k3)∧br (decide (n1 < (↑k2:Int))) (∃ (x3:lP [(4,yL),(5,aI)]),∃ (x4:lN [(4,yL),(5,aI)]),x3 false 0 w2∧∀ (I2:Nat→Value) (b1:Bool) (n2:Int) (w3:World),x3 b1 n2 w3→∃ o2 k4 k5,World.cell? w3 (aM k1) = some (vS o2 k4 k5)∧br (decide (n2 < (↑k4:Int))) (br b1 (aG (n2 + 1)∧x3 true (n2 + 1) w3∧x4 true (n2 + 1) w3 < x4 b1 n2 w3) (∃ o3 k6 k7,World.cell? w3 (aM k1) = some (vS o3 k6 k7)∧idx o3 k6 n2 2 fun a1=>∃ n3,World.cell? w3 (Addr.add a1 1) = some (iI n3)∧aG (n1 + 1)∧aG (n2 + 1)∧x3 (n3 == n1 + 1) (n2 + 1) w3∧x4 (n3 == n1 + 1) (n2 + 1) w3 < x4 b1 n2 w3)) (br (!b1) (R (vB false) w3) (∃ o4 k8 k9,World.cell? w3 (Addr.add (aM k1) 2) = some (vS o4 k8 k9)∧idx o4 k8 n1 1 fun a2=>∃ n4,World.cell? w3 a2 = some (iI n4)∧br (decide (n4 < 1)) (R (vB false) w3) (∃ o5 k10 k11,World.cell? w3 (Addr.add (aM k1) 2) = some (vS o5 k10 k11)∧idx o5 k10 n1 1 fun a3=>∃ n5,World.cell? w3 a3 = some (iI n5)∧br (decide (3 < n5)) (R (vB false) w3) (aG (n1 + 1)∧x1 (n1 + 1) w3∧x2 (n1 + 1) w3 < x2 n1 w2))))) (R (vB true) w2)
theorem jC (a:Option Addr) (b c:Nat) (d:Option Addr) (e f:Nat) (g:Option Addr) (i j:Nat) (k:Int) (l:Option Addr) (m n:Nat) (w:World) (R:Value→WP) (h:kf a b c d e f g i j k l m n w R):aC Tryz.prog 90 [(.agg #[(.slice a b c),(.slice d e f),(.slice g i j),(.int .i64 k),(.slice l m n)])] w R:=rv Tryz.func90 jB (by kernel_rfl) h

abbrev nB:FuncId:=91
def lr:bj:={ rngs:=[],loops:=[(2,[(5,(.one (.int .i64)))]),(8,[(7,(.one (.int .i64)))])],joins:=[],blocks:=[] }
def mr (a:Option Addr) (b c:Nat) (d:Option Addr) (e f:Nat) (g:Option Addr) (i j:Nat) (k:Int) (l:Option Addr) (m n:Nat) (o:Int) (w:World) (R:Value→WP):Prop :=  new w (oC [vS a b c,vS d e f,vS g i j,iI k,vS l m n] 27) fun k1 w1=>∃ (x1:lP [(5,aI)]),∃ (x2:lN [(5,aI)]),x1 o w1∧∀ (I1:Nat→Value) (n1:Int) (w2:World),x1 n1 w2→∃ o1 k2 k3,World.cell? w2 (Addr.add (aM k1) 1) = some (vS o1 k2 k3)∧br (decide (n1 < (↑k2:Int))) (∃ o2 k4 k5,World.cell? w2 (Addr.add (aM k1) 1) = some (vS o2 k4 k5)∧idx o2 k4 n1 1 fun a1=>∃ s1,World.cell? w2 a1 = some (Value.string s1)∧au Proofs.Tryz.prog Ev 125 [Value.string s1] w2 fun v1 w3=>∃ b1,v1 = vB b1∧br (!b1) (R (vB false) w3) (∃ (x3:lP [(7,aI)]),∃ (x4:lN [(7,aI)]),x3 o w3∧∀ (I2:Nat→Value) (n2:Int) (w4:World),x3 n2 w4→br (decide (n2 < n1)) (∀ w5,drawn w4 w5→∃ (I3:World→Prop),I3 w5∧∃ o3 k6 k7,(∀ w6,I3 w6→World.cell? w6 (Addr.add (aM k1) 1) = some (vS o3 k6 k7))∧idx o3 k6 n2 1 fun a2=>∃ s2,(∀ w7,I3 w7→World.cell? w7 a2 = some (Value.string s2))∧∃ o4 k8 k9,(∀ w8,I3 w8→World.cell? w8 (Addr.add (aM k1) 1) = some (vS o4 k8 k9))∧idx o4 k8 n1 1 fun a3=>∃ s3,(∀ w9,I3 w9→World.cell? w9 a3 = some (Value.string s3))∧br (ByteArray.toList s2 == ByteArray.toList s3) (R (vB false) w5) (aG (n2 + 1)∧x3 (n2 + 1) w5∧x4 (n2 + 1) w5 < x4 n2 w4)) (aG (n1 + 1)∧x1 (n1 + 1) w4∧x2 (n1 + 1) w4 < x2 n1 w2))) (R (vB true) w2)
theorem lu (a:Option Addr) (b c:Nat) (d:Option Addr) (e f:Nat) (g:Option Addr) (i j:Nat) (k:Int) (l:Option Addr) (m n:Nat) (o:Int) (w:World) (R:Value→WP) (h:mr a b c d e f g i j k l m n o w R):aC Tryz.prog 91 [(.agg #[(.slice a b c),(.slice d e f),(.slice g i j),(.int .i64 k),(.slice l m n)]),(.int .i64 o)] w R:=rv Tryz.func91 lr (by kernel_rfl) h

abbrev mu:FuncId:=92
def kg:bj:={ rngs:=[],loops:=[(2,[(7,(.one (.int .i64)))]),(8,[(9,(.one (.int .i64)))])],joins:=[(6,[(47,(.one .bool))])],blocks:=[] }
def lx (a:Option Addr) (b c:Nat) (d:Option Addr) (e f:Nat) (g:Option Addr) (i j:Nat) (k:Int) (l:Option Addr) (m n:Nat) (o p:Int) (w:World) (R:Value→WP):Prop :=  new w (oC [vS a b c,vS d e f,vS g i j,iI k,vS l m n] 27) fun k1 w1=>∃ (x1:lP [(7,aI)]),∃ (x2:lN [(7,aI)]),x1 o w1∧∀ (I1:Nat→Value) (n1:Int) (w2:World),x1 n1 w2→∃ o1 k2 k3,World.cell? w2 (Addr.add (aM k1) 4) = some (vS o1 k2 k3)∧br (decide (n1 < (↑k2:Int))) (∃ o2 k4 k5,World.cell? w2 (Addr.add (aM k1) 4) = some (vS o2 k4 k5)∧idx o2 k4 n1 3 fun a1=>∃ n2 o3 k6 k7 n3,V.rowAt w2 a1 0 3 = some [iI n2,vS o3 k6 k7,iI n3]∧new w2 (oC [iI 0,vS none 0 0,iI 0] 55) fun k8 w3=>iA w3 (aM k8) [iI n2,vS o3 k6 k7,iI n3] fun w4=>∃ (x3:lP [(47,yL)]),(∀ w5,drawn w4 w5→∃ (I2:World→Prop),I2 w5∧∃ n4,(∀ w6,I2 w6→World.cell? w6 (aM k8) = some (iI n4))∧br (decide (n4 < p)) (x3 true w5) (∃ n5,(∀ w7,I2 w7→World.cell? w7 (aM k8) = some (iI n5))∧∃ o4 k9 k10 o5 k11 k12 o6 k13 k14 n6 o7 k15 k16,(∀ w8,I2 w8→V.rowAt w8 (aM k1) 0 5 = some [vS o4 k9 k10,vS o5 k11 k12,vS o6 k13 k14,iI n6,vS o7 k15 k16])∧au Proofs.Tryz.prog Ev 25 [vA (Array.mk [vS o4 k9 k10,vS o5 k11 k12,vS o6 k13 k14,iI n6,vS o7 k15 k16])] w5 fun v1 w9=>∃ n7,v1 = iI n7∧∃ (I3:World→Prop),I3 w9∧(∀ w10,I3 w10→I2 w10)∧br (decide (n7≤n5)) (x3 true w9) (∃ n8,(∀ w11,I3 w11→World.cell? w11 (Addr.add (aM k8) 2) = some (iI n8))∧br (decide (n8 < 0)) (x3 true w9) (∃ n9,(∀ w12,I3 w12→World.cell? w12 (Addr.add (aM k8) 2) = some (iI n9))∧∃ o8 k17 k18,(∀ w13,I3 w13→World.cell? w13 (Addr.add (aM k1) 2) = some (vS o8 k17 k18))∧x3 (decide ((↑k17:Int) < n9)) w9))))∧∀ (I4:Nat→Value) (b1:Bool) (w14:World),x3 b1 w14→br b1 (R (vB false) w14) (∃ (x4:lP [(9,aI)]),∃ (x5:lN [(9,aI)]),x4 0 w14∧∀ (I5:Nat→Value) (n10:Int) (w15:World),x4 n10 w15→∃ o9 k19 k20,World.cell? w15 (Addr.add (aM k8) 1) = some (vS o9 k19 k20)∧br (decide (n10 < (↑k19:Int))) (∃ o10 k21 k22,World.cell? w15 (Addr.add (aM k8) 1) = some (vS o10 k21 k22)∧idx o10 k21 n10 1 fun a2=>∃ n11,World.cell? w15 a2 = some (iI n11)∧br (decide (n11 < 1)) (R (vB false) w15) (∃ o11 k23 k24 o12 k25 k26 o13 k27 k28 n12 o14 k29 k30,V.rowAt w15 (aM k1) 0 5 = some [vS o11 k23 k24,vS o12 k25 k26,vS o13 k27 k28,iI n12,vS o14 k29 k30]∧au Proofs.Tryz.prog Ev 25 [vA (Array.mk [vS o11 k23 k24,vS o12 k25 k26,vS o13 k27 k28,iI n12,vS o14 k29 k30])] w15 fun v2 w16=>∃ n13,v2 = iI n13∧br (decide (n13≤n11)) (R (vB false) w16) (∃ o15 k31 k32,World.cell? w16 (aM k1) = some (vS o15 k31 k32)∧br (decide ((↑k31:Int)≤n11)) (br (decide (n11 < p)) (R (vB false) w16) (aG (n10 + 1)∧x4 (n10 + 1) w16∧x5 (n10 + 1) w16 < x5 n10 w15)) (aG (n10 + 1)∧x4 (n10 + 1) w16∧x5 (n10 + 1) w16 < x5 n10 w15)))) (aG (n1 + 1)∧x1 (n1 + 1) w15∧x2 (n1 + 1) w15 < x2 n1 w2))) (R (vB true) w2)
theorem kj (a:Option Addr) (b c:Nat) (d:Option Addr) (e f:Nat) (g:Option Addr) (i j:Nat) (k:Int) (l:Option Addr) (m n:Nat) (o p:Int) (w:World) (R:Value→WP) (h:lx a b c d e f g i j k l m n o p w R):aC Tryz.prog 92 [(.agg #[(.slice a b c),(.slice d e f),(.slice g i j),(.int .i64 k),(.slice l m n)]),(.int .i64 o),(.int .i64 p)] w R:=rv Tryz.func92 kg (by kernel_rfl) h

abbrev qo:FuncId:=93
def nC:bj:={ rngs:=[],loops:=[(3,[(5,(.one .slice)),(6,(.one (.int .i64)))]),(7,[(7,(.one .bool)),(8,(.one (.int .i64)))])],joins:=[],blocks:=[] }
def oY (a:Option Addr) (b c:Nat) (d:Option Addr) (e f:Nat) (g:Option Addr) (i j:Nat) (k:Int) (l:Option Addr) (m n:Nat) (o:Int) (w:World) (R:Value→WP):Prop :=  new w (oC [vS a b c,vS d e f,vS g i j,iI k,vS l m n] 27) fun k1 w1=>∃ (x1:lP [(5,js),(6,aI)]),∃ (x2:lN [(5,js),(6,aI)]),x1 none 0 0 o w1∧∀ (I1:Nat→Value) (o1:Option Addr) (k2 k3:Nat) (n1:Int) (w2:World),x1 o1 k2 k3 n1 w2→∃ o2 k4 k5,World.cell? w2 (Addr.add (aM k1) 4) = some (vS o2 k4 k5)∧br (decide (n1 < (↑k4:Int))) (∃ (x3:lP [(7,yL),(8,aI)]),∃ (x4:lN [(7,yL),(8,aI)]),x3 false 0 w2∧∀ (I2:Nat→Value) (b1:Bool) (n2:Int) (w3:World),x3 b1 n2 w3→br (decide (n2 < (↑k2:Int))) (∀ w4,drawn w3 w4→∃ (I3:World→Prop),I3 w4∧br b1 (aG (n2 + 1)∧x3 true (n2 + 1) w4∧x4 true (n2 + 1) w4 < x4 b1 n2 w3) (idx o1 k2 n2 1 fun a1=>∃ n3,(∀ w5,I3 w5→World.cell? w5 a1 = some (iI n3))∧∃ o3 k6 k7,(∀ w6,I3 w6→World.cell? w6 (Addr.add (aM k1) 4) = some (vS o3 k6 k7))∧idx o3 k6 n1 3 fun a2=>∃ n4,(∀ w7,I3 w7→World.cell? w7 a2 = some (iI n4))∧aG (n2 + 1)∧x3 (n3 == n4) (n2 + 1) w4∧x4 (n3 == n4) (n2 + 1) w4 < x4 b1 n2 w3)) (br (!b1) (∃ o4 k8 k9,World.cell? w3 (Addr.add (aM k1) 4) = some (vS o4 k8 k9)∧idx o4 k8 n1 3 fun a3=>∃ n5,World.cell? w3 a3 = some (iI n5)∧new w3 (oC [iI n5] 3) fun k10 w8=>az Proofs.Tryz.prog (f_ 24 (Array.mk [vS o1 k2 k3,vS (some (aM k10)) 1 1])) w8 fun v1 w9=>∃ o5 k11 k12,v1 = vS o5 k11 k12∧aG (n1 + 1)∧x1 o5 k11 k12 (n1 + 1) w9∧x2 o5 k11 k12 (n1 + 1) w9 < x2 o1 k2 k3 n1 w2) (aG (n1 + 1)∧x1 o1 k2 k3 (n1 + 1) w3∧x2 o1 k2 k3 (n1 + 1) w3 < x2 o1 k2 k3 n1 w2))) (R (vS o1 k2 k3) w2)
theorem nD (a:Option Addr) (b c:Nat) (d:Option Addr) (e f:Nat) (g:Option Addr) (i j:Nat) (k:Int) (l:Option Addr) (m n:Nat) (o:Int) (w:World) (R:Value→WP) (h:oY a b c d e f g i j k l m n o w R):aC Tryz.prog 93 [(.agg #[(.slice a b c),(.slice d e f),(.slice g i j),(.int .i64 k),(.slice l m n)]),(.int .i64 o)] w R:=rv Tryz.func93 nC (by kernel_rfl) h

abbrev Dh:FuncId:=94
def Ay:bj:={ rngs:=[],loops:=[],joins:=[],blocks:=[] }
def BR (a:Option Addr) (b c:Nat) (d:Option Addr) (e f:Nat) (g:Option Addr) (i j:Nat) (k:Int) (l:Option Addr) (m n:Nat) (w:World) (R:Value→WP):Prop :=  new w (oC [vS a b c,vS d e f,vS g i j,iI k,vS l m n] 27) fun k1 w1=>∃ o1 k2 k3 o2 k4 k5 o3 k6 k7 n1 o4 k8 k9,V.rowAt w1 (aM k1) 0 5 = some [vS o1 k2 k3,vS o2 k4 k5,vS o3 k6 k7,iI n1,vS o4 k8 k9]∧au Proofs.Tryz.prog Ev 96 [vA (Array.mk [vS o1 k2 k3,vS o2 k4 k5,vS o3 k6 k7,iI n1,vS o4 k8 k9]),iI 0] w1 fun v1 w2=>∃ b1,v1 = vB b1∧br (!b1) (R (vB false) w2) (∃ o5 k10 k11 o6 k12 k13 o7 k14 k15 n2 o8 k16 k17,V.rowAt w2 (aM k1) 0 5 = some [vS o5 k10 k11,vS o6 k12 k13,vS o7 k14 k15,iI n2,vS o8 k16 k17]∧au Proofs.Tryz.prog Ev 97 [vA (Array.mk [vS o5 k10 k11,vS o6 k12 k13,vS o7 k14 k15,iI n2,vS o8 k16 k17]),iI 0] w2 fun v2 w3=>∃ o9 k18 k19 b2,v2 = vT (Array.mk [vS o9 k18 k19,vB b2])∧br b2 (au Proofs.Tryz.prog Ev 126 [vS o9 k18 k19] w3 fun v3 w4=>∃ b3,v3 = vB b3∧R (vB b3) w4) (R (vB false) w3))
theorem Az (a:Option Addr) (b c:Nat) (d:Option Addr) (e f:Nat) (g:Option Addr) (i j:Nat) (k:Int) (l:Option Addr) (m n:Nat) (w:World) (R:Value→WP) (h:BR a b c d e f g i j k l m n w R):aC Tryz.prog 94 [(.agg #[(.slice a b c),(.slice d e f),(.slice g i j),(.int .i64 k),(.slice l m n)])] w R:=rv Tryz.func94 Ay (by kernel_rfl) h

abbrev xD:FuncId:=95
def ui:bj:={ rngs:=[(6,[(17,(.one (.int .i64)))])],loops:=[(3,[(11,(.one (.int .i64)))])],joins:=[],blocks:=[] }
def vy (a b:Option Addr) (c d:Nat) (w:World) (R:Value→WP):Prop :=  new w (oC [vP a] 117) fun k1 w1=>new w1 (oC [iI 0] 3) fun k2 w2=>st1 w2 (aM k2) (iI 0) fun w3=>∃ (x1:lP [(11,aI)]),∃ (x2:lN [(11,aI)]),x1 0 w3∧∀ (I1:Nat→Value) (n1:Int) (w4:World),x1 n1 w4→br (decide (n1 < (↑c:Int))) (idx b c n1 1 fun a1=>∃ o1,World.cell? w4 a1 = some (vP o1)∧au Proofs.Tryz.prog Ev 88 [vP o1] w4 fun v1 w5=>∃ g1 x3,v1 = Value.func (Fn.func g1) (Array.mk []) (Array.mk x3)∧y8 (Proofs.YtngdohpikfcifaaGreatDoor.Fn g1) (∃ (x4:List (List Value)),∃ (x5:aw),∃ (x6:aw),∃ (I2:Nat→aw),∃ (x7:aw),∃ (I3:Nat→aw),∃ (x8:List aw),St w5 (I2 0 :: x5 :: x8)∧(∀ (x9:Hp),aE x8 x9→x6 x9)∧QD Proofs.Tryz.prog g1 [] x3 x5 x6 x4∧(∀ (x10:List Value),x10∈x4→∃ n2,x10 = [iI n2])∧(∀ (k3:Nat) (n3:Int),List.get?Internal x4 k3 = some [iI n3]→∀ (x11:List aw) (w6:World),Nd x11 x8→St w6 (I2 k3 :: x11)→∃ (x12:aw),St w6 (x12 :: x11)∧∀ (x13:List aw) (w7:World),Nd x13 x8→St w7 (x12 :: x13)→∀ w8,drawn w7 w8→∃ (I4:World→Prop),I4 w8∧∃ n4,(∀ w9,I4 w9→World.cell? w9 (aM k2) = some (iI n4))∧∃ o2,(∀ w10,I4 w10→World.cell? w10 (aM k1) = some (vP o2))∧new w8 (oC [iI n3] 3) fun k4 w11=>I4 w11∧au Proofs.Tryz.prog Ev 52 [vP o2,vS (some (aM k4)) 1 1] w11 fun v2 w12=>∃ n5,v2 = iI n5∧I4 w12∧aG (n4 + n5)∧st1 w12 (aM k2) (iI (n4 + n5)) fun w13=>St w13 (I2 (k3 + 1) :: x13))∧(∀ (w14:World),St w14 (I2 (List.length x4) :: x5 :: x8)→aG (n1 + 1)∧x1 (n1 + 1) w14∧x2 (n1 + 1) w14 < x2 n1 w4)∧(∀ (w15:World),St w15 (x7 :: x5 :: x8)→∀ (w16:World),hp w16 = hp w15→R (iI 0) w16)∧True)) (∃ n6,World.cell? w4 (aM k2) = some (iI n6)∧∀ (w17:World),hp w17 = hp w4→R (iI n6) w17)
theorem uj (a b:Option Addr) (c d:Nat) (w:World) (R:Value→WP) (h:vy a b c d w R):aC Tryz.prog 95 [(.pointer a),(.slice b c d)] w R:=rv Tryz.func95 ui (by kernel_rfl) h

abbrev AA:FuncId:=96
def xE:bj:={ rngs:=[],loops:=[(6,[(5,(.one .slice)),(63,(.one (.int .i64)))]),(14,[(96,(.one (.int .i64)))])],joins:=[(2,[(57,(.one .bool))]),(9,[(83,(.one .bool))])],blocks:=[] }
def ze (a:Option Addr) (b c:Nat) (d:Option Addr) (e f:Nat) (g:Option Addr) (i j:Nat) (k:Int) (l:Option Addr) (m n:Nat) (o:Int) (w:World) (R:Value→WP):Prop :=  new w (oC [vS a b c,vS d e f,vS g i j,iI k,vS l m n] 27) fun k1 w1=>∃ (x1:lP [(57,yL)]),(∃ o1 k2 k3,World.cell? w1 (aM k1) = some (vS o1 k2 k3)∧br ((↑k2:Int) == 0) (x1 true w1) (∃ o2 k4 k5,World.cell? w1 (aM k1) = some (vS o2 k4 k5)∧idx o2 k4 0 2 fun a1=>∃ s1 n1,V.rowAt w1 a1 0 2 = some [Value.string s1,iI n1]∧∃ v1,Sem.run Proofs.Tryz.prog (iX BinOp.neq 92 (Operand.tmp 20) (Operand.tmp 21) (vG [Value.string s1,iI n1]) (vG [Value.string (ByteArray.mk (Array.mk [])),iI 0])) w1 = Result.ok v1 w1∧∃ b1,v1 = vB b1∧br b1 (x1 true w1) (∃ o3 k6 k7,World.cell? w1 (Addr.add (aM k1) 1) = some (vS o3 k6 k7)∧br (decide ((↑k6:Int)≤o)) (x1 true w1) (∃ o4 k8 k9,World.cell? w1 (aM k1) = some (vS o4 k8 k9)∧br (decide (65 < (↑k8:Int))) (x1 true w1) (∃ o5 k10 k11,World.cell? w1 (Addr.add (aM k1) 1) = some (vS o5 k10 k11)∧aG (64 + o)∧br (decide (64 + o < (↑k10:Int))) (x1 true w1) (∃ o6 k12 k13,World.cell? w1 (aM k1) = some (vS o6 k12 k13)∧aG ((↑k12:Int) - 1)∧∃ o7 k14 k15,World.cell? w1 (Addr.add (aM k1) 1) = some (vS o7 k14 k15)∧aG ((↑k12:Int) - 1 + (↑k14:Int))∧aG ((↑k12:Int) - 1 + (↑k14:Int) - o)∧x1 (decide (64 < (↑k12:Int) - 1 + (↑k14:Int) - o)) w1))))))∧∀ (I1:Nat→Value) (b2:Bool) (w2:World),x1 b2 w2→br b2 (R (vB false) w2) (new w2 (Obj.map (Array.mk []) 0) fun k16 w3=>∃ o8 k17 k18,World.cell? w3 (aM k1) = some (vS o8 k17 k18)∧p8 o8 k17 k18 (some 1) none none 2 fun (o9:Option Addr) (k19 k20:Nat)=>∃ (x2:lP [(5,js),(63,aI)]),∃ (x3:lN [(5,js),(63,aI)]),x2 none 0 0 0 w3∧∀ (I2:Nat→Value) (o10:Option Addr) (k21 k22:Nat) (n2:Int) (w4:World),x2 o10 k21 k22 n2 w4→br (decide (n2 < (↑k19:Int))) (idx o9 k19 n2 2 fun a2=>∃ s2 n3,V.rowAt w4 a2 0 2 = some [Value.string s2,iI n3]∧new w4 (oC [Value.string (ByteArray.mk (Array.mk [])),iI 0] 92) fun k23 w5=>iA w5 (aM k23) [Value.string s2,iI n3] fun w6=>∃ (x4:lP [(83,yL)]),(∃ s3,World.cell? w6 (aM k23) = some (Value.string s3)∧au Proofs.Tryz.prog Ev 127 [Value.string s3] w6 fun v2 w7=>∃ b3,v2 = vB b3∧br (!b3) (x4 true w7) (∃ n4,World.cell? w7 (Addr.add (aM k23) 1) = some (iI n4)∧br (decide (n4 < 0)) (x4 true w7) (∃ n5,World.cell? w7 (Addr.add (aM k23) 1) = some (iI n5)∧∃ o11 k24 k25,World.cell? w7 (Addr.add (aM k1) 2) = some (vS o11 k24 k25)∧x4 (decide ((↑k24:Int) < n5)) w7)))∧∀ (I3:Nat→Value) (b4:Bool) (w8:World),x4 b4 w8→br b4 (R (vB false) w8) (∃ s4,World.cell? w8 (aM k23) = some (Value.string s4)∧new w8 (oC [Value.string s4] 9) fun k26 w9=>az Proofs.Tryz.prog (f_ 23 (Array.mk [vS o10 k21 k22,vS (some (aM k26)) 1 1])) w9 fun v3 w10=>∃ o12 k27 k28,v3 = vS o12 k27 k28∧∃ n6,World.cell? w10 (Addr.add (aM k23) 1) = some (iI n6)∧az Proofs.Tryz.prog (Instr.mapUpdate 178 (Value.map (some k16)) (iI n6) (iI 1)) w10 fun (x5:Unit) (w11:World)=>aG (n2 + 1)∧x2 o12 k27 k28 (n2 + 1) w11∧x3 o12 k27 k28 (n2 + 1) w11 < x3 o10 k21 k22 n2 w4)) (∃ o13 k29 k30,World.cell? w4 (Addr.add (aM k1) 2) = some (vS o13 k29 k30)∧∃ (x6:lP [(96,aI)]),∃ (x7:lN [(96,aI)]),x6 0 w4∧∀ (I4:Nat→Value) (n7:Int) (w12:World),x6 n7 w12→br (decide (n7 < (↑k29:Int))) (idx o13 k29 n7 1 fun a3=>∃ n8,World.cell? w12 a3 = some (iI n8)∧br (decide (n8 < 1)) (R (vB false) w12) (br (decide (3 < n8)) (R (vB false) w12) (aG (n7 + 1)∧az Proofs.Tryz.prog (Instr.lookup 178 (Value.map (some k16)) (iI (n7 + 1)) false) w12 fun v4 w13=>∃ n9,v4 = iI n9∧br (n9 == 0) (R (vB false) w13) (aG (n7 + 1)∧x6 (n7 + 1) w13∧x7 (n7 + 1) w13 < x7 n7 w12)))) (∃ o14 k31 k32,World.cell? w12 (Addr.add (aM k1) 1) = some (vS o14 k31 k32)∧p8 o14 k31 k32 (some o) none none 1 fun (o15:Option Addr) (k33 k34:Nat)=>au Proofs.Tryz.prog Ev 128 [vS o10 k21 k22] w12 fun v5 w14=>∃ b5,v5 = vB b5∧br b5 (au Proofs.Tryz.prog Ev 128 [vS o15 k33 k34] w14 fun v6 w15=>∃ b6,v6 = vB b6∧br b6 (au Proofs.Tryz.prog Ev 129 [vS o15 k33 k34,Value.func (Fn.func 130) (Array.mk []) (Array.mk [])] w15 fun v7 w16=>∃ b7,v7 = vB b7∧R (vB !b7) w16) (R (vB false) w15)) (R (vB false) w14))))
theorem xF (a:Option Addr) (b c:Nat) (d:Option Addr) (e f:Nat) (g:Option Addr) (i j:Nat) (k:Int) (l:Option Addr) (m n:Nat) (o:Int) (w:World) (R:Value→WP) (h:ze a b c d e f g i j k l m n o w R):aC Tryz.prog 96 [(.agg #[(.slice a b c),(.slice d e f),(.slice g i j),(.int .i64 k),(.slice l m n)]),(.int .i64 o)] w R:=rv Tryz.func96 xE (by kernel_rfl) h

abbrev uk:FuncId:=97
def qp:bj:={ rngs:=[],loops:=[(7,[(8,(.one .slice)),(43,(.one (.int .i64)))]),(12,[(73,(.one (.int .i64)))])],joins:=[(2,[(25,(.one .bool))]),(10,[(69,(.one .bool))])],blocks:=[] }
def sX (a:Option Addr) (b c:Nat) (d:Option Addr) (e f:Nat) (g:Option Addr) (i j:Nat) (k:Int) (l:Option Addr) (m n:Nat) (o:Int) (w:World) (R:Value→WP):Prop :=  new w (oC [vS a b c,vS d e f,vS g i j,iI k,vS l m n] 27) fun k1 w1=>∃ (x1:lP [(25,yL)]),(∃ o1 k2 k3,World.cell? w1 (Addr.add (aM k1) 4) = some (vS o1 k2 k3)∧br (decide ((↑k2:Int)≤o)) (x1 true w1) (∃ o2 k4 k5,World.cell? w1 (Addr.add (aM k1) 4) = some (vS o2 k4 k5)∧aG (96 + o)∧x1 (decide (96 + o < (↑k4:Int))) w1))∧∀ (I1:Nat→Value) (b1:Bool) (w2:World),x1 b1 w2→br b1 (R (vT (Array.mk [vS none 0 0,vB false])) w2) (∃ o3 k6 k7,World.cell? w2 (aM k1) = some (vS o3 k6 k7)∧∃ o4 k8 k9,World.cell? w2 (Addr.add (aM k1) 1) = some (vS o4 k8 k9)∧aG ((↑k6:Int) + (↑k8:Int))∧∃ o5 k10 k11,World.cell? w2 (aM k1) = some (vS o5 k10 k11)∧aG ((↑k10:Int) + o)∧∃ o6 k12 k13,World.cell? w2 (Addr.add (aM k1) 4) = some (vS o6 k12 k13)∧p8 o6 k12 k13 (some o) none none 3 fun (o7:Option Addr) (k14 k15:Nat)=>∃ (x2:lP [(8,js),(43,aI)]),∃ (x3:lN [(8,js),(43,aI)]),x2 none 0 0 0 w2∧∀ (I2:Nat→Value) (o8:Option Addr) (k16 k17:Nat) (n1:Int) (w3:World),x2 o8 k16 k17 n1 w3→br (decide (n1 < (↑k14:Int))) (idx o7 k14 n1 3 fun a1=>∃ n2 o9 k18 k19 n3,V.rowAt w3 a1 0 3 = some [iI n2,vS o9 k18 k19,iI n3]∧new w3 (oC [iI 0,vS none 0 0,iI 0] 55) fun k20 w4=>iA w4 (aM k20) [iI n2,vS o9 k18 k19,iI n3] fun w5=>∃ (x4:lP [(69,yL)]),(∃ n4,World.cell? w5 (aM k20) = some (iI n4)∧br (decide (n4 < (↑k10:Int) + o)) (x4 true w5) (∃ n5,World.cell? w5 (aM k20) = some (iI n5)∧br (decide ((↑k6:Int) + (↑k8:Int)≤n5)) (x4 true w5) (∃ n6,World.cell? w5 (Addr.add (aM k20) 2) = some (iI n6)∧br (decide (n6 < 0)) (x4 true w5) (∃ n7,World.cell? w5 (Addr.add (aM k20) 2) = some (iI n7)∧∃ o10 k21 k22,World.cell? w5 (Addr.add (aM k1) 2) = some (vS o10 k21 k22)∧x4 (decide ((↑k21:Int) < n7)) w5))))∧∀ (I3:Nat→Value) (b2:Bool) (w6:World),x4 b2 w6→br b2 (R (vT (Array.mk [vS none 0 0,vB false])) w6) (∃ o11 k23 k24,World.cell? w6 (Addr.add (aM k20) 1) = some (vS o11 k23 k24)∧∃ (x5:lP [(73,aI)]),∃ (x6:lN [(73,aI)]),x5 0 w6∧∀ (I4:Nat→Value) (n8:Int) (w7:World),x5 n8 w7→br (decide (n8 < (↑k23:Int))) (idx o11 k23 n8 1 fun a2=>∃ n9,World.cell? w7 a2 = some (iI n9)∧br (decide (n9 < 1)) (R (vT (Array.mk [vS none 0 0,vB false])) w7) (br (decide ((↑k6:Int) + (↑k8:Int)≤n9)) (R (vT (Array.mk [vS none 0 0,vB false])) w7) (∃ o12 k25 k26,World.cell? w7 (aM k1) = some (vS o12 k25 k26)∧br (decide ((↑k25:Int)≤n9)) (br (decide (n9 < (↑k10:Int) + o)) (R (vT (Array.mk [vS none 0 0,vB false])) w7) (aG (n8 + 1)∧x5 (n8 + 1) w7∧x6 (n8 + 1) w7 < x6 n8 w7)) (aG (n8 + 1)∧x5 (n8 + 1) w7∧x6 (n8 + 1) w7 < x6 n8 w7)))) (∃ n10,World.cell? w7 (aM k20) = some (iI n10)∧au Proofs.Tryz.prog Ev 132 [vS o8 k16 k17,iI n10] w7 fun v1 w8=>∃ b3,v1 = vB b3∧br (!b3) (∃ n11,World.cell? w8 (aM k20) = some (iI n11)∧new w8 (oC [iI n11] 3) fun k27 w9=>az Proofs.Tryz.prog (f_ 24 (Array.mk [vS o8 k16 k17,vS (some (aM k27)) 1 1])) w9 fun v2 w10=>∃ o13 k28 k29,v2 = vS o13 k28 k29∧aG (n1 + 1)∧x2 o13 k28 k29 (n1 + 1) w10∧x3 o13 k28 k29 (n1 + 1) w10 < x3 o8 k16 k17 n1 w3) (aG (n1 + 1)∧x2 o8 k16 k17 (n1 + 1) w8∧x3 o8 k16 k17 (n1 + 1) w8 < x3 o8 k16 k17 n1 w3)))) (∀ w11,drawn w3 w11→∃ (I5:World→Prop),I5 w11∧∃ o14 k30 k31,(∀ w12,I5 w12→World.cell? w12 (Addr.add (aM k1) 1) = some (vS o14 k30 k31))∧aG ((↑k30:Int) - o)∧br ((↑k16:Int) == (↑k30:Int) - o) (∃ n12,(∀ w13,I5 w13→World.cell? w13 (Addr.add (aM k1) 3) = some (iI n12))∧br (decide ((↑k10:Int) + o≤n12)) (∃ n13,(∀ w14,I5 w14→World.cell? w14 (Addr.add (aM k1) 3) = some (iI n13))∧R (vT (Array.mk [vS o8 k16 k17,vB (decide (n13 < (↑k6:Int) + (↑k8:Int)))])) w11) (R (vT (Array.mk [vS o8 k16 k17,vB false])) w11)) (R (vT (Array.mk [vS o8 k16 k17,vB false])) w11)))
theorem qq (a:Option Addr) (b c:Nat) (d:Option Addr) (e f:Nat) (g:Option Addr) (i j:Nat) (k:Int) (l:Option Addr) (m n:Nat) (o:Int) (w:World) (R:Value→WP) (h:sX a b c d e f g i j k l m n o w R):aC Tryz.prog 97 [(.agg #[(.slice a b c),(.slice d e f),(.slice g i j),(.int .i64 k),(.slice l m n)]),(.int .i64 o)] w R:=rv Tryz.func97 qp (by kernel_rfl) h

abbrev qs:FuncId:=112
def nE:bj:={ rngs:=[],loops:=[],joins:=[],blocks:=[] }
def oZ (a:Option Addr) (b c:Nat) (d:Option Addr) (e f:Nat) (g:Option Addr) (i j:Nat) (k:Int) (l:Option Addr) (m n:Nat) (o:Int) (w:World) (R:Value→WP):Prop :=  new w (oC [vS a b c,vS d e f,vS g i j,iI k,vS l m n] 27) fun k1 w1=>∃ o1 k2 k3,World.cell? w1 (aM k1) = some (vS o1 k2 k3)∧br (decide ((↑k2:Int)≤o)) (∃ o2 k4 k5 o3 k6 k7 o4 k8 k9 n1 o5 k10 k11,V.rowAt w1 (aM k1) 0 5 = some [vS o2 k4 k5,vS o3 k6 k7,vS o4 k8 k9,iI n1,vS o5 k10 k11]∧au Proofs.Tryz.prog Ev 25 [vA (Array.mk [vS o2 k4 k5,vS o3 k6 k7,vS o4 k8 k9,iI n1,vS o5 k10 k11])] w1 fun v1 w2=>∃ n2,v1 = iI n2∧R (vB (decide (o < n2))) w2) (R (vB false) w1)
theorem nF (a:Option Addr) (b c:Nat) (d:Option Addr) (e f:Nat) (g:Option Addr) (i j:Nat) (k:Int) (l:Option Addr) (m n:Nat) (o:Int) (w:World) (R:Value→WP) (h:oZ a b c d e f g i j k l m n o w R):aC Tryz.prog 112 [(.agg #[(.slice a b c),(.slice d e f),(.slice g i j),(.int .i64 k),(.slice l m n)]),(.int .i64 o)] w R:=rv Tryz.func112 nE (by kernel_rfl) h

abbrev mv:FuncId:=118
def kq:bj:={ rngs:=[],loops:=[],joins:=[],blocks:=[] }
def ly (a:Option Addr) (b c:Nat) (w:World) (R:Value→WP):Prop :=  br (Option.isNone a) (R (vS none 0 0) w) (new w (oC [] 3) fun k1 w1=>az Proofs.Tryz.prog (f_ 24 (Array.mk [vS (some (aM k1)) 0 0,vS a b c])) w1 fun v1 w2=>∃ o1 k2 k3,v1 = vS o1 k2 k3∧R (vS o1 k2 k3) w2)
theorem kv (a:Option Addr) (b c:Nat) (w:World) (R:Value→WP) (h:ly a b c w R):aC Tryz.prog 118 [(.slice a b c)] w R:=rv Tryz.func118 kq (by kernel_rfl) h

abbrev dM:FuncId:=119
def hY:bj:={ rngs:=[],loops:=[(2,[(8,(.one (.int .i64)))])],joins:=[],blocks:=[] }
def iC (a:Option Addr) (b c:Nat) (d:FuncId) (e:List Value) (w:World) (R:Value→WP):Prop :=  ∃ (x1:lP [(8,aI)]),∃ (x2:lN [(8,aI)]),x1 0 w∧∀ (I1:Nat→Value) (n1:Int) (w1:World),x1 n1 w1→br (decide (n1 < (↑b:Int))) (idx a b n1 1 fun a1=>∃ n2,World.cell? w1 a1 = some (iI n2)∧y8 (Proofs.YtngdohpikfcifaaGreatDoor.Fn d) (au Proofs.Tryz.prog Ev d (iI n2 :: e) w1 fun v1 w2=>∃ b1,v1 = vB b1∧br b1 (R (iI n1) w2) (aG (n1 + 1)∧x1 (n1 + 1) w2∧x2 (n1 + 1) w2 < x2 n1 w1))) (R (iI (-1)) w1)
theorem dq (a:Option Addr) (b c:Nat) (d:FuncId) (e:List Value) (w:World) (R:Value→WP) (h:iC a b c d e w R):aC Tryz.prog 119 [(.slice a b c),(.func (.func d) #[] ⟨e⟩)] w R:=rv Tryz.func119 hY (by kernel_rfl) h

abbrev iZ:FuncId:=120
def hZ:bj:={ rngs:=[(2,[(7,(.one (.int .i64)))])],loops:=[],joins:=[],blocks:=[] }
def iD (a:Option Addr) (b c:Nat) (d:FuncId) (e:List Value) (w:World) (R:Value→WP):Prop :=  new w (oC [vS a b c] 24) fun k1 w1=>y8 (Proofs.YtngdohpikfcifaaGreatDoor.Fn d) (∃ (x1:List (List Value)),∃ (x2:aw),∃ (x3:aw),∃ (I1:Nat→aw),∃ (x4:aw),∃ (I2:Nat→aw),∃ (x5:List aw),St w1 (I1 0 :: x2 :: x5)∧(∀ (x6:Hp),aE x5 x6→x3 x6)∧QD Proofs.Tryz.prog d [] e x2 x3 x1∧(∀ (x7:List Value),x7∈x1→∃ n1,x7 = [iI n1])∧(∀ (k2:Nat) (n2:Int),List.get?Internal x1 k2 = some [iI n2]→∀ (x8:List aw) (w2:World),Nd x8 x5→St w2 (I1 k2 :: x8)→∃ (x9:aw),St w2 (x9 :: x8)∧∀ (x10:List aw) (w3:World),Nd x10 x5→St w3 (x9 :: x10)→∃ o1 k3 k4,World.cell? w3 (aM k1) = some (vS o1 k3 k4)∧new w3 (oC [iI n2] 3) fun k5 w4=>az Proofs.Tryz.prog (f_ 24 (Array.mk [vS o1 k3 k4,vS (some (aM k5)) 1 1])) w4 fun v1 w5=>∃ o2 k6 k7,v1 = vS o2 k6 k7∧st1 w5 (aM k1) (vS o2 k6 k7) fun w6=>St w6 (I1 (k2 + 1) :: x10))∧(∀ (w7:World),St w7 (I1 (List.length x1) :: x2 :: x5)→∃ o3 k8 k9,World.cell? w7 (aM k1) = some (vS o3 k8 k9)∧∀ (w8:World),hp w8 = hp w7→R (vS o3 k8 k9) w8)∧(∀ (w9:World),St w9 (x4 :: x2 :: x5)→∀ (w10:World),hp w10 = hp w9→R (vS none 0 0) w10)∧True)
theorem h_ (a:Option Addr) (b c:Nat) (d:FuncId) (e:List Value) (w:World) (R:Value→WP) (h:iD a b c d e w R):aC Tryz.prog 120 [(.slice a b c),(.func (.func d) #[] ⟨e⟩)] w R:=rv Tryz.func120 hZ (by kernel_rfl) h

abbrev fS:FuncId:=121
def eZ:bj:={ rngs:=[],loops:=[],joins:=[],blocks:=[] }
def fy (a:Option Addr) (b c:Nat) (w:World) (R:Value→WP):Prop :=  br (Option.isNone a) (R (vS none 0 0) w) (new w (oC [] 187) fun k1 w1=>az Proofs.Tryz.prog (f_ 154 (Array.mk [vS (some (aM k1)) 0 0,vS a b c])) w1 fun v1 w2=>∃ o1 k2 k3,v1 = vS o1 k2 k3∧R (vS o1 k2 k3) w2)
theorem e_ (a:Option Addr) (b c:Nat) (w:World) (R:Value→WP) (h:fy a b c w R):aC Tryz.prog 121 [(.slice a b c)] w R:=rv Tryz.func121 eZ (by kernel_rfl) h

abbrev kN:FuncId:=122
def iU:bj:={ rngs:=[],loops:=[(1,[(7,(.one (.int .i64)))]),(3,[(4,(.one (.int .u64)))])],joins:=[],blocks:=[] }
def ia (E:World→World→Prop) (p0yield:Nat) (c0:Addr) (w:World) (R:Value→World→Prop):Prop :=  ∃ o1 k1 k2,World.cell? w c0 = some (vS o1 k1 k2)∧∃ (x1:lP [(7,aI)]),∃ (x2:lN [(7,aI)]),x1 0 w∧∀ (I1:Nat→Value) (n1:Int) (w1:World),x1 n1 w1→br (decide (n1 < (↑k1:Int))) (idx o1 k1 n1 1 fun a1=>∃ n2,World.cell? w1 a1 = some (Value.int IntKind.u64 n2)∧∃ (x3:lP [(4,S1.one (Cs.int IntKind.u64))]),∃ (x4:lN [(4,S1.one (Cs.int IntKind.u64))]),x3 n2 w1∧∀ (I2:Nat→Value) (n3:Int) (w2:World),x3 n3 w2→br (n3 != 0) (aG (64 * n1)∧au Proofs.Tryz.prog E 123 [Value.int IntKind.u64 n3] w2 fun v1 w3=>∃ n4,v1 = iI n4∧aG (64 * n1 + n4)∧RM Proofs.Tryz.prog E p0yield [iI (64 * n1 + n4)] w3 fun v2 w4=>∃ b1,v2 = vB b1∧br (!b1) (R (vT (Array.mk [])) w4) (x3 (jy BinOp.and IntKind.u64 n3 (IntKind.wrap IntKind.u64 (n3 - 1))) w4∧x4 (jy BinOp.and IntKind.u64 n3 (IntKind.wrap IntKind.u64 (n3 - 1))) w4 < x4 n3 w2)) (aG (n1 + 1)∧x1 (n1 + 1) w2∧x2 (n1 + 1) w2 < x2 n1 w1)) (R (vT (Array.mk [])) w1)
theorem o_ (E:World→World→Prop) (p0yield:Nat) (c0:Addr) (hE:C3 E) (w:World) (R:Value→World→Prop) (h:ia E p0yield c0 w R):au Tryz.prog E 122 [(.func (.yield p0yield) #[] #[]),(.pointer (some c0))] w R :=
 Nq aK QX mixed Tryz.func122 iU hE (by kernel_rfl) ((by kernel_rfl:QE Tryz.prog Ty Fn E iU Tryz.f122 [(.func (.yield p0yield) #[] #[]),(.pointer (some c0))] w R = ia E p0yield c0 w R) ▸ h)

abbrev i_:FuncId:=123
def ib:bj:={ rngs:=[],loops:=[],joins:=[],blocks:=[] }
def iE (a:Int) (w:World) (R:Value→WP):Prop :=  br (a == 0) (R (iI 64) w) (ns 58∧idx (some (aM 0)) 64 (y6 IntKind.u64 (IntKind.wrap IntKind.u64 (jy BinOp.and IntKind.u64 a (IntKind.wrap IntKind.u64 (0 - a)) * 285870213051353865)) 58) 1 fun a1=>∃ n1,World.cell? w a1 = some (Value.int IntKind.u8 n1)∧aG n1∧R (iI n1) w)
theorem ic (a:Int) (w:World) (R:Value→WP) (h:iE a w R):aC Tryz.prog 123 [(.int .u64 a)] w R:=rv Tryz.func123 ib (by kernel_rfl) h

abbrev pf:FuncId:=124
def mw:bj:={ rngs:=[],loops:=[(2,[(3,(.one (.int .i64)))])],joins:=[],blocks:=[] }
def nG (a:ByteArray) (w:World) (R:Value→WP):Prop :=  ∃ (x1:lP [(3,aI)]),∃ (x2:lN [(3,aI)]),x1 0 w∧∀ (I1:Nat→Value) (n1:Int) (w1:World),x1 n1 w1→br (decide (n1 < (↑(ByteArray.size a):Int))) (C5 n1 (ByteArray.size a)∧br (decide ((↑(UInt8.toNat (sb a (Int.toNat n1))):Int) < 32)) (R (vB false) w1) (C5 n1 (ByteArray.size a)∧br (decide (126 < (↑(UInt8.toNat (sb a (Int.toNat n1))):Int))) (R (vB false) w1) (C5 n1 (ByteArray.size a)∧br ((↑(UInt8.toNat (sb a (Int.toNat n1))):Int) == 39) (R (vB false) w1) (aG (n1 + 1)∧x1 (n1 + 1) w1∧x2 (n1 + 1) w1 < x2 n1 w1)))) (br (decide (1≤(↑(ByteArray.size a):Int))) (R (vB (decide ((↑(ByteArray.size a):Int)≤16))) w1) (R (vB false) w1))
theorem my (a:ByteArray) (w:World) (R:Value→WP) (h:nG a w R):aC Tryz.prog 124 [(.string a)] w R:=rv Tryz.func124 mw (by kernel_rfl) h

abbrev pg:FuncId:=125
def mz:bj:={ rngs:=[],loops:=[(2,[(3,(.one (.int .i64)))])],joins:=[(3,[]),(5,[(4,(.one .bool))])],blocks:=[] }
def nH (a:ByteArray) (w:World) (R:Value→WP):Prop :=  ∃ (x1:lP [(3,aI)]),∃ (x2:lN [(3,aI)]),x1 0 w∧∀ (I1:Nat→Value) (n1:Int) (w1:World),x1 n1 w1→br (decide (n1 < (↑(ByteArray.size a):Int))) (∃ (x3:lP []),(∃ (x4:lP [(4,yL)]),(C5 n1 (ByteArray.size a)∧br (decide (65≤(↑(UInt8.toNat (sb a (Int.toNat n1))):Int))) (C5 n1 (ByteArray.size a)∧br (decide ((↑(UInt8.toNat (sb a (Int.toNat n1))):Int)≤90)) (x4 true w1) (C5 n1 (ByteArray.size a)∧br (decide (97≤(↑(UInt8.toNat (sb a (Int.toNat n1))):Int))) (C5 n1 (ByteArray.size a)∧br (decide ((↑(UInt8.toNat (sb a (Int.toNat n1))):Int)≤122)) (x4 true w1) (C5 n1 (ByteArray.size a)∧x4 ((↑(UInt8.toNat (sb a (Int.toNat n1))):Int) == 95) w1)) (C5 n1 (ByteArray.size a)∧x4 ((↑(UInt8.toNat (sb a (Int.toNat n1))):Int) == 95) w1))) (C5 n1 (ByteArray.size a)∧br (decide (97≤(↑(UInt8.toNat (sb a (Int.toNat n1))):Int))) (C5 n1 (ByteArray.size a)∧br (decide ((↑(UInt8.toNat (sb a (Int.toNat n1))):Int)≤122)) (x4 true w1) (C5 n1 (ByteArray.size a)∧x4 ((↑(UInt8.toNat (sb a (Int.toNat n1))):Int) == 95) w1)) (C5 n1 (ByteArray.size a)∧x4 ((↑(UInt8.toNat (sb a (Int.toNat n1))):Int) == 95) w1)))∧∀ (I2:Nat→Value) (b1:Bool) (w2:World),x4 b1 w2→C5 n1 (ByteArray.size a)∧br (decide (48≤(↑(UInt8.toNat (sb a (Int.toNat n1))):Int))) (C5 n1 (ByteArray.size a)∧br (decide ((↑(UInt8.toNat (sb a (Int.toNat n1))):Int)≤57)) (br (!b1) (br (!decide (0 < n1)) (R (vB false) w2) (x3 w2)) (x3 w2)) (br (!b1) (R (vB false) w2) (x3 w2))) (br (!b1) (R (vB false) w2) (x3 w2)))∧∀ (I3:Nat→Value) (w3:World),x3 w3→aG (n1 + 1)∧x1 (n1 + 1) w3∧x2 (n1 + 1) w3 < x2 n1 w1) (br (decide (1≤(↑(ByteArray.size a):Int))) (R (vB (decide ((↑(ByteArray.size a):Int)≤16))) w1) (R (vB false) w1))
theorem mA (a:ByteArray) (w:World) (R:Value→WP) (h:nH a w R):aC Tryz.prog 125 [(.string a)] w R:=rv Tryz.func125 mz (by kernel_rfl) h

abbrev jD:FuncId:=126
def iH:bj:={ rngs:=[],loops:=[(2,[(3,(.one (.int .i64)))])],joins:=[],blocks:=[] }
def ja (a:Option Addr) (b c:Nat) (w:World) (R:Value→WP):Prop :=  aG ((↑b:Int) - 1)∧∃ (x1:lP [(3,aI)]),∃ (x2:lN [(3,aI)]),x1 ((↑b:Int) - 1) w∧∀ (I1:Nat→Value) (n1:Int) (w1:World),x1 n1 w1→br (decide (0 < n1)) (∀ w2,drawn w1 w2→∃ (I2:World→Prop),I2 w2∧idx a b n1 1 fun a1=>∃ n2,(∀ w3,I2 w3→World.cell? w3 a1 = some (iI n2))∧aG (n1 - 1)∧idx a b (n1 - 1) 1 fun a2=>∃ n3,(∀ w4,I2 w4→World.cell? w4 a2 = some (iI n3))∧au Proofs.Tryz.prog Ev 139 [iI n2,iI n3] w2 fun v1 w5=>∃ b1,v1 = vB b1∧br b1 (R (vB false) w5) (aG (n1 - 1)∧x1 (n1 - 1) w5∧x2 (n1 - 1) w5 < x2 n1 w1)) (R (vB true) w1)
theorem iJ (a:Option Addr) (b c:Nat) (w:World) (R:Value→WP) (h:ja a b c w R):aC Tryz.prog 126 [(.slice a b c)] w R:=rv Tryz.func126 iH (by kernel_rfl) h

abbrev BS:FuncId:=127
def zg:bj:={ rngs:=[],loops:=[],joins:=[],blocks:=[] }
def qt (a:ByteArray) (w:World) (R:Value→WP):Prop :=  br (!ByteArray.toList a == ByteArray.toList (ByteArray.mk (Array.mk []))) (br (decide ((↑(ByteArray.size a):Int)≤16)) (au Proofs.Tryz.prog Ev 154 [Value.string a,Value.func (Fn.func 155) (Array.mk []) (Array.mk [])] w fun v1 w1=>∃ n1,v1 = iI n1∧R (vB (decide (n1 < 0))) w1) (R (vB false) w)) (R (vB false) w)
theorem zh (a:ByteArray) (w:World) (R:Value→WP) (h:qt a w R):aC Tryz.prog 127 [(.string a)] w R:=rv Tryz.func127 zg (by kernel_rfl) h

abbrev BT:FuncId:=128
def zi:bj:={ rngs:=[],loops:=[(3,[(9,(.one (.int .i64)))])],joins:=[],blocks:=[] }
def AB (a:Option Addr) (b c:Nat) (w:World) (R:Value→WP):Prop :=  new w (Obj.map (Array.mk []) 0) fun k1 w1=>∃ (x1:lP [(9,aI)]),∃ (x2:lN [(9,aI)]),x1 0 w1∧∀ (I1:Nat→Value) (n1:Int) (w2:World),x1 n1 w2→br (decide (n1 < (↑b:Int))) (idx a b n1 1 fun a1=>∃ s1,World.cell? w2 a1 = some (Value.string s1)∧az Proofs.Tryz.prog (Instr.lookup 133 (Value.map (some k1)) (Value.string s1) false) w2 fun v1 w3=>∃ n2,v1 = iI n2∧aG (n2 + 1)∧az Proofs.Tryz.prog (Instr.mapUpdate 133 (Value.map (some k1)) (Value.string s1) (iI (n2 + 1))) w3 fun (x3:Unit) (w4:World)=>aG (n1 + 1)∧x1 (n1 + 1) w4∧x2 (n1 + 1) w4 < x2 n1 w2) (∃ v2,Sem.run Proofs.Tryz.prog (Builtin.len_ (Array.mk [133]) 3 (Array.mk [Value.map (some k1)])) w2 = Result.ok v2 w2∧∃ n3,v2 = iI n3∧R (vB (n3 == (↑b:Int))) w2)
theorem zj (a:Option Addr) (b c:Nat) (w:World) (R:Value→WP) (h:AB a b c w R):aC Tryz.prog 128 [(.slice a b c)] w R:=rv Tryz.func128 zi (by kernel_rfl) h

abbrev eF:FuncId:=129
def dS:bj:={ rngs:=[],loops:=[],joins:=[],blocks:=[] }
def ec (a:Option Addr) (b c:Nat) (d:FuncId) (e:List Value) (w:World) (R:Value→WP):Prop :=  au Proofs.Tryz.prog Ev 156 [vS a b c,Value.func (Fn.func d) (Array.mk []) (Array.mk e)] w fun v1 w1=>∃ n1,v1 = iI n1∧R (vB (decide (0≤n1))) w1
theorem dT (a:Option Addr) (b c:Nat) (d:FuncId) (e:List Value) (w:World) (R:Value→WP) (h:ec a b c d e w R):aC Tryz.prog 129 [(.slice a b c),(.func (.func d) #[] ⟨e⟩)] w R:=rv Tryz.func129 dS (by kernel_rfl) h

abbrev gd:FuncId:=130
def sY:bj:={ rngs:=[],loops:=[],joins:=[],blocks:=[] }
def um (a:ByteArray) (w:World) (R:Value→WP):Prop :=  au Proofs.Tryz.prog Ev 131 [Value.string a] w fun v1 w1=>∃ b1,v1 = vB b1∧R (vB !b1) w1
theorem sZ (a:ByteArray) (w:World) (R:Value→WP) (h:um a w R):aC Tryz.prog 130 [(.string a)] w R:=rv Tryz.func130 sY (by kernel_rfl) h

abbrev BU:FuncId:=131
def zk:bj:={ rngs:=[],loops:=[(2,[(7,(.one (.int .i64)))])],joins:=[],blocks:=[] }
def qu (a:ByteArray) (w:World) (R:Value→WP):Prop :=  ∃ (x1:lP [(7,aI)]),∃ (x2:lN [(7,aI)]),x1 0 w∧∀ (I1:Nat→Value) (n1:Int) (w1:World),x1 n1 w1→br (decide (n1 < (↑(ByteArray.size a):Int))) (C5 n1 (ByteArray.size a)∧br ((↑(UInt8.toNat (sb a (Int.toNat n1))):Int) != 95) (br (decide (jy BinOp.or IntKind.u8 (↑(UInt8.toNat (sb a (Int.toNat n1))):Int) 32 < 97)) (br (n1 == 0) (R (vB false) w1) (br (decide ((↑(UInt8.toNat (sb a (Int.toNat n1))):Int) < 48)) (R (vB false) w1) (br (decide (57 < (↑(UInt8.toNat (sb a (Int.toNat n1))):Int))) (R (vB false) w1) (aG (n1 + 1)∧x1 (n1 + 1) w1∧x2 (n1 + 1) w1 < x2 n1 w1)))) (br (decide (122 < jy BinOp.or IntKind.u8 (↑(UInt8.toNat (sb a (Int.toNat n1))):Int) 32)) (br (n1 == 0) (R (vB false) w1) (br (decide ((↑(UInt8.toNat (sb a (Int.toNat n1))):Int) < 48)) (R (vB false) w1) (br (decide (57 < (↑(UInt8.toNat (sb a (Int.toNat n1))):Int))) (R (vB false) w1) (aG (n1 + 1)∧x1 (n1 + 1) w1∧x2 (n1 + 1) w1 < x2 n1 w1)))) (aG (n1 + 1)∧x1 (n1 + 1) w1∧x2 (n1 + 1) w1 < x2 n1 w1))) (aG (n1 + 1)∧x1 (n1 + 1) w1∧x2 (n1 + 1) w1 < x2 n1 w1)) (br (!ByteArray.toList a == ByteArray.toList (ByteArray.mk (Array.mk []))) (R (vB (decide ((↑(ByteArray.size a):Int)≤16))) w1) (R (vB false) w1))
theorem zl (a:ByteArray) (w:World) (R:Value→WP) (h:qu a w R):aC Tryz.prog 131 [(.string a)] w R:=rv Tryz.func131 zk (by kernel_rfl) h

abbrev jE:FuncId:=132
def iK:bj:={ rngs:=[],loops:=[],joins:=[],blocks:=[] }
def jb (a:Option Addr) (b c:Nat) (d:Int) (w:World) (R:Value→WP):Prop :=  au Proofs.Tryz.prog Ev 157 [vS a b c,iI d] w fun v1 w1=>∃ n1,v1 = iI n1∧R (vB (decide (0≤n1))) w1
theorem iL (a:Option Addr) (b c:Nat) (d:Int) (w:World) (R:Value→WP) (h:jb a b c d w R):aC Tryz.prog 132 [(.slice a b c),(.int .i64 d)] w R:=rv Tryz.func132 iK (by kernel_rfl) h

abbrev zm:FuncId:=139
def vz:bj:={ rngs:=[],loops:=[],joins:=[],blocks:=[] }
def xG (a b:Int) (w:World) (R:Value→WP):Prop :=  au Proofs.Tryz.prog Ev 145 [iI a] w fun v1 w1=>∃ b1,v1 = vB b1∧br b1 (au Proofs.Tryz.prog Ev 145 [iI b] w1 fun v2 w2=>∃ b2,v2 = vB b2∧br (!b2) (R (vB true) w2) (R (vB (decide (a < b))) w2)) (R (vB (decide (a < b))) w1)
theorem vC (a b:Int) (w:World) (R:Value→WP) (h:xG a b w R):aC Tryz.prog 139 [(.int .i64 a),(.int .i64 b)] w R:=rv Tryz.func139 vz (by kernel_rfl) h

abbrev xH:FuncId:=145
def uo:bj:={ rngs:=[],loops:=[],joins:=[],blocks:=[] }
def vD (a:Int) (w:World) (R:Value→WP):Prop :=  R (vB (a != a)) w
theorem jF (a:Int) (w:World) (R:Value→WP) (h:vD a w R):aC Tryz.prog 145 [(.int .i64 a)] w R:=rv Tryz.func145 uo (by kernel_rfl) h

abbrev gf:FuncId:=150
def fA:bj:={ rngs:=[],loops:=[],joins:=[],blocks:=[] }
def fT (a:Option Addr) (b c:Nat) (d:FuncId) (e:List Value) (w:World) (R:Value→WP):Prop :=  au Proofs.Tryz.prog Ev 171 [vS a b c,Value.func (Fn.func d) (Array.mk []) (Array.mk e)] w fun v1 w1=>∃ n1,v1 = iI n1∧R (vB (decide (0≤n1))) w1
theorem fB (a:Option Addr) (b c:Nat) (d:FuncId) (e:List Value) (w:World) (R:Value→WP) (h:fT a b c d e w R):aC Tryz.prog 150 [(.slice a b c),(.func (.func d) #[] ⟨e⟩)] w R:=rv Tryz.func150 fA (by kernel_rfl) h

abbrev s8:FuncId:=154
def ph:bj:={ rngs:=[],loops:=[],joins:=[],blocks:=[] }
def qv (a:ByteArray) (b:FuncId) (c:List Value) (w:World) (R:Value→WP):Prop :=  au Proofs.Tryz.prog Ev 172 [Value.string a,Value.func (Fn.func b) (Array.mk []) (Array.mk c),vB true] w fun v1 w1=>∃ n1,v1 = iI n1∧R (iI n1) w1
theorem pj (a:ByteArray) (b:FuncId) (c:List Value) (w:World) (R:Value→WP) (h:qv a b c w R):aC Tryz.prog 154 [(.string a),(.func (.func b) #[] ⟨c⟩)] w R:=rv Tryz.func154 ph (by kernel_rfl) h

abbrev gK:FuncId:=155
def uq:bj:={ rngs:=[],loops:=[],joins:=[],blocks:=[] }
def vE (a:Int) (w:World) (R:Value→WP):Prop :=  br (decide (a < 32)) (R (vB true) w) (br (decide (126 < a)) (R (vB true) w) (R (vB (a == 39)) w))
theorem ur (a:Int) (w:World) (R:Value→WP) (h:vE a w R):aC Tryz.prog 155 [(.int .i32 a)] w R:=rv Tryz.func155 uq (by kernel_rfl) h

abbrev fU:FuncId:=156
def fa:bj:={ rngs:=[],loops:=[(2,[(8,(.one (.int .i64)))])],joins:=[],blocks:=[] }
def fC (a:Option Addr) (b c:Nat) (d:FuncId) (e:List Value) (w:World) (R:Value→WP):Prop :=  ∃ (x1:lP [(8,aI)]),∃ (x2:lN [(8,aI)]),x1 0 w∧∀ (I1:Nat→Value) (n1:Int) (w1:World),x1 n1 w1→br (decide (n1 < (↑b:Int))) (idx a b n1 1 fun a1=>∃ s1,World.cell? w1 a1 = some (Value.string s1)∧y8 (Proofs.YtngdohpikfcifaaGreatDoor.Fn d) (au Proofs.Tryz.prog Ev d (Value.string s1 :: e) w1 fun v1 w2=>∃ b1,v1 = vB b1∧br b1 (R (iI n1) w2) (aG (n1 + 1)∧x1 (n1 + 1) w2∧x2 (n1 + 1) w2 < x2 n1 w1))) (R (iI (-1)) w1)
theorem fb (a:Option Addr) (b c:Nat) (d:FuncId) (e:List Value) (w:World) (R:Value→WP) (h:fC a b c d e w R):aC Tryz.prog 156 [(.slice a b c),(.func (.func d) #[] ⟨e⟩)] w R:=rv Tryz.func156 fa (by kernel_rfl) h

abbrev mB:FuncId:=157
def ky:bj:={ rngs:=[],loops:=[(2,[(8,(.one (.int .i64)))])],joins:=[],blocks:=[] }
def lz (a:Option Addr) (b c:Nat) (d:Int) (w:World) (R:Value→WP):Prop :=  ∃ (x1:lP [(8,aI)]),∃ (x2:lN [(8,aI)]),x1 0 w∧∀ (I1:Nat→Value) (n1:Int) (w1:World),x1 n1 w1→br (decide (n1 < (↑b:Int))) (idx a b n1 1 fun a1=>∃ n2,World.cell? w1 a1 = some (iI n2)∧br (d == n2) (R (iI n1) w1) (aG (n1 + 1)∧x1 (n1 + 1) w1∧x2 (n1 + 1) w1 < x2 n1 w1)) (R (iI (-1)) w1)
theorem kz (a:Option Addr) (b c:Nat) (d:Int) (w:World) (R:Value→WP) (h:lz a b c d w R):aC Tryz.prog 157 [(.slice a b c),(.int .i64 d)] w R:=rv Tryz.func157 ky (by kernel_rfl) h

abbrev ig:FuncId:=171
def gx:bj:={ rngs:=[],loops:=[(2,[(8,(.one (.int .i64)))])],joins:=[],blocks:=[] }
def gL (a:Option Addr) (b c:Nat) (d:FuncId) (e:List Value) (w:World) (R:Value→WP):Prop :=  ∃ (x1:lP [(8,aI)]),∃ (x2:lN [(8,aI)]),x1 0 w∧∀ (I1:Nat→Value) (n1:Int) (w1:World),x1 n1 w1→br (decide (n1 < (↑b:Int))) (idx a b n1 1 fun a1=>∃ o1 k1 k2,World.cell? w1 a1 = some (vS o1 k1 k2)∧y8 (Proofs.YtngdohpikfcifaaGreatDoor.Fn d) (au Proofs.Tryz.prog Ev d (vS o1 k1 k2 :: e) w1 fun v1 w2=>∃ b1,v1 = vB b1∧br b1 (R (iI n1) w2) (aG (n1 + 1)∧x1 (n1 + 1) w2∧x2 (n1 + 1) w2 < x2 n1 w1))) (R (iI (-1)) w1)
theorem gy (a:Option Addr) (b c:Nat) (d:FuncId) (e:List Value) (w:World) (R:Value→WP) (h:gL a b c d e w R):aC Tryz.prog 171 [(.slice a b c),(.func (.func d) #[] ⟨e⟩)] w R:=rv Tryz.func171 gx (by kernel_rfl) h

abbrev s_:FuncId:=172
def pk:bj:={ rngs:=[],loops:=[(2,[])],joins:=[],blocks:=[] }
def qw (a:ByteArray) (b:FuncId) (c:List Value) (d:Bool) (w:World) (R:Value→WP):Prop :=  az Proofs.Tryz.prog (Instr.range 9 (Value.string a)) w fun v1 w1=>∃ o1,v1 = vP o1∧∃ (x1:lP []),∃ (x2:lN []),x1 w1∧∀ (I1:Nat→Value) (w2:World),x1 w2→az Proofs.Tryz.prog (Instr.next (vP o1) true 0) w2 fun v2 w3=>v2 = vT (Array.mk [vB false])∧R (iI (-1)) w3∨∃ n1 n2,v2 = vT (Array.mk [vB true,iI n1,Value.int IntKind.i32 n2])∧y8 (Proofs.YtngdohpikfcifaaGreatDoor.Fn b) (au Proofs.Tryz.prog Ev b (Value.int IntKind.i32 n2 :: c) w3 fun v3 w4=>∃ b1,v3 = vB b1∧br (b1 == d) (R (iI n1) w4) (x1 w4∧x2 w4 < x2 w2))
theorem pn (a:ByteArray) (b:FuncId) (c:List Value) (d:Bool) (w:World) (R:Value→WP) (h:qw a b c d w R):aC Tryz.prog 172 [(.string a),(.func (.func b) #[] ⟨c⟩),(.bool d)] w R:=rv Tryz.func172 pk (by kernel_rfl) h

end Go.Proofs.YtngdohpikfcifaaGreatDoor
namespace Go.V
section
variable {P:Program} {w w' : World} {L:List aw} {b:Nat} {vs:List Value}
theorem gh {sz l c j:Nat} {a:Option Addr} {ad:Addr} {v:Value} {k:World→Prop} (h:St w (own sz a l c vs :: L)) (ha:a = some ad) (hj:j < vs.length)
  (hk:∀ w',St w' (own sz a l c (vs.set j v) :: L)→k w') (hv:aS v = true:=by rfl):st1 w (ad.add j) v k:=by
 rcases da h with ⟨rfl,_⟩ | ⟨b,pre,cs,post,rfl,h,h1,h2,h3⟩
 ·cases ha
 ·cases ha
  rw [add_lit]
  refine bg h (by simp; omega) (fun w' h'=>?_) hv
  rw [T3 _ _ (by omega),Tr,List.set_append_left _ _ hj] at h'
  refine hk w' (d_ h' (by simpa using h1) (by simpa using h2) h3)
theorem aq {a:Option Addr} {ad:Addr} {len i:Nat} {k:Addr→Prop} (ha:a = some ad) (hi:i < len) (hk:k (ad.add i)):idx a len (i:Int) 1 k :=
 ⟨ad,ha,by omega,by omega,by simpa [dP] using hk⟩
theorem jG {sz l c:Nat} {a:Option Addr} (h:St w (own sz a l c vs :: L)) (hl:0 < vs.length):∃ ad,a = some ad:=by
 rcases da h with ⟨rfl,_,_,rfl⟩ | ⟨b,pre,cs,post,rfl,_⟩
 ·simp at hl
 ·exact ⟨_,rfl⟩
theorem zM {sz l c:Nat} {a:Option Addr} {ad:Addr} (h:St w (own sz a l c vs :: L)) (ha:a = some ad) {j:Nat} {v:Value} (hj:vs[j]? = some v):w.cell? (ad.add j) = some v:=by
 obtain ⟨ad',h1,h2⟩:=bH h hj
 rw [ha] at h1; cases h1; exact h2
theorem dA (h:drawn w w'):hp w' = hp w:=by unfold drawn at h; subst h; rfl
theorem St.drawn (h:St w L) (hd:V.drawn w w'):St w' L:=h.eq (dA hd)
end
def cw (ws:List Nat):List Value:=ws.map fun (n:Nat)=>Value.int .u64 (n:Int)
def mem (ws:List Nat) (k:Nat):Bool:=(ws.getD (k / 64) 0).testBit (k % 64)
structure Inv (n:Nat) (ws:List Nat) (m:Nat→Bool):Prop where
 len:ws.length = (n + 63) / 64
 le:n≤1024
 lt:∀ x∈ws,x < 2 ^ 64
 mm:∀ k,m k = mem ws k
 out:∀ k,n≤k→m k = false
def vF (p:Option Addr) (n:Nat) (m:Nat→Bool):aw:=fun h =>
 (p = none∧n = 0∧m = fun _=>false) ∨
 ∃ b a c ws,p = some ⟨b,0,none⟩∧Inv n ws m∧aE [aR b [.slice a ws.length c,.int .i64 (n:Int)],own 1 a ws.length c (cw ws)] h
section
variable {w w' : World} {L:List aw} {p:Option Addr} {n:Nat} {m:Nat→Bool}
theorem gM (h:St w (vF p n m :: L)):(p = none∧n = 0∧(m = fun _=>false)∧St w L) ∨
  ∃ b a c ws,p = some ⟨b,0,none⟩∧Inv n ws m∧St w (aR b [.slice a ws.length c,.int .i64 (n:Int)] :: own 1 a ws.length c (cw ws) :: L):=by
 have ht:=h.tail
 obtain ⟨h1,h2,d,s1,s2,ha,hl⟩:=h
 rcases ha with ⟨e1,e2,e3⟩ | ⟨b,a,c,ws,e1,e2,e3⟩
 ·exact .inl ⟨e1,e2,e3,ht⟩
 ·exact .inr ⟨b,a,c,ws,e1,e2,St.flat.1 (show St w (aT [_,_] :: L) from ⟨h1,h2,d,s1,s2,e3,hl⟩)⟩
theorem HZ {b:Nat} {a:Option Addr} {c:Nat} {ws:List Nat} (hi:Inv n ws m) (h:St w (aR b [.slice a ws.length c,.int .i64 (n:Int)] :: own 1 a ws.length c (cw ws) :: L)):St w (vF (some ⟨b,0,none⟩) n m :: L) :=
 (St.flat.2 (show St w ([_,_] ++ L) from h)).head fun h ha=>.inr ⟨b,a,c,ws,rfl,hi,ha⟩
theorem K4 (h:St w (vF p n m :: L)) {k:Nat} (hk:n≤k):m k = false:=by
 rcases gM h with ⟨_,_,rfl,_⟩ | ⟨_,_,_,_,_,hi,_⟩
 ·rfl
 ·exact hi.out k hk
theorem Nt (h:St w (vF p n m :: L)):n≤1024:=by
 rcases gM h with ⟨_,rfl,_,_⟩ | ⟨_,_,_,_,_,hi,_⟩
 ·omega
 ·exact hi.le
end
end Go.V
namespace Go.Proofs.YtngdohpikfcifaaGreatDoor
open Go.V
section
variable {w:World} {L:List aw} {a:Option Addr} {c:Nat} {ws:List Nat} {p:Option Addr} {n:Nat} {m:Nat→Bool}
theorem Gu {ws:List Nat} {j:Nat} (h:j < ws.length):(cw ws)[j]? = some (.int .u64 ((ws.getD j 0:Nat):Int)):=by
 simp [cw,h]
theorem zN {ws:List Nat} (hl:∀ x∈ws,x < 2 ^ 64) (j:Nat):ws.getD j 0 < 2 ^ 64:=by
 by_cases h:j < ws.length
 ·rw [Sq,Sm h]; exact hl _ (List.getElem_mem h)
 ·rw [Sq,SH (by omega)]; simp
theorem K5:nz 64:=by unfold nz; decide
theorem zO {k:Nat} (h:k < 9223372036854775807):aG (k:Int):=⟨by omega,by omega⟩
theorem EN (h:St w (own 1 a ws.length c (cw ws) :: L)) (hlt:∀ x∈ws,x < 2 ^ 64) {k:Nat} (hk:k / 64 < ws.length) (hb:k < 4096) :
  aC Tryz.prog xy [.slice a ws.length c,.int .i64 (k:Int)] w fun v w'=>v = .bool (mem ws k)∧w' = w:=by
 refine uf _ _ _ _ w _ ?_
 obtain ⟨ad,rfl⟩:=jG h (by simp [cw]; omega)
 have hg:=zM h rfl (Gu hk)
 refine ⟨K5,?_,?_⟩
 ·rw [Au]; exact zO (by omega)
 ·rw [Au,K2]
  refine aq rfl hk ⟨_,hg,K5,?_,?_,rfl⟩
  ·show (0:Int)≤_; omega
  ·rw [K3 (zN hlt _) (Nat.mod_lt _ (by omega))]; rfl
theorem mem_set {ws:List Nat} {k r:Nat} (hk:k / 64 < ws.length) (j:Nat):mem (ws.set (k / 64) r) j = if j / 64 = k / 64 then r.testBit (j % 64) else mem ws j:=by
 unfold mem
 rw [Sq,TB]
 split
 ·rename_i h; rw [Sz h.symm]; rfl
 ·rename_i h; rw [Sr (fun e=>h e.symm),Sq]
theorem Ps {ws:List Nat} {i r:Nat}:(cw ws).set i (.int .u64 (r:Int)) = cw (ws.set i r):=by simp [cw]
theorem EO (h:St w (own 1 a ws.length c (cw ws) :: L)) (hlt:∀ x∈ws,x < 2 ^ 64) {k:Nat} (hk:k / 64 < ws.length) (hb:k < 4096) :
  aC Tryz.prog xz [.slice a ws.length c,.int .i64 (k:Int)] w fun v w'=>v = .tuple #[]∧∃ ws',ws'.length = ws.length∧(∀ x∈ws',x < 2 ^ 64)∧(∀ j,mem ws' j = (mem ws j || j == k))∧St w' (own 1 a ws.length c (cw ws') :: L):=by
 refine uh _ _ _ _ w _ ?_
 intro w1 hd
 have h1:=h.drawn hd
 obtain ⟨ad,rfl⟩:=jG h (by simp [cw]; omega)
 have hg:=fun w2 (e:hp w2 = hp w)=>zM (h.eq e) rfl (Gu hk)
 refine ⟨fun w2=>hp w2 = hp w,dA hd,K5,?_,?_⟩
 ·rw [Au]; exact zO (by omega)
 ·rw [Au,K2]
  refine aq rfl hk ⟨_,hg,K5,?_,aq rfl hk ?_⟩
  ·show (0:Int)≤_; omega
  ·have hm:k % 64 < 64:=Nat.mod_lt _ (by omega)
   rw [K1 hm,Ns (zN hlt _) (Nat.pow_lt_pow_right (by omega) hm)]
   refine gh h1 rfl (by simpa [cw] using hk) fun w3 h3=>?_
   rw [Ps] at h3
   refine ⟨rfl,_,by simp,fun x hx=>?_,fun j=>?_,h3⟩
   ·rcases List.mem_or_eq_of_mem_set hx with hx | rfl
    ·exact hlt x hx
    ·exact Nat.or_lt_two_pow (zN hlt _) (Nat.pow_lt_pow_right (by omega) hm)
   ·rw [mem_set hk]
    split
    ·rename_i e
     rw [Nat.testBit_or,Nat.testBit_two_pow]
     unfold mem
     rw [e]
     congr 1
     by_cases hj:j = k
     ·subst hj; simp
     ·have:¬ (k % 64 = j % 64):=by omega
      simp [hj,this]
    ·rename_i e
     have:(j == k) = false:=by simp; intro h; exact e (by rw [h])
     simp [this]
theorem Pt (h:St w (vF p n m :: L)):aC Tryz.prog zc [.pointer p] w fun v w'=>v = .int .i64 (n:Int)∧w' = w:=by
 refine vv _ w _ ?_
 rcases gM h with ⟨rfl,rfl,rfl,_⟩ | ⟨b,a,c,ws,rfl,hi,h⟩
 ·exact ⟨rfl,rfl⟩
 ·refine ⟨(n:Int),?_,rfl,rfl⟩
  rw [aO,h.cell]; rfl
theorem Pu (hi:Inv n ws m) {k:Nat} (hk:k < n):k / 64 < ws.length:=by rw [hi.len]; omega
end
end Go.Proofs.YtngdohpikfcifaaGreatDoor
namespace Go.V
def qx (h:Hp) (a:Addr):Option Value :=
 match h a.block with
 | some (.cells c _ _)=>if a.spot.isSome then none else c[a.off]?
 | _=>none
theorem su {h h' : Hp} (s:sub h h') {a:Addr} {v:Value} (hc:qx h a = some v):qx h' a = some v:=by
 unfold qx at *
 split at hc
 ·rename_i c _ _ he; rw [s _ _ he]; exact hc
 ·cases hc
theorem kO {w:World} {a:Addr} {v:Value} (hc:qx (hp w) a = some v):w.cell? a = some v:=by
 unfold qx at hc
 split at hc
 ·rename_i c _ _ he; unfold World.cell?; rw [l7 he]; exact hc
 ·cases hc
def gN (a:Option Addr) (vs:List Value):aw:=fun h=>vs = []∨∃ ad,a = some ad∧∀ j v,vs[j]? = some v→qx h (ad.add j) = some v
section
variable {w w' : World} {L:List aw} {a:Option Addr} {vs:List Value}
theorem Di (h:St w (gN a vs :: L)) {j:Nat} {v:Value} (hj:vs[j]? = some v):∃ ad,a = some ad∧w.cell? (ad.add j) = some v:=by
 obtain ⟨h1,h2,d,s1,s2,ha,hl⟩:=h
 rcases ha with rfl | ⟨ad,e,hc⟩
 ·simp at hj
 ·exact ⟨ad,e,kO (su s1 (hc j v hj))⟩
theorem bV {sz l c:Nat} {h:Hp} (ha:own sz a l c vs h):gN a vs h:=by
 rcases ha with ⟨_,_,_,rfl⟩ | ⟨b,pre,cs,post,rfl,⟨e,he⟩,_⟩
 ·exact .inl rfl
 ·refine .inr ⟨_,rfl,fun j v hj=>?_⟩
  rw [add_lit]; unfold qx; simp only [he]
  have:=(Sk.1 hj).1
  simp only [Option.isSome_none,T4,if_false,List.getElem?_toArray]
  rw [SC (by omega),Tr,Sw this]; exact hj
end
def iv (xs:List Int):List Value:=xs.map fun x=>Value.int .i64 x
theorem Pv {xs:List Int} {j:Nat} {x:Int} (h:xs[j]? = some x):(iv xs)[j]? = some (.int .i64 x):=by simp [iv,h]
theorem bA {l j:Nat} (h:j < l):l - ((j:Int) + 1).toNat < l - (j:Int).toNat:=by omega
def jc (n:Nat) (m:Nat→Bool):Nat:=((List.range n).filter m).length
theorem Gv (n:Nat) (m:Nat→Bool):jc n m≤n:=by
 unfold jc; exact SK (Tj _ _) (by simp)
theorem qy (n:Nat) (m:Nat→Bool):jc (n + 1) m = jc n m + (if m n then 1 else 0):=by
 unfold jc; rw [TX,Th,Sx]
 congr 1
 by_cases h:m n <;> simp [h]
theorem CB {n:Nat} {m m' : Nat→Bool} (h:∀ k,k < n→m k = m' k):jc n m = jc n m':=by
 unfold jc; congr 1; exact List.filter_congr fun k hk=>h k (by simpa using hk)
theorem H0 {n:Nat} {m:Nat→Bool} {k:Nat} (hk:k < n) (hm:m k = false):jc n (fun j=>m j || j == k) = jc n m + 1:=by
  induction n with
  | zero=>omega
  | succ n ih =>
    rw [qy,qy]
    by_cases h:k = n
    · subst h
      rw [CB (m' := m) fun j hj => by have : (j == k) = false := by simp; omega
                                      simp [this]]
      simp [hm]
    · rw [ih (by omega)]
      have:(n == k) = false:=by simp; omega
      simp only [this,Bool.or_false]; omega
def eG (n:Nat) (m:Nat→Bool) (xs:List Int):Nat→Bool:=fun k=>m k || (decide (k < n) && xs.contains (k:Int))
theorem aV {xs:List Int} {j:Nat} {x:Int} (h:xs[j]? = some x):xs.take (j + 1) = xs.take j ++ [x]:=by
 rw [Su,h]; rfl
theorem lA (l:List Int) (x y:Int):(l ++ [x]).contains y = (l.contains y || y == x):=by
 simp only [List.contains_append,List.contains_cons,List.contains_nil,Bool.or_false]
theorem Jw {n:Nat} {m:Nat→Bool} {xs:List Int} {j:Nat} {x:Nat} (h:xs[j]? = some (x:Int)) (hx:x < n):eG n m (xs.take (j + 1)) = fun k=>eG n m (xs.take j) k || k == x:=by
 funext k
 simp only [eG,aV h,lA]
 have e:((k:Int) == (x:Int)) = (k == x):=by
  rw [S9]; simp only [beq_iff_eq]; omega
 rw [e]
 by_cases hk:k = x
 ·subst hk; simp [hx]
 ·have:(k == x) = false:=by simp [hk]
  simp [this]
theorem CC {n:Nat} {m:Nat→Bool} {xs:List Int} {j:Nat} {x:Int} (h:xs[j]? = some x) (hx:∀ k:Nat,k < n→(k:Int) = x→eG n m (xs.take j) k = true):eG n m (xs.take (j + 1)) = eG n m (xs.take j):=by
 funext k
 have hk:=hx k
 simp only [eG,aV h,lA] at hk ⊢
 by_cases h1:k < n
 ·by_cases h2:(k:Int) = x
  ·have:=hk h1 h2
   simp only [h1,decide_true,TS] at this ⊢
   rw [this]
   revert this
   cases m k <;> simp
   intro h; exact .inl h
  ·have:((k:Int) == x) = false:=by simp [h2]
   simp [this]
 ·simp [h1]
theorem EP (n:Nat) (m:Nat→Bool):eG n m [] = m:=by funext k; simp [eG]
end Go.V
namespace Go.Proofs.YtngdohpikfcifaaGreatDoor
open Go.V
section
variable {w:World} {L:List aw} {a:Option Addr} {l c:Nat} {p:Option Addr} {n:Nat} {m:Nat→Bool} {xs:List Int}
theorem OY {D:aw} (hD:∀ h,D h→gN a (iv xs) h) (h:St w (vF p n m :: D :: L)) (hl:xs.length = l) (hb:l≤4611686018427387904) :
  aC Tryz.prog qj [.pointer p,.slice a l c] w fun v w'=>v = .int .i64 ((jc n (eG n m xs):Int) - jc n m)∧St w' (vF p n (eG n m xs) :: D :: L):=by
 refine xw _ _ _ _ w _ ?_
 refine ⟨fun n1 n2 w=>∃ j:Nat,n2 = j∧j≤l∧n1 = (jc n (eG n m (xs.take j)):Int) - jc n m∧St w (vF p n (eG n m (xs.take j)) :: D :: L),
  fun _ n2 _=>l - n2.toNat,⟨0,rfl,by omega,by simp [EP],by simpa [EP] using h⟩,?_⟩
 rintro _ n1 n2 w1 ⟨j,rfl,hj,hn1,hs⟩
 refine ae (fun h0=>?_) fun h0=>?_
 ·have h0:j < l:=by have:=Si h0; omega
  obtain ⟨x,hx⟩ : ∃ x,xs[j]? = some x:=⟨xs[j],by simp [show j < xs.length by omega]⟩
  obtain ⟨ad,rfl,hc⟩:=Di (hs.swap.head hD) (Pv hx)
  have hle:=Gv n (eG n m (xs.take j))
  have hle2:=Gv n m
  have hn:=Nt hs
  have mI:aG ((j:Int) + 1):=⟨by omega,by omega⟩
  refine aq rfl h0 ⟨x,hc,?_⟩
  have skip:(∀ k:Nat,k < n→(k:Int) = x→eG n m (xs.take j) k = true)→∀ w2,St w2 (vF p n (eG n m (xs.take j)) :: D :: L)→aG ((j:Int) + 1) ∧
    (∃ j' : Nat,(j:Int) + 1 = j'∧j'≤l∧n1 = (jc n (eG n m (xs.take j')):Int) - jc n m∧St w2 (vF p n (eG n m (xs.take j')) :: D :: L))∧l - ((j:Int) + 1).toNat < l - (j:Int).toNat:=by
   intro hx' w2 hs2
   refine ⟨mI,⟨j + 1,by simp,by omega,?_,?_⟩,bA h0⟩
   ·rw [CC hx hx']; exact hn1
   ·rw [CC hx hx']; exact hs2
  refine ae (fun h1=>?_) fun h1=>?_
  ·have h1:=Si h1
   obtain ⟨x,rfl⟩:=Int.eq_ofNat_of_zero_le h1
   refine (Pt hs).mono ?_
   rintro _ _ ⟨rfl,rfl⟩
   refine ⟨_,rfl,ae (fun h2=>?_) fun h2=>?_⟩
   ·have h2:x < n:=by have:=Si h2; omega
    rcases gM hs with ⟨rfl,rfl,_⟩ | ⟨b,ab,cb,ws,rfl,hi,hs2⟩
    ·omega
    have hw:=Pu hi h2
    have hxb:x < 4096:=by omega
    refine ⟨ab,ws.length,cb,by rw [hs2.cell]; rfl,?_⟩
    refine (EN hs2.swap hi.lt hw hxb).mono ?_
    rintro _ _ ⟨rfl,rfl⟩
    refine ⟨_,rfl,ae (fun h3=>?_) fun h3=>?_⟩
    ·refine ⟨ab,ws.length,cb,by rw [hs2.cell]; rfl,?_⟩
     refine (EO hs2.swap hi.lt hw hxb).mono ?_
     rintro _ w3 ⟨rfl,ws',e1,e2,e3,hs3⟩
     have hfalse:eG n m (xs.take j) x = false:=by rw [hi.mm]; simpa using h3
     have hcnt:=H0 h2 hfalse
     have hst:=Jw (m:=m) hx h2
     refine ⟨rfl,⟨by omega,by omega⟩,mI,⟨j + 1,by simp,by omega,?_,?_⟩,bA h0⟩
     ·rw [hst,hcnt,hn1]; omega
     ·rw [hst]
      rw [← e1] at hs3
      refine HZ ⟨e1 ▸ hi.len,hi.le,e2,fun k=>?_,fun k hk=>?_⟩ (by rw [e1] at hs3 ⊢; exact hs3.swap)
      ·rw [e3,hi.mm]
      ·rw [hi.out k hk]; simp; omega
    ·refine skip (fun k hk he=>?_) _ hs
     have:k = x:=by omega
     subst this
     rw [hi.mm]; simpa using h3
   ·refine skip (fun k hk he=>?_) _ hs
    have:=Sj h2; omega
  ·refine skip (fun k hk he=>?_) _ hs
   have:=Sj h1; omega
 ·have h0:j = l:=by have:=Sj h0; omega
  subst h0
  rw [← hl,SM] at hs hn1
  exact ⟨by rw [hn1],hs⟩
end
end Go.Proofs.YtngdohpikfcifaaGreatDoor
namespace Go.V
def val:List Nat→Nat
 | []=>0
 | p :: l=>p + 256 * val l
theorem Dj (n:Nat):IntKind.u64.wrap (n:Int) = ((n % 18446744073709551616:Nat):Int):=by
 simp only [IntKind.wrap,IntKind.signed,IntKind.bits]
 simp
theorem Dk {x:Nat} (h0:x≠0) (hx:x < 2 ^ 64):IntKind.u64.wrap (0 - (x:Int)) = ((18446744073709551616 - x:Nat):Int):=by
 have:(0 - (x:Int)) % (18446744073709551616:Int) = ((18446744073709551616 - x:Nat):Int):=by omega
 simpa [IntKind.wrap,IntKind.signed,IntKind.bits] using this
theorem K6 {T:List Nat} {i k:Nat} {f:Nat→Value} (h:T.getD i 0 = k) (hi:i < T.length):(T.map f)[i]? = some (f k):=by
 rw [Sq,Sm hi] at h
 rw [Sn,Sm hi]
 simp only [Option.getD_some] at h
 rw [h]; rfl
theorem Pw {x a:Nat} (h0:x≠0) (hx:x < 2 ^ 64) (ha:x &&& (18446744073709551616 - x) = a) :
  y6 .u64 (IntKind.u64.wrap (jy .and .u64 (x:Int) (IntKind.u64.wrap (0 - (x:Int))) * 285870213051353865)) 58 = ((a * 285870213051353865 % 18446744073709551616 / 2 ^ 58:Nat):Int):=by
 have e2:=As (a:=x) (b:=18446744073709551616 - x) hx (by omega)
 rw [Dk h0 hx,e2,ha]
 have e3:=Dj (a * 285870213051353865)
 rw [Int.natCast_mul] at e3
 have e5:((285870213051353865:Nat):Int) = 285870213051353865:=rfl
 rw [e5] at e3
 rw [e3]
 exact EK (s:=58) (by omega)
end Go.V
namespace Go.Proofs.YtngdohpikfcifaaGreatDoor
open Go.V
theorem vH {x:Nat} (hx:x < 2 ^ 64) (w:World) {L:List aw} (h:St w (gN (some ⟨0,0,none⟩) (Lib.deBruijn64tab.map fun (k:Nat)=>Value.int .u8 (k:Int)) :: L)):aC Tryz.prog i_ [.int .u64 (x:Int)] w fun v w'=>v = .int .i64 ((Lib.ctz 64 x:Nat):Int)∧w' = w:=by
 refine ic _ w _ ?_
 refine ae (fun h0=>?_) fun h0=>?_
 ·have:x = 0:=by simpa using h0
  subst this
  exact ⟨rfl,rfl⟩
 ·have h0:x≠0:=by simpa using h0
  obtain ⟨hlow,hk⟩:=Lib.lowest_bit 64 x h0 hx
  obtain ⟨hi,htab⟩:=Lib.deBruijn64_at _ hk
  rw [Pw h0 hx hlow]
  generalize Lib.ctz 64 x = k at hk hi htab ⊢
  have e58:(2:Nat) ^ 58 = 288230376151711744:=by decide
  rw [e58]
  generalize 2 ^ k * 285870213051353865 % 18446744073709551616 / 288230376151711744 = i at hi htab ⊢
  refine ⟨show (0:Int)≤58 by decide,aq rfl hi ⟨(k:Int),?_,⟨by omega,by omega⟩,rfl,rfl⟩⟩
  have hg:=K6 (f:=fun (k:Nat)=>Value.int .u8 (k:Int)) htab hi
  obtain ⟨ad,e,hc⟩:=Di h hg
  cases e
  exact hc
end Go.Proofs.YtngdohpikfcifaaGreatDoor
namespace Go.V
theorem CD (a b:Nat) (m:Nat→Bool):jc (a + b) m = jc a m + jc b (fun k=>m (a + k)):=by
 unfold jc
 rw [List.range_add,Th,Sx,List.filter_map,Ss]
 rfl
theorem ER {a:Nat} {m:Nat→Bool} (h:∀ k,k < a→m k = false):jc a m = 0:=by
 unfold jc
 rw [List.filter_eq_nil_iff.2 fun k hk=>by simp [h k (by simpa using hk)]]; rfl
theorem Nu {n:Nat} {ws:List Nat} {m:Nat→Bool} (hi:Inv n ws m):jc (64 * ws.length) m = jc n m:=by
 have h:64 * ws.length = n + (64 * ws.length - n):=by rw [hi.len]; omega
 rw [h,CD,ER (a:=64 * ws.length - n) fun k _=>hi.out _ (by omega)]; omega
def F7 (s:Int):Nat:=(if 1024 < if s < 0 then 0 else s then 1024 else if s < 0 then 0 else s).toNat
theorem Px (s:Int):(if 1024 < if s < 0 then 0 else s then (1024:Int) else if s < 0 then 0 else s) = (F7 s:Int):=by
 unfold F7
 split <;> split <;> omega
theorem Py (s:Int):F7 s≤1024:=by
 unfold F7; split
 ·decide
 ·split <;> omega
theorem Nv {n:Nat} (h:n≤1024):F7 (n:Int) = n:=by
 unfold F7
 rw [Sr (by rw [Sr (by omega)]; omega),Sr (by omega)]; simp
theorem dB (v:Value):∀ n,gG n [v] = List.replicate n v
 | 0=>rfl
 | n + 1=>by simp [gG,dB v n,T0]
theorem Nw (n:Nat):cw (List.replicate n 0) = List.replicate n (.int .u64 0):=by simp [cw]
theorem K7 (n k:Nat):mem (List.replicate n 0) k = false:=by
 unfold mem
 rw [Sq,Tc]
 split <;> simp
theorem inv_zero {n:Nat} (h:n≤1024):Inv n (List.replicate ((n + 63) / 64) 0) (fun _=>false) :=
 ⟨by simp,h,fun x hx=>by rw [List.mem_replicate] at hx; rw [hx.2]; decide,fun k=>(K7 _ k).symm,fun _ _=>rfl⟩
end Go.V
namespace Go.Proofs.YtngdohpikfcifaaGreatDoor
open Go.V
section
variable {w:World} {L:List aw} {a:Option Addr} {l c:Nat} {p:Option Addr} {n:Nat} {m:Nat→Bool} {xs:List Int}
theorem RQ (size:Int) {D:aw} (hD:∀ h,D h→gN a (iv xs) h) (h:St w (D :: L)) (hl:xs.length = l) (hb:l≤4611686018427387904) :
  aC Tryz.prog CA [.int .i64 size,.slice a l c] w fun v w'=>∃ b,v = .pointer (some ⟨b,0,none⟩)∧St w' (vF (some ⟨b,0,none⟩) (F7 size) (eG (F7 size) (fun _=>false) xs) :: D :: L):=by
 refine EM _ _ _ _ w _ ?_
 unfold Av
 rw [Px]
 have hle:=Py size
 generalize F7 size = N at *
 have e0:((N:Int) + 63) = ((N + 63:Nat):Int):=by omega
 rw [e0,Au,SJ]
 refine ⟨zO (by omega),K5,zO (by omega),⟨by omega,rfl,by omega⟩,?_⟩
 rw [dB]
 refine ah h fun b1 w1 h1=>ah h1 fun b2 w2 h2=>?_
 have h3:St w2 (vF (some ⟨b2,0,none⟩) N (fun _=>false) :: D :: L):=by
  refine HZ (a:=some ⟨b1,0,none⟩) (c:=(N + 63) / 64) (inv_zero hle) ?_
  have hlen:(List.replicate ((N + 63) / 64) 0:List Nat).length = (N + 63) / 64:=by simp
  rw [hlen]
  refine St.swap (eX (cs:=[]) ?_ ?_ ?_ (SF _))
  ·rw [S6,Nw]; exact h2.swap
  ·simp [cw]
  ·simp [cw]
 refine (OY hD h3 hl hb).mono ?_
 rintro _ w3 ⟨rfl,h4⟩
 exact ⟨_,rfl,b2,rfl,h4⟩
end
end Go.Proofs.YtngdohpikfcifaaGreatDoor
namespace Go.V
def QF (b:Nat) (n:Nat) (m:Nat→Bool):aw:=ex fun x:Option Addr × Nat × List Nat=>aT [pu (Inv n x.2.2 m),aR b [.slice x.1 x.2.2.length x.2.1],own 1 x.1 x.2.2.length x.2.1 (cw x.2.2)]
theorem vI {w:World} {L:List aw} {b n:Nat} {m:Nat→Bool}:St w (QF b n m :: L)↔∃ a c ws,Inv n ws m∧St w (aR b [.slice a ws.length c] :: own 1 a ws.length c (cw ws) :: L):=by
 unfold QF
 rw [St.ex]
 constructor
 ·rintro ⟨⟨a,c,ws⟩,h⟩
  have h:=St.pu.1 (St.flat.1 h)
  exact ⟨a,c,ws,h.1,h.2⟩
 ·rintro ⟨a,c,ws,hi,h⟩
  exact ⟨⟨a,c,ws⟩,St.flat.2 (St.pu.2 ⟨hi,h⟩)⟩
theorem Pz {ws:List Nat} (h:cw ws = []):ws = []:=by simpa [cw] using h
end Go.V
namespace Go.Proofs.YtngdohpikfcifaaGreatDoor
open Go.V
section
variable {w:World} {L:List aw} {a:Option Addr} {l c:Nat} {p:Option Addr} {n:Nat} {m:Nat→Bool} {xs:List Int} {ws:List Nat}
theorem Nx {D:aw} (hD:∀ h,D h→gN a (cw ws) h) (h:St w (D :: L)) (hb:ws.length≤1024) (hn:a = none→ws = []) :
  aC Tryz.prog fS [.slice a ws.length c] w fun v w'=>∃ a' c',v = .slice a' ws.length c'∧St w' (own 1 a' ws.length c' (cw ws) :: D :: L):=by
 refine e_ _ _ _ w _ ?_
 cases a with
 | none =>
  have h3:=hn rfl
  subst h3
  exact ⟨none,0,rfl,aB 1 h⟩
 | some ad =>
  refine ah h fun b w1 h1=>?_
  have h2:St w1 (own 1 (some ⟨b,0,none⟩) 0 0 [] :: D :: L):=eX (cs:=[]) h1 rfl rfl (SF _)
  refine (eY aK (rfl:ag Ty _ = .slice _) rfl rfl rfl h2 (n:=ws.length) (news:=cw ws) ?_ ?_ (by omega)).mono ?_
  ·exact dE aK (rfl:ag Ty _ = .slice _) (by simp [cw]) (.inr ⟨ad,rfl,fun j u hj=>by
    obtain ⟨_,e,hc⟩:=Di (h2.swap.head hD) hj
    cases e; exact hc⟩) (fun u hu=>by
    simp only [cw,SG] at hu
    obtain ⟨_,_,rfl⟩:=hu; rfl)
  ·show (0 + ws.length) * 8≤_; omega
  ·rintro _ w2 ⟨a',c',rfl,h3⟩
   rw [Tn,To] at h3
   exact ⟨_,_,_,rfl,a',c',by rw [Tn],h3⟩
end
end Go.Proofs.YtngdohpikfcifaaGreatDoor
namespace Go.V
def vJ (n:Nat) (m:Nat→Bool):List Nat:=(List.range n).filter m
theorem CE (n:Nat) (m:Nat→Bool):(vJ n m).length = jc n m:=rfl
theorem K8 {n k:Nat} {m:Nat→Bool} (hk:k < n) (hm:m k = true):(vJ n m)[jc k m]? = some k:=by
 have e:n = k + (n - k - 1 + 1):=by omega
 unfold vJ
 rw [e,List.range_add,Th,SC (by simp [jc])]
 have:jc k m - (List.filter m (List.range k)).length = 0:=by simp [jc]
 rw [this,List.range_succ_eq_map,S0,List.filter_cons]
 simp [hm]
theorem K9 {x:Nat} (h0:x≠0) (hx:x < 2 ^ 64):Lib.ctz 64 x < 64∧x.testBit (Lib.ctz 64 x) = true∧(∀ k,k < Lib.ctz 64 x→x.testBit k = false)∧∀ k,(x &&& (x - 1)).testBit k = (x.testBit k && !(k == Lib.ctz 64 x)):=by
 have e:Lib.ctz 64 x = Lib.ctzFrom 64 x:=by unfold Lib.ctz; rw [Sr h0]
 obtain ⟨q,hq,hc⟩:=Lib.ctzFrom_spec 64 x (by omega) hx
 rw [e]
 generalize Lib.ctzFrom 64 x = c at *
 have hp:0 < 2 ^ c:=Nat.two_pow_pos c
 have hx1:x - 1 = 2 ^ c * (2 * q) + (2 ^ c - 1):=by
  rw [hq,Nat.mul_add,Tp]; omega
 have t1:∀ k,x.testBit k = if k < c then false else (2 * q + 1).testBit (k - c):=fun k=>by
  rw [hq]
  have:=Nat.testBit_two_pow_mul_add (2 * q + 1) (b:=0) (i:=c) hp k
  rw [Nat.add_zero] at this
  rw [this]; simp
 have t2:∀ k,(x - 1).testBit k = if k < c then true else (2 * q).testBit (k - c):=fun k=>by
  rw [hx1,Nat.testBit_two_pow_mul_add _ (by omega)]
  split
  ·rename_i h; rw [Nat.testBit_two_pow_sub_one]; simp [h]
  ·rfl
 refine ⟨hc,?_,fun k hk=>?_,fun k=>?_⟩
 ·rw [t1,Sr (by omega)]; simp
 ·rw [t1,Sz hk]
 ·rw [Nat.testBit_and,t2,t1]
  by_cases hk:k < c
  ·simp [hk]
  ·rw [Sr hk,Sr hk]
   by_cases hkc:k = c
   ·subst hkc; simp
   ·have e3:k - c = (k - c - 1) + 1:=by omega
    have:(k == c) = false:=by simp [hkc]
    rw [this,e3,Nat.testBit_add_one,Nat.testBit_add_one]
    have e4:(2 * q + 1) / 2 = q:=by omega
    have e5:2 * q / 2 = q:=by omega
    rw [e4,e5]; simp
def Dl (l:List Nat):List (List Value):=l.map fun (k:Nat)=>[Value.int .i64 (k:Int)]
theorem tW {a b:Nat} {m:Nat→Bool} (h:a≤b) (hf:∀ k,a≤k→k < b→m k = false):jc b m = jc a m:=by
 have e:b = a + (b - a):=by omega
 rw [e,CD,ER (a:=b - a) fun k hk=>hf _ (by omega) (by omega)]; omega
def Ny:List Value:=Lib.deBruijn64tab.map fun (k:Nat)=>Value.int .u8 (k:Int)
def gz:aw:=gN (some ⟨0,0,none⟩) Ny
theorem PA {A:aw} {w:World} (h:A (hp w)):St w [A]:=⟨hp w,fun _=>none,fun _=>.inr rfl,sub.refl _,fun _ _ h=>(nomatch h),h,trivial⟩
end Go.V
namespace Go.Proofs.YtngdohpikfcifaaGreatDoor
open Go.V
section
variable {w:World} {L:List aw} {b:Nat} {n:Nat} {m:Nat→Bool}
theorem CF:QD Tryz.prog kN [] [.pointer (some ⟨b,0,none⟩)] (QF b n m) gz (Dl (vJ n m)):=by
 intro l E hE J Jx L w0 h0 hQ hy
 have h0' : ∃ a c ws,Inv n ws m∧St w0 (J 0 :: aR b [.slice a ws.length c] :: own 1 a ws.length c (cw ws) :: L):=by
  obtain ⟨a,c,ws,hi,h2⟩:=vI.1 h0.swap
  exact ⟨a,c,ws,hi,h2.Ei⟩
 obtain ⟨a,c,ws,hi,hs0⟩:=h0'
 have back:∀ (A:aw) w',St w' (A :: aR b [.slice a ws.length c] :: own 1 a ws.length c (cw ws) :: L)→St w' (A :: QF b n m :: L):=by
  intro A w' h
  exact (vI.2 ⟨a,c,ws,hi,h.perm ((List.Perm.swap _ _ _).trans (List.Perm.cons _ (List.Perm.swap _ _ _)))⟩).swap
 have tab2:∀ {A B C:aw} {w'},St w' (A :: B :: C :: L)→St w' [gz]:=fun {A B C w'} h=>PA (hQ _ (bq (bq (bq h))))
 refine o_ E l ⟨b,0,none⟩ hE w0 _ ?_
 refine ⟨a,ws.length,c,by rw [hs0.swap.cell]; rfl,?_⟩
 refine ⟨fun n1 w=>∃ j:Nat,n1 = j∧j≤ws.length∧St w (J (jc (64 * j) m) :: aR b [.slice a ws.length c] :: own 1 a ws.length c (cw ws) :: L),fun n1 _=>ws.length - n1.toNat,
  ⟨0,rfl,by omega,by simpa [jc] using hs0⟩,?_⟩
 rintro _ n1 w1 ⟨j,rfl,hj,hs⟩
 have hlen:=hi.len
 have hn:=hi.le
 refine ae (fun h1=>?_) fun h1=>?_
 ·have h1:j < ws.length:=by have:=Si h1; omega
  obtain ⟨ad,rfl⟩:=jG hs.Ei (by simp [cw]; omega)
  have hg:=zM hs.Ei rfl (Gu h1)
  refine aq rfl h1 ⟨_,hg,?_⟩
  have hw64:=zN hi.lt j
  have hmem:∀ k,k < 64→m (64 * j + k) = (ws.getD j 0).testBit k:=fun k hk=>by
   rw [hi.mm]; unfold mem
   rw [show (64 * j + k) / 64 = j by omega,show (64 * j + k) % 64 = k by omega]
  generalize ws.getD j 0 = W at hg hw64 hmem ⊢
  refine ⟨fun n3 w=>∃ (r s:Nat),n3 = r∧r < 2 ^ 64∧s≤64∧(∀ k,r.testBit k = (decide (s≤k) && W.testBit k))∧St w (J (jc (64 * j + s) m) :: aR b [.slice (some ad) ws.length c] :: own 1 (some ad) ws.length c (cw ws) :: L),fun n3 _=>n3.toNat,
   ⟨W,0,rfl,hw64,by omega,by simp,by simpa using hs⟩,?_⟩
  rintro _ n3 w2 ⟨r,s,rfl,hr,hs64,hbits,hs2⟩
  refine ae (fun h2=>?_) fun h2=>?_
  ·have h2:r≠0:=by simpa using h2
   obtain ⟨k1,k2,k3,k4⟩:=K9 h2 hr
   have hinj:aG (64 * (j:Int)):=⟨by omega,by omega⟩
   refine ⟨hinj,?_⟩
   refine ((vH hr w2 (tab2 hs2)).Sa hE).mono ?_
   rintro _ _ ⟨rfl,rfl⟩
   generalize Lib.ctz 64 r = k at k1 k2 k3 k4 ⊢
   refine ⟨_,rfl,⟨by omega,by omega⟩,?_⟩
   have hsk:s≤k∧W.testBit k = true:=by
    rw [hbits] at k2; simpa using k2
   have hmk:m (64 * j + k) = true:=by rw [hmem k k1]; exact hsk.2
   have hkn:64 * j + k < n:=Nat.lt_of_not_le fun hle=>by rw [hi.out _ hle] at hmk; cases hmk
   have hpos:jc (64 * j + k) m = jc (64 * j + s) m:=tW (by omega) fun q hq1 hq2=>by
    have h3:=k3 (q - 64 * j) (by omega)
    rw [hbits] at h3
    have:s≤q - 64 * j:=by omega
    have h4:=hmem (q - 64 * j) (by omega)
    rw [show 64 * j + (q - 64 * j) = q by omega] at h4
    rw [h4]; simpa [this] using h3
   have hxs:(Dl (vJ n m))[jc (64 * j + s) m]? = some [.int .i64 ((64 * j + k:Nat):Int)]:=by
    unfold Dl
    rw [Sn,← hpos,K8 hkn hmk]; rfl
   have e64:(64 * (j:Int) + (k:Int)) = ((64 * j + k:Nat):Int):=by omega
   rw [e64]
   obtain ⟨f',tmps,asg,body,y1,y2⟩:=hy _ _ hxs _ _ (fun h hh=>bq (bq hh)) hs2
   refine ⟨f',tmps,asg,body,y1,RoundIn.mono y2 ?_⟩
   rintro e w4 ⟨v,rfl,hE4,hv⟩
   refine ⟨v,rfl,hE4,?_⟩
   have hone:jc (64 * j + (k + 1)) m = jc (64 * j + s) m + 1:=by
    rw [show 64 * j + (k + 1) = 64 * j + k + 1 by omega,qy,hmk,hpos]; rfl
   rcases hv with ⟨rfl,hs4⟩ | ⟨rfl,hs4⟩
   ·refine ⟨true,rfl,?_⟩
    have e1:IntKind.u64.wrap ((r:Int) - 1) = ((r - 1:Nat):Int):=by
     have:=wrap_u64 (r - 1) (by omega)
     rw [← this]; congr 1; omega
    have e2:=As (a:=r) (b:=r - 1) hr (by omega)
    show (∃ r' s' : Nat,_∧_)∧_
    rw [e1,e2]
    refine ⟨⟨r &&& (r - 1),k + 1,rfl,Nat.and_lt_two_pow _ (by omega),by omega,fun q=>?_,?_⟩,?_⟩
    ·rw [k4,hbits]
     by_cases hq:q < k
     ·have h3:=k3 q hq
      rw [hbits] at h3
      rw [h3]
      have:¬ k + 1≤q:=by omega
      simp [this]
     ·by_cases hqk:q = k
      ·subst hqk
       have:¬ q + 1≤q:=by omega
       simp [this]
      ·have h5:(q == k) = false:=by simp [hqk]
       have h6:s≤q:=by omega
       have h7:k + 1≤q:=by omega
       simp [h5,h6,h7]
    ·rw [hone]; exact hs4
    ·show (((r &&& (r - 1):Nat):Int)).toNat < ((r:Nat):Int).toNat
     have:r &&& (r - 1)≤r - 1:=Nat.and_le_right
     simp only [SJ]
     omega
   ·refine ⟨false,rfl,?_⟩
    exact .inr (back _ _ hs4)
  ·have h2:r = 0:=by simpa using h2
   subst h2
   refine ⟨⟨by omega,by omega⟩,⟨j + 1,by simp,by omega,?_⟩,bA h1⟩
   have:jc (64 * (j + 1)) m = jc (64 * j + s) m:=tW (by omega) fun q hq1 hq2=>by
    have h3:=hbits (q - 64 * j)
    have h4:=hmem (q - 64 * j) (by omega)
    rw [show 64 * j + (q - 64 * j) = q by omega] at h4
    rw [h4]
    have:s≤q - 64 * j:=by omega
    simpa [this] using h3.symm
   rw [this]; exact hs2
 ·have h1:j = ws.length:=by have:=Sj h1; omega
  subst h1
  rw [Nu hi,← CE] at hs
  refine .inl ?_
  have:(Dl (vJ n m)).length = (vJ n m).length:=by simp [Dl]
  rw [this]
  exact back _ _ hs
end
end Go.Proofs.YtngdohpikfcifaaGreatDoor
namespace Go.V
def mC (l:List Nat):List Value:=l.map fun (k:Nat)=>Value.int .i64 (k:Int)
theorem K_ {ks:List Nat} {i k:Nat} (h:ks[i]? = some k):mC (ks.take (i + 1)) = mC (ks.take i) ++ [.int .i64 (k:Int)]:=by
 unfold mC; rw [Su,h]; simp
end Go.V
namespace Go.Proofs.YtngdohpikfcifaaGreatDoor
open Go.V
section
variable {w:World} {L:List aw} {a:Option Addr} {l c:Nat} {p:Option Addr} {n:Nat} {m:Nat→Bool} {xs:List Int} {ws:List Nat}
theorem ES {g:FuncId} {cap:List Value} {D Q:aw} {ks:List Nat} {vs:List Value} (hg:Fn g = true) (hI:QD Tryz.prog g [] cap D Q (Dl ks)) (hQ:∀ h,aE L h→Q h) (hb:l + ks.length≤1099511627776)
  (h:St w (own 1 a l c vs :: D :: L)) :
  aC Tryz.prog iZ [.slice a l c,.func (.func g) #[] ⟨cap⟩] w fun v w'=>∃ a' c',v = .slice a' (l + ks.length) c'∧St w' (own 1 a' (l + ks.length) c' (vs ++ mC ks) :: D :: L):=by
 refine h_ _ _ _ _ _ w _ ?_
 refine ah h fun b w1 h1=>bR.2 ⟨hg,?_⟩
 refine ⟨Dl ks,D,Q,fun i=>ex fun y:Option Addr × Nat=>aT [aR b [.slice y.1 (l + i) y.2],own 1 y.1 (l + i) y.2 (vs ++ mC (ks.take i))],pu False,fun _=>pu False,L,?_,hQ,hI,?_,?_,?_,?_,trivial⟩
 ·refine St.ex.2 ⟨(a,c),St.flat.2 ?_⟩
  simpa [mC] using h1
 ·intro x hx
  simp only [Dl,SG] at hx
  obtain ⟨k,_,rfl⟩:=hx
  exact ⟨_,rfl⟩
 ·intro i x hx L' w2 _ hs
  refine ⟨_,hs,fun L'' w3 _ hs3=>?_⟩
  obtain ⟨⟨a1,c1⟩,hs3⟩:=St.ex.1 hs3
  have hs3:=St.flat.1 hs3
  have hx:(Dl ks)[i]? = some [.int .i64 x]:=hx
  obtain ⟨k,hk,rfl⟩ : ∃ k,ks[i]? = some k∧x = (k:Int):=by
   unfold Dl at hx
   rw [Sn] at hx
   cases hki:ks[i]? with
   | none=>rw [hki] at hx; cases hx
   | some k=>rw [hki] at hx; simp at hx; exact ⟨k,rfl,hx.symm⟩
  have hil:=(Sk.1 hk).1
  refine ⟨a1,l + i,c1,by rw [hs3.cell]; rfl,?_⟩
  refine ah hs3 fun b2 w4 h4=>?_
  refine (eY aK (rfl:ag Ty _ = .slice _) rfl rfl rfl h4.Ei (n:=1) (news:=[.int .i64 (k:Int)]) ?_ ?_ (by omega)).mono ?_
  ·refine dE aK (rfl:ag Ty _ = .slice _) rfl (.inr ⟨_,rfl,fun j u hj=>?_⟩) (fun u hu=>?_)
   ·rw [aO,h4.cell]; exact hj
   ·simp only [SE] at hu; subst hu; rfl
  ·show (l + i + 1) * 8≤_; omega
  ·rintro _ w5 ⟨a',c',rfl,h5⟩
   refine ⟨_,_,_,rfl,bg h5.Ei (by simp) fun w6 h6=>St.ex.2 ⟨(a',c'),St.flat.2 ?_⟩⟩
   rw [K_ hk,← SI]
   have h7:St w6 (aR b [.slice a' (l + i + 1) c'] :: own 1 a' (l + i + 1) c' (vs ++ mC (ks.take i) ++ [.int .i64 (k:Int)]) :: aR b2 [.int .i64 (k:Int)] :: L''):=h6
   exact h7.perm (List.Perm.refl _) |>.Ei.tail
 ·intro w2 hs
  obtain ⟨⟨a1,c1⟩,hs⟩:=St.ex.1 hs
  have hs:=St.flat.1 hs
  have e:(Dl ks).length = ks.length:=by simp [Dl]
  rw [e,SM] at hs
  refine ⟨a1,_,c1,by rw [hs.cell]; rfl,fun w3 h3=>⟨a1,c1,rfl,(hs.eq h3).tail⟩⟩
 ·intro w2 hs
  exact (St.pu.1 hs).1.elim
theorem Jy {g:FuncId} {cap:List Value} {D Q:aw} {ks:List Nat} (hg:Fn g = true) (hI:QD Tryz.prog g [] cap D Q (Dl ks)) (hQ:∀ h,aE L h→Q h) (hb:ks.length≤1099511627776) (h:St w (D :: L)) :
  aC Tryz.prog oX [.func (.func g) #[] ⟨cap⟩] w fun v w'=>∃ a' c',v = .slice a' ks.length c'∧St w' (own 1 a' ks.length c' (mC ks) :: D :: L):=by
 refine mo _ _ w _ ?_
 refine (ES hg hI hQ (l:=0) (by omega) (aB 1 h)).mono ?_
 rintro _ w' ⟨a',c',rfl,h1⟩
 rw [Tn,To] at h1
 exact ⟨_,_,_,rfl,a',c',by rw [Tn],h1⟩
end
end Go.Proofs.YtngdohpikfcifaaGreatDoor
namespace Go.V
theorem PB (ks:List Nat):mC ks = iv (ks.map fun (k:Nat)=>(k:Int)):=by simp [mC,iv]
end Go.V
namespace Go.V
def Sd:List aw→List aw
 | []=>[]
 | _ :: L=>L
def H2:Nat→List aw→List aw
 | 0,L=>L
 | n + 1,L=>H2 n (Sd L)
abbrev OZ (L:List aw) (n:Nat):List aw:=H2 n L
theorem CG:∀ n,H2 n [] = []
 | 0=>rfl
 | n + 1=>CG n
def Nz (i:Nat):List Nat→Bool
 | []=>false
 | j :: l=>Nat.beq i j || Nz i l
theorem H3 (i:Nat):∀ l,Nz i l = l.contains i
 | []=>rfl
 | j :: l=>by
  rw [Nz,H3 i l,List.contains_cons]; congr 1; rw [S9]; simp
def La (L:List aw):List Nat→List aw→List aw
 | [],T=>T
 | i :: is,T=>sR L i :: La L is T
def Rz (n:Nat):List Nat→Bool
 | []=>true
 | i :: is=>Nat.blt i n && !Nz i is && Rz n is
theorem yM:∀ (n:Nat) (L:List aw) (h:Hp),aE L h →
  ∃ (f:Nat→Hp) (g:Hp),(∀ i j,i≠j→i < n→j < n→Cg (f i) (f j))∧(∀ i,i < n→Cg (f i) g)∧(∀ i,i < n→sub (f i) h)∧sub g h∧(∀ i,i < n→sR L i (f i))∧aE (OZ L n) g
 | 0,L,h,hs=>⟨fun _=>h,h,fun _ _ _ hi=>absurd hi (by omega),fun _ hi=>absurd hi (by omega),fun _ hi=>absurd hi (by omega),sub.refl _,fun _ hi=>absurd hi (by omega),hs⟩
 | n + 1,[],h,hs=>⟨fun _ _=>none,h,fun _ _ _ _ _ _=>.inl rfl,fun _ _ _=>.inl rfl,fun _ _ _ _ h=>(nomatch h),sub.refl _,fun _ _=>trivial,by show aE (H2 n []) _; rw [CG]; trivial⟩
 | n + 1,A :: L,h,⟨h1,h2,d,s1,s2,ha,hl⟩=>by
  obtain ⟨f,g,f1,f2,f3,f4,f5,f6⟩:=yM n L h2 hl
  refine ⟨fun i=>match i with | 0=>h1 | i + 1=>f i,g,fun i j hne hi hj=>?_,fun i hi=>?_,fun i hi=>?_,f4.trans s2,fun i hi=>?_,f6⟩
  ·cases i with
   | zero=>cases j with
    | zero=>exact absurd rfl hne
    | succ j=>exact d.sub (sub.refl _) (f3 j (by omega))
   | succ i=>cases j with
    | zero=>exact (d.sub (sub.refl _) (f3 i (by omega))).symm
    | succ j=>exact f1 i j (by omega) (by omega) (by omega)
  ·cases i with
   | zero=>exact d.sub (sub.refl _) f4
   | succ i=>exact f2 i (by omega)
  ·cases i with
   | zero=>exact s1
   | succ i=>exact (f3 i (by omega)).trans s2
  ·cases i with
   | zero=>exact ha
   | succ i=>exact f5 i (by omega)
theorem AD {L T:List aw} {n:Nat} {f:Nat→Hp} {g h:Hp} (f1:∀ i j,i≠j→i < n→j < n→Cg (f i) (f j)) (f2:∀ i,i < n→Cg (f i) g) (f3:∀ i,i < n→sub (f i) h) (f4:sub g h)
  (f5:∀ i,i < n→sR L i (f i)) (f6:aE T g):∀ is:List Nat,Rz n is = true→∃ u,sub u h∧aE (La L is T) u∧∀ i,i < n→i∉is→Cg (f i) u
 | [],_=>⟨g,f4,f6,fun i hi _=>f2 i hi⟩
 | i :: is,hok=>by
  simp only [Rz,H3,SB,Tt,Nat.blt_eq] at hok
  obtain ⟨⟨hi,hni⟩,hok⟩:=hok
  have hni:i∉is:=by simpa using hni
  obtain ⟨u,u1,u2,u3⟩:=AD f1 f2 f3 f4 f5 f6 is hok
  have d:=u3 i hi hni
  refine ⟨Jf (f i) u,vh (f3 i hi) u1,⟨f i,u,d,l8 _ _,l9 d,f5 i hi,u2⟩,fun j hj hjn=>?_⟩
  simp only [SA,not_or] at hjn
  exact (vi (f1 i j (fun e=>hjn.1 e.symm) hi hj) (u3 j hj hjn.2).symm).symm
theorem St.pick {w:World} {L:List aw} (h:St w L) (n:Nat) (is:List Nat) (hok:Rz n is = true:=by rfl):St w (La L is (OZ L n)):=by
 obtain ⟨f,g,f1,f2,f3,f4,f5,f6⟩:=yM n L _ h
 obtain ⟨u,u1,u2,_⟩:=AD f1 f2 f3 f4 f5 f6 is hok
 exact dY u2 u1
example {w:World} {A B C:aw} {L:List aw} (h:St w (A :: B :: C :: L)):St w (C :: A :: L):=h.pick 3 [2,0]
end Go.V
namespace Go.V
def Gr (w w' : World):Prop:=sub (hp w) (hp w')
theorem Gr.refl (w:World):Gr w w:=sub.refl _
theorem Gr.trans {a b c:World} (h:Gr a b) (k:Gr b c):Gr a c:=sub.trans h k
theorem Gr.of_eq {w w' : World} (h:hp w' = hp w):Gr w w':=by unfold Gr; rw [h]; exact sub.refl _
theorem St.gr {w w' : World} {L:List aw} (h:St w L) (g:Gr w w'):St w' L:=dY h g
abbrev all (w:World):List aw:=[has (hp w)]
theorem cE {h0 h:Hp} (s:sub h0 h):aE [has h0] h:=⟨h0,fun _=>none,fun _=>.inr rfl,s,fun _ _ h=>(nomatch h),sub.refl _,trivial⟩
theorem St.here {w:World} {h0:Hp} (s:sub h0 (hp w)):St w [V.has h0]:=cE s
theorem St.all (w:World):St w (V.all w):=cE (sub.refl _)
theorem yN {L M N:List aw} (hm:∀ h,aE M h→aE N h):∀ {h:Hp},aE (L ++ M) h→aE (L ++ N) h:=by
 induction L with
 | nil=>exact fun h=>hm _ h
 | cons A L ih=>exact fun ⟨h1,h2,d,s1,s2,ha,hl⟩=>⟨h1,h2,d,s1,s2,ha,ih hl⟩
theorem Jz {L:List aw} {h0:Hp} (hl:aE L h0):∀ h,aE [has h0] h→aE L h:=fun h hh=>dY hl (jo hh)
theorem St.on {w' : World} {N L:List aw} {h0:Hp} (h:St w' (N ++ [V.has h0])) (hl:aE L h0):St w' (N ++ L):=yN (Jz hl) h
theorem St.vK {w' : World} {A:aw} {L:List aw} {h0:Hp} (h:St w' [A,V.has h0]) (hl:aE L h0):St w' (A :: L):=St.on (N:=[A]) h hl
theorem St.JA {w' : World} {A B:aw} {L:List aw} {h0:Hp} (h:St w' [A,B,V.has h0]) (hl:aE L h0):St w' (A :: B :: L):=St.on (N:=[A,B]) h hl
theorem St.gone {w' : World} {N:List aw} {h0:Hp} (h:St w' (N ++ [V.has h0])):sub h0 (hp w'):=by
 induction N with
 | nil=>exact jo h
 | cons A N ih=>exact ih h.tail
theorem St.aX {w' : World} {A:aw} {h0:Hp} (h:St w' [A,V.has h0]):sub h0 (hp w'):=St.gone (N:=[A]) h
theorem St.freeze {w:World} {A:aw} {L:List aw} (h:St w (A :: L)):∃ h0,aE L h0∧sub h0 (hp w)∧St w [A,V.has h0]:=by
 obtain ⟨h1,h2,d,s1,s2,ha,hl⟩:=h
 exact ⟨h2,hl,s2,h1,h2,d,s1,s2,ha,cE (sub.refl _)⟩
theorem St.first {w:World} {A:aw} {L:List aw} (h:St w (A :: L)):∃ h1,sub h1 (hp w)∧A h1:=by
 obtain ⟨h1,h2,d,s1,s2,ha,hl⟩:=h
 exact ⟨h1,s1,ha⟩

def ax (h:Hp) (a:Addr) (vs:List Value):Prop:=∀ j v,vs[j]? = some v→qx h (a.add j) = some v
theorem ax.mono {h h' : Hp} {a:Addr} {vs:List Value} (s:sub h h') (r:ax h a vs):ax h' a vs:=fun j v hj=>su s (r j v hj)
theorem ax.cell {w:World} {h:Hp} {a:Addr} {vs:List Value} (r:ax h a vs) (s:sub h (hp w)) {j:Nat} {v:Value} (hj:vs[j]? = some v):w.cell? (a.add j) = some v:=kO (su s (r j v hj))
theorem ax.cell0 {w:World} {h:Hp} {a:Addr} {v:Value} {vs:List Value} (r:ax h a (v :: vs)) (s:sub h (hp w)):w.cell? a = some v:=by
 have:=r.cell s (j:=0) (v:=v) rfl
 simpa [Addr.add] using this
theorem ax.drop {h:Hp} {a:Addr} {us vs:List Value} (r:ax h a (us ++ vs)):ax h (a.add us.length) vs:=fun j v hj=>by
 rw [add_add]; exact r _ v (by rw [SC (by omega),Tr]; exact hj)
theorem ax.take {h:Hp} {a:Addr} {us vs:List Value} (r:ax h a (us ++ vs)):ax h a us:=fun j v hj =>
 r j v (by rw [Sw (Sk.1 hj).1]; exact hj)
theorem CH {w:World} {h:Hp} {a:Addr} (s:sub h (hp w)):∀ (vs:List Value) (i:Nat),ax h (a.add i) vs→rowAt w a i vs.length = some vs
 | [],i,_=>rfl
 | v :: vs,i,r=>by
  have h1:w.cell? (a.add i) = some v:=r.cell0 s
  have h2:ax h (a.add (i + 1)) vs:=by
   rw [← add_add]; exact ax.drop (us:=[v]) r
  simp only [S4,rowAt,h1,CH s vs (i + 1) h2]
theorem ax.at {w:World} {h:Hp} {a:Addr} {vs:List Value} {n:Nat} (r:ax h a vs) (s:sub h (hp w)) (hn:vs.length = n):rowAt w a 0 n = some vs:=by
 subst hn; exact CH s vs 0 (by simpa [Addr.add] using r)
theorem vL {b:Nat} {vs:List Value} {h:Hp} (hc:aR b vs h):ax h ⟨b,0,none⟩ vs:=fun j v hj=>by
 obtain ⟨e,he⟩:=hc
 rw [aO]; unfold qx; simp only [he]; simpa using hj
class nI (α : Type) where
 n:Nat
 rd:Hp→α→List Value→Prop
 mono:∀ {h h' : Hp} {x:α} {vs:List Value},sub h h'→rd h x vs→rd h' x vs
 len:∀ {h:Hp} {x:α} {vs:List Value},rd h x vs→vs.length = n
abbrev rd {α : Type} [nI α] (h:Hp) (x:α) (vs:List Value):Prop:=nI.rd h x vs
def aW {α : Type} [nI α] (h:Hp) (xs:List α) (a:Option Addr) (l:Nat):Prop :=
 xs.length = l∧∀ i x,xs[i]? = some x→∃ ad vs,a = some ad∧ax h (ad.add (dP i (nI.n α))) vs∧rd h x vs
section
variable {α : Type} [nI α] {h h' : Hp} {w:World} {xs:List α} {a:Option Addr} {l:Nat}
theorem aW.mono (s:sub h h') (r:aW h xs a l):aW h' xs a l :=
 ⟨r.1,fun i x hx=>by obtain ⟨ad,vs,h1,h2,h3⟩:=r.2 i x hx; exact ⟨ad,vs,h1,h2.mono s,nI.mono s h3⟩⟩
theorem aW.nil:aW h ([] : List α) a 0:=⟨rfl,fun i x hx=>by simp at hx⟩
theorem aW.get (r:aW h xs a l) {i:Nat} (hi:i < l):∃ x ad vs,xs[i]? = some x∧a = some ad∧ax h (ad.add (dP i (nI.n α))) vs∧rd h x vs:=by
 have hl:i < xs.length:=by rw [r.1]; exact hi
 obtain ⟨ad,vs,h1,h2,h3⟩:=r.2 i xs[i] (Sm hl)
 exact ⟨xs[i],ad,vs,Sm hl,h1,h2,h3⟩
theorem aW.drop {k m:Nat} (r:aW h xs a l) (hk:k≤l) (hm:l≤m):aW h (xs.drop k) (fw a k m (nI.n α)) (l - k):=by
 refine ⟨by rw [TO,r.1],fun i x hx=>?_⟩
 rw [S8] at hx
 have hlt:=(Sk.1 hx).1
 obtain ⟨ad,vs,rfl,h2,h3⟩:=r.2 _ x hx
 have hr:=r.1
 refine ⟨ad.add (dP k (nI.n α)),vs,?_,?_,h3⟩
 ·unfold fw; rw [Sr (by omega)]; rfl
 ·rw [add_add,aH,aH,← Nat.add_mul,← aH]; exact h2
theorem aW.take {k:Nat} (r:aW h xs a l) (hk:k≤l):aW h (xs.take k) a k:=by
 refine ⟨by rw [SN,r.1]; omega,fun i x hx=>?_⟩
 rw [TE] at hx
 split at hx
 ·exact r.2 i x hx
 ·cases hx
class gO (α : Type) extends nI α where
 val:α→Value
 one:∀ {h:Hp} {x:α} {vs:List Value},rd h x vs↔vs = [val x]
 n1:n = 1
end
section
variable {α : Type} [gO α] {h h' : Hp} {w:World} {xs:List α} {a:Option Addr} {l:Nat}
theorem aW.at (r:aW h xs a l) {i:Nat} {x:α} (hx:xs[i]? = some x):∃ ad,a = some ad∧∀ w,sub h (hp w)→w.cell? (ad.add i) = some (gO.val x):=by
 obtain ⟨ad,vs,h1,h2,h3⟩:=r.2 i x hx
 have:=gO.one.1 h3
 subst this
 refine ⟨ad,h1,fun w s=>?_⟩
 have:=h2.cell0 s
 rw [aH,gO.n1,Tp] at this
 exact this
theorem aW.bL (r:aW h xs a l) {i:Nat} (hi:i < l):∃ x ad,xs[i]? = some x∧a = some ad∧∀ w,sub h (hp w)→w.cell? (ad.add i) = some (gO.val x):=by
 have hl:i < xs.length:=by rw [r.1]; exact hi
 obtain ⟨ad,h1,h2⟩:=r.at (Sm hl)
 exact ⟨_,ad,Sm hl,h1,h2⟩
theorem du (hl:xs.length = l) (hr:gN a (xs.map gO.val) h):aW h xs a l:=by
 refine ⟨hl,fun i x hx=>?_⟩
 rcases hr with hn | ⟨ad,rfl,hc⟩
 ·have:xs = []:=by simpa using hn
  subst this; simp at hx
 ·refine ⟨ad,[gO.val x],rfl,fun j v hj=>?_,gO.one.2 rfl⟩
  cases j with
  | zero =>
   simp only [List.getElem?_cons_zero,Option.some.injEq] at hj
   subst hj
   rw [aH,gO.n1,Tp]
   have:=hc i (gO.val x) (by rw [Sn,hx]; rfl)
   simpa [add_add] using this
  | succ j=>simp at hj
theorem aW.row (r:aW h xs a l):gN a (xs.map gO.val) h:=by
 cases xs with
 | nil=>exact .inl rfl
 | cons x0 xs' =>
  obtain ⟨ad,vs,rfl,_⟩:=r.2 0 x0 rfl
  refine .inr ⟨ad,rfl,fun j v hj=>?_⟩
  rw [Sn] at hj
  cases hx:(x0 :: xs')[j]? with
  | none=>rw [hx] at hj; cases hj
  | some x =>
   rw [hx] at hj; cases hj
   obtain ⟨ad',vs,e,h2,h3⟩:=r.2 j x hx
   cases e
   have:=gO.one.1 h3
   subst this
   have:=h2 0 _ rfl
   rw [aH,gO.n1,Tp] at this
   simpa [add_add] using this
end
instance:gO Int:={ n:=1,rd:=fun _ x vs=>vs = [.int .i64 x],mono:=fun _ h=>h,len:=fun h=>by rw [h]; rfl,val:=fun x=>.int .i64 x,one:=Iff.rfl,n1:=rfl }
instance:gO Bool:={ n:=1,rd:=fun _ x vs=>vs = [.bool x],mono:=fun _ h=>h,len:=fun h=>by rw [h]; rfl,val:=fun x=>.bool x,one:=Iff.rfl,n1:=rfl }
instance:gO ByteArray:={ n:=1,rd:=fun _ x vs=>vs = [.string x],mono:=fun _ h=>h,len:=fun h=>by rw [h]; rfl,val:=fun x=>.string x,one:=Iff.rfl,n1:=rfl }
instance {α : Type} [nI α] : nI (List α) :=
 { n:=1,rd:=fun h xs vs=>∃ a l c,vs = [.slice a l c]∧l≤c∧aW h xs a l,mono:=fun s ⟨a,l,c,h1,h3,h2⟩=>⟨a,l,c,h1,h3,h2.mono s⟩,len:=fun ⟨_,_,_,h,_⟩=>by rw [h]; rfl }
def anyI:Int→Prop:=fun z=>-9223372036854775808≤z∧z≤9223372036854775807
def bv (bs:List Bool):List Value:=bs.map fun b=>Value.bool b
theorem b8 {h:Hp} {xs:List Int} {a:Option Addr} {l:Nat} (hl:xs.length = l) (hr:gN a (iv xs) h):aW h xs a l:=du hl hr
theorem xI {h:Hp} {xs:List Bool} {a:Option Addr} {l:Nat} (hl:xs.length = l) (hr:gN a (bv xs) h):aW h xs a l:=du hl hr
theorem aW.iv {h:Hp} {xs:List Int} {a:Option Addr} {l:Nat} (r:aW h xs a l):gN a (V.iv xs) h:=r.row
theorem aW.bv {h:Hp} {xs:List Bool} {a:Option Addr} {l:Nat} (r:aW h xs a l):gN a (V.bv xs) h:=r.row
theorem gi (xs:List Int):(iv xs).length = xs.length:=by simp [iv]
theorem AE (xs:List Bool):(bv xs).length = xs.length:=by simp [bv]
theorem uu {w w' : World} (h:hp w' = hp w):sub (hp w) (hp w'):=Gr.of_eq h
end Go.V
namespace Go.V
def bn (bs:List Bool):Nat→Bool:=fun k=>bs.getD k false
def mb (bs:List Bool):List Nat:=vJ bs.length (bn bs)
def ee (bs:List Bool):List Int:=(mb bs).map fun (k:Nat)=>(k:Int)
def bm (bs:List Bool):Nat:=jc bs.length (bn bs)
def Dm (n:Nat) (m:Nat→Bool):List Bool:=(List.range n).map m
def cU (bs:List Bool) (xs:List Int):List Bool:=Dm bs.length (eG bs.length (bn bs) xs)
def hasB (bs:List Bool) (k:Int):Bool:=decide (0≤k) && bn bs k.toNat
def BV (size:Int) (xs:List Int):List Bool:=cU (List.replicate (F7 size) false) xs
def cd (bs:List Bool) (vss:List (List Bool)):List Bool:=vss.foldl (fun b v=>cU b (ee v)) bs
theorem vM (n:Nat) (m:Nat→Bool):(Dm n m).length = n:=by simp [Dm]
theorem bC (bs:List Bool) (xs:List Int):(cU bs xs).length = bs.length:=vM _ _
theorem NA (size:Int) (xs:List Int):(BV size xs).length = F7 size:=by simp [BV,bC]
theorem vN {bs:List Bool} {k:Nat} (h:bs.length≤k):bn bs k = false:=by
 unfold bn; rw [Sq,SH h]; rfl
theorem nJ {bs:List Bool} {k:Nat} {b:Bool} (h:bs[k]? = some b):bn bs k = b:=by
 unfold bn; rw [Sq,h]; rfl
theorem H4 {n:Nat} {m:Nat→Bool} (hm:∀ k,n≤k→m k = false):bn (Dm n m) = m:=by
 funext k
 by_cases h:k < n
 ·exact nJ (by simp [Dm,h])
 ·rw [vN (by rw [vM]; omega),hm k (by omega)]
theorem H5 (bs:List Bool):Dm bs.length (bn bs) = bs:=by
 apply Tb
 intro k
 by_cases h:k < bs.length
 ·simp [Dm,h,bn]
 ·rw [SH (by rw [vM]; omega),SH (by omega)]
theorem kP {cs bs:List Bool} (hl:cs.length = bs.length) (h:∀ k,bn cs k = bn bs k):cs = bs:=by
 rw [← H5 cs,← H5 bs,hl]; congr 1; funext k; exact h k
theorem fx (bs:List Bool) (xs:List Int):bn (cU bs xs) = eG bs.length (bn bs) xs :=
 H4 fun k hk=>by simp [eG,vN hk]; omega
theorem sx (n k:Nat):bn (List.replicate n false) k = false:=by
 unfold bn; rw [Sq,Tc]; split <;> rfl
theorem gj (bs:List Bool):bm bs≤bs.length:=Gv _ _
theorem vO (bs:List Bool):(ee bs).length = bm bs:=by rw [ee,Ss]; rfl
theorem PC {bs:List Bool} {k:Nat}:k∈mb bs↔bn bs k = true:=by
 simp only [mb,vJ,S7,SO]
 refine ⟨fun h=>h.2,fun h=>⟨Nat.lt_of_not_le fun hl=>?_,h⟩⟩
 rw [vN hl] at h; cases h
theorem NB {bs:List Bool} {x:Int}:x∈ee bs↔hasB bs x = true:=by
 simp only [ee,SG,PC,hasB,SB,Sy]
 constructor
 ·rintro ⟨k,h,rfl⟩; exact ⟨by omega,h⟩
 ·rintro ⟨h1,h2⟩; exact ⟨_,h2,by omega⟩
theorem Dn {bs:List Bool} {k:Nat}:(ee bs).contains (k:Int) = bn bs k:=by
 rw [S9,TC,NB]
 simp [hasB]
theorem PD (bs:List Bool):iv (ee bs) = mC (mb bs):=by rw [ee,PB]
theorem dU (bs vs:List Bool) (k:Nat):bn (cU bs (ee vs)) k = (bn bs k || (decide (k < bs.length) && bn vs k)):=by
 rw [fx,eG,Dn]
theorem uv (vss:List (List Bool)):∀ bs,(cd bs vss).length = bs.length:=by
 induction vss with
 | nil=>exact fun _=>rfl
 | cons v l ih=>exact fun bs=>(ih _).trans (bC _ _)
theorem JB (vss:List (List Bool)):∀ (bs:List Bool) (k:Nat),bn (cd bs vss) k = (bn bs k || (decide (k < bs.length) && vss.any fun v=>bn v k)):=by
 induction vss with
 | nil=>intro bs k; simp [cd]
 | cons v l ih =>
  intro bs k
  show bn (cd (cU bs (ee v)) l) k = _
  rw [ih,bC,dU,List.any_cons]
  cases bn bs k <;> cases decide (k < bs.length) <;> simp
theorem ET {vss:List (List Bool)} {bs v:List Bool} {j:Nat} (h:vss[j]? = some v):cd bs (vss.take (j + 1)) = cU (cd bs (vss.take j)) (ee v):=by
 unfold cd; rw [Su,h,List.foldl_append]; rfl
theorem JC {bs:List Bool} {xs:List Int} {j:Nat} {x:Int} (h:xs[j]? = some x):cU (cU bs (xs.take j)) [x] = cU bs (xs.take (j + 1)):=by
 refine kP (by simp [bC]) fun k=>?_
 rw [fx,fx,fx]
 simp only [eG,bC,aV h,lA,List.contains_cons,List.contains_nil,Bool.or_false]
 cases bn bs k <;> cases decide (k < bs.length) <;> simp
theorem Lb {n:Nat} {m m' : Nat→Bool} (h:∀ k,m k = true→m' k = true):jc n m≤jc n m':=by
 unfold jc
 rw [← List.countP_eq_length_filter,← List.countP_eq_length_filter]
 exact List.countP_mono_left fun k _=>h k
theorem mD (bs:List Bool) (xs:List Int):bm bs≤bm (cU bs xs):=by
 unfold bm; rw [bC,fx]
 exact Lb fun k h=>by simp [eG,h]
def dK (p:Option Addr) (bs:List Bool):aw:=vF p bs.length (bn bs)
def mE (h:Hp) (p:Option Addr) (bs:List Bool):Prop :=
 (p = none∧bs = [])∨∃ b a c ws,p = some ⟨b,0,none⟩∧Inv bs.length ws (bn bs)∧ax h ⟨b,0,none⟩ [.slice a (List.length ws) c,.int .i64 (bs.length:Int)]∧gN a (cw ws) h
theorem gN.mono {h h' : Hp} {a:Option Addr} {vs:List Value} (s:sub h h') (r:gN a vs h):gN a vs h':=by
 rcases r with r | ⟨ad,e,hc⟩
 ·exact .inl r
 ·exact .inr ⟨ad,e,fun j v hj=>su s (hc j v hj)⟩
theorem mE.mono {h h' : Hp} {p:Option Addr} {bs:List Bool} (s:sub h h') (r:mE h p bs):mE h' p bs:=by
 rcases r with r | ⟨b,a,c,ws,h1,h2,h3,h4⟩
 ·exact .inl r
 ·exact .inr ⟨b,a,c,ws,h1,h2,h3.mono s,h4.mono s⟩
theorem Dp {h:Hp} {p:Option Addr} {bs:List Bool} (ho:dK p bs h):mE h p bs:=by
 rcases ho with ⟨h1,h2,_⟩ | ⟨b,a,c,ws,h1,h2,h3⟩
 ·exact .inl ⟨h1,SV h2⟩
 ·obtain ⟨g1,g2,d,s1,s2,ha,g3,g4,d',s3,s4,hb,_⟩:=h3
  exact .inr ⟨b,a,c,ws,h1,h2,(vL ha).mono s1,(bV hb).mono (s3.trans s2)⟩
theorem St.mE {w:World} {L:List aw} {p:Option Addr} {bs:List Bool} (h:St w (dK p bs :: L)):mE (hp w) p bs:=by
 obtain ⟨h1,s,ha⟩:=h.first
 exact (Dp ha).mono s
theorem mE.le {h:Hp} {p:Option Addr} {bs:List Bool} (r:V.mE h p bs):bs.length≤1024:=by
 rcases r with ⟨_,rfl⟩ | ⟨b,a,c,ws,_,h2,_⟩
 ·simp
 ·exact h2.le
theorem Lc {w:World} {L:List aw} {p:Option Addr} {n:Nat} {m:Nat→Bool} (h:St w (vF p n m :: L)):St w (dK p (Dm n m) :: L):=by
 unfold dK; rw [vM,H4 fun k hk=>K4 h hk]; exact h
instance:gO (Option Addr):={ n:=1,rd:=fun _ x vs=>vs = [.pointer x],mono:=fun _ h=>h,len:=fun h=>by rw [h]; rfl,val:=fun x=>.pointer x,one:=Iff.rfl,n1:=rfl }
end Go.V
namespace Go.Proofs.YtngdohpikfcifaaGreatDoor
open Go.V
section
variable {w:World} {L:List aw} {a:Option Addr} {l c:Nat} {p q:Option Addr} {bs cs:List Bool} {xs:List Int} {ws:List Nat}
theorem Ld (h:St w (dK p bs :: L)) (hx:∀ h,aE L h→aW h xs a l) (hb:l≤4611686018427387904) :
  aC Tryz.prog qj [.pointer p,.slice a l c] w fun v w'=>v = .int .i64 ((bm (cU bs xs):Int) - bm bs)∧St w' (dK p (cU bs xs) :: L):=by
 obtain ⟨h0,hl,hs,h1⟩:=h.freeze
 have hx:=hx h0 hl
 refine (OY (D:=has h0) (L:=[]) (fun h hh=>hx.iv.mono hh) h1 hx.1 hb).mono ?_
 rintro _ w' ⟨rfl,h2⟩
 refine ⟨?_,?_⟩
 ·simp only [bm,bC,fx]
 ·have h2:=Lc h2
  exact h2.vK hl
theorem PE (size:Int) (hx:aW (hp w) xs a l) (hb:l≤4611686018427387904) :
  aC Tryz.prog CA [.int .i64 size,.slice a l c] w fun v w'=>∃ b,v = .pointer (some ⟨b,0,none⟩)∧St w' (dK (some ⟨b,0,none⟩) (BV size xs) :: all w):=by
 refine (RQ size (D:=has (hp w)) (L:=[]) (fun h hh=>hx.iv.mono hh) (St.all w) hx.1 hb).mono ?_
 rintro _ w' ⟨b,rfl,h2⟩
 refine ⟨b,rfl,?_⟩
 have h2:=Lc h2
 have e:Dm (F7 size) (eG (F7 size) (fun _=>false) xs) = BV size xs:=by
  unfold BV cU
  rw [List.length_replicate]
  congr 2
  funext k; exact (sx _ k).symm
 rw [e] at h2
 exact h2
theorem O0 (h:mE (hp w) p bs):aC Tryz.prog Ax [.pointer p] w fun v w'=>∃ b,v = .func (.func kN) #[] #[.pointer (some ⟨b,0,none⟩)]∧St w' (QF b bs.length (bn bs) :: all w):=by
 refine xC _ w _ ?_
 refine ah (St.all w) fun b w1 h1=>?_
 rcases h with ⟨rfl,rfl⟩ | ⟨b2,a,c,ws,rfl,hi,h2,hr⟩
 ·refine ⟨b,rfl,vI.2 ⟨none,0,[],inv_zero (Sv _),?_⟩⟩
  exact (aB 1 h1).swap
 ·have hl:ws.length≤1024:=by rw [hi.len]; have:=hi.le; omega
  refine ⟨a,ws.length,c,h2.cell0 h1.aX,?_⟩
  refine (Nx (D:=has (hp w)) (fun h hh=>hr.mono hh) h1.swap hl (fun e=>?_)).mono ?_
  ·subst e
   rcases hr with hr | ⟨_,hr,_⟩
   ·exact Pz hr
   ·cases hr
  rintro _ w2 ⟨a',c',rfl,h3⟩
  refine ⟨_,_,_,rfl,?_⟩
  refine bg h3.Ei (by simp) fun w3 h4=>?_
  exact ⟨b,rfl,vI.2 ⟨a',c',ws,hi,h4⟩⟩
theorem CI (h:mE (hp w) p bs) (ht:gz (hp w)):aC Tryz.prog ud [.pointer p] w fun v w'=>∃ a' c',v = .slice a' (bm bs) c'∧St w' (own 1 a' (bm bs) c' (iv (ee bs)) :: all w):=by
 refine ql _ w _ ?_
 have hn:=h.le
 have hc:=gj bs
 refine (O0 h).mono ?_
 rintro _ w1 ⟨b,rfl,h1⟩
 refine ⟨_,_,rfl,?_⟩
 refine (Jy (rfl:Fn _ = true) CF (fun h hh=>gN.mono (jo hh) ht) (by rw [CE]; show bm bs≤_; omega) h1).mono ?_
 rintro _ w2 ⟨a',c',rfl,h3⟩
 refine ⟨_,_,_,rfl,a',c',rfl,?_⟩
 rw [PD]
 exact h3.swap.tail
theorem zP (h:St w (own 1 a l c (iv xs) :: L)):aW (hp w) xs a l:=by
 have hl:=ea h
 obtain ⟨h1,s,ha⟩:=h.first
 exact (b8 (by simpa [iv] using hl) (bV ha)).mono s
end
end Go.Proofs.YtngdohpikfcifaaGreatDoor
namespace Go.V
theorem sy {bs cs:List Bool} (h:∀ k,bn cs k = true→bn bs k = true):cU bs (ee cs) = bs:=by
 refine kP (bC _ _) fun k=>?_
 rw [dU]
 cases hk:bn cs k
 ·simp
 ·simp [h k hk]
theorem BW (bs:List Bool) (vss:List (List Bool)) (k:Nat) (h:bn bs k = true):bn (cd bs vss) k = true:=by
 rw [JB,h]; rfl
theorem Gw (vss:List (List Bool)):∀ bs,bm bs≤bm (cd bs vss):=by
 induction vss with
 | nil=>exact fun _=>SF _
 | cons v l ih=>exact fun bs=>SK (mD bs (ee v)) (ih _)
theorem H6 {ks:List Nat} {i:Nat} {us:List Value} (h:(Dl ks)[i]? = some us):∃ k,ks[i]? = some k∧us = [.int .i64 (k:Int)]:=by
 unfold Dl at h
 rw [Sn] at h
 cases hk:ks[i]? with
 | none=>rw [hk] at h; cases h
 | some k=>rw [hk] at h; cases h; exact ⟨k,rfl,rfl⟩
theorem NC (ks:List Nat):(Dl ks).length = ks.length:=by simp [Dl]
theorem ND {bs:List Bool} {i k:Nat} (h:(mb bs)[i]? = some k):(ee bs)[i]? = some (k:Int):=by simp [ee,h]
theorem qz {L:List aw} {A:aw}:∀ {h:Hp},A∈L→aE L h→∃ h1,sub h1 h∧A h1:=by
 induction L with
 | nil=>intro h hm; simp at hm
 | cons B L ih =>
  rintro h hm ⟨h1,h2,d,s1,s2,ha,hl⟩
  rcases SA.1 hm with rfl | hm
  ·exact ⟨h1,s1,ha⟩
  ·obtain ⟨h3,s3,h4⟩:=ih hm hl
   exact ⟨h3,s3.trans s2,h4⟩
end Go.V
namespace Go.Proofs.YtngdohpikfcifaaGreatDoor
open Go.V
section
variable {w:World} {L:List aw} {a:Option Addr} {l c:Nat} {p q:Option Addr} {bs cs:List Bool} {xs:List Int} {os:List (Option Addr)} {vss:List (List Bool)}
theorem H7 (h:St w (dK p bs :: L)) (hx:∀ h,aE L h→aW h os a l) (hv:vss.length = os.length) (ho:∀ h,aE L h→∀ (i:Nat) q v,os[i]? = some q→vss[i]? = some v→mE h q v∨(q = p∧v = bs))
  (ht:∀ h,aE L h→gz h) (hb:l≤4611686018427387904) :
  aC Tryz.prog xD [.pointer p,.slice a l c] w fun v w'=>v = .int .i64 ((bm (cd bs vss):Int) - bm bs)∧St w' (dK p (cd bs vss) :: L):=by
 obtain ⟨h0,hl,_,h1⟩:=h.freeze
 have hx:=hx h0 hl
 have ho:=ho h0 hl
 have ht:gz h0:=ht h0 hl
 have hn:=h.mE.le
 have done:∀ w',St w' (dK p (cd bs vss) :: [has h0])→St w' (dK p (cd bs vss) :: L):=fun w' h=>h.vK hl
 clear h hl
 refine uj _ _ _ _ w _ ?_
 refine ah h1 fun b1 w1 h1=>ah h1 fun b2 w2 h1=>bg h1 (by simp) fun w3 h1=>?_
 have cb:∀ j,bm (cd bs (vss.take j))≤1024:=fun j=>by
  have:=gj (cd bs (vss.take j)); rw [uv] at this; omega
 refine ⟨fun n1 w=>∃ j:Nat,n1 = j∧j≤l∧St w [aR b2 [.int .i64 ((bm (cd bs (vss.take j)):Int) - bm bs)],aR b1 [.pointer p],dK p (cd bs (vss.take j)),has h0],fun n1 _=>l - n1.toNat,
  ⟨0,rfl,by omega,?_⟩,?_⟩
 ·show St w3 [aR b2 [.int .i64 ((bm bs:Int) - bm bs)],_,_,_]
  rw [Int.sub_self]; exact h1
 rintro _ n1 w4 ⟨j,rfl,hj,hs⟩
 refine ae (fun hlt=>?_) fun hlt=>?_
 ·have hlt:j < l:=by have:=Si hlt; omega
  obtain ⟨q,ad,hq,rfl,hc⟩:=hx.bL hlt
  have hs0:sub h0 (hp w4):=(hs.pick 4 [3]).has
  refine aq rfl hlt ⟨q,hc _ hs0,?_⟩
  obtain ⟨v,hvj⟩ : ∃ v,vss[j]? = some v:=⟨vss[j]'(by rw [hv,hx.1]; omega),Sm _⟩
  have hU:=ET (bs:=bs) hvj
  have hlenU:(cd bs (vss.take j)).length = bs.length:=uv _ _
  have cbj:=cb j
  have cbj1:=cb (j + 1)
  have c0:=Gw (vss.take j) bs
  have c1:=mD (cd bs (vss.take j)) (ee v)
  rw [← hU] at c1
  obtain ⟨v',hr',he'⟩ : ∃ v',mE (hp w4) q v'∧cU (cd bs (vss.take j)) (ee v') = cd bs (vss.take (j + 1)):=by
   rcases ho j q v hq hvj with hr | ⟨rfl,rfl⟩
   ·exact ⟨v,hr.mono hs0,hU.symm⟩
   ·refine ⟨cd v (vss.take j),(hs.pick 4 [2]).mE,?_⟩
    rw [hU,sy fun _ h=>h,sy fun k hk=>BW _ _ _ hk]
  rw [← he'] at c1 cbj1
  generalize hU0:cd bs (vss.take j) = U at *
  refine (O0 hr').mono ?_
  rintro _ w5 ⟨b3,rfl,h5⟩
  have h6:=h5.vK hs
  refine ⟨_,_,rfl,bR.2 ⟨rfl,?_⟩⟩
  refine ⟨Dl (mb v'),QF b3 v'.length (bn v'),gz,fun i=>aT [aR b2 [.int .i64 ((bm (cU U ((ee v').take i)):Int) - bm bs)],aR b1 [.pointer p],dK p (cU U ((ee v').take i))],pu False,fun _=>pu False,[has h0],?_,(fun h hh=>gN.mono (jo hh) ht),CF,?_,?_,?_,?_,trivial⟩
  ·have h7:=h6.pick 5 [1,2,3,0,4]
   have e:cU U [] = U:=kP (bC _ _) fun k=>by rw [fx]; simp [eG]
   show St w5 [aT [aR b2 [.int .i64 ((bm (cU U []):Int) - bm bs)],_,dK p (cU U [])],_,_]
   rw [e]
   exact (St.flat.2 (show St w5 ([_,_,_] ++ [_,_]) from h7))
  ·intro x hx
   obtain ⟨i,hi,rfl⟩:=List.mem_iff_getElem.1 hx
   obtain ⟨k,_,e⟩:=H6 (Sm hi)
   exact ⟨_,e⟩
  ·intro i x hx L' w6 _ hs6
   obtain ⟨k,hk,e⟩:=H6 hx
   cases e
   refine ⟨_,hs6,fun L'' w7 _ hs7 w8 hd=>?_⟩
   have hs8:=St.flat.1 (hs7.drawn hd)
   refine ⟨fun w=>w.cell? ⟨b2,0,none⟩ = some (.int .i64 ((bm (cU U ((ee v').take i)):Int) - bm bs))∧w.cell? ⟨b1,0,none⟩ = some (.pointer p),⟨hs8.cell 0,hs8.swap.cell 0⟩,_,fun w h=>h.1,_,fun w h=>h.2,?_⟩
   refine ah hs8 fun b4 w9 h9=>⟨⟨h9.swap.cell 0,h9.Ei.cell 0⟩,?_⟩
   refine (Ld (xs:=[(k:Int)]) (l:=1) (h9.pick 4 [3,0,1,2]) (fun h hh=>?_) (by omega)).mono ?_
   ·obtain ⟨h1,_,_,s1,_,⟨e,he⟩,_⟩:=hh
    exact (b8 (xs:=[(k:Int)]) rfl (.inr ⟨_,rfl,vL ⟨e,he⟩⟩)).mono s1
   ·rintro _ w10 ⟨rfl,h10⟩
    rw [JC (ND hk)] at h10 ⊢
    have k1:=mD U ((ee v').take i)
    have k2:=gj (cU U ((ee v').take i))
    have k3:=gj (cU U ((ee v').take (i + 1)))
    rw [bC] at k2 k3
    refine ⟨_,rfl,⟨(h10.pick 4 [2]).cell 0,(h10.pick 4 [3]).cell 0⟩,⟨by omega,by omega⟩,?_⟩
    refine bg (h10.pick 4 [2,3,0]) (by simp) fun w11 h11=>St.flat.2 ?_
    have e:((bm (cU U ((ee v').take i)):Int) - bm bs + ((bm (cU U ((ee v').take (i + 1))):Int) - bm (cU U ((ee v').take i)))) = (bm (cU U ((ee v').take (i + 1))):Int) - bm bs:=by omega
    rw [e] at h11
    exact h11
  ·intro w6 h6
   refine ⟨⟨by omega,by omega⟩,⟨j + 1,by simp,by omega,?_⟩,bA hlt⟩
   have e:(ee v').take (Dl (mb v')).length = ee v':=SD (by rw [NC,vO]; exact SF _)
   dsimp only at h6
   rw [e,he'] at h6
   exact (show St w6 [_,_,_,_,_] from St.flat.1 h6).pick 5 [0,1,2,4]
  ·intro w6 h6
   exact (St.pu.1 h6).1.elim
 ·have hlt:j = l:=by have:=Sj hlt; omega
  subst hlt
  rw [← hx.1,← hv,SM] at hs
  refine ⟨_,hs.cell 0,fun w5 h5=>⟨rfl,done _ ?_⟩⟩
  exact (hs.eq h5).pick 4 [2,3]
end
end Go.Proofs.YtngdohpikfcifaaGreatDoor
namespace Go.V
theorem ay {a:Option Addr} {ad:Addr} {len i sz:Nat} {k:Addr→Prop} (ha:a = some ad) (hi:i < len) (hk:k (ad.add (dP i sz))):idx a len (i:Int) sz k :=
 ⟨ad,ha,by omega,by omega,by simpa using hk⟩
section
variable {P:Program} {w w' : World} {L:List aw} {b:Nat} {us vs:List Value} {e e' : TypeId} {A B C D:aw}
theorem aQ {Ty:TypeId→Option di} (hT:dy P Ty) {t tx ty:TypeId} {i:di} {z:Value} (hk:ag Ty t = .slice e) (hkx:ag Ty tx = .slice e') (hi:Ty e = some i) (hz:i.zero = some z) (hzs:(cellsOf z).length = i.size)
  {a:Option Addr} {l c:Nat} (h:St w (aR b vs :: own i.size a l c us :: L)) (hv:vs.length = i.size) (h1:∀ u∈vs,aS u = true) (hb:(l + 1) * i.bytes≤140737488355328) (h63:l < 9223372036854775807) :
  az P (Builtin.append_ (Array.mk [t,tx]) ty (Array.mk [.slice a l c,.slice (some ⟨b,0,none⟩) 1 1])) w fun v w'=>∃ a' c',v = .slice a' (l + 1) c'∧St w' (own i.size a' (l + 1) c' (us ++ vs) :: aR b vs :: L):=by
 refine eY hT hk hi hz hzs h.swap (n:=1) (news:=vs) ?_ hb (by omega)
 refine dE hT hkx (by omega) (.inr ⟨_,rfl,fun j u hj=>?_⟩) h1
 rw [aO,h.cell]; exact hj
theorem AF {α : Type} [gO α] {Ty:TypeId→Option di} (hT:dy P Ty) {t tx ty:TypeId} {i:di} {z:Value} (hk:ag Ty t = .slice e) (hkx:ag Ty tx = .slice e') (hi:Ty e = some i) (hz:i.zero = some z) (hzs:(cellsOf z).length = i.size)
  {a a2:Option Addr} {l c n c2:Nat} {xs:List α} (h:St w (own i.size a l c us :: L)) (hs:i.size = 1) (hx:aW (hp w) xs a2 n) (h1:∀ x:α,aS (gO.val x) = true) (hb:(l + n) * i.bytes≤140737488355328) (h63:l + n≤9223372036854775807) :
  az P (Builtin.append_ (Array.mk [t,tx]) ty (Array.mk [.slice a l c,.slice a2 n c2])) w fun v w'=>∃ a' c',v = .slice a' (l + n) c'∧St w' (own i.size a' (l + n) c' (us ++ xs.map gO.val) :: L):=by
 have hl:=hx.1
 refine eY hT hk hi hz hzs h (n:=n) (news:=xs.map gO.val) (dE hT hkx (by rw [hs,Ss,Tp]; exact hx.1) ?_ ?_) hb h63
 ·rcases hx.row with hr | ⟨ad,rfl,hc⟩
  ·left
   have:xs = []:=by simpa using hr
   subst this; simpa using hl.symm
  ·exact .inr ⟨ad,rfl,fun j u hj=>kO (hc j u hj)⟩
 ·intro u hu
  obtain ⟨x,_,rfl⟩:=SG.1 hu
  exact h1 x
end
end Go.V
namespace Go.V
def PF (q:Option Addr) (bs:List Bool):aw:=ex fun x:Nat × Option Addr × Nat=>aT [pu (q = some ⟨x.1,0,none⟩∧bs.length≤1024),aR x.1 [.slice x.2.1 bs.length x.2.2],own 1 x.2.1 bs.length x.2.2 (bv bs)]
def Le (h:Hp) (q:Option Addr) (bs:List Bool):Prop:=∃ b a c,q = some ⟨b,0,none⟩∧bs.length≤1024∧ax h ⟨b,0,none⟩ [.slice a bs.length c]∧aW h bs a bs.length
theorem Le.mono {h h' : Hp} {p:Option Addr} {bs:List Bool} (s:sub h h') (r:Le h p bs):Le h' p bs:=by
 obtain ⟨b,a,c,h1,h0,h2,h3⟩:=r
 exact ⟨b,a,c,h1,h0,h2.mono s,h3.mono s⟩
theorem JD {w:World} {L:List aw} {q:Option Addr} {bs:List Bool}:St w (PF q bs :: L)↔∃ b a c,q = some ⟨b,0,none⟩∧bs.length≤1024∧St w (aR b [.slice a bs.length c] :: own 1 a bs.length c (bv bs) :: L):=by
 unfold PF
 rw [St.ex]
 constructor
 ·rintro ⟨⟨b,a,c⟩,h⟩
  have h:=St.pu.1 (St.flat.1 h)
  exact ⟨b,a,c,h.1.1,h.1.2,h.2⟩
 ·rintro ⟨b,a,c,h1,h2,h⟩
  exact ⟨⟨b,a,c⟩,St.flat.2 (St.pu.2 ⟨⟨h1,h2⟩,h⟩)⟩
theorem NF {w:World} {L:List aw} {a:Option Addr} {l c:Nat} {bs:List Bool} (h:St w (own 1 a l c (bv bs) :: L)):aW (hp w) bs a l:=by
 have hl:=ea h
 obtain ⟨h1,s,ha⟩:=h.first
 exact (xI (by simpa [bv] using hl) (bV ha)).mono s
theorem St.row {w:World} {L:List aw} {b:Nat} {vs:List Value} (h:St w (aR b vs :: L)):ax (hp w) ⟨b,0,none⟩ vs:=by
 obtain ⟨h1,s,ha⟩:=h.first
 exact (vL ha).mono s
theorem St.Le {w:World} {L:List aw} {q:Option Addr} {bs:List Bool} (h:St w (PF q bs :: L)):Le (hp w) q bs:=by
 obtain ⟨b,a,c,h1,h2,h3⟩:=JD.1 h
 exact ⟨b,a,c,h1,h2,h3.row,NF h3.swap⟩
end Go.V
namespace Go.V
theorem vQ {c:Bool} {a b:Prop} (h:c = true) (ha:a):br c a b:=by subst h; exact ha
theorem Dq {c:Bool} {a b:Prop} (h:c = false) (hb:b):br c a b:=by subst h; exact hb
end Go.V
namespace Go.V
theorem dG {L:List aw}:∀ {h:Hp} (i:Nat),i < L.length→aE L h→∃ h1,sub h1 h∧sR L i h1:=by
 induction L with
 | nil=>intro h i hi; simp at hi
 | cons A L ih =>
  rintro h i hi ⟨h1,h2,d,s1,s2,ha,hl⟩
  cases i with
  | zero=>exact ⟨h1,s1,ha⟩
  | succ i =>
   obtain ⟨h3,s3,h4⟩:=ih i (by simpa using hi) hl
   exact ⟨h3,s3.trans s2,h4⟩
def AG:List aw→Nat
 | []=>0
 | _ :: L=>AG L + 1
theorem jd:∀ L,AG L = L.length
 | []=>rfl
 | _ :: L=>by simp [AG,jd L]
theorem aZ {L:List aw} {h h0:Hp} (i:Nat) (hl:aE L h) (e:sR L i = has h0:=by rfl) (hi:Nat.blt i (AG L) = true:=by rfl):sub h0 h:=by
 obtain ⟨h1,s,ha⟩:=dG i (by simpa [jd] using hi) hl
 rw [e] at ha
 exact sub.trans ha s
theorem St.l {w:World} {L:List aw} (h:St w L):aE L (hp w):=h
inductive PG {α β : Type} (P:α→β→Prop):List α→List β→Prop where
 | nil:PG P [] []
 | cons {x:α} {y:β} {l:List α} {m:List β}:P x y→PG P l m→PG P (x :: l) (y :: m)
section
variable {A B C:List Bool} {N:Nat} (hA:A.length = N) (hB:B.length = N) (hC:C.length = N)
include hA hB hC
end
end Go.V
namespace Go.V
theorem Gx {M:List aw}:∀ {i:Nat} {A:aw},M[i]? = some A→M.Perm (A :: M.eraseIdx i):=by
 induction M with
 | nil=>intro i A h; simp at h
 | cons B M ih =>
  intro i A h
  cases i with
  | zero=>simp at h; subst h; exact List.Perm.refl _
  | succ i=>exact (List.Perm.cons B (ih (by simpa using h))).trans (List.Perm.swap _ _ _)
theorem Lf {M:List aw} {B:aw}:∀ {i:Nat} {A:aw},M[i]? = some A→(M.set i B).Perm (B :: M.eraseIdx i):=by
 induction M with
 | nil=>intro i A h; simp at h
 | cons C M ih =>
  intro i A h
  cases i with
  | zero=>exact List.Perm.refl _
  | succ i=>exact (List.Perm.cons C (ih (A:=A) (by simpa using h))).trans (List.Perm.swap _ _ _)
section
variable {w:World} {L M:List aw} {A B:aw} {i:Nat}
theorem St.out (h:St w (aT M :: L)) (hi:M[i]? = some A):St w (A :: aT (M.eraseIdx i) :: L):=by
 have h1:St w (M.eraseIdx i ++ A :: L):=(St.flat.1 h).perm (((Gx hi).append_right L).trans Tq.symm)
 exact (St.flat.2 h1).swap
theorem St.back (h:St w (B :: aT (M.eraseIdx i) :: L)) (hi:M[i]? = some A):St w (aT (M.set i B) :: L):=by
 have h1:=St.flat.1 h.swap
 exact St.flat.2 (h1.perm (Tq.trans ((Lf hi).symm.append_right L)))
theorem St.snoc (h:St w (A :: aT M :: L)):St w (aT (M ++ [A]) :: L):=by
 have h1:=St.flat.1 h.swap
 exact St.flat.2 (by rw [SI]; exact h1)
theorem St.merge {C:aw} (h:St w (A :: B :: L)) (hm:∀ h h1 h2,sub h1 h→sub h2 h→A h1→B h2→C h):St w (C :: L):=by
 obtain ⟨h1,h2,d,s1,s2,ha,h3,h4,d',s3,s4,hb,hl⟩:=h
 have d13:Cg h1 h3:=d.sub (sub.refl _) s3
 refine ⟨Jf h1 h3,h4,vi (d.sub (sub.refl _) s4) d',vh s1 (s3.trans s2),s4.trans s2,hm _ h1 h3 (l8 _ _) (l9 d13) ha hb,hl⟩
end
theorem NG {α β : Type} (f:α→β→aw) {ps:List α} {vs:List β} {i:Nat} {p:α} {v' : β} (hp:ps[i]? = some p):(List.zipWith f ps vs).set i (f p v') = List.zipWith f ps (vs.set i v'):=by
 apply Tb
 intro k
 rw [TB,List.getElem?_zipWith,List.getElem?_zipWith,TB,List.length_zipWith]
 by_cases hk:i = k
 ·subst hk
  rw [Sz rfl,Sz rfl,hp]
  have:=(Sk.1 hp).1
  by_cases hl:i < vs.length
  ·simp [hl,this]; omega
  ·simp [hl]; omega
 ·rw [Sr hk,Sr hk]
def bk (p:Nat):Option Addr:=some ⟨p,0,none⟩
def pv (os:List (Option Addr)):List Value:=os.map fun o=>Value.pointer o
def gF (ps:List Nat) (vss:List (List Bool)):List aw:=List.zipWith (fun p v=>dK (bk p) v) ps vss
end Go.V
namespace Go.V
theorem RR {L:List aw} {h:Hp} {ps:List Nat} {vss:List (List Bool)} {k m p:Nat} {v:List Bool} (i:Nat) (hl:aE L h) (hp:ps[k]? = some p) (hv:vss[k]? = some v) (hk:k≠m) (e:sR L i = aT ((gF ps vss).eraseIdx m):=by rfl) (hi:Nat.blt i (AG L) = true:=by rfl):mE h (bk p) v:=by
 obtain ⟨h1,s,ha⟩:=dG i (by simpa [jd] using hi) hl
 rw [e] at ha
 obtain ⟨h2,s2,hb⟩:=qz (A:=dK (bk p) v) (List.mem_eraseIdx_iff_getElem?.2 ⟨k,hk,by unfold gF; rw [List.getElem?_zipWith,hp,hv]⟩) ha
 exact (Dp hb).mono (s2.trans s)
theorem PH {L:List aw} {h:Hp} {a:Option Addr} {l c:Nat} {os:List (Option Addr)} (i:Nat) (hl:aE L h) (e:sR L i = own 1 a l c (pv os):=by rfl) (hi:Nat.blt i (AG L) = true:=by rfl):os.length = l→aW h os a l:=fun hx=>by
 obtain ⟨h1,s,ha⟩:=dG i (by simpa [jd] using hi) hl
 rw [e] at ha
 exact (du hx (bV ha)).mono s
theorem ai {L:List aw} {h:Hp} {b:Nat} {vs:List Value} (i:Nat) (hl:aE L h) (e:sR L i = aR b vs:=by rfl) (hi:Nat.blt i (AG L) = true:=by rfl):ax h ⟨b,0,none⟩ vs:=by
 obtain ⟨h1,s,ha⟩:=dG i (by simpa [jd] using hi) hl
 rw [e] at ha
 exact (vL ha).mono s
end Go.V
namespace Go.V
open MapKept
class MVal (κ : Type) where
 val:κ→Value
 inj:∀ a b:κ,val a = val b→a = b
class vR (κ : Type) [DecidableEq κ] extends MVal κ where
 kd:TypeDesc
 now:∀ a b:κ,Instr.sameNow kd (val a) (val b) = some (decide (a = b))
 key:∀ a,IsKey kd (val a)
 bits:∀ a,Instr.sameBits 10000 (val a) (val a) = true
instance:vR Int:={ kd:=.int .i64,val:=fun x=>.int .i64 x,inj:=fun a b h=>by injection h,now:=fun a b=>by simp [Instr.sameNow]; rfl,key:=fun _=>rfl,bits:=fun a=>by simp [Instr.sameBits] }
instance:vR ByteArray:={ kd:=.string,val:=fun x=>.string x,inj:=fun a b h=>by injection h,now:=fun a b=>by simp only [Instr.sameNow,Option.some.injEq]; rw [S9,Sy]; exact bytes_beq a b,key:=fun _=>trivial,bits:=fun a=>by simp only [Instr.sameBits]; exact (bytes_beq a a).2 rfl }
section
variable {κ : Type} [DecidableEq κ] {P:Program} {w:World} {L:List aw}
def assoc (k:κ):List (κ × Value)→Option Value
 | []=>none
 | (a,v) :: m=>if k = a then some v else assoc k m
def bx (k:κ) (v:Value):List (κ × Value)→List (κ × Value)
 | []=>[(k,v)]
 | (a,u) :: m=>if k = a then (k,v) :: m else (a,u) :: bx k v m
theorem db (k a:κ) (v:Value):∀ m,assoc a (bx k v m) = if a = k then some v else assoc a m
 | []=>by simp [bx,assoc]
 | (b,u) :: m=>by
  unfold bx
  by_cases h:k = b
  ·subst h
   by_cases ha:a = k
   ·simp [assoc,ha]
   ·simp [assoc,ha]
  ·rw [Sr h]
   by_cases hab:a = b
   ·subst hab
    simp [assoc,TM h]
   ·simp [assoc,hab,db k a v m]
theorem AH (k:κ) (v:Value):∀ m,(bx k v m).length = if (assoc k m).isSome then m.length else m.length + 1
 | []=>rfl
 | (b,u) :: m=>by
  unfold bx assoc
  by_cases h:k = b
  ·simp [h]
  ·simp only [Sr h,S4,AH k v m]
   split <;> rfl
variable [MVal κ]
structure tX (es:Array MapEntry) (clock:Nat) (m:List (κ × Value)):Prop where
 eq:es.toList.map (fun e=>(e.key,e.val)) = m.map fun x=>(MVal.val x.1,x.2)
 nd:(es.toList.map (·.born)).Nodup
 lt:∀ e∈es.toList,e.born < clock
def mapA (b:Nat) (m:List (κ × Value)):aw:=fun h=>∃ es clock,h b = some (.map es clock)∧tX es clock m
theorem gX {b:Nat} {m:List (κ × Value)}:St w (mapA b m :: L)↔∃ es clock,tX es clock m∧St w (blk b (.map es clock) :: L) :=
 ⟨fun ⟨h1,h2,d,s1,s2,⟨es,cl,ha,he⟩,hl⟩=>⟨es,cl,he,h1,h2,d,s1,s2,ha,hl⟩,fun ⟨es,cl,he,h1,h2,d,s1,s2,ha,hl⟩=>⟨h1,h2,d,s1,s2,⟨es,cl,ha,he⟩,hl⟩⟩
theorem dC {b:Nat} (h:St w (blk b (.map #[] 0) :: L)):St w (mapA b ([] : List (κ × Value)) :: L):=gX.2 ⟨_,_,⟨rfl,by simp,by simp⟩,h⟩
structure QY (k:κ) (m:List (κ × Value)) (r:Option (Nat × Value)):Prop where
 eq:(r.map (·.2)) = assoc k m
 at' : ∀ j v,r = some (j,v)→j < m.length∧(m[j]?).map (·.1) = some k∧∀ u,bx k u m = m.set j (k,u)
 no:r = none→∀ u,bx k u m = m ++ [(k,u)]
structure uw (P:Program) (kt:TypeId) (κ : Type) [DecidableEq κ] [MVal κ] : Prop where
 check:∀ (w:World) (em:Bool) (k:κ),(Instr.checkKey em 10000 kt (MVal.val k)).run P w = .ok () w
 find:∀ (w:World) (k:κ) (es:List MapEntry) (m:List (κ × Value)),es.map (fun e=>(e.key,e.val)) = m.map (fun x=>(MVal.val x.1,x.2))→∃ r,(Instr.findKey kt (MVal.val k) es).run P w = .ok r w∧QY k m r
 bits:∀ k:κ,Instr.sameBits 10000 (MVal.val k) (MVal.val k) = true
end
section
variable {κ : Type} [DecidableEq κ] {P:Program} {w:World} {L:List aw}
theorem AJ [vR κ] (k:κ):∀ (es:List MapEntry) (m:List (κ × Value)) (i:Nat),es.map (fun e=>(e.key,e.val)) = m.map (fun x=>(MVal.val x.1,x.2)) →
  ∃ r,Instr.findNow (vR.kd κ) (MVal.val k) es i = some r∧(r.map (·.2)) = assoc k m∧(∀ j v,r = some (j,v)→i≤j∧j < i + m.length∧(m[j - i]?).map (·.1) = some k∧∀ u,bx k u m = m.set (j - i) (k,u))∧(r = none→∀ u,bx k u m = m ++ [(k,u)])
 | [],[],i,_=>⟨none,rfl,rfl,fun j v h=>(by cases h),fun _ u=>rfl⟩
 | [],_ :: _,i,h=>by simp at h
 | _ :: _,[],i,h=>by simp at h
 | e :: es,(a,v) :: m,i,h=>by
  simp only [S0,List.cons.injEq,Prod.mk.injEq] at h
  obtain ⟨⟨h1,h2⟩,h3⟩:=h
  unfold Instr.findNow
  rw [h1,vR.now]
  by_cases hk:k = a
  ·subst hk
   refine ⟨some (i,e.val),by simp,by simp [assoc,h2],fun j u hj=>?_,fun hn=>by cases hn⟩
   cases hj
   simp [bx]
  ·obtain ⟨r,q1,q2,q3,q4⟩:=AJ k es m (i + 1) h3
   refine ⟨r,by simp [hk,q1],by simp [assoc,hk,q2],fun j u hj=>?_,fun hn u=>by simp [bx,hk,q4 hn u]⟩
   obtain ⟨p1,p2,p3,p4⟩:=q3 j u hj
   have e1:j - i = (j - (i + 1)) + 1:=by omega
   refine ⟨by omega,by simp; omega,by rw [e1]; simpa using p3,fun u=>by rw [e1]; simp [bx,hk,p4 u]⟩
theorem uw.AK [vR κ] {kt:TypeId} (hkt:P.underlying kt = some (vR.kd κ)):uw P kt κ where
 check:=fun w em k=>run_checkKey (P:=P) (w:=w) hkt (vR.key k) em 9999
 find:=fun w k es m he=>by
  obtain ⟨r,q1,q2,q3,q4⟩:=AJ k es m 0 he
  refine ⟨r,run_findKey (P:=P) (w:=w) hkt q1,q2,fun j v hj=>?_,q4⟩
  obtain ⟨_,p2,p3,p4⟩:=q3 j v hj
  rw [Nat.sub_zero] at p3 p4
  exact ⟨by omega,p3,p4⟩
 bits:=vR.bits
variable [MVal κ]
variable {Ty:TypeId→Option di}
theorem vU {d:TypeDesc} {k e:TypeId} (h:Kd.map k e = dx d):d = .map k e:=by cases d <;> simp [dx] at h; obtain ⟨rfl,rfl⟩:=h; rfl
theorem qA (hT:dy P Ty) {t kt et:TypeId} {i:di} {z:Value} (hk:ag Ty t = .map kt et) (hkt:uw P kt κ) (hi:Ty et = some i) (hz:i.zero = some z) {b:Nat} {m:List (κ × Value)} (h:St w (mapA b m :: L)) (k:κ) :
  az P (Instr.lookup t (.map (some b)) (MVal.val k) false) w fun v w'=>v = (assoc k m).getD z∧w' = w:=by
 obtain ⟨d,hd,hd'⟩:=cX hT hk (by simp)
 rw [vU hd'] at hd
 obtain ⟨es,cl,⟨he,_,_⟩,h⟩:=gX.1 h
 obtain ⟨r,hf,q2,_,_⟩:=hkt.find w k es.toList m he
 obtain ⟨info,d2,ha⟩:=qd hT hi
 have hzz:(zeroValue et).run P w = .ok z w:=g_ ha.inf (by rw [← ha.zero,hz])
 refine ⟨_,w,?_,Ev.refl w,rfl,rfl⟩
 have hg:=h.get
 have hc:=fun e=>hkt.check w e k
 unfold Instr.lookup
 simp only [Sem.run_bind,aN hd,Result.andThen_ok,run_getObj_map w b es cl hg,Sem.run_pure,hc,hf]
 rw [← q2]
 cases r with
 | none=>simp [Sem.run_bind,hzz]
 | some x=>simp
theorem kQ (hT:dy P Ty) {t kt et:TypeId} (hk:ag Ty t = .map kt et) (hkt:uw P kt κ) {b:Nat} {m:List (κ × Value)} (h:St w (mapA b m :: L)) (k:κ) (v:Value) :
  az P (Instr.mapUpdate t (.map (some b)) (MVal.val k) v) w fun _ w'=>St w' (mapA b (bx k v m) :: L):=by
 obtain ⟨d,hd,hd'⟩:=cX hT hk (by simp)
 rw [vU hd'] at hd
 obtain ⟨es,cl,⟨he,hnd,hlt⟩,h⟩:=gX.1 h
 obtain ⟨r,hf,q2,q3,q4⟩:=hkt.find w k es.toList m he
 have hg:=h.get
 have hc:=fun e=>hkt.check w e k
 have hlen:es.size = m.length:=by have:=congrArg List.length he; simpa using this
 have ev:∀ o:Array MapEntry × Nat,Ev w { w with heap:=w.heap.setIfInBounds b (.map o.1 o.2) }:=fun o=>by
  refine ⟨rfl,rfl,rfl,by simp,?_,?_⟩ <;>
  ·intro x d hx
   rw [Tm]; exact hx
   intro e; subst e; rw [hg] at hx; cases hx
 cases r with
 | none =>
  refine ⟨(),_,?_,ev (es.push { key:=MVal.val k,val:=v,born:=cl },cl + 1),gX.2 ⟨_,_,?_,h.setObj _⟩⟩
  ·unfold Instr.mapUpdate
   simp only [Sem.run_bind,aN hd,Result.andThen_ok,run_getObj_map w b es cl hg,hc,hf]
   exact run_setObj_map _ hg
  ·refine ⟨by rw [q4 rfl v]; simp [he],?_,?_⟩
   ·rw [Array.toList_push,SU,SX]
    refine ⟨hnd,by simp,fun a ha b hb e=>?_⟩
    obtain ⟨x,hx,rfl⟩:=SG.1 ha
    have:=hlt x hx
    simp at hb; omega
   ·intro e he'
    rw [Array.toList_push,Sp,SE] at he'
    rcases he' with he' | rfl
    ·have:=hlt e he'; omega
    ·exact Nat.lt_succ_self _
 | some x =>
  obtain ⟨j,u⟩:=x
  obtain ⟨p2,p3,p4⟩:=q3 j u rfl
  have hj:j < es.size:=by omega
  have hkey:((es[j]?).map (·.key)).getD (MVal.val k) = MVal.val k:=by
   have h1:=congrArg (fun l=>l[j]?) he
   simp only [Sn] at h1
   cases hm:m[j]? with
   | none=>rw [hm] at p3; cases p3
   | some y =>
    rw [hm] at p3 h1
    simp only [Tf,Option.some.injEq] at p3
    have hjl:j < es.toList.length:=by simpa using hj
    rw [Sm hjl] at h1
    simp only [Tf,Option.some.injEq,Prod.mk.injEq] at h1
    simp [hj]
    have:=h1.1
    rw [p3] at this
    simpa using this
  refine ⟨(),_,?_,ev (es.modify j fun e=>{ e with key:=MVal.val k,val:=v },cl),gX.2 ⟨_,_,?_,h.setObj _⟩⟩
  ·unfold Instr.mapUpdate
   simp only [Sem.run_bind,aN hd,Result.andThen_ok,run_getObj_map w b es cl hg,hc,hf,hkey,Instr.keyThatStays,hkt.bits,if_true,Sem.run_pure]
   exact run_setObj_map _ hg
  ·refine ⟨?_,?_,?_⟩
   rotate_left
   ·have:(es.modify j fun e=>{ e with key:=MVal.val k,val:=v }).toList.map (·.born) = es.toList.map (·.born):=by
     apply Tb
     intro i
     simp only [Sn,SS,Td]
     split
     ·cases es[i]? <;> rfl
     ·rfl
    rw [this]; exact hnd
   ·intro e he'
    obtain ⟨i,hi⟩:=SP he'
    rw [SS,Td] at hi
    split at hi
    ·cases hx:es[i]? with
     | none=>rw [hx] at hi; cases hi
     | some x=>rw [hx] at hi; cases hi; exact hlt x (by rw [← SS] at hx; exact Sl hx)
    ·rw [← SS] at hi; exact hlt e (Sl hi)
   rw [p4 v]
   apply Tb
   intro i
   have h1:=congrArg (fun l=>l[i]?) he
   simp only [Sn,SS] at h1
   simp only [Sn,SS,Td,TB]
   by_cases hij:j = i
   ·subst hij
    simp [hj,p2] <;> omega
   ·simp [hij,h1]
theorem NH (hT:dy P Ty) {t kt et ty:TypeId} (hk:ag Ty t = .map kt et) {b:Nat} {m:List (κ × Value)} (h:St w (mapA b m :: L)):(Builtin.len_ #[t] ty #[.map (some b)]).run P w = .ok (.int .i64 (m.length:Int)) w:=by
 obtain ⟨d,hd,hd'⟩:=cX hT hk (by simp)
 rw [vU hd'] at hd
 obtain ⟨es,cl,⟨he,_,_⟩,h⟩:=gX.1 h
 have hlen:es.size = m.length:=by have:=congrArg List.length he; simpa using this
 have hg:=h.get
 simp [Builtin.len_,run_underlying hd,run_getObj_map w b es cl hg,hlen,goInt]
end
section
variable {κ : Type} [DecidableEq κ] [vR κ] {P:Program} {w:World} {L:List aw} {Ty:TypeId→Option di}
theorem bW (hT:dy P Ty) {t kt et:TypeId} {i:di} {z:Value} (hk:ag Ty t = .map kt et) (hkt:P.underlying kt = some (vR.kd κ)) (hi:Ty et = some i) (hz:i.zero = some z) {b:Nat} {m:List (κ × Value)} (h:St w (mapA b m :: L)) (k:κ) :
  az P (Instr.lookup t (.map (some b)) (MVal.val k) false) w fun v w'=>v = (assoc k m).getD z∧w' = w:=qA hT hk (uw.AK hkt) hi hz h k
theorem cH (hT:dy P Ty) {t kt et:TypeId} (hk:ag Ty t = .map kt et) (hkt:P.underlying kt = some (vR.kd κ)) {b:Nat} {m:List (κ × Value)} (h:St w (mapA b m :: L)) (k:κ) (v:Value) :
  az P (Instr.mapUpdate t (.map (some b)) (MVal.val k) v) w fun _ w'=>St w' (mapA b (bx k v m) :: L):=kQ hT hk (uw.AK hkt) h k v
end
end Go.V
namespace Go.V
def eH (s:ByteArray) (i:Nat):Nat:=(sb s i).toNat
theorem PI (s:ByteArray) (i:Nat):eH s i < 256:=(sb s i).toNat_lt
theorem PJ {s:ByteArray} {i:Nat} (h:i < s.size):sb s i = s[i]'h:=by
 unfold sb
 have:i < s.data.size:=h
 rw [Array.getElem?_eq_getElem this]; rfl
theorem toList_data (s:ByteArray):s.toList = s.data.toList:=by rw [ByteArray.toList_eq]
theorem yO (x y:ByteArray):(x.toList == y.toList) = decide (x = y):=by
 rw [S9,beq_iff_eq,Sy,toList_data,toList_data]
 exact ⟨fun h=>WideShapes.bytes_inj h,fun h=>by rw [h]⟩
theorem EU (x:ByteArray):(x.toList == ByteArray.toList (ByteArray.mk (Array.mk []))) = decide (x.size = 0):=by
 rw [yO,S9,Sy,Sy]
 constructor
 ·rintro rfl; rfl
 ·intro h
  refine WideShapes.bytes_inj ?_
  have:x.data.toList.length = 0:=by simpa using h
  rw [SV this]
def Ee (c:Nat):Bool:=decide (32≤c) && decide (c≤126) && !decide (c = 39)
def cZ (s:ByteArray):Bool:=decide (1≤s.size) && decide (s.size≤16) && (List.range s.size).all fun i=>Ee (eH s i)
def Gy (i c:Nat):Bool:=decide (c = 95) || (decide (65≤c) && decide (c≤90)) || (decide (97≤c) && decide (c≤122)) || (decide (i≠0) && decide (48≤c) && decide (c≤57))
def cO (s:ByteArray):Bool:=decide (1≤s.size) && decide (s.size≤16) && (List.range s.size).all fun i=>Gy i (eH s i)
theorem sA {n:Nat} {p:Nat→Bool}:(List.range n).all p = true↔∀ i,i < n→p i = true:=by
 simp [TG]
theorem JE (s:ByteArray) (pos:Nat) (h:pos < s.size) (hb:128≤(s[pos]'h).toNat):128≤(Utf8.decode s pos).1:=by
 have e:s.get! (pos + 0) = s[pos]'h:=by
  show s.get! pos = _
  simp [ByteArray.get!,getElem!_pos,h]
  rfl
 have hb0:128≤(s.get! (pos + 0)).toNat:=by rw [e]; exact hb
 have hx:∀ k,(s.get! (pos + k)).toNat < 256:=fun k=>(s.get! (pos + k)).toNat_lt
 have h0:=hx 0; have h1:=hx 1; have h2:=hx 2; have h3:=hx 3
 simp only [Utf8.decode]
 repeat' split
 all_goals simp_all [Utf8.runeError]
 all_goals omega
theorem wrap_u8 (n:Nat) (h:n < 256):IntKind.u8.wrap (n:Int) = n:=by
 have:(n:Int) % (256:Int) = n:=Int.emod_eq_of_lt (by omega) (by omega)
 simp [IntKind.wrap,IntKind.signed,IntKind.bits,this]
theorem Lg {a b:Nat} (ha:a < 256) (hb:b < 256):jy .or .u8 (a:Int) (b:Int) = ((a ||| b:Nat):Int):=by
 show IntKind.u8.wrap (((BitVec.ofInt 8 (a:Int)) ||| (BitVec.ofInt 8 (b:Int))).toNat:Int) = _
 have e:∀ n:Nat,BitVec.ofInt 8 (n:Int) = BitVec.ofNat 8 n:=fun n=>by apply BitVec.eq_of_toNat_eq; simp
 rw [e,e,BitVec.toNat_or,BitVec.toNat_ofNat,BitVec.toNat_ofNat,Nat.mod_eq_of_lt ha,Nat.mod_eq_of_lt hb]
 exact wrap_u8 _ (Nat.or_lt_two_pow (n:=8) ha hb)
theorem RS:∀ c:Fin 256,(decide (97≤(c.val ||| 32)) && decide ((c.val ||| 32)≤122)) = ((decide (65≤c.val) && decide (c.val≤90)) || (decide (97≤c.val) && decide (c.val≤122))):=by decide +kernel
instance instRepList1 {α : Type} [nI α] : nI (List α):=inferInstance
def H8 (xs:List Int):Prop:=∀ i x y,xs[i]? = some x→xs[i + 1]? = some y→x≤y
end Go.V
namespace Go.Proofs.YtngdohpikfcifaaGreatDoor
open Go.V
section
variable {w:World} {L:List aw} {a:Option Addr} {l c:Nat} {s:ByteArray} {ss:List ByteArray} {xs:List Int}
theorem JF (r:Int):aC Tryz.prog gK [.int .i32 r] w fun v w'=>v = .bool (decide (r < 32) || decide (126 < r) || (r == 39))∧w' = w:=by
 refine ur _ w _ ?_
 refine ae (fun h=>⟨by rw [h]; rfl,rfl⟩) fun h=>ae (fun h2=>⟨by rw [h,h2]; rfl,rfl⟩) fun h2=>⟨by rw [h,h2]; rfl,rfl⟩
theorem EV (hs:s.size≤4611686018427387904):aC Tryz.prog s8 [.string s,.func (.func gK) #[] #[]] w fun v w'=>(∃ n:Int,v = .int .i64 n∧(decide (n < 0) = (List.range s.size).all fun i=>Ee (eH s i)))∧Gr w w':=by
 refine pj _ _ _ w _ ?_
 have key:aC Tryz.prog s_ [.string s,.func (.func gK) #[] #[],.bool true] w fun v w'=>(∃ n:Int,v = .int .i64 n∧(decide (n < 0) = (List.range s.size).all fun i=>Ee (eH s i)))∧Gr w w':=by
  refine pn _ _ _ _ w _ ?_
  have h0:=St.all w
  refine ⟨_,_,run_range_string w 9 s Tryz.underlying9,Ev.push _ _,_,rfl,?_⟩
  have h1:=h0.push (.stringIter s 0)
  generalize w.heap.size = b at h1
  refine ⟨fun w'=>∃ p,p≤s.size∧(∀ i,i < p→Ee (eH s i) = true)∧St w' (blk b (.stringIter s p) :: all w),fun w'=>s.size - w'.iterPos b,⟨0,by omega,fun i hi=>by omega,h1⟩,?_⟩
  rintro _ w2 ⟨p,hp,hall,h2⟩
  have hk:=h2.get
  by_cases hlt:p < s.size
  ·have hev:Ev w2 (w2.iterAt b s (p + (Utf8.decode s p).2)):=by
    refine ⟨rfl,rfl,rfl,by simp [World.iterAt],?_,?_⟩ <;>
    ·intro x d hx
     simp only [World.iterAt]
     rw [Tm]; exact hx
     intro e; subst e; rw [hk] at hx; cases hx
   refine ⟨_,_,Lib.run_next_any_at w2 b s p _ hk hlt,hev,.inr ⟨_,_,rfl,bR.2 ⟨rfl,(JF _).mono ?_⟩⟩⟩
   have h3:St (w2.iterAt b s (p + (Utf8.decode s p).2)) (blk b (.stringIter s (p + (Utf8.decode s p).2)) :: all w):=h2.setObj _
   rintro _ _ ⟨rfl,rfl⟩
   refine ⟨_,rfl,?_⟩
   have hget:eH s p = (s[p]'hlt).toNat:=by unfold eH; rw [PJ hlt]
   refine ae (fun h4=>?_) fun h4=>?_
   ·refine ⟨⟨_,rfl,?_⟩,h3.tail.has⟩
    have:Ee (eH s p) = false:=by
     by_cases h5:(s[p]'hlt).toNat < 128
     ·rw [decode_ascii s p hlt h5] at h4
      unfold Ee
      rw [hget]
      simp at h4 ⊢
      omega
     ·unfold Ee; rw [hget]; simp; omega
    have e1:(List.range s.size).all (fun i=>Ee (eH s i)) = false:=by
     rw [List.all_eq_false]; exact ⟨p,by simpa using hlt,by simp [this]⟩
    rw [e1]; simp
   ·have h5:(s[p]'hlt).toNat < 128:=by
     refine Nat.lt_of_not_le fun h5=>?_
     have:=JE s p hlt h5
     simp at h4; omega
    rw [decode_ascii s p hlt h5] at h3 h4 ⊢
    have hok:Ee (eH s p) = true:=by
     unfold Ee; rw [hget]; simp at h4 ⊢; omega
    refine ⟨⟨p + 1,hlt,fun i hi=>?_,h3⟩,?_⟩
    ·by_cases e:i = p
     ·rw [e]; exact hok
     ·exact hall i (by omega)
    ·have e1:World.iterPos w2 b = p:=by simp [World.iterPos,hk]
     have e2:World.iterPos (w2.iterAt b s (p + 1)) b = p + 1:=by simp [World.iterPos,h3.get]
     show s.size - World.iterPos (w2.iterAt b s (p + 1)) b < s.size - World.iterPos w2 b
     rw [e1,e2]; omega
  ·refine ⟨_,_,Lib.run_next_end_at w2 b s p _ hk hlt,Ev.refl _,.inl ⟨rfl,⟨_,rfl,?_⟩,h2.tail.has⟩⟩
   have:(List.range s.size).all (fun i=>Ee (eH s i)) = true:=sA.2 fun i hi=>hall i (by omega)
   rw [this]; rfl
 refine key.mono ?_
 rintro _ w' ⟨⟨n,rfl,hn⟩,hg⟩
 exact ⟨n,rfl,⟨n,rfl,hn⟩,hg⟩
theorem Lh (hs:s.size≤4611686018427387904):aC Tryz.prog BS [.string s] w fun v w'=>v = .bool (cZ s)∧Gr w w':=by
 refine zh _ w _ ?_
 unfold qt
 rw [EU]
 unfold cZ
 refine ae (fun h=>?_) fun h=>?_
 ·have h:1≤s.size:=by simp only [Tt,SZ] at h; omega
  refine ae (fun h2=>?_) fun h2=>?_
  ·have h2:s.size≤16:=by have:=Si h2; omega
   refine (EV hs).mono ?_
   rintro _ w' ⟨⟨n,rfl,hn⟩,hg⟩
   exact ⟨n,rfl,by rw [hn]; simp [h,h2],hg⟩
  ·have h2:¬ s.size≤16:=by have:=Sj h2; omega
   exact ⟨by simp [h2],Gr.refl _⟩
 ·have h:¬ 1≤s.size:=by simp only [Bool.not_eq_false',Sy] at h; omega
  exact ⟨by simp [h],Gr.refl _⟩
theorem Li (hs:s.size≤4611686018427387904):aC Tryz.prog BU [.string s] w fun v w'=>v = .bool (cO s)∧w' = w:=by
 refine zl _ w _ ?_
 unfold qu
 rw [EU]
 refine ⟨fun n w'=>∃ j:Nat,n = j∧j≤s.size∧(∀ i,i < j→Gy i (eH s i) = true)∧w' = w,fun n _=>s.size - n.toNat,⟨0,rfl,by omega,fun i hi=>by omega,rfl⟩,?_⟩
 rintro _ n w1 ⟨j,rfl,hj,hall,rfl⟩
 refine ae (fun h=>?_) fun h=>?_
 ·have h:j < s.size:=by have:=Si h; omega
  refine ⟨⟨by omega,by omega⟩,?_⟩
  rw [SJ]
  have hlt:=PI s j
  have hor:=RS ⟨eH s j,hlt⟩
  have e8:jy .or .u8 ((sb s j).toNat:Int) 32 = ((eH s j ||| 32:Nat):Int):=Lg (b:=32) hlt (by omega)
  rw [e8]
  show br (((eH s j:Nat):Int) != 95) _ _
  have stp:Gy j (eH s j) = true→aG ((j:Int) + 1)∧(∃ j' : Nat,(j:Int) + 1 = j'∧j'≤s.size∧(∀ i,i < j'→Gy i (eH s i) = true)∧w1 = w1)∧s.size - ((j:Int) + 1).toNat < s.size - (j:Int).toNat:=fun hok=>by
   refine ⟨⟨by omega,by omega⟩,⟨j + 1,by simp,by omega,fun i hi=>?_,rfl⟩,bA h⟩
   by_cases e:i = j
   ·rw [e]; exact hok
   ·exact hall i (by omega)
  have bad:Gy j (eH s j) = false→Value.bool false = Value.bool (cO s)∧w1 = w1:=fun hno=>by
   refine ⟨?_,rfl⟩
   have:(List.range s.size).all (fun i=>Gy i (eH s i)) = false:=by
    rw [List.all_eq_false]; exact ⟨j,by simpa using h,by simp [hno]⟩
   unfold cO; rw [this]; simp
  have okd:(eH s j = 95∨(97≤(eH s j ||| 32)∧(eH s j ||| 32)≤122)∨(j≠0∧48≤eH s j∧eH s j≤57))↔Gy j (eH s j) = true:=by
   have hor' : (97≤(eH s j ||| 32)∧(eH s j ||| 32)≤122)↔((65≤eH s j∧eH s j≤90)∨(97≤eH s j∧eH s j≤122)):=by
    have:=congrArg (· = true) hor
    simpa using this
   rw [hor']
   unfold Gy
   simp only [Tk,SB,Sy]
   omega
  generalize eH s j ||| 32 = d at *
  have yes:(eH s j = 95∨(97≤d∧d≤122)∨(j≠0∧48≤eH s j∧eH s j≤57))→_:=fun hh=>stp (okd.1 hh)
  have no:¬ (eH s j = 95∨(97≤d∧d≤122)∨(j≠0∧48≤eH s j∧eH s j≤57))→_:=fun hh=>bad (by cases hq:Gy j (eH s j); rfl; exact absurd (okd.2 hq) hh)
  clear okd hor e8 stp bad
  refine ae (fun h1=>?_) fun h1=>?_
  ·have h1:eH s j≠95:=by simp at h1; omega
   refine ae (fun h2=>?_) fun h2=>?_
   ·have h2:d < 97:=by have:=Si h2; omega
    refine ae (fun h3=>no (by simp at h3; omega)) fun h3=>ae (fun h4=>no (by have:((eH s j:Nat):Int) < 48:=Si h4; omega)) fun h4=>ae (fun h5=>no (by have:57 < ((eH s j:Nat):Int):=Si h5; omega)) fun h5=>yes (.inr (.inr ?_))
    have h4:¬ ((eH s j:Nat):Int) < 48:=Sj h4
    have h5:¬ 57 < ((eH s j:Nat):Int):=Sj h5
    simp at h3; omega
   ·have h2:97≤d:=by have:=Sj h2; omega
    refine ae (fun h6=>?_) fun h6=>yes (.inr (.inl ⟨h2,by have:=Sj h6; omega⟩))
    have h6:122 < d:=by have:=Si h6; omega
    refine ae (fun h3=>no (by simp at h3; omega)) fun h3=>ae (fun h4=>no (by have:((eH s j:Nat):Int) < 48:=Si h4; omega)) fun h4=>ae (fun h5=>no (by have:57 < ((eH s j:Nat):Int):=Si h5; omega)) fun h5=>yes (.inr (.inr ?_))
    have h4:¬ ((eH s j:Nat):Int) < 48:=Sj h4
    have h5:¬ 57 < ((eH s j:Nat):Int):=Sj h5
    simp at h3; omega
  ·exact yes (.inl (by simp at h1; omega))
 ·have h:j = s.size:=by have:=Sj h; omega
  subst h
  have hall':=sA.2 hall
  unfold cO
  rw [hall']
  refine ae (fun h=>?_) fun h=>?_
  ·have h:1≤s.size:=by simp only [Tt,SZ] at h; omega
   refine ⟨?_,rfl⟩
   have e:decide ((s.size:Int)≤16) = decide (s.size≤16):=by rw [S9]; simp only [Sy]; omega
   rw [e]; simp [h]
  ·have h:¬ 1≤s.size:=by simp only [Bool.not_eq_false',Sy] at h; omega
   exact ⟨by simp [h],rfl⟩
theorem Gz (hx:aW (hp w) xs a l) (hb:l≤4611686018427387904) (x:Int):aC Tryz.prog jE [.slice a l c,.int .i64 x] w fun v w'=>v = .bool (decide (x∈xs))∧w' = w:=by
 refine iL _ _ _ _ w _ ?_
 have key:aC Tryz.prog mB [.slice a l c,.int .i64 x] w fun v w'=>(∃ n:Int,v = .int .i64 n∧decide (0≤n) = decide (x∈xs))∧w' = w:=by
  refine kz _ _ _ _ w _ ?_
  have hl:=hx.1
  refine ⟨fun n w'=>∃ j:Nat,n = j∧j≤l∧x∉xs.take j∧w' = w,fun n _=>l - n.toNat,⟨0,rfl,by omega,by simp,rfl⟩,?_⟩
  rintro _ n w1 ⟨j,rfl,hj,hni,rfl⟩
  refine ae (fun h=>?_) fun h=>?_
  ·have h:j < l:=by have:=Si h; omega
   obtain ⟨y,ad,hy1,rfl,hy2⟩:=hx.bL h
   refine aq rfl h ⟨y,hy2 _ (sub.refl _),ae (fun h2=>?_) fun h2=>?_⟩
   ·have h2:x = y:=by simpa using h2
    subst h2
    exact ⟨⟨_,rfl,by rw [S2 (Sl hy1)]; simp⟩,rfl⟩
   ·have h2:x≠y:=by simpa using h2
    refine ⟨⟨by omega,by omega⟩,⟨j + 1,by simp,by omega,?_,rfl⟩,bA h⟩
    rw [aV hy1,Sp]
    simp [hni,h2]
  ·have h:j = l:=by have:=Sj h; omega
   subst h
   rw [← hl,SM] at hni
   exact ⟨⟨_,rfl,by rw [TD hni]; rfl⟩,rfl⟩
 refine key.mono ?_
 rintro _ _ ⟨⟨n,rfl,hn⟩,rfl⟩
 exact ⟨n,rfl,by rw [hn],rfl⟩
theorem NI (x:Int):aC Tryz.prog xH [.int .i64 x] w fun v w'=>v = .bool false∧w' = w:=jF _ w _ ⟨by simp,rfl⟩
theorem PK (x y:Int):aC Tryz.prog zm [.int .i64 x,.int .i64 y] w fun v w'=>v = .bool (decide (x < y))∧w' = w:=by
 refine vC _ _ w _ ((NI x).mono ?_)
 rintro _ _ ⟨rfl,rfl⟩
 exact ⟨_,rfl,Dq rfl ⟨rfl,rfl⟩⟩
theorem GC (hx:aW (hp w) xs a l) (hb:l≤4611686018427387904):aC Tryz.prog jD [.slice a l c] w fun v w'=>(∃ r:Bool,v = .bool r∧(r = true↔H8 xs))∧hp w' = hp w:=by
 refine iJ _ _ _ w _ ?_
 have hl:=hx.1
 refine ⟨⟨by omega,by omega⟩,fun n w'=>∃ j:Nat,n = (l:Int) - 1 - j∧j≤l∧(∀ i x y,l - 1 - j≤i→xs[i]? = some x→xs[i + 1]? = some y→x≤y)∧hp w' = hp w,fun n _=>n.toNat,⟨0,by omega,by omega,?_,rfl⟩,?_⟩
 ·intro i x y hi h1 h2
  have:=(Sk.1 h2).1; omega
 rintro _ n w1 ⟨j,rfl,hj,hall,hw⟩
 refine ae (fun h=>?_) fun h=>?_
 ·have h:=Si h
  have hj2:j + 1 < l:=by omega
  intro w2 hd
  have hw2:=(dA hd).trans hw
  have e1:((l:Int) - 1 - j) = ((l - 1 - j:Nat):Int):=by omega
  have e2:(((l - 1 - j:Nat):Int) - 1) = ((l - 2 - j:Nat):Int):=by omega
  rw [e1,e2]
  obtain ⟨x,ad,hx1,rfl,hx2⟩:=hx.bL (by omega:l - 1 - j < l)
  obtain ⟨y,ad2,hy1,e3,hy2⟩:=hx.bL (by omega:l - 2 - j < l)
  cases e3
  refine ⟨fun w'=>hp w' = hp w,hw2,aq rfl (by omega) ⟨x,fun w3 h3=>hx2 _ (uu h3),⟨by omega,by omega⟩,aq rfl (by omega) ⟨y,fun w3 h3=>hy2 _ (uu h3),(PK x y).mono ?_⟩⟩⟩
  rintro _ _ ⟨rfl,rfl⟩
  refine ⟨_,rfl,ae (fun h5=>?_) fun h5=>?_⟩
  ·have h5:=Si h5
   refine ⟨⟨false,rfl,by simp; intro hs; have:=hs (l - 2 - j) y x hy1 (by rw [show l - 2 - j + 1 = l - 1 - j by omega]; exact hx1); omega⟩,hw2⟩
  ·have h5:=Sj h5
   refine ⟨⟨by omega,by omega⟩,⟨j + 1,by omega,by omega,fun i x' y' hi h1 h2=>?_,hw2⟩,by dsimp only; omega⟩
   by_cases e:i = l - 2 - j
   ·subst e
    rw [hy1] at h1
    rw [show l - 2 - j + 1 = l - 1 - j by omega,hx1] at h2
    cases h1; cases h2; omega
   ·exact hall i x' y' (by omega) h1 h2
 ·have h:=Sj h
  exact ⟨⟨true,rfl,by simp; exact fun i x y h1 h2=>hall i x y (by have:=(Sk.1 h2).1; omega) h1 h2⟩,hw⟩
theorem GD (hs:s.size≤4611686018427387904):aC Tryz.prog gd [.string s] w fun v w'=>v = .bool (!cO s)∧w' = w:=by
 refine sZ _ w _ ((Li hs).mono ?_)
 rintro _ _ ⟨rfl,rfl⟩
 exact ⟨_,rfl,rfl,rfl⟩
theorem zn (hx:aW (hp w) ss a l) (hb:l≤4611686018427387904) (hs:∀ s∈ss,s.size≤4611686018427387904):aC Tryz.prog eF [.slice a l c,.func (.func gd) #[] #[]] w fun v w'=>v = .bool (!ss.all cO)∧w' = w:=by
 refine dT _ _ _ _ _ w _ ?_
 have key:aC Tryz.prog fU [.slice a l c,.func (.func gd) #[] #[]] w fun v w'=>(∃ n:Int,v = .int .i64 n∧decide (0≤n) = !ss.all cO)∧w' = w:=by
  refine fb _ _ _ _ _ w _ ?_
  have hl:=hx.1
  refine ⟨fun n w'=>∃ j:Nat,n = j∧j≤l∧(ss.take j).all cO = true∧w' = w,fun n _=>l - n.toNat,⟨0,rfl,by omega,rfl,rfl⟩,?_⟩
  rintro _ n w1 ⟨j,rfl,hj,hni,rfl⟩
  refine ae (fun h=>?_) fun h=>?_
  ·have h:j < l:=by have:=Si h; omega
   obtain ⟨y,ad,hy1,rfl,hy2⟩:=hx.bL h
   refine aq rfl h ⟨y,hy2 _ (sub.refl _),bR.2 ⟨rfl,(GD (hs y (Sl hy1))).mono ?_⟩⟩
   rintro _ _ ⟨rfl,rfl⟩
   refine ⟨_,rfl,ae (fun h2=>?_) fun h2=>?_⟩
   ·have:ss.all cO = false:=by rw [List.all_eq_false]; exact ⟨y,Sl hy1,by simpa using h2⟩
    exact ⟨⟨_,rfl,by rw [this]; simp⟩,rfl⟩
   ·refine ⟨⟨by omega,by omega⟩,⟨j + 1,by simp,by omega,?_,rfl⟩,bA h⟩
    rw [Su,hy1,List.all_append,hni]
    simpa using h2
  ·have h:j = l:=by have:=Sj h; omega
   subst h
   rw [← hl,SM] at hni
   exact ⟨⟨_,rfl,by rw [hni]; rfl⟩,rfl⟩
 refine key.mono ?_
 rintro _ _ ⟨⟨n,rfl,hn⟩,rfl⟩
 exact ⟨n,rfl,by rw [hn],rfl⟩
theorem ux {l:List ByteArray} {x:ByteArray}:(l ++ [x]).Nodup↔l.Nodup∧x∉l:=by
 rw [SX]
 constructor
 ·rintro ⟨h1,_,h3⟩; exact ⟨h1,fun h=>h3 x h x (by simp) rfl⟩
 ·rintro ⟨h1,h2⟩; exact ⟨h1,by simp,fun a ha b hb e=>by simp at hb; subst hb; subst e; exact h2 ha⟩
theorem EW (hx:aW (hp w) ss a l) (hb:l≤4611686018427387904):aC Tryz.prog BT [.slice a l c] w fun v w'=>v = .bool (decide ss.Nodup)∧Gr w w':=by
 refine zj _ _ _ w _ ?_
 have hl:=hx.1
 refine mg (St.all w) fun b w1 h=>?_
 have h:=dC (κ:=ByteArray) h
 refine ⟨fun n w'=>∃ (j:Nat) (m:List (ByteArray × Value)),n = j∧j≤l∧(∀ s,(assoc s m).isSome = true↔s∈ss.take j)∧(∀ s v,assoc s m = some v→∃ k:Nat,v = .int .i64 (k:Int)∧k≤j)∧m.length≤j∧(m.length = j↔(ss.take j).Nodup)∧St w' (mapA b m :: all w),fun n _=>l - n.toNat,
  ⟨0,[],rfl,by omega,by simp [assoc],fun s v h=>by simp [assoc] at h,by simp,by simp,h⟩,?_⟩
 clear h
 rintro _ n w2 ⟨j,m,rfl,hj,hm1,hm2,hm3,hm4,h⟩
 refine ae (fun hlt=>?_) fun hlt=>?_
 ·have hlt:j < l:=by have:=Si hlt; omega
  obtain ⟨s,ad,hs1,rfl,hs2⟩:=hx.bL hlt
  refine aq rfl hlt ⟨s,hs2 _ h.aX,(bW (κ:=ByteArray) aK (rfl:ag Ty _ = .map _ _) Tryz.underlying9 rfl rfl h s).mono ?_⟩
  rintro _ _ ⟨rfl,rfl⟩
  obtain ⟨k,hk,hkj⟩ : ∃ k:Nat,(assoc s m).getD (.int .i64 0) = .int .i64 (k:Int)∧k≤j:=by
   cases ha:assoc s m with
   | none=>exact ⟨0,rfl,by omega⟩
   | some v=>obtain ⟨k,rfl,hk⟩:=hm2 s v ha; exact ⟨k,rfl,hk⟩
  refine ⟨_,hk,⟨by omega,by omega⟩,(cH (κ:=ByteArray) aK (rfl:ag Ty _ = .map _ _) Tryz.underlying9 h s _).mono ?_⟩
  rintro _ w4 h
  have et:ss.take (j + 1) = ss.take j ++ [s]:=by rw [Su,hs1]; rfl
  refine ⟨⟨by omega,by omega⟩,⟨j + 1,_,by simp,by omega,fun s'=>?_,fun s' v hv=>?_,?_,?_,h⟩,bA hlt⟩
  ·rw [db,et,Sp,← hm1]
   by_cases e:s' = s <;> simp [e]
  ·rw [db] at hv
   split at hv
   ·cases hv; exact ⟨k + 1,by simp,by omega⟩
   ·obtain ⟨k',rfl,hk'⟩:=hm2 s' v hv; exact ⟨k',rfl,by omega⟩
  ·rw [AH]; split <;> omega
  ·rw [AH,et,ux,← hm4,← hm1]
   by_cases e:(assoc s m).isSome = true
   ·simp [e]; omega
   ·simp [e]
 ·have hlt:j = l:=by have:=Sj hlt; omega
  subst hlt
  refine ⟨_,NH aK (rfl:ag Ty _ = .map _ _) h,_,rfl,?_,h.aX⟩
  rw [← hl,SM] at hm4
  congr 1
  rw [S9,Sy,← hm4,hl]
  simp only [beq_iff_eq]; omega
end
end Go.Proofs.YtngdohpikfcifaaGreatDoor
namespace Go.Proofs.YtngdohpikfcifaaGreatDoor
abbrev eI:TypeId:=3
abbrev bz:=@Tryz.underlying3
abbrev Lj:TypeId:=5
abbrev JG:=@Tryz.underlying5
abbrev mF:TypeId:=9
abbrev jH:=@Tryz.underlying9
abbrev Lk:TypeId:=24
abbrev BX:TypeId:=66
abbrev BZ:TypeId:=69
abbrev je:TypeId:=73
abbrev B5:=@Tryz.eqGuardType73
abbrev B6:=@Tryz.stoodInHeld73
abbrev bu:TypeId:=76
abbrev vV:=@Tryz.eqGuardType76
abbrev Dr:=@Tryz.stoodInHeld76
abbrev Dt:=@Tryz.isAgg76
abbrev Du:=@Tryz.sizeOf76
abbrev dV:TypeId:=92
abbrev Dv:=@Tryz.eqGuardType92
abbrev Dw:=@Tryz.stoodInHeld92
abbrev EX:TypeId:=101
abbrev lB:TypeId:=117
abbrev zo:TypeId:=133
abbrev Dx:TypeId:=178
abbrev GF:TypeId:=195
abbrev EY:=@Tryz.underlying195
abbrev mG:FuncId:=64
abbrev eh:FuncId:=102
abbrev dc:FuncId:=103
abbrev zp:=@Tryz.func103
abbrev AL:FuncId:=104
abbrev te:FuncId:=105
abbrev vW:FuncId:=145
end Go.Proofs.YtngdohpikfcifaaGreatDoor
namespace Go.V
structure ij where
 name:ByteArray
 level:Int
structure aJ where
 left:Int
 right:List Int
 level:Int
structure af where
 terms:List ij
 nons:List ByteArray
 levels:List Int
 start:Int
 prods:List aJ
instance:nI ij:={ n:=2,rd:=fun _ t vs=>vs = [.string t.name,.int .i64 t.level],mono:=fun _ h=>h,len:=fun h=>by rw [h]; rfl }
instance:nI aJ:={ n:=3,rd:=fun h p vs=>∃ a l c,vs = [.int .i64 p.left,.slice a l c,.int .i64 p.level]∧l≤c∧aW h p.right a l,mono:=fun s ⟨a,l,c,h1,h2,h3⟩=>⟨a,l,c,h1,h2,h3.mono s⟩,len:=fun ⟨_,_,_,h,_⟩=>by rw [h]; rfl }
structure GA where
 ta:Option Addr
 tl:Nat
 tc:Nat
 na:Option Addr
 nl:Nat
 nc:Nat
 la:Option Addr
 ll:Nat
 lc:Nat
 s:Int
 pa:Option Addr
 pl:Nat
 pc:Nat
def GA.cells (x:GA):List Value:=[.slice x.ta x.tl x.tc,.slice x.na x.nl x.nc,.slice x.la x.ll x.lc,.int .i64 x.s,.slice x.pa x.pl x.pc]
structure gR (h:Hp) (g:af) (x:GA):Prop where
 t:aW h g.terms x.ta x.tl
 n:aW h g.nons x.na x.nl
 l:aW h g.levels x.la x.ll
 s:x.s = g.start
 p:aW h g.prods x.pa x.pl
 tc:x.tl≤x.tc
 nc:x.nl≤x.nc
 lc:x.ll≤x.lc
 pc:x.pl≤x.pc
theorem gR.mono {h h' : Hp} {g:af} {x:GA} (s:sub h h') (r:gR h g x):gR h' g x:=⟨r.t.mono s,r.n.mono s,r.l.mono s,r.s,r.p.mono s,r.tc,r.nc,r.lc,r.pc⟩
instance:nI af:={ n:=5,rd:=fun h g vs=>∃ x:GA,vs = x.cells∧gR h g x,mono:=fun s ⟨x,h1,h2⟩=>⟨x,h1,h2.mono s⟩,len:=fun ⟨_,h,_⟩=>by rw [h]; rfl }
def iM (g:af):Prop:=g.terms.length≤17592186044416∧g.nons.length≤17592186044416∧g.levels.length≤17592186044416∧g.prods.length * 40≤140737488351232∧(∀ t∈g.terms,t.name.size≤140737488351232∧anyI t.level)∧(∀ s∈g.nons,s.size≤140737488351232)∧(∀ p∈g.prods,p.right.length≤17592186043904)
theorem qB {L:List aw} {b:Nat}:∀ (vs us:List Value) (i:Nat) {w:World},i + vs.length≤us.length→St w (aR b us :: L)→St (bZ w ⟨b,0,none⟩ i vs) (aR b (us.take i ++ vs ++ us.drop (i + vs.length)) :: L)
 | [],us,i,w,_,h=>by simpa [bZ] using h
 | v :: vs,us,i,w,hl,h=>by
  have h1:=h.Pq i v
  have h2:=qB vs (us.set i v) (i + 1) (by simp at hl ⊢; omega) h1
  simp only [S4] at hl
  have e:(us.set i v).take (i + 1) ++ vs ++ (us.set i v).drop (i + 1 + vs.length) = us.take i ++ v :: vs ++ us.drop (i + (vs.length + 1)):=by
   rw [List.drop_set_of_lt (by omega),List.take_set,Su,T3 _ _ (by simp; omega)]
   have:us[i]? = some (us[i]'(by omega)):=Sm _
   rw [this]
   have e2:i - (us.take i).length = 0:=by simp; omega
   rw [e2]
   simp
   congr 1; omega
  rw [e] at h2
  simp only [bZ,aO,S4]
  exact h2
theorem uy {w:World} {L:List aw} {b:Nat} {us:List Value} (h:St w (aR b us :: L)):∀ (vs:List Value) (i:Nat),i + vs.length≤us.length→(∀ v∈vs,aS v = true)→gZ w ⟨b,0,none⟩ i vs
 | [],i,_,_=>trivial
 | v :: vs,i,hl,h1=>by
  simp only [S4] at hl
  refine ⟨h1 v (by simp),⟨us[i]'(by omega),?_⟩,?_,uy h vs (i + 1) (by omega) fun u hu=>h1 u (by simp [hu])⟩
  ·rw [aO,h.cell]; exact Sm _
  ·rw [aO]; exact h.frozen i none
theorem bh {w:World} {L:List aw} {b:Nat} {us vs:List Value} {k:World→Prop} (h:St w (aR b us :: L)) (hl:us.length = vs.length) (h1:∀ v∈vs,aS v = true) (hk:∀ w',St w' (aR b vs :: L)→k w'):iA w ⟨b,0,none⟩ vs k:=by
 refine ⟨uy h vs 0 (by omega) h1,fun w' hw=>?_⟩
 subst hw
 have h2:=qB vs us 0 (by omega) h
 refine hk _ ?_
 have e:us.take 0 ++ vs ++ us.drop (0 + vs.length) = vs:=by rw [List.take_zero,To,List.drop_of_length_le (by omega),S6]
 rwa [e] at h2
theorem cJ {a:Option Addr} {len cap lo sz:Nat} {k:Option Addr→Nat→Nat→Prop} (h1:lo≤len) (h2:len≤cap) (hk:k (fw a lo cap sz) (len - lo) (cap - lo)):p8 a len cap (some (lo:Int)) none none sz k :=
 ⟨.inl rfl,.inl rfl,⟨by show (0:Int)≤(lo:Int); omega,by show (lo:Int)≤(len:Int); omega⟩,by simpa using hk⟩
def qC (g:af) (added:Nat):Prop:=g.terms[0]? = some ⟨.empty,0⟩∧added < g.nons.length∧g.terms.length≤65∧g.nons.length≤64 + added∧g.terms.length - 1 + (g.nons.length - added)≤64 ∧
 (∀ t∈g.terms.drop 1,cZ t.name = true∧0≤t.level∧t.level≤g.levels.length)∧(∀ (i:Nat) v,g.levels[i]? = some v→1≤v∧v≤3∧∃ t∈g.terms.drop 1,t.level = (i:Int) + 1) ∧
 ((g.terms.drop 1).map ij.name).Nodup∧(g.nons.drop added).Nodup∧∀ s∈g.nons.drop added,cO s = true
end Go.V
namespace Go.Proofs.YtngdohpikfcifaaGreatDoor
open Go.V
section
variable {w:World} {L:List aw} {g:af} {x:GA}
theorem H9 (w:World) (xo yo:Operand) (s e:ByteArray) (n m:Int):Sem.run Tryz.prog (iX .neq dV xo yo (.agg #[.string s,.int .i64 n]) (.agg #[.string e,.int .i64 m])) w = .ok (.bool (!(decide (s = e) && (n == m)))) w:=by
 unfold iX
 rw [Sem.run_bind,run_eqGuard_agg w _ _ _ _ _ _ Dv]
 simp only [Result.andThen_ok]
 have ht:Tryz.prog.underlying dV = some (.struct (Tryz.prog.fieldsOf dV)):=by kernel_rfl
 have hi:Tryz.prog.underlying eI = some (.int .i64):=bz
 have hs:Tryz.prog.underlying mF = some .string:=jH
 have hf : (Tryz.prog.fieldsOf dV).toList = [{ name := "Name", type := mF, offset := 0, embedded := false, tag := "", pkgPath := "", byteOffset := 0 }, { name := "Level", type := eI, offset := 1, embedded := false, tag := "", pkgPath := "", byteOffset := 16 }] := by kernel_rfl
 have p0:∀ (v u:Value) (w:World),(part mF #[v,u] 0).run Tryz.prog w = .ok v w:=fun v u w=>by simp [part,c_ hs,dx,Kd.isAgg]
 have p1:∀ (v u:Value) (w:World),(part eI #[v,u] 1).run Tryz.prog w = .ok u w:=fun v u w=>by simp [part,c_ hi,dx,Kd.isAgg]
 have eqS:∀ d w,(Op.equalIn (d + 1) mF (.string s) (.string e)).run Tryz.prog w = .ok (s.toList == e.toList) w:=fun d w=>run_equalIn_string w d _ _ _ hs
 have eqI:∀ d w,(Op.equalIn (d + 1) eI (.int .i64 n) (.int .i64 m)).run Tryz.prog w = .ok (n == m) w:=fun d w=>run_equalIn_int w d _ _ _ _ _ hi
 have key:(Op.equalIn (9998 + 1 + 1) dV (.agg #[.string s,.int .i64 n]) (.agg #[.string e,.int .i64 m])).run Tryz.prog w = .ok (decide (s = e) && (n == m)) w:=by
  rw [run_equalIn_agg w (9998 + 1) dV _ _ ht Dw,hf]
  unfold Op.eqFields
  simp only [ne_eq,String.reduceEq,not_false_eq_true,if_true,Sem.run_bind,p0,Result.andThen_ok,eqS,yO]
  cases hq:decide (s = e)
  ·simp
  ·unfold Op.eqFields
   simp only [ne_eq,String.reduceEq,not_false_eq_true,if_true,Sem.run_bind,p1,Result.andThen_ok,eqI,Bool.not_true,T4,if_false]
   cases hn:(n == m)
   ·simp
   ·unfold Op.eqFields; simp
 rw [run_neq_struct]
 show ((Op.equalIn (9998 + 1 + 1) dV (.agg #[.string s,.int .i64 n]) (.agg #[.string e,.int .i64 m])).run Tryz.prog w).andThen _ = _
 rw [key]
 rfl
end
end Go.Proofs.YtngdohpikfcifaaGreatDoor
namespace Go.V
theorem NJ {w:World} {L:List aw} {a:Option Addr} {l c:Nat} {ss:List ByteArray} (h:St w (own 1 a l c (ss.map fun s=>Value.string s) :: L)):aW (hp w) ss a l:=by
 have hl:=ea h
 obtain ⟨h1,s,ha⟩:=h.first
 exact (du (by simpa using hl) (bV ha)).mono s
end Go.V
namespace Go.Proofs.YtngdohpikfcifaaGreatDoor
open Go.V
section
variable {w:World} {L:List aw} {g:af} {x:GA}
theorem CJ (hg:gR (hp w) g x) (hb:iM g) (added:Nat) (ha:added≤1) :
  aC Tryz.prog AA [.agg ⟨x.cells⟩,.int .i64 (added:Int)] w fun v w'=>(∃ r:Bool,v = .bool r∧(r = true↔qC g added))∧Gr w w':=by
 refine xF _ _ _ _ _ _ _ _ _ _ _ _ _ _ w _ ?_
 refine ah (St.all w) fun k1 w1 h=>?_
 have gw:Gr w w1:=h.aX
 have hg:=hg.mono gw
 have rb:ax (hp w1) ⟨k1,0,none⟩ x.cells:=h.row
 obtain ⟨b1,b2,b3,b4,b5,b6,b7⟩:=hb
 have tl:=hg.t.1
 have nl:=hg.n.1
 have ll:=hg.l.1
 have hfin:∀ w',sub (hp w1) (hp w')→Gr w w':=fun w' h=>gw.trans h
 have h:=St.all w1
 unfold V.all at h
 have c0:=fun (w' : World) (s:sub (hp w1) (hp w'))=>rb.cell0 (v:=.slice x.ta x.tl x.tc) s
 have c1:=fun (w' : World) (s:sub (hp w1) (hp w'))=>rb.cell s (j:=1) (v:=.slice x.na x.nl x.nc) rfl
 have c2:=fun (w' : World) (s:sub (hp w1) (hp w'))=>rb.cell s (j:=2) (v:=.slice x.la x.ll x.lc) rfl
 generalize hp w1 = H at *
 have s1:sub H (hp w1):=h.has
 have pre:Prop:=True
 refine ⟨fun b w'=>(b = false↔(g.terms[0]? = some ⟨.empty,0⟩∧added < g.nons.length∧g.terms.length≤65∧g.nons.length≤64 + added∧g.terms.length - 1 + (g.nons.length - added)≤64))∧w' = w1,?_,?_⟩
 ·refine ⟨_,_,_,c0 _ s1,ae (fun h1=>⟨?_,rfl⟩) fun h1=>?_⟩
  ·have:g.terms = []:=SV (by simp at h1; omega)
   simp [this]
  have h1:0 < x.tl:=by simp at h1; omega
  obtain ⟨t0,ad,vs,ht1,hta,ht2,ht3⟩:=hg.t.get h1
  have ht3:vs = [.string t0.name,.int .i64 t0.level]:=ht3
  subst ht3
  have ht2:ax H ad [.string t0.name,.int .i64 t0.level]:=by simpa [aH,Addr.add] using ht2
  have e0:(g.terms[0]? = some ⟨.empty,0⟩)↔(t0.name = .empty∧t0.level = 0):=by
   rw [ht1]
   constructor
   ·intro e; cases e; exact ⟨rfl,rfl⟩
   ·rintro ⟨e1,e2⟩; cases t0; simp_all
  rw [e0]
  refine ⟨_,_,_,c0 _ s1,⟨ad,hta,by omega,by omega,?_⟩⟩
  have ez:ad.add (dP (Int.toNat 0) 2) = ad:=by simp [aH,Addr.add]
  rw [ez]
  refine ⟨_,_,ht2.at s1 rfl,_,H9 _ _ _ _ _ _ _,_,rfl,ae (fun h2=>⟨?_,rfl⟩) fun h2=>?_⟩
  ·simp only [Tt,Bool.and_eq_false_iff,SZ,TK] at h2
   have:¬ (t0.name = .empty∧t0.level = 0):=fun e=>h2.elim (fun h=>h e.1) (fun h=>h e.2)
   simp [this]
  have h2:t0.name = ByteArray.mk (Array.mk [])∧t0.level = 0:=by simpa using h2
  have h2:t0.name = .empty∧t0.level = 0:=h2
  refine ⟨_,_,_,c1 _ s1,ae (fun h3=>⟨?_,rfl⟩) fun h3=>?_⟩
  ·have:=Si h3
   simp; omega
  have h3:=Sj h3
  refine ⟨_,_,_,c0 _ s1,ae (fun h4=>⟨?_,rfl⟩) fun h4=>?_⟩
  ·have:=Si h4
   simp; omega
  have h4:=Sj h4
  refine ⟨_,_,_,c1 _ s1,⟨by omega,by omega⟩,ae (fun h5=>⟨?_,rfl⟩) fun h5=>?_⟩
  ·have:=Si h5
   simp; omega
  have h5:=Sj h5
  refine ⟨_,_,_,c0 _ s1,⟨by omega,by omega⟩,_,_,_,c1 _ s1,⟨by omega,by omega⟩,⟨by omega,by omega⟩,?_,rfl⟩
  rw [SZ]
  simp only [h2,true_and,and_true]
  omega
 rintro _ b _ ⟨hpre,rfl⟩
 refine ae (fun hbt=>?_) fun hbf=>?_
 ·subst hbt
  refine ⟨⟨false,rfl,?_⟩,hfin _ s1⟩
  constructor
  ·intro h; cases h
  ·rintro ⟨p1,p2,p3,p4,p5,_⟩
   have:=hpre.2 ⟨p1,p2,p3,p4,p5⟩
   cases this
 obtain ⟨p1,p2,p3,p4,p5⟩:=hpre.1 hbf
 have hT:1≤x.tl:=by
  have:=(Sk.1 p1).1; omega
 refine mg h fun k16 w3 h=>?_
 have h:=dC (κ:=Int) h
 refine ⟨_,_,_,c0 _ h.aX,cJ (lo:=1) hT hg.tc ?_⟩
 have hts:=hg.t.drop hT hg.tc
 have htl:(g.terms.drop 1).length = x.tl - 1:=hts.1
 -- the terminals
 refine ⟨fun o l' c' n w'=>∃ (j:Nat) (m:List (Int × Value)),n = j∧j≤x.tl - 1∧j = l'∧(∀ t∈(g.terms.drop 1).take j,cZ t.name = true∧0≤t.level∧t.level≤g.levels.length)∧(∀ n:Int,assoc n m = if ∃ t∈(g.terms.drop 1).take j,t.level = n then some (.int .i64 1) else none) ∧
   St w' [own 1 o j c' (((g.terms.drop 1).take j).map fun t=>Value.string t.name),mapA k16 m,has H],fun _ _ _ n _=>x.tl - 1 - n.toNat,⟨0,[],rfl,by omega,rfl,by simp,by simp [assoc],aB 1 h⟩,?_⟩
 clear h
 rintro _ o10 _ k22 n2 w4 ⟨j,m,rfl,hj,rfl,hok,hm,h⟩
 have s4:sub H (hp w4):=aZ 2 h.l
 refine ae (fun hlt=>?_) fun hlt=>?_
 ·have hlt:j < x.tl - 1:=by have:=Si hlt; omega
  obtain ⟨t,ad,vs,ht1,hta,ht2,ht3⟩:=hts.get hlt
  have ht3:vs = [.string t.name,.int .i64 t.level]:=ht3
  subst ht3
  have htm:t∈g.terms.drop 1:=Sl ht1
  have htg:t∈g.terms:=Tw htm
  obtain ⟨q1,q2⟩:=b5 t htg
  have et:(g.terms.drop 1).take (j + 1) = (g.terms.drop 1).take j ++ [t]:=by rw [Su,ht1]; rfl
  refine ⟨ad,hta,by omega,by omega,?_⟩
  rw [SJ]
  refine ⟨_,_,ht2.at s4 rfl,ah h fun k23 w5 h=>bh h rfl (by simp [aS]) fun w6 h=>?_⟩
  refine ⟨fun b w'=>(b = false↔(cZ t.name = true∧0≤t.level∧t.level≤g.levels.length))∧St w' [aR k23 [.string t.name,.int .i64 t.level],own 1 o10 j k22 (((g.terms.drop 1).take j).map fun t=>Value.string t.name),mapA k16 m,has H],?_,?_⟩
  ·refine ⟨_,h.cell 0,(Lh (by omega)).mono ?_⟩
   rintro _ w7 ⟨rfl,hg7⟩
   have h:=h.gr hg7
   refine ⟨_,rfl,ae (fun h1=>⟨?_,h⟩) fun h1=>?_⟩
   ·have h1:cZ t.name = false:=by simpa using h1
    simp [h1]
   have h1:cZ t.name = true:=by simpa using h1
   have cl:w7.cell? ((⟨k23,0,none⟩ : Addr).add 1) = some (.int .i64 t.level):=h.row.cell (sub.refl _) rfl
   refine ⟨_,cl,ae (fun h2=>⟨?_,h⟩) fun h2=>?_⟩
   ·have h2:=Si h2
    simp [h1]; omega
   have h2:=Sj h2
   refine ⟨_,cl,_,_,_,c2 _ (aZ 3 h.l),?_,h⟩
   rw [SZ]
   simp only [h1,true_and]
   omega
  ·clear h
   rintro _ b4 w8 ⟨hb4,h⟩
   refine ae (fun hbt=>?_) fun hbf=>?_
   ·subst hbt
    refine ⟨⟨false,rfl,?_⟩,hfin _ (aZ 3 h.l)⟩
    constructor
    ·intro h; cases h
    ·rintro ⟨_,_,_,_,_,p6,_⟩
     have:=hb4.2 (p6 t htm)
     cases this
   have hokt:=hb4.1 hbf
   refine ⟨_,h.cell 0,ah h fun k26 w9 h=>?_⟩
   refine (aQ aK (rfl:ag Ty _ = .slice _) (rfl:ag Ty _ = .slice _) rfl rfl rfl (h.pick 5 [0,2,1,3,4]) rfl (by simp [aS]) (by show (j + 1) * 16≤_; omega) (by omega)).mono ?_
   rintro _ w10 ⟨a',c',rfl,h⟩
   have h:=h.pick 5 [3,0,2,4]
   refine ⟨_,_,_,rfl,_,(ai (b:=k23) (vs:=[.string t.name,.int .i64 t.level]) 2 h.l).cell (sub.refl _) (j:=1) rfl,?_⟩
   refine (cH (κ:=Int) aK (rfl:ag Ty _ = .map _ _) bz h t.level (.int .i64 1)).mono ?_
   rintro _ w11 h
   refine ⟨⟨by omega,by omega⟩,⟨j + 1,bx t.level (.int .i64 1) m,by simp,by omega,rfl,fun t' ht'=>?_,fun n=>?_,?_⟩,by dsimp only; omega⟩
   ·rw [et,Sp] at ht'
    rcases ht' with ht' | ht'
    ·exact hok t' ht'
    ·simp at ht'; subst ht'; exact hokt
   ·rw [db,hm,et]
    by_cases e:n = t.level
    ·subst e
     rw [Sz rfl,Sz ⟨t,by simp,rfl⟩]
    ·rw [Sr e]
     have:(∃ t'∈(g.terms.drop 1).take j ++ [t],t'.level = n)↔∃ t'∈(g.terms.drop 1).take j,t'.level = n:=by
      constructor
      ·rintro ⟨t',h1,h2⟩
       rcases Sp.1 h1 with h1 | h1
       ·exact ⟨t',h1,h2⟩
       ·simp at h1; subst h1; exact absurd h2.symm e
      ·rintro ⟨t',h1,h2⟩; exact ⟨t',Sp.2 (.inl h1),h2⟩
     simp only [this]
   ·have e:(((g.terms.drop 1).take j).map fun t=>Value.string t.name) ++ [.string t.name] = ((g.terms.drop 1).take (j + 1)).map fun t=>Value.string t.name:=by rw [et]; simp
    rw [← e]
    exact h.pick 4 [1,0,3]
 have hlt:j = x.tl - 1:=by have:=Sj hlt; omega
 subst hlt
 rw [SD (by omega)] at hok hm h
 refine ⟨_,_,_,c2 _ s4,fun n w'=>∃ i:Nat,n = i∧i≤x.ll∧(∀ (k:Nat) v,k < i→g.levels[k]? = some v→1≤v∧v≤3∧∃ t∈g.terms.drop 1,t.level = (k:Int) + 1)∧St w' [own 1 o10 (x.tl - 1) k22 ((g.terms.drop 1).map fun t=>Value.string t.name),mapA k16 m,has H],fun n _=>x.ll - n.toNat,⟨0,rfl,by omega,fun k v hk=>by omega,h⟩,?_⟩
 clear h s4
 rintro _ n7 w12 ⟨i,rfl,hi,hlv,h⟩
 have s12:sub H (hp w12):=aZ 2 h.l
 have bad:∀ {v:Int},g.levels[i]? = some v→¬ (1≤v∧v≤3∧∃ t∈g.terms.drop 1,t.level = (i:Int) + 1)→(∃ r:Bool,Value.bool false = .bool r∧(r = true↔qC g added))∧Gr w w12:=fun {v} hv hn=>by
  refine ⟨⟨false,rfl,?_⟩,hfin _ s12⟩
  constructor
  ·intro h; cases h
  ·rintro ⟨_,_,_,_,_,_,p7,_⟩
   exact absurd (p7 i v hv) hn
 refine ae (fun hlt=>?_) fun hlt=>?_
 ·have hlt:i < x.ll:=by have:=Si hlt; omega
  obtain ⟨v,ad,hv1,hva,hv2⟩:=hg.l.bL hlt
  refine ⟨ad,hva,by omega,by omega,?_⟩
  rw [SJ]
  refine ⟨_,hv2 _ s12,ae (fun h1=>bad hv1 (by have:=Si h1; omega)) fun h1=>ae (fun h2=>bad hv1 (by have:=Si h2; omega)) fun h2=>⟨⟨by omega,by omega⟩,?_⟩⟩
  refine (bW (κ:=Int) aK (rfl:ag Ty _ = .map _ _) bz rfl rfl (h.pick 3 [1]) ((i:Int) + 1)).mono ?_
  rintro _ _ ⟨rfl,rfl⟩
  rw [hm]
  by_cases he:∃ t∈g.terms.drop 1,t.level = (i:Int) + 1
  ·rw [Sz he]
   refine ⟨_,rfl,Dq rfl ⟨⟨by omega,by omega⟩,⟨i + 1,by simp,by omega,fun k v' hk hv'=>?_,h⟩,bA hlt⟩⟩
   by_cases e:k = i
   ·subst e
    rw [hv1] at hv'; cases hv'
    exact ⟨by have:=Sj h1; omega,by have:=Sj h2; omega,he⟩
   ·exact hlv k v' (by omega) hv'
  ·rw [Sr he]
   exact ⟨_,rfl,vQ rfl (bad hv1 (fun h=>he h.2.2))⟩
 have hlt:i = x.ll:=by have:=Sj hlt; omega
 subst hlt
 have hlv' : ∀ (k:Nat) v,g.levels[k]? = some v→1≤v∧v≤3∧∃ t∈g.terms.drop 1,t.level = (k:Int) + 1:=fun k v hv=>hlv k v (by have:=(Sk.1 hv).1; omega) hv
 refine ⟨_,_,_,c1 _ s12,cJ (lo:=added) (by omega) hg.nc ?_⟩
 have hns:=hg.n.drop (k:=added) (by omega) hg.nc
 have e1:((g.terms.drop 1).map fun t=>Value.string t.name) = ((g.terms.drop 1).map ij.name).map fun s=>Value.string s:=by rw [List.map_map]; rfl
 rw [e1] at h
 have rt:aW (hp w12) ((g.terms.drop 1).map ij.name) o10 (x.tl - 1):=NJ h
 refine (EW rt (by omega)).mono ?_
 rintro _ w14 ⟨rfl,g14⟩
 have s14:sub H (hp w14):=s12.trans g14
 refine ⟨_,rfl,ae (fun h1=>?_) fun h1=>?_⟩
 ·have h1:=Si h1
  refine (EW (hns.mono s14) (by omega)).mono ?_
  rintro _ w15 ⟨rfl,g15⟩
  have s15:sub H (hp w15):=s14.trans g15
  refine ⟨_,rfl,ae (fun h2=>?_) fun h2=>?_⟩
  ·have h2:=Si h2
   refine (zn (hns.mono s15) (by omega) (fun s hs=>by have:=b6 s (Tw hs); omega)).mono ?_
   rintro _ _ ⟨rfl,rfl⟩
   refine ⟨_,rfl,⟨_,rfl,?_⟩,hfin _ s15⟩
   rw [Bool.not_not,TG]
   exact ⟨fun h3=>⟨p1,p2,p3,p4,p5,hok,hlv',h1,h2,h3⟩,fun ⟨_,_,_,_,_,_,_,_,_,h3⟩=>h3⟩
  ·have h2:=Sj h2
   refine ⟨⟨false,rfl,?_⟩,hfin _ s15⟩
   exact ⟨fun h=>(by cases h),fun ⟨_,_,_,_,_,_,_,_,h3,_⟩=>absurd h3 h2⟩
 ·have h1:=Sj h1
  refine ⟨⟨false,rfl,?_⟩,hfin _ s14⟩
  exact ⟨fun h=>(by cases h),fun ⟨_,_,_,_,_,_,_,h3,_⟩=>absurd h3 h1⟩
end
end Go.Proofs.YtngdohpikfcifaaGreatDoor
namespace Go.V
def mH (acc:List Int) (x:Int):List Int:=if x∈acc then acc else acc ++ [x]
def cj (l:List Int):List Int:=l.foldl mH []
theorem yP {l:List Int} {j:Nat} {x:Int} (h:l[j]? = some x):cj (l.take (j + 1)) = mH (cj (l.take j)) x:=by
 unfold cj; rw [Su,h,List.foldl_append]; rfl
theorem Ll {acc:List Int} {x y:Int}:y∈mH acc x↔y∈acc∨y = x:=by
 unfold mH; split
 ·rename_i h; exact ⟨.inl,fun h'=>h'.elim id (fun e=>e ▸ h)⟩
 ·simp
theorem Lm (acc:List Int) (x:Int):acc.length≤(mH acc x).length∧(mH acc x).length≤acc.length + 1:=by
 unfold mH; split <;> simp
theorem GG {acc:List Int} (x:Int) (h:acc.Nodup):(mH acc x).Nodup:=by
 unfold mH; split
 ·exact h
 ·rename_i hn
  rw [SX]
  exact ⟨h,by simp,fun a ha b hb e=>by simp at hb; subst hb; subst e; exact hn ha⟩
theorem AM (l:List Int):∀ acc,acc.Nodup→(l.foldl mH acc).Nodup∧(∀ y,y∈l.foldl mH acc↔y∈acc∨y∈l)∧(l.foldl mH acc).length≤acc.length + l.length:=by
 induction l with
 | nil=>intro acc h; exact ⟨h,by simp,by simp⟩
 | cons x l ih =>
  intro acc h
  obtain ⟨h1,h2,h3⟩:=ih _ (GG x h)
  refine ⟨h1,fun y=>?_,?_⟩
  ·show y∈l.foldl mH (mH acc x)↔_
   rw [h2,Ll,SA,or_assoc]
  ·show (l.foldl mH (mH acc x)).length≤_
   have:=(Lm acc x).2
   simp only [S4]; omega
theorem GH {l:List Int} {y:Int}:y∈cj l↔y∈l:=by
 have:=(AM l [] (by simp)).2.1 y
 simpa [cj] using this
theorem uz (l:List Int):(cj l).length≤l.length:=by
 have:=(AM l [] (by simp)).2.2
 simpa [cj] using this
def af.T (g:af):Nat:=g.terms.length
def af.N (g:af):Nat:=g.nons.length
def eC (g:af) (added:Nat) (s:Int):Prop:=1≤s∧s < g.T + g.N∧¬ ((g.T:Int)≤s∧s < g.T + added)
def lC (g:af) (added:Nat) (p:aJ):Prop:=((g.T:Int) + added≤p.left∧p.left < g.T + g.N∧0≤p.level∧p.level≤g.levels.length)∧∀ s∈p.right,eC g added s
def fD (g:af) (added:Nat):List Int:=cj ((g.prods.drop added).map aJ.left)
def xJ (g:af) (added:Nat):Prop:=added < g.prods.length∧g.prods.length≤96 + added∧(∀ p∈g.prods.drop added,lC g added p) ∧
 ((fD g added).length:Int) = (g.N:Int) - added∧(g.T:Int) + added≤g.start∧g.start < g.T + g.N
def Ln (g:af):Prop:=qC g 0∧xJ g 0∧H8 (fD g 0)
def av (g:af):Prop:=g.nons[0]? = some .empty∧qC g 1∧xJ g 1∧∃ p,g.prods[0]? = some p∧p.left = (g.T:Int)∧p.right = [g.start]∧p.level = 0
end Go.V
namespace Go.Proofs.YtngdohpikfcifaaGreatDoor
open Go.V
section
variable {w:World} {L:List aw} {g:af} {x:GA}
theorem tY (hg:gR (hp w) g x) (hb:iM g) (added:Nat) (ha:added≤1) :
  aC Tryz.prog uk [.agg ⟨x.cells⟩,.int .i64 (added:Int)] w fun v w'=>∃ (a:Option Addr) (l c:Nat) (xs:List Int) (r:Bool),v = .tuple #[.slice a l c,.bool r]∧(r = true↔xJ g added)∧(r = true→xs = fD g added)∧St w' (own 1 a l c (iv xs) :: all w):=by
 refine qq _ _ _ _ _ _ _ _ _ _ _ _ _ _ w _ ?_
 refine ah (St.all w) fun k1 w1 h=>?_
 have gw:Gr w w1:=h.aX
 have hg:=hg.mono gw
 have rb:ax (hp w1) ⟨k1,0,none⟩ x.cells:=h.row
 obtain ⟨b1,b2,b3,b4,b5,b6,b7⟩:=hb
 have tl:=hg.t.1
 have nl:=hg.n.1
 have ll:=hg.l.1
 have pl:=hg.p.1
 have hfin:∀ w' (A:aw),St w' [A,has (hp w1)]→St w' [A,has (hp w)]:=fun w' A h=>h.vK (cE gw)
 have h:=St.all w1
 unfold V.all at h
 have c0:=fun (w' : World) (s:sub (hp w1) (hp w'))=>rb.cell0 (v:=.slice x.ta x.tl x.tc) s
 have c1:=fun (w' : World) (s:sub (hp w1) (hp w'))=>rb.cell s (j:=1) (v:=.slice x.na x.nl x.nc) rfl
 have c2:=fun (w' : World) (s:sub (hp w1) (hp w'))=>rb.cell s (j:=2) (v:=.slice x.la x.ll x.lc) rfl
 have c3:=fun (w' : World) (s:sub (hp w1) (hp w'))=>rb.cell s (j:=3) (v:=.int .i64 x.s) rfl
 have c4:=fun (w' : World) (s:sub (hp w1) (hp w'))=>rb.cell s (j:=4) (v:=.slice x.pa x.pl x.pc) rfl
 unfold V.all
 generalize hp w1 = H at *
 have s1:sub H (hp w1):=h.has
 have hT:g.T = x.tl:=tl
 have hN:g.N = x.nl:=nl
 have no:∀ w',sub H (hp w')→¬ xJ g added→∃ (a:Option Addr) (l c:Nat) (xs:List Int) (r:Bool),Value.tuple (Array.mk [.slice none 0 0,.bool false]) = .tuple #[.slice a l c,.bool r]∧(r = true↔xJ g added)∧(r = true→xs = fD g added)∧St w' [own 1 a l c (iv xs),has (hp w)]:=fun w' s hn =>
  ⟨none,0,0,[],false,rfl,⟨fun h=>(by cases h),fun h=>absurd h hn⟩,fun h=>(by cases h),hfin _ _ (aB 1 (cE s))⟩
 refine ⟨fun b w'=>(b = false↔(added < g.prods.length∧g.prods.length≤96 + added))∧w' = w1,?_,?_⟩
 ·refine ⟨_,_,_,c4 _ s1,ae (fun h1=>⟨?_,rfl⟩) fun h1=>?_⟩
  ·have:=Si h1
   simp; omega
  have h1:=Sj h1
  refine ⟨_,_,_,c4 _ s1,⟨by omega,by omega⟩,?_,rfl⟩
  rw [SZ]; omega
 rintro _ b _ ⟨hpre,rfl⟩
 refine ae (fun hbt=>?_) fun hbf=>?_
 ·subst hbt
  refine no _ s1 ?_
  rintro ⟨p1,p2,_⟩
  have:=hpre.2 ⟨p1,p2⟩; cases this
 obtain ⟨p1,p2⟩:=hpre.1 hbf
 refine ⟨_,_,_,c0 _ s1,_,_,_,c1 _ s1,⟨by omega,by omega⟩,_,_,_,c0 _ s1,⟨by omega,by omega⟩,_,_,_,c4 _ s1,cJ (lo:=added) (by omega) hg.pc ?_⟩
 have hps:=hg.p.drop (k:=added) (by omega) hg.pc
 have hpsl:=hps.1
 refine ⟨fun o l' c' n w'=>∃ j:Nat,n = j∧j≤x.pl - added∧(cj (((g.prods.drop added).map aJ.left).take j)).length = l'∧(∀ p∈(g.prods.drop added).take j,lC g added p) ∧
   St w' [own 1 o l' c' (iv (cj (((g.prods.drop added).map aJ.left).take j))),has H],fun _ _ _ n _=>x.pl - added - n.toNat,⟨0,rfl,by omega,rfl,by simp,aB 1 h⟩,?_⟩
 clear h
 rintro _ o8 _ k17 n1 w3 ⟨j,rfl,hj,rfl,hok,h⟩
 have s3:sub H (hp w3):=aZ 1 h.l
 have hll:(cj (((g.prods.drop added).map aJ.left).take j)).length≤j:=SK (uz _) (by simp; omega)
 refine ae (fun hlt=>?_) fun hlt=>?_
 ·have hlt:j < x.pl - added:=by have:=Si hlt; omega
  obtain ⟨p,ad,vs,hp1,hpa,hp2,ra,rl,rc,rfl,hrc,hp3⟩:=hps.get hlt
  have hpm:p∈g.prods.drop added:=Sl hp1
  have hlp:((g.prods.drop added).map aJ.left)[j]? = some p.left:=by rw [Sn,hp1]; rfl
  have rl1:=hp3.1
  have b7':=b7 p (Tw hpm)
  refine ⟨ad,hpa,by omega,by omega,?_⟩
  rw [SJ]
  refine ⟨_,_,_,_,_,hp2.at s3 rfl,ah h fun k20 w4 h=>bh h rfl (by simp [aS]) fun w5 h=>?_⟩
  have hbox:∀ w',sub (hp w5) (hp w')→ax (hp w') ⟨k20,0,none⟩ [.int .i64 p.left,.slice ra rl rc,.int .i64 p.level]:=fun w' s=>h.row.mono s
  have s5:sub H (hp w5):=aZ 2 h.l
  have d0:=fun (w' : World) (s:sub (hp w5) (hp w'))=>(hbox w' s).cell0 (v:=.int .i64 p.left) (sub.refl _)
  have d1:=fun (w' : World) (s:sub (hp w5) (hp w'))=>(hbox w' s).cell (sub.refl _) (j:=1) (v:=.slice ra rl rc) rfl
  have d2:=fun (w' : World) (s:sub (hp w5) (hp w'))=>(hbox w' s).cell (sub.refl _) (j:=2) (v:=.int .i64 p.level) rfl
  refine ⟨fun b w'=>(b = false↔((g.T:Int) + added≤p.left∧p.left < g.T + g.N∧0≤p.level∧p.level≤g.levels.length))∧w' = w5,?_,?_⟩
  ·refine ⟨_,d0 _ (sub.refl _),ae (fun h1=>⟨?_,rfl⟩) fun h1=>?_⟩
   ·have:=Si h1
    simp; omega
   have h1:=Sj h1
   refine ⟨_,d0 _ (sub.refl _),ae (fun h2=>⟨?_,rfl⟩) fun h2=>?_⟩
   ·have:=Si h2
    simp; omega
   have h2:=Sj h2
   refine ⟨_,d2 _ (sub.refl _),ae (fun h3=>⟨?_,rfl⟩) fun h3=>?_⟩
   ·have:=Si h3
    simp; omega
   have h3:=Sj h3
   refine ⟨_,d2 _ (sub.refl _),_,_,_,c2 _ s5,?_,rfl⟩
   rw [SZ]; omega
  rintro _ b2 w6 ⟨hb2,rfl⟩
  refine ae (fun hbt=>?_) fun hbf=>?_
  ·subst hbt
   refine no _ s5 ?_
   rintro ⟨_,_,p3,_⟩
   have:=hb2.2 (p3 p hpm).1; cases this
  have hpok:=hb2.1 hbf
  refine ⟨_,_,_,d1 _ (sub.refl _),fun n w'=>∃ i:Nat,n = i∧i≤rl∧(∀ (k:Nat) s,k < i→p.right[k]? = some s→eC g added s)∧w' = w6,fun n _=>rl - n.toNat,⟨0,rfl,by omega,fun k s hk=>by omega,rfl⟩,?_⟩
  rintro _ n8 w7 ⟨i,rfl,hi,hsy,rfl⟩
  refine ae (fun hlt2=>?_) fun hlt2=>?_
  ·have hlt2:i < rl:=by have:=Si hlt2; omega
   obtain ⟨s,ad2,hs1,rfl,hs2⟩:=hp3.bL hlt2
   have bad:¬ eC g added s→_:=fun hn=>no w7 s5 (fun hq=>hn ((hq.2.2.1 p hpm).2 s (Sl hs1)))
   have good:eC g added s→aG ((i:Int) + 1)∧(∃ i' : Nat,(i:Int) + 1 = i'∧i'≤rl∧(∀ (k:Nat) s,k < i'→p.right[k]? = some s→eC g added s)∧w7 = w7)∧rl - ((i:Int) + 1).toNat < rl - (i:Int).toNat:=fun hgd=>by
    refine ⟨⟨by omega,by omega⟩,⟨i + 1,by simp,by omega,fun k s' hk hs'=>?_,rfl⟩,bA hlt2⟩
    by_cases e:k = i
    ·subst e; rw [hs1] at hs'; cases hs'; exact hgd
    ·exact hsy k s' (by omega) hs'
   refine aq rfl hlt2 ⟨s,hs2 _ s5,ae (fun h1=>bad ?_) fun h1=>ae (fun h2=>bad ?_) fun h2=>⟨_,_,_,c0 _ s5,ae (fun h3=>ae (fun h4=>bad ?_) fun h4=>good ?_) fun h3=>good ?_⟩⟩
   ·have:=Si h1; unfold eC; omega
   ·have:=Si h2; unfold eC; omega
   ·have h3:=Si h3; have h4:=Si h4; unfold eC; omega
   ·have h1:=Sj h1; have h2:=Sj h2; have h3:=Si h3; have h4:=Sj h4; unfold eC; omega
   ·have h1:=Sj h1; have h2:=Sj h2; have h3:=Sj h3; unfold eC; omega
  have hlt2:i = rl:=by have:=Sj hlt2; omega
  subst hlt2
  have hpok2:lC g added p:=⟨hpok,fun s hs=>by
   obtain ⟨k,hk,e⟩:=List.mem_iff_getElem.1 hs
   exact hsy k s (by omega) (by rw [← e]; exact Sm hk)⟩
  have hok2:∀ q∈(g.prods.drop added).take (j + 1),lC g added q:=fun q hq=>by
   rw [Su,hp1] at hq
   rcases Sp.1 hq with hq | hq
   ·exact hok q hq
   ·simp at hq; subst hq; exact hpok2
  have et:=yP hlp
  refine ⟨_,d0 _ (sub.refl _),(Gz (zP (h.pick 3 [1])) (by omega) p.left).mono ?_⟩
  rintro _ _ ⟨rfl,rfl⟩
  refine ⟨_,rfl,ae (fun h1=>?_) fun h1=>?_⟩
  ·have h1:p.left∉cj (((g.prods.drop added).map aJ.left).take j):=by simpa using h1
   refine ⟨_,d0 _ (sub.refl _),ah h fun k27 w9 h=>?_⟩
   refine (aQ aK (rfl:ag Ty _ = .slice _) (rfl:ag Ty _ = .slice _) rfl rfl rfl (h.pick 4 [0,2,3]) rfl (by simp [aS]) (by show (_ + 1) * 8≤_; omega) (by omega)).mono ?_
   rintro _ w10 ⟨a',c',rfl,h⟩
   have e2:cj (((g.prods.drop added).map aJ.left).take (j + 1)) = cj (((g.prods.drop added).map aJ.left).take j) ++ [p.left]:=by rw [et]; unfold mH; rw [Sr h1]
   refine ⟨_,_,_,rfl,⟨by omega,by omega⟩,⟨j + 1,by simp,by omega,by rw [e2]; simp,hok2,?_⟩,by dsimp only; omega⟩
   rw [e2]
   have e3:∀ l:List Int,iv (l ++ [p.left]) = iv l ++ [.int .i64 p.left]:=fun l=>by simp [iv]
   rw [e3]
   exact h.pick 3 [0,2]
  ·have h1:p.left∈cj (((g.prods.drop added).map aJ.left).take j):=by simpa using h1
   have e2:cj (((g.prods.drop added).map aJ.left).take (j + 1)) = cj (((g.prods.drop added).map aJ.left).take j):=by rw [et]; unfold mH; rw [Sz h1]
   refine ⟨⟨by omega,by omega⟩,⟨j + 1,by simp,by omega,by rw [e2],hok2,?_⟩,by dsimp only; omega⟩
   rw [e2]
   exact h.pick 3 [1,2]
 have hlt:j = x.pl - added:=by have:=Sj hlt; omega
 subst hlt
 have el:((g.prods.drop added).map aJ.left).take (x.pl - added) = (g.prods.drop added).map aJ.left:=SD (by simp; omega)
 rw [el] at h hll ⊢
 rw [SD (by omega)] at hok
 intro w11 hd
 have h:=h.drawn hd
 have s11:sub H (hp w11):=aZ 1 h.l
 refine ⟨fun w'=>sub H (hp w'),s11,_,_,_,fun w' s=>c1 _ s,⟨by omega,by omega⟩,ae (fun h1=>?_) fun h1=>?_⟩
 ·have h1:((fD g added).length:Int) = (x.nl:Int) - added:=by simpa [fD] using h1
  refine ⟨_,fun w' s=>c3 _ s,ae (fun h2=>?_) fun h2=>?_⟩
  ·have h2:=Si h2
   refine ⟨_,fun w' s=>c3 _ s,_,_,_,_,_,rfl,?_,fun _=>rfl,hfin _ _ h⟩
   rw [Sy]
   have hs:=hg.s
   constructor
   ·intro h3; exact ⟨p1,p2,hok,by rw [hN]; exact h1,by omega,by omega⟩
   ·rintro ⟨_,_,_,_,_,q⟩; omega
  ·have h2:=Sj h2
   have hs:=hg.s
   exact ⟨_,_,_,_,false,rfl,⟨fun h=>(by cases h),fun ⟨_,_,_,_,q,_⟩=>absurd (by omega:(g.T:Int) + added≤g.start→False) (by omega)⟩,fun h=>(by cases h),hfin _ _ h⟩
 ·have h1:¬ ((fD g added).length:Int) = (x.nl:Int) - added:=by simpa [fD] using h1
  exact ⟨_,_,_,_,false,rfl,⟨fun h=>(by cases h),fun ⟨_,_,_,q,_⟩=>absurd (by rw [← hN]; exact q) h1⟩,fun h=>(by cases h),hfin _ _ h⟩
theorem NK (hg:gR (hp w) g x) (hb:iM g):aC Tryz.prog Dh [.agg ⟨x.cells⟩] w fun v w'=>(∃ r:Bool,v = .bool r∧(r = true↔Ln g))∧Gr w w':=by
 refine Az _ _ _ _ _ _ _ _ _ _ _ _ _ w _ ?_
 refine ah (St.all w) fun k1 w1 h=>?_
 have gw:Gr w w1:=h.aX
 have hg:=hg.mono gw
 have rb:ax (hp w1) ⟨k1,0,none⟩ x.cells:=h.row
 refine ⟨_,_,_,_,_,_,_,_,_,_,_,_,_,rb.at (sub.refl _) rfl,(CJ (x:=x) hg hb 0 (by omega)).mono ?_⟩
 rintro _ w2 ⟨⟨r,rfl,hr⟩,g2⟩
 refine ⟨_,rfl,ae (fun h1=>?_) fun h1=>?_⟩
 ·have h1:r = false:=by simpa using h1
  subst h1
  exact ⟨⟨false,rfl,⟨fun h=>(by cases h),fun h=>absurd (hr.2 h.1) (by simp)⟩⟩,gw.trans g2⟩
 have h1:r = true:=by simpa using h1
 have hsy:=hr.1 h1
 refine ⟨_,_,_,_,_,_,_,_,_,_,_,_,_,(rb.mono g2).at (sub.refl _) rfl,(tY (x:=x) (hg.mono g2) hb 0 (by omega)).mono ?_⟩
 rintro _ w3 ⟨a,l,c,xs,r2,rfl,hr2,hxs,h3⟩
 have g3:Gr w w3:=(gw.trans g2).trans h3.aX
 refine ⟨_,_,_,_,rfl,ae (fun h4=>?_) fun h4=>?_⟩
 ·have hxs:=hxs h4
  have hlen:=ea h3
  have hp2:=hr2.1 h4
  have hl2:=uz ((g.prods.drop 0).map aJ.left)
  rw [gi,hxs] at hlen
  have hl3:(fD g 0).length≤96:=by
   have:=hp2.2.1
   simp only [Ss,TO] at hl2
   unfold fD; omega
  refine (GC (zP h3) (by omega)).mono ?_
  rintro _ w4 ⟨⟨r3,rfl,hr3⟩,hw4⟩
  refine ⟨_,rfl,⟨r3,rfl,?_⟩,g3.trans (Gr.of_eq hw4)⟩
  rw [hr3,hxs]
  exact ⟨fun h=>⟨hsy,hp2,h⟩,fun h=>h.2.2⟩
 ·subst h4
  exact ⟨⟨false,rfl,⟨fun h=>(by cases h),fun h=>absurd (hr2.2 h.2.1) (by simp)⟩⟩,g3⟩
end
end Go.Proofs.YtngdohpikfcifaaGreatDoor
namespace Go.V
structure GB (H:Hp) (k:Nat) (x:GA):Prop where
 c0:∀ {w:World},sub H (hp w)→w.cell? ⟨k,0,none⟩ = some (.slice x.ta x.tl x.tc)
 c1:∀ {w:World},sub H (hp w)→w.cell? ((⟨k,0,none⟩ : Addr).add 1) = some (.slice x.na x.nl x.nc)
 c2:∀ {w:World},sub H (hp w)→w.cell? ((⟨k,0,none⟩ : Addr).add 2) = some (.slice x.la x.ll x.lc)
 c3:∀ {w:World},sub H (hp w)→w.cell? ((⟨k,0,none⟩ : Addr).add 3) = some (.int .i64 x.s)
 c4:∀ {w:World},sub H (hp w)→w.cell? ((⟨k,0,none⟩ : Addr).add 4) = some (.slice x.pa x.pl x.pc)
 row:∀ {w:World},sub H (hp w)→rowAt w ⟨k,0,none⟩ 0 5 = some x.cells
theorem Lo {H:Hp} {k:Nat} {x:GA} (r:ax H ⟨k,0,none⟩ x.cells):GB H k x :=
 ⟨fun s=>r.cell0 s,fun s=>r.cell s (j:=1) rfl,fun s=>r.cell s (j:=2) rfl,fun s=>r.cell s (j:=3) rfl,fun s=>r.cell s (j:=4) rfl,fun s=>r.at s rfl⟩
theorem de {w:World} {g:af} {x:GA} {e:TypeId} {k:Nat→World→Prop} (hg:gR (hp w) g x) (hk:∀ k1 w1,Gr w w1→gR (hp w1) g x→GB (hp w1) k1 x→k k1 w1):new w (.cells (Array.mk x.cells) e) k :=
 ah (St.all w) fun k1 w1 h=>hk k1 w1 h.aX (hg.mono h.aX) (Lo h.row)
theorem mJ {a:Option Addr} {len sz:Nat} {k:Addr→Prop} {ad:Addr} (ha:a = some ad) (hi:0 < len) (hk:k ad):idx a len 0 sz k :=
 ⟨ad,ha,by omega,by omega,by simpa [aH,Addr.add] using hk⟩
theorem EZ:∀ {l m:List Int},l.Nodup→(∀ x∈l,x∈m)→l.length≤m.length
 | [],m,_,_=>Sv _
 | a :: l,m,h,hs=>by
  rw [Te] at h
  have ham:=hs a (by simp)
  have:=EZ (l:=l) (m:=m.erase a) h.2 fun x hx=>(List.mem_erase_of_ne (fun e=>h.1 (by subst e; exact hx))).2 (hs x (by simp [hx]))
  rw [List.length_erase_of_mem ham] at this
  have:=List.length_pos_of_mem ham
  simp only [S4]; omega
def AN (g:af):Prop:=g.terms[0]? = some ⟨.empty,0⟩∧(∀ t∈g.terms.drop 1,cZ t.name = true∧0≤t.level∧t.level≤g.levels.length)∧((g.terms.drop 1).map ij.name).Nodup
def vX (g:af):Prop:=∀ (i:Nat) v,g.levels[i]? = some v→1≤v∧v≤3∧∃ t∈g.terms,t.level = (i:Int) + 1
def E0 (g:af) (added:Nat):Prop:=(g.nons.drop added).Nodup∧∀ s∈g.nons.drop added,cO s = true
theorem GI {g:af} {added:Nat} (h:qC g added):g.levels.length≤64:=by
 obtain ⟨_,_,h3,_,_,_,h7,_⟩:=h
 have:=EZ (l:=(List.range g.levels.length).map fun (k:Nat)=>(k:Int) + 1) (m:=(g.terms.drop 1).map ij.level) (by
  rw [TI,T9]
  exact List.Pairwise.imp (fun h e=>h (by omega)) List.nodup_range) (fun x hx=>by
  obtain ⟨k,hk,rfl⟩:=SG.1 hx
  rw [SO] at hk
  obtain ⟨_,_,t,ht,e⟩:=h7 k _ (Sm hk)
  exact SG.2 ⟨t,ht,e⟩)
 simp at this; omega
theorem vY {g:af} {added:Nat}:qC g added↔added < g.nons.length∧g.terms.length≤65∧g.nons.length≤64 + added∧g.levels.length≤64∧g.terms.length - 1 + (g.nons.length - added)≤64∧AN g∧vX g∧E0 g added:=by
 constructor
 ·intro h
  have hl:=GI h
  obtain ⟨h1,h2,h3,h4,h5,h6,h7,h8,h9,h10⟩:=h
  exact ⟨h2,h3,h4,hl,h5,⟨h1,h6,h8⟩,fun i v hv=>by obtain ⟨a,b,t,ht,e⟩:=h7 i v hv; exact ⟨a,b,t,Tw ht,e⟩,h9,h10⟩
 ·rintro ⟨h2,h3,h4,hl,h5,⟨h1,h6,h8⟩,h7,h9,h10⟩
  refine ⟨h1,h2,h3,h4,h5,h6,fun i v hv=>?_,h8,h9,h10⟩
  obtain ⟨a,b,t,ht,e⟩:=h7 i v hv
  refine ⟨a,b,t,?_,e⟩
  cases hg:g.terms with
  | nil=>rw [hg] at ht; cases ht
  | cons t0 ts =>
   rw [hg] at ht h1
   cases h1
   rcases SA.1 ht with rfl | ht
   ·exact absurd e (by show (0:Int)≠_; omega)
   ·exact ht
end Go.V
namespace Go.Proofs.YtngdohpikfcifaaGreatDoor
open Go.V
section
variable {w:World} {L:List aw} {g:af} {x:GA} {s:ByteArray}
theorem Lp (hs:s.size≤4611686018427387904):aC Tryz.prog pf [.string s] w fun v w'=>v = .bool (cZ s)∧w' = w:=by
 refine my _ w _ ?_
 refine ⟨fun n w'=>∃ j:Nat,n = j∧j≤s.size∧(∀ i,i < j→Ee (eH s i) = true)∧w' = w,fun n _=>s.size - n.toNat,⟨0,rfl,by omega,fun i hi=>by omega,rfl⟩,?_⟩
 rintro _ n w1 ⟨j,rfl,hj,hall,rfl⟩
 refine ae (fun h=>?_) fun h=>?_
 ·have h:j < s.size:=by have:=Si h; omega
  have hin:C5 (j:Int) s.size:=⟨by omega,by omega⟩
  have bad:Ee (eH s j) = false→Value.bool false = Value.bool (cZ s)∧w1 = w1:=fun hno=>by
   refine ⟨?_,rfl⟩
   have:(List.range s.size).all (fun i=>Ee (eH s i)) = false:=by
    rw [List.all_eq_false]; exact ⟨j,by simpa using h,by simp [hno]⟩
   unfold cZ; rw [this]; simp
  rw [SJ]
  refine ⟨hin,ae (fun h1=>bad ?_) fun h1=>⟨hin,ae (fun h2=>bad ?_) fun h2=>⟨hin,ae (fun h3=>bad ?_) fun h3=>?_⟩⟩⟩
  ·have h1:((eH s j:Nat):Int) < 32:=Si h1
   unfold Ee; simp; omega
  ·have h2:126 < ((eH s j:Nat):Int):=Si h2
   unfold Ee; simp; omega
  ·have h3:((eH s j:Nat):Int) = 39:=eq_of_beq h3
   unfold Ee; simp; omega
  ·have h1:¬ ((eH s j:Nat):Int) < 32:=Sj h1
   have h2:¬ 126 < ((eH s j:Nat):Int):=Sj h2
   have h3:¬ ((eH s j:Nat):Int) = 39:=TK.1 h3
   refine ⟨⟨by omega,by omega⟩,⟨j + 1,by simp,by omega,fun i hi=>?_,rfl⟩,bA h⟩
   by_cases e:i = j
   ·subst e; unfold Ee; simp; omega
   ·exact hall i (by omega)
 ·have h:j = s.size:=by have:=Sj h; omega
  subst h
  have hall':=sA.2 hall
  unfold cZ
  rw [hall']
  refine ae (fun h=>⟨?_,rfl⟩) fun h=>⟨?_,rfl⟩
  ·have h:1≤s.size:=by have:=Si h; omega
   have e:decide ((s.size:Int)≤16) = decide (s.size≤16):=by rw [S9]; simp only [Sy]; omega
   rw [e]; simp [h]
  ·have h:¬ 1≤s.size:=by have:=Sj h; omega
   simp [h]
theorem GJ (hg:gR (hp w) g x) (hb:iM g):aC Tryz.prog mq [.agg ⟨x.cells⟩] w fun v w'=>(∃ r:Bool,v = .bool r∧(r = true↔AN g))∧Gr w w':=by
 refine j_ _ _ _ _ _ _ _ _ _ _ _ _ _ w _ ?_
 refine de hg fun k1 w1 gw hg B=>?_
 obtain ⟨b1,b2,b3,b4,b5,b6,b7⟩:=hb
 have tl:=hg.t.1
 have ll:=hg.l.1
 have no:∀ {w'},Gr w1 w'→¬ AN g→(∃ r:Bool,Value.bool false = .bool r∧(r = true↔AN g))∧Gr w w':=fun {w'} gg hn=>⟨⟨false,rfl,⟨fun h=>(by cases h),fun h=>absurd h hn⟩⟩,gw.trans gg⟩
 have at' : ∀ {i:Nat},i < x.tl→∃ t ad,g.terms[i]? = some t∧x.ta = some ad∧(∀ w',Gr w1 w'→w'.cell? (ad.add (dP i 2)) = some (.string t.name))∧(∀ w',Gr w1 w'→w'.cell? ((ad.add (dP i 2)).add 1) = some (.int .i64 t.level)):=fun {i} hi=>by
  obtain ⟨t,ad,vs,h1,h2,h3,h4⟩:=hg.t.get hi
  have h4:vs = [.string t.name,.int .i64 t.level]:=h4
  subst h4
  exact ⟨t,ad,h1,h2,fun w' s=>h3.cell0 s,fun w' s=>h3.cell s (j:=1) rfl⟩
 refine ⟨fun b w'=>(b = false↔g.terms[0]? = some ⟨.empty,0⟩)∧w' = w1,?_,?_⟩
 ·refine ⟨_,_,_,B.c0 (sub.refl _),ae (fun h1=>⟨?_,rfl⟩) fun h1=>?_⟩
  ·have:g.terms = []:=SV (by simp at h1; omega)
   simp [this]
  have h1:0 < x.tl:=by simp at h1; omega
  obtain ⟨t0,ad,ht1,hta,q1,q2⟩:=at' h1
  have q1:w1.cell? ad = some (.string t0.name):=by simpa [aH,Addr.add] using q1 w1 (Gr.refl _)
  have q2:w1.cell? (ad.add 1) = some (.int .i64 t0.level):=by
   have:=q2 w1 (Gr.refl _)
   rw [add_add] at this
   simpa [aH] using this
  refine ⟨_,_,_,B.c0 (sub.refl _),mJ hta h1 ⟨_,q1,ae (fun h2=>⟨?_,rfl⟩) fun h2=>?_⟩⟩
  ·rw [yO] at h2
   have h2:t0.name≠ByteArray.mk (Array.mk []):=by simpa using h2
   rw [ht1]
   simp only [reduceCtorEq,false_iff]
   intro e; cases e; exact h2 rfl
  ·rw [yO] at h2
   have h2:t0.name = ByteArray.mk (Array.mk []):=by simpa using h2
   refine ⟨_,_,_,B.c0 (sub.refl _),mJ hta h1 ⟨_,q2,?_,rfl⟩⟩
   rw [ht1]
   constructor
   ·intro e
    have:t0.level = 0:=by simpa using e
    cases t0; simp_all; rfl
   ·intro e; cases e; rfl
 rintro _ b w2 ⟨hpre,rfl⟩
 refine ae (fun hbt=>?_) fun hbf=>?_
 ·subst hbt
  exact no (Gr.refl _) fun h=>by have:=hpre.2 h.1; cases this
 have p1:=hpre.1 hbf
 have hT:1≤x.tl:=by have:=(Sk.1 p1).1; omega
 refine ⟨fun n w'=>∃ j:Nat,n = (j:Int) + 1∧j + 1≤x.tl∧(∀ t∈(g.terms.drop 1).take j,cZ t.name = true∧0≤t.level∧t.level≤g.levels.length)∧(((g.terms.drop 1).take j).map ij.name).Nodup∧Gr w2 w',fun n _=>x.tl - n.toNat,⟨0,rfl,by omega,by simp,by simp,Gr.refl _⟩,?_⟩
 rintro _ n w3 ⟨j,rfl,hj,hok,hnd,g3⟩
 refine ⟨_,_,_,B.c0 g3,ae (fun hlt=>?_) fun hlt=>?_⟩
 ·have hlt:j + 1 < x.tl:=by have:=Si hlt; omega
  obtain ⟨t,ad,ht1,hta,q1,q2⟩:=at' hlt
  have ht1' : (g.terms.drop 1)[j]? = some t:=by rw [S8,Nat.add_comm]; exact ht1
  have htm:=Sl ht1'
  obtain ⟨u1,u2⟩:=b5 t (Tw htm)
  have et:(g.terms.drop 1).take (j + 1) = (g.terms.drop 1).take j ++ [t]:=by rw [Su,ht1']; rfl
  have ej:((j:Int) + 1) = ((j + 1:Nat):Int):=by omega
  rw [ej]
  refine ⟨_,_,_,B.c0 g3,ay hta hlt ⟨_,q1 _ g3,(Lp (by omega)).mono ?_⟩⟩
  rintro _ w4 ⟨rfl,rfl⟩
  refine ⟨_,rfl,fun b w'=>(b = false↔(cZ t.name = true∧0≤t.level∧t.level≤g.levels.length))∧Gr w2 w',?_,?_⟩
  ·intro w5 hd
   have g5:Gr w2 w5:=g3.trans (Gr.of_eq (dA hd))
   refine ⟨fun w'=>Gr w2 w',g5,ae (fun h1=>⟨?_,g5⟩) fun h1=>?_⟩
   ·have h1:cZ t.name = false:=by simpa using h1
    simp [h1]
   have h1:cZ t.name = true:=by simpa using h1
   refine ⟨_,_,_,fun w' s=>B.c0 s,ay hta hlt ⟨_,fun w' s=>q2 _ s,ae (fun h2=>⟨?_,g5⟩) fun h2=>?_⟩⟩
   ·have h2:=Si h2
    simp [h1]; omega
   have h2:=Sj h2
   refine ⟨_,_,_,fun w' s=>B.c0 s,ay hta hlt ⟨_,fun w' s=>q2 _ s,_,_,_,fun w' s=>B.c2 s,?_,g5⟩⟩
   rw [SZ]
   simp only [h1,true_and]; omega
  rintro _ b3 w11 ⟨hb3,g11⟩
  refine ae (fun hbt=>?_) fun hbf=>?_
  ·subst hbt
   exact no g11 fun h=>by have:=hb3.2 (h.2.1 t htm); cases this
  have hokt:=hb3.1 hbf
  refine ⟨fun n w'=>∃ k:Nat,n = (k:Int) + 1∧k≤j∧(∀ u∈(g.terms.drop 1).take k,u.name≠t.name)∧Gr w2 w',fun n _=>x.tl - n.toNat,⟨0,rfl,by omega,by simp,g11⟩,?_⟩
  rintro _ n5 w12 ⟨k,rfl,hk,hne,g12⟩
  refine ae (fun hlt2=>?_) fun hlt2=>?_
  ·have hlt2:k < j:=by have:=Si hlt2; omega
   obtain ⟨u,ad',hu1,hua,r1,_⟩:=at' (by omega:k + 1 < x.tl)
   rw [hta] at hua; cases hua
   have hu1' : (g.terms.drop 1)[k]? = some u:=by rw [S8,Nat.add_comm]; exact hu1
   have ek:((k:Int) + 1) = ((k + 1:Nat):Int):=by omega
   intro w13 hd
   have g13:Gr w2 w13:=g12.trans (Gr.of_eq (dA hd))
   rw [ek]
   refine ⟨fun w'=>Gr w2 w',g13,_,_,_,fun w' s=>B.c0 s,ay hta (by omega) ⟨_,fun w' s=>r1 _ s,_,_,_,fun w' s=>B.c0 s,ay hta hlt ⟨_,fun w' s=>q1 _ s,?_⟩⟩⟩
   rw [yO]
   refine ae (fun h=>?_) fun h=>?_
   ·have h:=Si h
    refine no g13 fun hp=>?_
    have hnn:=hp.2.2
    have e1:((g.terms.drop 1).map ij.name)[k]? = some t.name:=by rw [Sn,hu1',← h]; rfl
    have e2:((g.terms.drop 1).map ij.name)[j]? = some t.name:=by rw [Sn,ht1']; rfl
    have:=(List.getElem?_inj (Sk.1 e1).1 hnn).1 (e1.trans e2.symm)
    omega
   ·have h:=Sj h
    refine ⟨⟨by omega,by omega⟩,⟨k + 1,by simp,by omega,fun u' hu'=>?_,g13⟩,by dsimp only; omega⟩
    rw [Su,hu1'] at hu'
    rcases Sp.1 hu' with hu' | hu'
    ·exact hne u' hu'
    ·simp at hu'; subst hu'; exact h
  ·have hlt2:k = j:=by have:=Sj hlt2; omega
   subst hlt2
   refine ⟨⟨by omega,by omega⟩,⟨k + 1,by simp,by omega,fun t' ht'=>?_,?_,g12⟩,by dsimp only; omega⟩
   ·rw [et] at ht'
    rcases Sp.1 ht' with ht' | ht'
    ·exact hok t' ht'
    ·simp at ht'; subst ht'; exact hokt
   ·rw [et,SU]
    exact ux.2 ⟨hnd,fun hm=>by obtain ⟨u,hu,e⟩:=SG.1 hm; exact hne u hu e⟩
 ·have hlt:j + 1 = x.tl:=by have:=Sj hlt; omega
  rw [SD (by simp; omega)] at hok hnd
  exact ⟨⟨true,rfl,⟨fun _=>⟨p1,hok,hnd⟩,fun _=>rfl⟩⟩,gw.trans g3⟩
end
end Go.Proofs.YtngdohpikfcifaaGreatDoor
namespace Go.V
def CK (g:af) (added:Nat):Prop:=qC g added∧xJ g added
theorem GK {l:List Int} (h:0 < l.length):0 < (cj l).length:=by
 obtain ⟨x,hx⟩:=List.exists_mem_of_length_pos h
 exact List.length_pos_of_mem (GH.2 hx)
def E1 (g:af) (added:Nat):Prop:=g.nons.length≤64 + added∧g.terms.length≤65∧g.prods.length≤96 + added∧added < g.prods.length∧g.levels.length≤64
theorem E2 {g:af} {added:Nat}:CK g added↔E1 g added∧(g.terms.length:Int) - 1 + g.nons.length - added≤64∧AN g∧vX g∧E0 g added∧(∀ p∈g.prods.drop added,lC g added p)∧((fD g added).length:Int) = (g.N:Int) - added∧(g.T:Int) + added≤g.start∧g.start < g.T + g.N:=by
 unfold CK
 rw [vY]
 constructor
 ·rintro ⟨⟨h1,h2,h3,h4,h5,h6,h7,h8⟩,p1,p2,p3,p4,p5,p6⟩
  exact ⟨⟨h3,h2,p2,p1,h4⟩,by omega,h6,h7,h8,p3,p4,p5,p6⟩
 ·rintro ⟨⟨h3,h2,p2,p1,h4⟩,h5,h6,h7,h8,p3,p4,p5,p6⟩
  have hpos:0 < (fD g added).length:=GK (by simp; omega)
  have hN:g.N = g.nons.length:=rfl
  have hT:1≤g.terms.length:=by have:=(Sk.1 h6.1).1; omega
  exact ⟨⟨by omega,h2,h3,h4,by omega,h6,h7,h8⟩,p1,p2,p3,p4,p5,p6⟩
end Go.V
namespace Go.Proofs.YtngdohpikfcifaaGreatDoor
open Go.V
section
variable {w:World} {L:List aw} {g:af} {x:GA} {s:ByteArray}
def PL (c:Nat):Bool:=decide (c = 95) || (decide (65≤c) && decide (c≤90)) || (decide (97≤c) && decide (c≤122))
theorem AO {i c:Nat}:Gy i c = (PL c || (decide (i≠0) && decide (48≤c) && decide (c≤57))):=rfl
theorem Lr (hs:s.size≤4611686018427387904):aC Tryz.prog pg [.string s] w fun v w'=>v = .bool (cO s)∧w' = w:=by
 refine mA _ w _ ?_
 refine ⟨fun n w'=>∃ j:Nat,n = j∧j≤s.size∧(∀ i,i < j→Gy i (eH s i) = true)∧w' = w,fun n _=>s.size - n.toNat,⟨0,rfl,by omega,fun i hi=>by omega,rfl⟩,?_⟩
 rintro _ n w1 ⟨j,rfl,hj,hall,rfl⟩
 refine ae (fun h=>?_) fun h=>?_
 ·have h:j < s.size:=by have:=Si h; omega
  have hin:C5 (j:Int) s.size:=⟨by omega,by omega⟩
  have hc:((sb s j).toNat:Int) = (eH s j:Nat):=rfl
  rw [SJ,hc]
  refine ⟨fun w'=>Gy j (eH s j) = true∧w' = w1,⟨fun b w'=>b = PL (eH s j)∧w' = w1,⟨hin,?_⟩,?_⟩,?_⟩
  ·generalize eH s j = c
   have h95:((c:Int) == 95) = decide (c = 95):=by rw [S9]; simp only [beq_iff_eq,Sy]; omega
   unfold PL
   rw [h95]
   refine ae (fun h1=>⟨hin,ae (fun h2=>⟨?_,rfl⟩) fun h2=>⟨hin,ae (fun h3=>⟨hin,ae (fun h4=>⟨?_,rfl⟩) fun h4=>⟨hin,?_,rfl⟩⟩) fun h3=>⟨hin,?_,rfl⟩⟩⟩) fun h1=>⟨hin,ae (fun h3=>⟨hin,ae (fun h4=>⟨?_,rfl⟩) fun h4=>⟨hin,?_,rfl⟩⟩) fun h3=>⟨hin,?_,rfl⟩⟩
   all_goals
    rw [S9]
    simp only [Tk,SB,Sy,SZ,true_iff] at *
    omega
  ·rintro _ b w2 ⟨hb,rfl⟩
   rw [AO,← hb]
   have bad:Gy j (eH s j) = false→Value.bool false = Value.bool (cO s)∧w2 = w2:=fun hno=>by
    refine ⟨?_,rfl⟩
    have:(List.range s.size).all (fun i=>Gy i (eH s i)) = false:=by
     rw [List.all_eq_false]; exact ⟨j,by simpa using h,by simp [hno]⟩
    unfold cO; rw [this]; simp
   rw [AO,← hb] at bad
   generalize eH s j = c at bad
   refine ⟨hin,ae (fun h1=>⟨hin,ae (fun h2=>ae (fun h3=>ae (fun h4=>bad ?_) fun h4=>⟨?_,rfl⟩) fun h3=>⟨?_,rfl⟩) fun h2=>ae (fun h3=>bad ?_) fun h3=>⟨?_,rfl⟩⟩) fun h1=>ae (fun h3=>bad ?_) fun h3=>⟨?_,rfl⟩⟩
   all_goals cases b
   all_goals first | (cases h3; done) | simp [AO]
   all_goals
    simp only [Tt,Bool.not_eq_false',Sy,SZ] at *
    omega
  ·rintro _ w2 ⟨hok,rfl⟩
   refine ⟨⟨by omega,by omega⟩,⟨j + 1,by simp,by omega,fun i hi=>?_,rfl⟩,by dsimp only; omega⟩
   by_cases e:i = j
   ·subst e; exact hok
   ·exact hall i (by omega)
 ·have h:j = s.size:=by have:=Sj h; omega
  have hall' : (List.range s.size).all (fun i=>Gy i (eH s i)) = true:=sA.2 (by rw [← h]; exact hall)
  unfold cO
  rw [hall']
  refine ae (fun h=>?_) fun h=>?_
  ·have h:1≤s.size:=by have:=Si h; omega
   refine ⟨?_,rfl⟩
   have e:decide ((s.size:Int)≤16) = decide (s.size≤16):=by rw [S9]; simp only [Sy]; omega
   rw [e]; simp [h]
  ·have h:¬ 1≤s.size:=by have:=Sj h; omega
   exact ⟨by simp [h],rfl⟩
theorem E3 (hg:gR (hp w) g x) (hb:iM g):aC Tryz.prog lq [.agg ⟨x.cells⟩] w fun v w'=>(∃ r:Bool,v = .bool r∧(r = true↔vX g))∧Gr w w':=by
 refine jC _ _ _ _ _ _ _ _ _ _ _ _ _ w _ ?_
 refine de hg fun k1 w1 gw hg B=>?_
 obtain ⟨b1,b2,b3,b4,b5,b6,b7⟩:=hb
 have tl:=hg.t.1
 have ll:=hg.l.1
 have no:∀ {w'},Gr w1 w'→¬ vX g→(∃ r:Bool,Value.bool false = .bool r∧(r = true↔vX g))∧Gr w w':=fun {w'} gg hn=>⟨⟨false,rfl,⟨fun h=>(by cases h),fun h=>absurd h hn⟩⟩,gw.trans gg⟩
 refine ⟨fun n w'=>∃ i:Nat,n = i∧i≤x.ll∧(∀ (k:Nat) v,k < i→g.levels[k]? = some v→1≤v∧v≤3∧∃ t∈g.terms,t.level = (k:Int) + 1)∧w' = w1,fun n _=>x.ll - n.toNat,⟨0,rfl,by omega,fun k v hk=>by omega,rfl⟩,?_⟩
 rintro _ n1 w2 ⟨i,rfl,hi,hok,rfl⟩
 refine ⟨_,_,_,B.c2 (sub.refl _),ae (fun hlt=>?_) fun hlt=>?_⟩
 ·have hlt:i < x.ll:=by have:=Si hlt; omega
  obtain ⟨v,ad,hv1,hva,hv2⟩:=hg.l.bL hlt
  refine ⟨fun b n w'=>∃ k:Nat,n = k∧k≤x.tl∧(b = true↔∃ t∈g.terms.take k,t.level = (i:Int) + 1)∧w' = w2,fun b n _=>x.tl - n.toNat,⟨0,rfl,by omega,by simp,rfl⟩,?_⟩
  rintro _ b n2 w3 ⟨k,rfl,hk,hbk,rfl⟩
  refine ⟨_,_,_,B.c0 (sub.refl _),ae (fun hlt2=>?_) fun hlt2=>?_⟩
  ·have hlt2:k < x.tl:=by have:=Si hlt2; omega
   obtain ⟨t,ad2,vs,ht1,hta,ht2,ht3⟩:=hg.t.get hlt2
   have ht3:vs = [.string t.name,.int .i64 t.level]:=ht3
   subst ht3
   have et:g.terms.take (k + 1) = g.terms.take k ++ [t]:=by rw [Su,ht1]; rfl
   refine ae (fun h1=>?_) fun h1=>?_
   ·subst h1
    refine ⟨⟨by omega,by omega⟩,⟨k + 1,by simp,by omega,?_,rfl⟩,bA hlt2⟩
    obtain ⟨t',h1,h2⟩:=hbk.1 rfl
    exact ⟨fun _=>⟨t',by rw [et]; exact Sp.2 (.inl h1),h2⟩,fun _=>rfl⟩
   ·subst h1
    refine ⟨_,_,_,B.c0 (sub.refl _),ay hta hlt2 ⟨_,ht2.cell (sub.refl _) (j:=1) rfl,⟨by omega,by omega⟩,⟨by omega,by omega⟩,⟨k + 1,by simp,by omega,?_,rfl⟩,bA hlt2⟩⟩
    rw [et]
    constructor
    ·intro h; exact ⟨t,by simp,by simpa using h⟩
    ·rintro ⟨t',h1,h2⟩
     rcases Sp.1 h1 with h1 | h1
     ·have:=hbk.2 ⟨t',h1,h2⟩; cases this
     ·simp at h1; subst h1; simpa using h2
  ·have hlt2:k = x.tl:=by have:=Sj hlt2; omega
   rw [SD (by omega)] at hbk
   refine ae (fun h1=>no (Gr.refl _) fun hp=>?_) fun h1=>?_
   ·have:=hbk.2 (hp i v hv1).2.2
    rw [this] at h1; cases h1
   have h1:b = true:=by simpa using h1
   refine ⟨_,_,_,B.c2 (sub.refl _),aq hva hlt ⟨_,hv2 _ (sub.refl _),ae (fun h2=>no (Gr.refl _) fun hp=>?_) fun h2=>⟨_,_,_,B.c2 (sub.refl _),aq hva hlt ⟨_,hv2 _ (sub.refl _),ae (fun h3=>no (Gr.refl _) fun hp=>?_) fun h3=>?_⟩⟩⟩⟩
   ·have:=Si h2; have:=(hp i v hv1).1; omega
   ·have:=Si h3; have:=(hp i v hv1).2.1; omega
   ·have h2:=Sj h2
    have h3:=Sj h3
    refine ⟨⟨by omega,by omega⟩,⟨i + 1,by simp,by omega,fun k' v' hk' hv'=>?_,rfl⟩,bA hlt⟩
    by_cases e:k' = i
    ·subst e; rw [hv1] at hv'; cases hv'; exact ⟨by omega,by omega,hbk.1 h1⟩
    ·exact hok k' v' (by omega) hv'
 ·have hlt:i = x.ll:=by have:=Sj hlt; omega
  subst hlt
  exact ⟨⟨true,rfl,⟨fun _ i v hv=>hok i v (by have:=(Sk.1 hv).1; omega) hv,fun _=>rfl⟩⟩,gw⟩
theorem JH (hg:gR (hp w) g x) (hb:iM g) (added:Nat):aC Tryz.prog nB [.agg ⟨x.cells⟩,.int .i64 (added:Int)] w fun v w'=>(∃ r:Bool,v = .bool r∧(r = true↔E0 g added))∧Gr w w':=by
 refine lu _ _ _ _ _ _ _ _ _ _ _ _ _ _ w _ ?_
 refine de hg fun k1 w1 gw hg B=>?_
 obtain ⟨b1,b2,b3,b4,b5,b6,b7⟩:=hb
 have nl:=hg.n.1
 have no:∀ {w'},Gr w1 w'→¬ E0 g added→(∃ r:Bool,Value.bool false = .bool r∧(r = true↔E0 g added))∧Gr w w':=fun {w'} gg hn=>⟨⟨false,rfl,⟨fun h=>(by cases h),fun h=>absurd h hn⟩⟩,gw.trans gg⟩
 refine ⟨fun n w'=>∃ i:Nat,n = ((added + i:Nat):Int)∧(added + i≤x.nl∨i = 0)∧((g.nons.drop added).take i).Nodup∧(∀ s∈(g.nons.drop added).take i,cO s = true)∧Gr w1 w',fun n _=>x.nl - n.toNat,⟨0,rfl,.inr rfl,by simp,by simp,Gr.refl _⟩,?_⟩
 rintro _ n1 w2 ⟨i,rfl,hi,hnd,hok,g2⟩
 refine ⟨_,_,_,B.c1 g2,ae (fun hlt=>?_) fun hlt=>?_⟩
 ·have hlt:added + i < x.nl:=by have:=Si hlt; omega
  obtain ⟨s,ad,hs1,hsa,hs2⟩:=hg.n.bL hlt
  have hs1' : (g.nons.drop added)[i]? = some s:=by rw [S8]; exact hs1
  have hsm:=Sl hs1'
  have et:(g.nons.drop added).take (i + 1) = (g.nons.drop added).take i ++ [s]:=by rw [Su,hs1']; rfl
  refine ⟨_,_,_,B.c1 g2,aq hsa hlt ⟨_,hs2 _ g2,(Lr (by have:=b6 s (Tw hsm); omega)).mono ?_⟩⟩
  rintro _ w2 ⟨rfl,rfl⟩
  refine ⟨_,rfl,ae (fun h1=>no g2 fun hp=>?_) fun h1=>?_⟩
  ·rw [hp.2 s hsm] at h1; cases h1
  have h1:cO s = true:=by simpa using h1
  refine ⟨fun n w'=>∃ k:Nat,n = ((added + k:Nat):Int)∧k≤i∧(∀ u∈(g.nons.drop added).take k,u≠s)∧Gr w1 w',fun n _=>x.nl - n.toNat,⟨0,rfl,by omega,by simp,g2⟩,?_⟩
  rintro _ n2 w4 ⟨k,rfl,hk,hne,g4⟩
  refine ae (fun hlt2=>?_) fun hlt2=>?_
  ·have hlt2:k < i:=by have:=Si hlt2; omega
   obtain ⟨u,ad',hu1,hua,hu2⟩:=hg.n.bL (by omega:added + k < x.nl)
   rw [hsa] at hua; cases hua
   have hu1' : (g.nons.drop added)[k]? = some u:=by rw [S8]; exact hu1
   intro w5 hd
   have g5:Gr w1 w5:=g4.trans (Gr.of_eq (dA hd))
   refine ⟨fun w'=>Gr w1 w',g5,_,_,_,fun w' s=>B.c1 s,aq hsa (by omega) ⟨_,fun w' s=>hu2 _ s,_,_,_,fun w' s=>B.c1 s,aq hsa hlt ⟨_,fun w' s=>hs2 _ s,?_⟩⟩⟩
   rw [yO]
   refine ae (fun h=>no g5 fun hp=>?_) fun h=>?_
   ·have h:=Si h
    subst h
    have:=(List.getElem?_inj (Sk.1 hu1').1 hp.1).1 (hu1'.trans hs1'.symm)
    omega
   ·have h:=Sj h
    refine ⟨⟨by omega,by omega⟩,⟨k + 1,by omega,by omega,fun u' hu'=>?_,g5⟩,by dsimp only; omega⟩
    rw [Su,hu1'] at hu'
    rcases Sp.1 hu' with hu' | hu'
    ·exact hne u' hu'
    ·simp at hu'; subst hu'; exact h
  ·have hlt2:k = i:=by have:=Sj hlt2; omega
   subst hlt2
   refine ⟨⟨by omega,by omega⟩,⟨k + 1,by omega,by omega,?_,fun t' ht'=>?_,g4⟩,by dsimp only; omega⟩
   ·rw [et]; exact ux.2 ⟨hnd,fun hm=>hne s hm rfl⟩
   ·rw [et] at ht'
    rcases Sp.1 ht' with ht' | ht'
    ·exact hok t' ht'
    ·simp at ht'; subst ht'; exact h1
 ·have hlt:=Sj hlt
  rw [SD (by simp; omega)] at hok hnd
  exact ⟨⟨true,rfl,⟨fun _=>⟨hnd,hok⟩,fun _=>rfl⟩⟩,gw.trans g2⟩
theorem jt (hg:gR (hp w) g x) (hb:iM g):aC Tryz.prog ny [.agg ⟨x.cells⟩] w fun v w'=>v = .int .i64 ((g.T:Int) + g.N)∧Gr w w':=by
 refine lh _ _ _ _ _ _ _ _ _ _ _ _ _ w _ ?_
 refine de hg fun k1 w1 gw hg B=>?_
 have tl:=hg.t.1
 have nl:=hg.n.1
 obtain ⟨b1,b2,b3,b4,b5,b6,b7⟩:=hb
 exact ⟨_,_,_,B.c0 (sub.refl _),_,_,_,B.c1 (sub.refl _),⟨by omega,by omega⟩,by unfold af.T af.N; rw [tl,nl],gw⟩
theorem GL (hg:gR (hp w) g x) (hb:iM g) (added:Nat):aC Tryz.prog mu [.agg ⟨x.cells⟩,.int .i64 (added:Int),.int .i64 ((g.T:Int) + added)] w fun v w'=>(∃ r:Bool,v = .bool r∧(r = true↔∀ p∈g.prods.drop added,lC g added p))∧Gr w w':=by
 refine kj _ _ _ _ _ _ _ _ _ _ _ _ _ _ _ w _ ?_
 refine de hg fun k1 w1 gw hg B=>?_
 have hb':=hb
 obtain ⟨b1,b2,b3,b4,b5,b6,b7⟩:=hb
 have tl:g.T = x.tl:=hg.t.1
 have nl:g.N = x.nl:=hg.n.1
 have ll:=hg.l.1
 have pl:=hg.p.1
 have no:∀ {w'},Gr w1 w'→¬ (∀ p∈g.prods.drop added,lC g added p)→(∃ r:Bool,Value.bool false = .bool r∧(r = true↔∀ p∈g.prods.drop added,lC g added p))∧Gr w w':=fun {w'} gg hn=>⟨⟨false,rfl,⟨fun h=>(by cases h),fun h=>absurd h hn⟩⟩,gw.trans gg⟩
 refine ⟨fun n w'=>∃ j:Nat,n = ((added + j:Nat):Int)∧(added + j≤x.pl∨j = 0)∧(∀ p∈(g.prods.drop added).take j,lC g added p)∧Gr w1 w',fun n _=>x.pl - n.toNat,⟨0,rfl,.inr rfl,by simp,Gr.refl _⟩,?_⟩
 rintro _ n1 w2 ⟨j,rfl,hj,hok,g2⟩
 refine ⟨_,_,_,B.c4 g2,ae (fun hlt=>?_) fun hlt=>?_⟩
 ·have hlt:added + j < x.pl:=by have:=Si hlt; omega
  obtain ⟨p,ad,vs,hp1,hpa,hp2,ra,rl,rc,rfl,hrc,hp3⟩:=hg.p.get hlt
  have hp1' : (g.prods.drop added)[j]? = some p:=by rw [S8]; exact hp1
  have hpm:=Sl hp1'
  have rl1:=hp3.1
  have b7':=b7 p (Tw hpm)
  refine ⟨_,_,_,B.c4 g2,ay hpa hlt ⟨_,_,_,_,_,hp2.at g2 rfl,ah (St.all w2) fun k8 w3 h=>bh h rfl (by simp [aS]) fun w4 h=>?_⟩⟩
  have g4:Gr w1 w4:=g2.trans h.aX
  have hbox:ax (hp w4) ⟨k8,0,none⟩ [.int .i64 p.left,.slice ra rl rc,.int .i64 p.level]:=h.row
  have d0:=fun (w' : World) (s:Gr w4 w')=>hbox.cell0 s
  have d1:=fun (w' : World) (s:Gr w4 w')=>hbox.cell s (j:=1) (v:=.slice ra rl rc) rfl
  have d2:=fun (w' : World) (s:Gr w4 w')=>hbox.cell s (j:=2) (v:=.int .i64 p.level) rfl
  refine ⟨fun b w'=>(b = false↔((g.T:Int) + added≤p.left∧p.left < g.T + g.N∧0≤p.level∧p.level≤g.levels.length))∧Gr w4 w',?_,?_⟩
  ·intro w5 hd
   have g5:Gr w4 w5:=Gr.of_eq (dA hd)
   refine ⟨fun w'=>Gr w4 w',g5,_,fun w' s=>d0 _ s,ae (fun h1=>⟨?_,g5⟩) fun h1=>?_⟩
   ·have:=Si h1
    simp; omega
   have h1:=Sj h1
   refine ⟨_,fun w' s=>d0 _ s,_,_,_,_,_,_,_,_,_,_,_,_,_,fun w' s=>B.row (g4.trans s),(jt (x:=x) (hg.mono (g4.trans g5)) hb').mono ?_⟩
   rintro _ w9 ⟨rfl,g9⟩
   have g9:Gr w4 w9:=g5.trans g9
   refine ⟨_,rfl,fun w'=>Gr w4 w',g9,fun _ h=>h,ae (fun h2=>⟨?_,g9⟩) fun h2=>?_⟩
   ·have:=Si h2
    simp; omega
   have h2:=Sj h2
   refine ⟨_,fun w' s=>d2 _ s,ae (fun h3=>⟨?_,g9⟩) fun h3=>?_⟩
   ·have:=Si h3
    simp; omega
   have h3:=Sj h3
   refine ⟨_,fun w' s=>d2 _ s,_,_,_,fun w' s=>B.c2 (g4.trans s),?_,g9⟩
   rw [SZ]; omega
  rintro _ b2 w13 ⟨hb2,g13⟩
  refine ae (fun hbt=>?_) fun hbf=>?_
  ·subst hbt
   exact no (g4.trans g13) fun h=>by have:=hb2.2 (h p hpm).1; cases this
  have hpok:=hb2.1 hbf
  refine ⟨fun n w'=>∃ i:Nat,n = i∧i≤rl∧(∀ (k:Nat) s,k < i→p.right[k]? = some s→eC g added s)∧Gr w4 w',fun n _=>rl - n.toNat,⟨0,rfl,by omega,fun k s hk=>by omega,g13⟩,?_⟩
  rintro _ n8 w14 ⟨i,rfl,hi,hsy,g14⟩
  refine ⟨_,_,_,d1 _ g14,ae (fun hlt2=>?_) fun hlt2=>?_⟩
  ·have hlt2:i < rl:=by have:=Si hlt2; omega
   obtain ⟨s,ad2,hs1,hsa,hs2⟩:=hp3.bL hlt2
   have bad:∀ {w'},Gr w4 w'→¬ eC g added s→_:=fun {w'} gg hn=>no (g4.trans gg) (fun hq=>hn ((hq p hpm).2 s (Sl hs1)))
   have good:∀ {w'},Gr w4 w'→eC g added s→aG ((i:Int) + 1)∧(∃ i' : Nat,(i:Int) + 1 = i'∧i'≤rl∧(∀ (k:Nat) s,k < i'→p.right[k]? = some s→eC g added s)∧Gr w4 w')∧rl - ((i:Int) + 1).toNat < rl - (i:Int).toNat:=fun {w'} gg hgd=>by
    refine ⟨⟨by omega,by omega⟩,⟨i + 1,by simp,by omega,fun k s' hk hs'=>?_,gg⟩,bA hlt2⟩
    by_cases e:k = i
    ·subst e; rw [hs1] at hs'; cases hs'; exact hgd
    ·exact hsy k s' (by omega) hs'
   refine ⟨_,_,_,d1 _ g14,aq hsa hlt2 ⟨s,hs2 _ (g4.trans g14),ae (fun h1=>bad g14 ?_) fun h1=>?_⟩⟩
   ·have:=Si h1; unfold eC; omega
   refine ⟨_,_,_,_,_,_,_,_,_,_,_,_,_,B.row (g4.trans g14),(jt (x:=x) (hg.mono (g4.trans g14)) hb').mono ?_⟩
   rintro _ w15 ⟨rfl,g15⟩
   have g15:Gr w4 w15:=g14.trans g15
   refine ⟨_,rfl,ae (fun h2=>bad g15 ?_) fun h2=>⟨_,_,_,B.c0 (g4.trans g15),ae (fun h3=>ae (fun h4=>bad g15 ?_) fun h4=>good g15 ?_) fun h3=>good g15 ?_⟩⟩
   ·have:=Si h2; unfold eC; omega
   ·have h3:=Si h3; have h4:=Si h4; unfold eC; omega
   ·have h1:=Sj h1; have h2:=Sj h2; have h3:=Si h3; have h4:=Sj h4; unfold eC; omega
   ·have h1:=Sj h1; have h2:=Sj h2; have h3:=Sj h3; unfold eC; omega
  have hlt2:i = rl:=by have:=Sj hlt2; omega
  subst hlt2
  refine ⟨⟨by omega,by omega⟩,⟨j + 1,by omega,by omega,fun q hq=>?_,g4.trans g14⟩,by dsimp only; omega⟩
  rw [Su,hp1'] at hq
  rcases Sp.1 hq with hq | hq
  ·exact hok q hq
  ·simp at hq; subst hq
   exact ⟨hpok,fun s hs=>by
    obtain ⟨k,hk,e⟩:=List.mem_iff_getElem.1 hs
    exact hsy k s (by omega) (by rw [← e]; exact Sm hk)⟩
 ·have hlt:=Sj hlt
  rw [SD (by simp; omega)] at hok
  exact ⟨⟨true,rfl,⟨fun _=>hok,fun _=>rfl⟩⟩,gw.trans g2⟩
theorem NL (hg:gR (hp w) g x) (hb:iM g) (added:Nat):aC Tryz.prog qo [.agg ⟨x.cells⟩,.int .i64 (added:Int)] w fun v w'=>∃ a c,v = .slice a (fD g added).length c∧St w' (own 1 a (fD g added).length c (iv (fD g added)) :: all w):=by
 refine nD _ _ _ _ _ _ _ _ _ _ _ _ _ _ w _ ?_
 refine de hg fun k1 w1 gw hg B=>?_
 obtain ⟨b1,b2,b3,b4,b5,b6,b7⟩:=hb
 have pl:=hg.p.1
 have hfin:∀ {w' : World} {A:aw},St w' (A :: all w1)→St w' (A :: all w):=fun h=>h.vK (cE gw)
 refine ⟨fun o l' c' n w'=>∃ j:Nat,n = ((added + j:Nat):Int)∧(added + j≤x.pl∨j = 0)∧(cj (((g.prods.drop added).map aJ.left).take j)).length = l' ∧
   St w' (own 1 o l' c' (iv (cj (((g.prods.drop added).map aJ.left).take j))) :: all w1),fun _ _ _ n _=>x.pl - n.toNat,⟨0,rfl,.inr rfl,rfl,aB 1 (St.all w1)⟩,?_⟩
 rintro _ o1 _ c1 n1 w2 ⟨j,rfl,hj,rfl,h⟩
 have g2:Gr w1 w2:=h.aX
 have hll:(cj (((g.prods.drop added).map aJ.left).take j)).length≤j:=SK (uz _) (by simp; omega)
 refine ⟨_,_,_,B.c4 g2,ae (fun hlt=>?_) fun hlt=>?_⟩
 ·have hlt:added + j < x.pl:=by have:=Si hlt; omega
  obtain ⟨p,ad,vs,hp1,hpa,hp2,ra,rl,rc,rfl,hrc,hp3⟩:=hg.p.get hlt
  have hp1' : (g.prods.drop added)[j]? = some p:=by rw [S8]; exact hp1
  have hlp:((g.prods.drop added).map aJ.left)[j]? = some p.left:=by rw [Sn,hp1']; rfl
  have et:=yP hlp
  generalize hLJ:cj (((g.prods.drop added).map aJ.left).take j) = LJ at *
  refine ⟨fun b n w'=>∃ k:Nat,n = k∧k≤LJ.length∧(b = true↔p.left∈LJ.take k)∧St w' (own 1 o1 LJ.length c1 (iv LJ) :: all w1),fun b n _=>LJ.length - n.toNat,⟨0,rfl,by omega,by simp,h⟩,?_⟩
  clear h g2
  rintro _ b n2 w3 ⟨k,rfl,hk,hbk,h⟩
  refine ae (fun hlt2=>?_) fun hlt2=>?_
  ·have hlt2:k < LJ.length:=by have:=Si hlt2; omega
   intro w4 hd
   have h:=h.drawn hd
   have g4:Gr w1 w4:=h.aX
   obtain ⟨y,ad2,hy1,rfl,hy2⟩:=(zP h).bL hlt2
   have ey:LJ.take (k + 1) = LJ.take k ++ [y]:=aV hy1
   refine ⟨fun w'=>Gr w4 w',Gr.refl _,ae (fun h1=>?_) fun h1=>?_⟩
   ·subst h1
    exact ⟨⟨by omega,by omega⟩,⟨k + 1,by simp,by omega,⟨fun _=>by rw [ey]; exact Sp.2 (.inl (hbk.1 rfl)),fun _=>rfl⟩,h⟩,bA hlt2⟩
   ·subst h1
    refine aq rfl hlt2 ⟨y,fun w' s=>hy2 _ s,_,_,_,fun w' s=>B.c4 (g4.trans s),ay hpa hlt ⟨_,fun w' s=>hp2.cell0 (g4.trans s),⟨by omega,by omega⟩,⟨k + 1,by simp,by omega,?_,h⟩,bA hlt2⟩⟩
    rw [ey,Sp]
    have:p.left∉LJ.take k:=fun hm=>by have:=hbk.2 hm; cases this
    simp only [this,false_or,SE,beq_iff_eq]
    exact eq_comm
  ·have hlt2:k = LJ.length:=by have:=Sj hlt2; omega
   subst hlt2
   rw [SM] at hbk
   refine ae (fun h1=>?_) fun h1=>?_
   ·have h1:p.left∉LJ:=fun hm=>by rw [hbk.2 hm] at h1; cases h1
    refine ⟨_,_,_,B.c4 h.aX,ay hpa hlt ⟨_,hp2.cell0 h.aX,ah h fun k10 w8 h=>?_⟩⟩
    refine (aQ aK (rfl:ag Ty _ = .slice _) (rfl:ag Ty _ = .slice _) rfl rfl rfl h rfl (by simp [aS]) (by show (_ + 1) * 8≤_; omega) (by omega)).mono ?_
    rintro _ w10 ⟨a',c',rfl,h⟩
    have e2:cj (((g.prods.drop added).map aJ.left).take (j + 1)) = LJ ++ [p.left]:=by rw [et]; unfold mH; rw [Sr h1]
    refine ⟨_,_,_,rfl,⟨by omega,by omega⟩,⟨j + 1,by omega,by omega,by rw [e2]; simp,?_⟩,by dsimp only; omega⟩
    rw [e2]
    have e3:∀ l:List Int,iv (l ++ [p.left]) = iv l ++ [.int .i64 p.left]:=fun l=>by simp [iv]
    rw [e3]
    exact h.pick 3 [0,2]
   ·have h1:p.left∈LJ:=hbk.1 (by simpa using h1)
    have e2:cj (((g.prods.drop added).map aJ.left).take (j + 1)) = LJ:=by rw [et]; unfold mH; rw [Sz h1]
    refine ⟨⟨by omega,by omega⟩,⟨j + 1,by omega,by omega,by rw [e2],?_⟩,by dsimp only; omega⟩
    rw [e2]; exact h
 ·have hlt:=Sj hlt
  have el:((g.prods.drop added).map aJ.left).take j = (g.prods.drop added).map aJ.left:=SD (by simp; omega)
  rw [el] at h ⊢
  exact ⟨o1,c1,rfl,hfin h⟩
end
end Go.Proofs.YtngdohpikfcifaaGreatDoor
