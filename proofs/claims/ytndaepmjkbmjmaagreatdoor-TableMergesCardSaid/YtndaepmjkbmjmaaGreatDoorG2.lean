/- Texts of this claim, one behind the other. -/
import Derived.Test.YtndaepmjkbmjmaaGreatDoorG1
import Derived.Lib.TrailingZeros
import Derived.Laws.IdiomCopy
import Derived.MapKept
import Derived.Laws.RangeAny
import Derived.Laws.Strings
import Derived.Lib.OthersKept
import Derived.Laws.StructEq
set_option linter.unusedVariables false
set_option linter.unusedSectionVars false
set_option maxRecDepth 100000
set_option maxHeartbeats 16000000
namespace Go.Proofs.YtndaepmjkbmjmaaGreatDoor
open Go.V
abbrev j7:FuncId:=14
def qe:bn:={ rngs:=[],loops:=[(6,[(4,(.one (.int .i64)))])],joins:=[],blocks:=[] }
theorem qf {a:Yg} {b c:Nat} {d:Yg} {e f:Nat} {g:Yg} {i j:Nat} {k:Int} {l:Yg} {m n:Nat} {w:World} {R:Value->WP} (h:new w (oC [vS a b c,vS d e f,vS g i j,iI k,vS l m n] 27) λk1 w1=>new w1 (oC [vS none 0 0,vS none 0 0,vS none 0 0,iI 0,vS none 0 0] 27) λk2 w2=>∃ n1,World.cell? w2 (Addr.add (aM k1) 3) = some (iI n1)/\new w2 (oC [vS none 0 0,vS none 0 0,vS none 0 0,iI 0,vS none 0 0] 27) λk3 w3=>fV w3 (aM k3) [vS none 0 0,vS none 0 0,vS none 0 0,iI n1,vS none 0 0] λw4=>∃ o1 k4 k5,World.cell? w4 (aM k3) = some (vS o1 k4 k5)/\∃ o2 k6 k7,World.cell? w4 (aM k1) = some (vS o2 k6 k7)/\rS (ir 22 (Array.mk [vS o1 k4 k5,vS o2 k6 k7])) w4 λv1 w5=>∃ o3 k8 k9,v1 = vS o3 k8 k9/\st1 w5 (aM k3) (vS o3 k8 k9) λw6=>∃ o4 k10 k11,World.cell? w6 (Addr.add (aM k3) 1) = some (vS o4 k10 k11)/\∃ o5 k12 k13,World.cell? w6 (Addr.add (aM k1) 1) = some (vS o5 k12 k13)/\rS (ir 23 (Array.mk [vS o4 k10 k11,vS o5 k12 k13])) w6 λv2 w7=>∃ o6 k14 k15,v2 = vS o6 k14 k15/\st1 w7 (Addr.add (aM k3) 1) (vS o6 k14 k15) λw8=>∃ o7 k16 k17,World.cell? w8 (Addr.add (aM k3) 2) = some (vS o7 k16 k17)/\∃ o8 k18 k19,World.cell? w8 (Addr.add (aM k1) 2) = some (vS o8 k18 k19)/\rS (ir 24 (Array.mk [vS o7 k16 k17,vS o8 k18 k19])) w8 λv3 w9=>∃ o9 k20 k21,v3 = vS o9 k20 k21/\st1 w9 (Addr.add (aM k3) 2) (vS o9 k20 k21) λw10=>∃ (x1:lP [(4,aD)]),∃ (x2:lN [(4,aD)]),x1 0 w10/\∀ (I1:Nat->Value) (n2:Int) (w11:World),x1 n2 w11->∃ o10 k22 k23,World.cell? w11 (Addr.add (aM k1) 4) = some (vS o10 k22 k23)/\br (decide (n2 < (k22:Int))) (∀ w12,drawn w11 w12->∃ (I2:WP),I2 w12/\∃ o11 k24 k25,(∀ w13,I2 w13->World.cell? w13 (Addr.add (aM k1) 4) = some (vS o11 k24 k25))/\idx o11 k24 n2 3 λa1=>∃ n3,(∀ w14,I2 w14->World.cell? w14 a1 = some (iI n3))/\∃ o12 k26 k27,(∀ w15,I2 w15->World.cell? w15 (Addr.add (aM k1) 4) = some (vS o12 k26 k27))/\idx o12 k26 n2 3 λa2=>∃ n4,(∀ w16,I2 w16->World.cell? w16 (Addr.add a2 2) = some (iI n4))/\new w12 (oC [iI 0,vS none 0 0,iI 0] 81) λk28 w17=>I2 w17/\fV w17 (aM k28) [iI n3,vS none 0 0,iI n4] λw18=>∀ w19,drawn w18 w19->∃ (I3:WP),I3 w19/\∃ o13 k29 k30,(∀ w20,I3 w20->World.cell? w20 (Addr.add (aM k28) 1) = some (vS o13 k29 k30))/\∃ o14 k31 k32,(∀ w21,I3 w21->World.cell? w21 (Addr.add (aM k1) 4) = some (vS o14 k31 k32))/\idx o14 k31 n2 3 λa3=>∃ o15 k33 k34,(∀ w22,I3 w22->World.cell? w22 (Addr.add a3 1) = some (vS o15 k33 k34))/\rS (ir 24 (Array.mk [vS o13 k29 k30,vS o15 k33 k34])) w19 λv4 w23=>∃ o16 k35 k36,v4 = vS o16 k35 k36/\I3 w23/\st1 w23 (Addr.add (aM k28) 1) (vS o16 k35 k36) λw24=>∃ o17 k37 k38,World.cell? w24 (Addr.add (aM k3) 4) = some (vS o17 k37 k38)/\∃ n5 o18 k39 k40 n6,V.rowAt w24 (aM k28) 0 3 = some [iI n5,vS o18 k39 k40,iI n6]/\new w24 (oC [iI n5,vS o18 k39 k40,iI n6] 81) λk41 w25=>rS (ir 25 (Array.mk [vS o17 k37 k38,vS (some (aM k41)) 1 1])) w25 λv5 w26=>∃ o19 k42 k43,v5 = vS o19 k42 k43/\st1 w26 (Addr.add (aM k3) 4) (vS o19 k42 k43) λw27=>ax (n2 + 1)/\x1 (n2 + 1) w27/\x2 (n2 + 1) w27 < x2 n2 w11) (∃ o20 k44 k45 o21 k46 k47 o22 k48 k49 n7 o23 k50 k51,V.rowAt w11 (aM k3) 0 5 = some [vS o20 k44 k45,vS o21 k46 k47,vS o22 k48 k49,iI n7,vS o23 k50 k51]/\fV w11 (aM k2) [vS o20 k44 k45,vS o21 k46 k47,vS o22 k48 k49,iI n7,vS o23 k50 k51] λw28=>∃ o24 k52 k53 o25 k54 k55 o26 k56 k57 n8 o27 k58 k59,V.rowAt w28 (aM k2) 0 5 = some [vS o24 k52 k53,vS o25 k54 k55,vS o26 k56 k57,iI n8,vS o27 k58 k59]/\R (vG [vS o24 k52 k53,vS o25 k54 k55,vS o26 k56 k57,iI n8,vS o27 k58 k59]) w28)):aA Tryz.prog 14 [(.agg #[(.slice a b c),(.slice d e f),(.slice g i j),(.int .i64 k),(.slice l m n)])] w R:=rv Tryz.func14 qe (by kernel_rfl) h
abbrev ud:FuncId:=19
def qg:bn:={ rngs:=[],loops:=[(5,[(6,(.one (.int .i64)))]),(10,[(7,(.one (.int .i64)))]),(15,[(8,(.one (.int .i64)))])],joins:=[(3,[(52,(.one .bool))])],blocks:=[] }
theorem qh {a:Yg} {b c:Nat} {d:Yg} {e f:Nat} {g:Yg} {i j:Nat} {k:Int} {l:Yg} {m n:Nat} {o:Yg} {p q:Nat} {s:Yg} {t u:Nat} {v:Yg} {x y:Nat} {z:Int} {aa:Yg} {ab ac:Nat} {w:World} {R:Value->WP} (h:new w (oC [vS a b c,vS d e f,vS g i j,iI k,vS l m n] 27) λk1 w1=>new w1 (oC [vS o p q,vS s t u,vS v x y,iI z,vS aa ab ac] 27) λk2 w2=>∃ o1 k3 k4,World.cell? w2 (Addr.add (aM k1) 2) = some (vS o1 k3 k4)/\∃ o2 k5 k6,World.cell? w2 (Addr.add (aM k2) 2) = some (vS o2 k5 k6)/\rE 47 [vS o1 k3 k4,vS o2 k5 k6] w2 λv1 w3=>∃ b1,v1 = vB b1/\∃ (x1:lP [(52,nm)]),br (!b1) (x1 true w3) (∃ n1,World.cell? w3 (Addr.add (aM k1) 3) = some (iI n1)/\∃ n2,World.cell? w3 (Addr.add (aM k2) 3) = some (iI n2)/\br (n1 != n2) (x1 true w3) (∃ o3 k7 k8,World.cell? w3 (aM k1) = some (vS o3 k7 k8)/\∃ o4 k9 k10,World.cell? w3 (aM k2) = some (vS o4 k9 k10)/\br ((k7:Int) != (k9:Int)) (x1 true w3) (∃ o5 k11 k12,World.cell? w3 (Addr.add (aM k1) 1) = some (vS o5 k11 k12)/\∃ o6 k13 k14,World.cell? w3 (Addr.add (aM k2) 1) = some (vS o6 k13 k14)/\br ((k11:Int) != (k13:Int)) (x1 true w3) (∃ o7 k15 k16,World.cell? w3 (Addr.add (aM k1) 4) = some (vS o7 k15 k16)/\∃ o8 k17 k18,World.cell? w3 (Addr.add (aM k2) 4) = some (vS o8 k17 k18)/\x1 ((k15:Int) != (k17:Int)) w3))))/\∀ (I1:Nat->Value) (b2:Bool) (w4:World),x1 b2 w4->br b2 (R (vB false) w4) (∃ (x2:lP [(6,aD)]),∃ (x3:lN [(6,aD)]),x2 0 w4/\∀ (I2:Nat->Value) (n3:Int) (w5:World),x2 n3 w5->∃ o9 k19 k20,World.cell? w5 (aM k1) = some (vS o9 k19 k20)/\br (decide (n3 < (k19:Int))) (∀ w6,drawn w5 w6->∃ (I3:WP),I3 w6/\∃ o10 k21 k22,(∀ w7,I3 w7->World.cell? w7 (aM k1) = some (vS o10 k21 k22))/\idx o10 k21 n3 2 λa1=>∃ s1 n4,(∀ w8,I3 w8->V.rowAt w8 a1 0 2 = some [Value.string s1,iI n4])/\∃ o11 k23 k24,(∀ w9,I3 w9->World.cell? w9 (aM k2) = some (vS o11 k23 k24))/\idx o11 k23 n3 2 λa2=>∃ s2 n5,(∀ w10,I3 w10->V.rowAt w10 a2 0 2 = some [Value.string s2,iI n5])/\∃ v2,(∀ w11,I3 w11->Sem.run Proofs.Tryz.prog (iu BinOp.neq 83 (Operand.tmp 64) (Operand.tmp 69) (vG [Value.string s1,iI n4]) (vG [Value.string s2,iI n5])) w11 = Result.ok v2 w11)/\∃ b3,v2 = vB b3/\br b3 (R (vB false) w6) (ax (n3 + 1)/\x2 (n3 + 1) w6/\x3 (n3 + 1) w6 < x3 n3 w5)) (∃ (x4:lP [(7,aD)]),∃ (x5:lN [(7,aD)]),x4 0 w5/\∀ (I4:Nat->Value) (n6:Int) (w12:World),x4 n6 w12->∃ o12 k25 k26,World.cell? w12 (Addr.add (aM k1) 1) = some (vS o12 k25 k26)/\br (decide (n6 < (k25:Int))) (∀ w13,drawn w12 w13->∃ (I5:WP),I5 w13/\∃ o13 k27 k28,(∀ w14,I5 w14->World.cell? w14 (Addr.add (aM k1) 1) = some (vS o13 k27 k28))/\idx o13 k27 n6 1 λa3=>∃ s3,(∀ w15,I5 w15->World.cell? w15 a3 = some (Value.string s3))/\∃ o14 k29 k30,(∀ w16,I5 w16->World.cell? w16 (Addr.add (aM k2) 1) = some (vS o14 k29 k30))/\idx o14 k29 n6 1 λa4=>∃ s4,(∀ w17,I5 w17->World.cell? w17 a4 = some (Value.string s4))/\br (!ByteArray.toList s3 == ByteArray.toList s4) (R (vB false) w13) (ax (n6 + 1)/\x4 (n6 + 1) w13/\x5 (n6 + 1) w13 < x5 n6 w12)) (∃ (x6:lP [(8,aD)]),∃ (x7:lN [(8,aD)]),x6 0 w12/\∀ (I6:Nat->Value) (n7:Int) (w18:World),x6 n7 w18->∃ o15 k31 k32,World.cell? w18 (Addr.add (aM k1) 4) = some (vS o15 k31 k32)/\br (decide (n7 < (k31:Int))) (∃ o16 k33 k34,World.cell? w18 (Addr.add (aM k1) 4) = some (vS o16 k33 k34)/\idx o16 k33 n7 3 λa5=>∃ n8 o17 k35 k36 n9,V.rowAt w18 a5 0 3 = some [iI n8,vS o17 k35 k36,iI n9]/\new w18 (oC [iI 0,vS none 0 0,iI 0] 81) λk37 w19=>fV w19 (aM k37) [iI n8,vS o17 k35 k36,iI n9] λw20=>∃ o18 k38 k39,World.cell? w20 (Addr.add (aM k2) 4) = some (vS o18 k38 k39)/\idx o18 k38 n7 3 λa6=>∃ n10 o19 k40 k41 n11,V.rowAt w20 a6 0 3 = some [iI n10,vS o19 k40 k41,iI n11]/\new w20 (oC [iI 0,vS none 0 0,iI 0] 81) λk42 w21=>fV w21 (aM k42) [iI n10,vS o19 k40 k41,iI n11] λw22=>∃ o20 k43 k44,World.cell? w22 (Addr.add (aM k37) 1) = some (vS o20 k43 k44)/\∃ o21 k45 k46,World.cell? w22 (Addr.add (aM k42) 1) = some (vS o21 k45 k46)/\rE 47 [vS o20 k43 k44,vS o21 k45 k46] w22 λv3 w23=>∃ b4,v3 = vB b4/\br (!b4) (R (vB false) w23) (∃ n12,World.cell? w23 (aM k37) = some (iI n12)/\∃ n13,World.cell? w23 (aM k42) = some (iI n13)/\br (n12 != n13) (R (vB false) w23) (∃ n14,World.cell? w23 (Addr.add (aM k37) 2) = some (iI n14)/\∃ n15,World.cell? w23 (Addr.add (aM k42) 2) = some (iI n15)/\br (n14 != n15) (R (vB false) w23) (ax (n7 + 1)/\x6 (n7 + 1) w23/\x7 (n7 + 1) w23 < x7 n7 w18)))) (R (vB true) w18))))):aA Tryz.prog 19 [(.agg #[(.slice a b c),(.slice d e f),(.slice g i j),(.int .i64 k),(.slice l m n)]),(.agg #[(.slice o p q),(.slice s t u),(.slice v x y),(.int .i64 z),(.slice aa ab ac)])] w R:=rv Tryz.func19 qg (by kernel_rfl) h
abbrev qi:FuncId:=39
def nw:bn:={ rngs:=[],loops:=[],joins:=[(2,[(20,(.one .bool))])],blocks:=[] }
theorem ny {a:Yg} {b c:Nat} {d:Yg} {e f:Nat} {g:Yg} {i j:Nat} {k:Int} {l:Yg} {m n:Nat} {w:World} {R:Value->WP} (h:new w (oC [vS a b c,vS d e f,vS g i j,iI k,vS l m n] 27) λk1 w1=>∃ (x1:lP [(20,nm)]),(∃ o1 k2 k3,World.cell? w1 (Addr.add (aM k1) 1) = some (vS o1 k2 k3)/\br (decide ((k2:Int) < 2)) (x1 true w1) (∃ o2 k4 k5,World.cell? w1 (Addr.add (aM k1) 1) = some (vS o2 k4 k5)/\idx o2 k4 0 1 λa1=>∃ s1,World.cell? w1 a1 = some (Value.string s1)/\br (!ByteArray.toList s1 == ByteArray.toList (ByteArray.mk (Array.mk []))) (x1 true w1) (∃ o3 k6 k7,World.cell? w1 (Addr.add (aM k1) 4) = some (vS o3 k6 k7)/\x1 (decide ((k6:Int) < 2)) w1)))/\∀ (I1:Nat->Value) (b1:Bool) (w2:World),x1 b1 w2->br b1 (R (vB false) w2) (∃ o4 k8 k9,World.cell? w2 (Addr.add (aM k1) 4) = some (vS o4 k8 k9)/\idx o4 k8 0 3 λa2=>∃ n1 o5 k10 k11 n2,V.rowAt w2 a2 0 3 = some [iI n1,vS o5 k10 k11,iI n2]/\new w2 (oC [iI 0,vS none 0 0,iI 0] 81) λk12 w3=>fV w3 (aM k12) [iI n1,vS o5 k10 k11,iI n2] λw4=>∀ w5,drawn w4 w5->∃ (I2:WP),I2 w5/\∃ n3,(∀ w6,I2 w6->World.cell? w6 (aM k12) = some (iI n3))/\∃ o6 k13 k14,(∀ w7,I2 w7->World.cell? w7 (aM k1) = some (vS o6 k13 k14))/\br (n3 != (k13:Int)) (R (vB false) w5) (∃ o7 k15 k16,(∀ w8,I2 w8->World.cell? w8 (Addr.add (aM k12) 1) = some (vS o7 k15 k16))/\br ((k15:Int) != 1) (R (vB false) w5) (∃ o8 k17 k18,(∀ w9,I2 w9->World.cell? w9 (Addr.add (aM k12) 1) = some (vS o8 k17 k18))/\idx o8 k17 0 1 λa3=>∃ n4,(∀ w10,I2 w10->World.cell? w10 a3 = some (iI n4))/\∃ n5,(∀ w11,I2 w11->World.cell? w11 (Addr.add (aM k1) 3) = some (iI n5))/\br (n4 != n5) (R (vB false) w5) (∃ n6,(∀ w12,I2 w12->World.cell? w12 (Addr.add (aM k12) 2) = some (iI n6))/\br (n6 != 0) (R (vB false) w5) (∃ o9 k19 k20 o10 k21 k22 o11 k23 k24 n7 o12 k25 k26,V.rowAt w5 (aM k1) 0 5 = some [vS o9 k19 k20,vS o10 k21 k22,vS o11 k23 k24,iI n7,vS o12 k25 k26]/\rE 75 [vA (Array.mk [vS o9 k19 k20,vS o10 k21 k22,vS o11 k23 k24,iI n7,vS o12 k25 k26]),iI 1] w5 λv1 w13=>∃ b2,v1 = vB b2/\R (vB b2) w13)))))):aA Tryz.prog 39 [(.agg #[(.slice a b c),(.slice d e f),(.slice g i j),(.int .i64 k),(.slice l m n)])] w R:=rv Tryz.func39 nw (by kernel_rfl) h
abbrev nA:FuncId:=47
def lH:bn:={ rngs:=[],loops:=[(4,[(5,(.one (.int .i64)))])],joins:=[],blocks:=[] }
theorem lJ {a:Yg} {b c:Nat} {d:Yg} {e f:Nat} {w:World} {R:Value->WP} (h:br ((b:Int) != (e:Int)) (R (vB false) w) (∃ (x1:lP [(5,aD)]),∃ (x2:lN [(5,aD)]),x1 0 w/\∀ (I1:Nat->Value) (n1:Int) (w1:World),x1 n1 w1->br (decide (n1 < (b:Int))) (∀ w2,drawn w1 w2->∃ (I2:WP),I2 w2/\idx a b n1 1 λa1=>∃ n2,(∀ w3,I2 w3->World.cell? w3 a1 = some (iI n2))/\idx d e n1 1 λa2=>∃ n3,(∀ w4,I2 w4->World.cell? w4 a2 = some (iI n3))/\br (n2 != n3) (R (vB false) w2) (ax (n1 + 1)/\x1 (n1 + 1) w2/\x2 (n1 + 1) w2 < x2 n1 w1)) (R (vB true) w1))):aA Tryz.prog 47 [(.slice a b c),(.slice d e f)] w R:=rv Tryz.func47 lH (by kernel_rfl) h
abbrev CZ:FuncId:=49
def zN:bn:={ rngs:=[],loops:=[],joins:=[(2,[(21,(.one .bool))])],blocks:=[] }
theorem zO {a:Yg} {b c:Nat} {d:Yg} {e f:Nat} {g:Yg} {i j:Nat} {k:Int} {l:Yg} {m n:Nat} {w:World} {R:Value->WP} (h:new w (oC [vS a b c,vS d e f,vS g i j,iI k,vS l m n] 27) λk1 w1=>∃ (x1:lP [(21,nm)]),(∃ o1 k2 k3,World.cell? w1 (Addr.add (aM k1) 1) = some (vS o1 k2 k3)/\br ((k2:Int) == 0) (x1 true w1) (∃ o2 k4 k5,World.cell? w1 (Addr.add (aM k1) 1) = some (vS o2 k4 k5)/\idx o2 k4 0 1 λa1=>∃ s1,World.cell? w1 a1 = some (Value.string s1)/\br (!ByteArray.toList s1 == ByteArray.toList (ByteArray.mk (Array.mk []))) (x1 true w1) (∃ o3 k6 k7 o4 k8 k9 o5 k10 k11 n1 o6 k12 k13,V.rowAt w1 (aM k1) 0 5 = some [vS o3 k6 k7,vS o4 k8 k9,vS o5 k10 k11,iI n1,vS o6 k12 k13]/\rE 89 [vA (Array.mk [vS o3 k6 k7,vS o4 k8 k9,vS o5 k10 k11,iI n1,vS o6 k12 k13]),iI 1] w1 λv1 w2=>∃ b1,v1 = vB b1/\x1 (!b1) w2)))/\∀ (I1:Nat->Value) (b2:Bool) (w3:World),x1 b2 w3->br b2 (R (vB false) w3) (∃ o7 k14 k15 o8 k16 k17 o9 k18 k19 n2 o10 k20 k21,V.rowAt w3 (aM k1) 0 5 = some [vS o7 k14 k15,vS o8 k16 k17,vS o9 k18 k19,iI n2,vS o10 k20 k21]/\rE 90 [vA (Array.mk [vS o7 k14 k15,vS o8 k16 k17,vS o9 k18 k19,iI n2,vS o10 k20 k21]),iI 1] w3 λv2 w4=>∃ o11 k22 k23 b3,v2 = vT (Array.mk [vS o11 k22 k23,vB b3])/\∃ o12 k24 k25,World.cell? w4 (Addr.add (aM k1) 4) = some (vS o12 k24 k25)/\∀ w5,drawn w4 w5->∃ (I2:WP),I2 w5/\br b3 (idx o12 k24 0 3 λa2=>∃ n3,(∀ w6,I2 w6->World.cell? w6 a2 = some (iI n3))/\∃ o13 k26 k27,(∀ w7,I2 w7->World.cell? w7 (aM k1) = some (vS o13 k26 k27))/\br (n3 == (k26:Int)) (idx o12 k24 0 3 λa3=>∃ o14 k28 k29,(∀ w8,I2 w8->World.cell? w8 (Addr.add a3 1) = some (vS o14 k28 k29))/\br ((k28:Int) == 1) (idx o12 k24 0 3 λa4=>∃ o15 k30 k31,(∀ w9,I2 w9->World.cell? w9 (Addr.add a4 1) = some (vS o15 k30 k31))/\idx o15 k30 0 1 λa5=>∃ n4,(∀ w10,I2 w10->World.cell? w10 a5 = some (iI n4))/\∃ n5,(∀ w11,I2 w11->World.cell? w11 (Addr.add (aM k1) 3) = some (iI n5))/\br (n4 == n5) (idx o12 k24 0 3 λa6=>∃ n6,(∀ w12,I2 w12->World.cell? w12 (Addr.add a6 2) = some (iI n6))/\R (vB (n6 == 0)) w5) (R (vB false) w5)) (R (vB false) w5)) (R (vB false) w5)) (R (vB false) w5))):aA Tryz.prog 49 [(.agg #[(.slice a b c),(.slice d e f),(.slice g i j),(.int .i64 k),(.slice l m n)])] w R:=rv Tryz.func49 zN (by kernel_rfl) h
abbrev DL:FuncId:=59
def GD:bn:={ rngs:=[],loops:=[],joins:=[],blocks:=[] }
def Bn (a:Int) (b:Yg) (c d:Nat) (w:World) (R:Value->WP):Prop :=  ax ((if 1024 < if a < 0 then 0 else a then 1024 else if a < 0 then 0 else a) + 63)/\nz 64/\ax (Int.tdiv ((if 1024 < if a < 0 then 0 else a then 1024 else if a < 0 then 0 else a) + 63) 64)/\wi (Int.tdiv ((if 1024 < if a < 0 then 0 else a then 1024 else if a < 0 then 0 else a) + 63) 64) (Int.tdiv ((if 1024 < if a < 0 then 0 else a then 1024 else if a < 0 then 0 else a) + 63) 64) 8/\new w (Obj.cells (Array.mk (jz (Int.toNat (Int.tdiv ((if 1024 < if a < 0 then 0 else a then 1024 else if a < 0 then 0 else a) + 63) 64)) [Value.int IntKind.u64 0])) 241) λk1 w1=>new w1 (oC [vS (some (aM k1)) (Int.toNat (Int.tdiv ((if 1024 < if a < 0 then 0 else a then 1024 else if a < 0 then 0 else a) + 63) 64)) (Int.toNat (Int.tdiv ((if 1024 < if a < 0 then 0 else a then 1024 else if a < 0 then 0 else a) + 63) 64)),iI (if 1024 < if a < 0 then 0 else a then 1024 else if a < 0 then 0 else a)] 192) λk2 w2=>ub Proofs.Tryz.prog Ev 60 [vP (some (aM k2)),vS b c d] w2 λv1 w3=>∃ n1,v1 = iI n1/\R (vP (some (aM k2))) w3
theorem GF (a:Int) (b:Yg) (c d:Nat) (w:World) (R:Value->WP) (h:Bn a b c d w R):aA Tryz.prog 59 [(.int .i64 a),(.slice b c d)] w R:=rv Tryz.func59 GD (by kernel_rfl) h

abbrev rC:FuncId:=60
def yk:bn:={ rngs:=[],loops:=[(3,[(5,(.one (.int .i64))),(10,(.one (.int .i64)))])],joins:=[],blocks:=[] }
theorem ym {a b:Yg} {c d:Nat} {w:World} {R:Value->WP} (h:∃ (x1:lP [(5,aD),(10,aD)]),∃ (x2:lN [(5,aD),(10,aD)]),x1 0 0 w/\∀ (I1:Nat->Value) (n1 n2:Int) (w1:World),x1 n1 n2 w1->br (decide (n2 < (c:Int))) (idx b c n2 1 λa1=>∃ n3,World.cell? w1 a1 = some (iI n3)/\br (decide (0<=n3)) (rE 109 [vP a] w1 λv1 w2=>∃ n4,v1 = iI n4/\br (decide (n3 < n4)) (nn a λa2=>∃ o1 k1 k2,World.cell? w2 a2 = some (vS o1 k1 k2)/\rE 110 [vS o1 k1 k2,iI n3] w2 λv2 w3=>∃ b1,v2 = vB b1/\br (!b1) (nn a λa3=>∃ o2 k3 k4,World.cell? w3 a3 = some (vS o2 k3 k4)/\rE 111 [vS o2 k3 k4,iI n3] w3 λv3 w4=>v3 = vT (Array.mk [])/\ax (n1 + 1)/\ax (n2 + 1)/\x1 (n1 + 1) (n2 + 1) w4/\x2 (n1 + 1) (n2 + 1) w4 < x2 n1 n2 w1) (ax (n2 + 1)/\x1 n1 (n2 + 1) w3/\x2 n1 (n2 + 1) w3 < x2 n1 n2 w1)) (ax (n2 + 1)/\x1 n1 (n2 + 1) w2/\x2 n1 (n2 + 1) w2 < x2 n1 n2 w1)) (ax (n2 + 1)/\x1 n1 (n2 + 1) w1/\x2 n1 (n2 + 1) w1 < x2 n1 n2 w1)) (R (iI n1) w1)):aA Tryz.prog 60 [(.pointer a),(.slice b c d)] w R:=rv Tryz.func60 yk (by kernel_rfl) h
abbrev u6:FuncId:=61
def rD:bn:={ rngs:=[],loops:=[],joins:=[],blocks:=[] }
theorem rG {a:Yg} {w:World} {R:Value->WP} (h:rE 113 [vP a] w λv1 w1=>∃ g1 x1,v1 = Value.func (Fn.func g1) (Array.mk []) (Array.mk x1)/\rE 112 [Value.func (Fn.func g1) (Array.mk []) (Array.mk x1)] w1 λv2 w2=>∃ o1 k1 k2,v2 = vS o1 k1 k2/\R (vS o1 k1 k2) w2):aA Tryz.prog 61 [(.pointer a)] w R:=rv Tryz.func61 rD (by kernel_rfl) h
abbrev oM:FuncId:=72
def mB:bn:={ rngs:=[],loops:=[],joins:=[],blocks:=[] }
theorem mC {a:Yg} {b c:Nat} {d:Yg} {e f:Nat} {g:Yg} {i j:Nat} {k:Int} {l:Yg} {m n:Nat} {w:World} {R:Value->WP} (h:new w (oC [vS a b c,vS d e f,vS g i j,iI k,vS l m n] 27) λk1 w1=>∃ o1 k2 k3,World.cell? w1 (aM k1) = some (vS o1 k2 k3)/\∃ o2 k4 k5,World.cell? w1 (Addr.add (aM k1) 1) = some (vS o2 k4 k5)/\ax ((k2:Int) + (k4:Int))/\R (iI ((k2:Int) + (k4:Int))) w1):aA Tryz.prog 72 [(.agg #[(.slice a b c),(.slice d e f),(.slice g i j),(.int .i64 k),(.slice l m n)])] w R:=rv Tryz.func72 mB (by kernel_rfl) h
abbrev ue:FuncId:=75
def qj:bn:={ rngs:=[],loops:=[],joins:=[(2,[(43,(.one .bool))])],blocks:=[] }
theorem qk {a:Yg} {b c:Nat} {d:Yg} {e f:Nat} {g:Yg} {i j:Nat} {k:Int} {l:Yg} {m n:Nat} {o:Int} {w:World} {R:Value->WP} (h:new w (oC [vS a b c,vS d e f,vS g i j,iI k,vS l m n] 27) λk1 w1=>∃ (x1:lP [(43,nm)]),(∃ o1 k2 k3,World.cell? w1 (Addr.add (aM k1) 1) = some (vS o1 k2 k3)/\ax (64 + o)/\br (decide (64 + o < (k2:Int))) (x1 true w1) (∃ o2 k4 k5,World.cell? w1 (aM k1) = some (vS o2 k4 k5)/\br (decide (65 < (k4:Int))) (x1 true w1) (∃ o3 k6 k7,World.cell? w1 (Addr.add (aM k1) 4) = some (vS o3 k6 k7)/\ax (96 + o)/\br (decide (96 + o < (k6:Int))) (x1 true w1) (∃ o4 k8 k9,World.cell? w1 (Addr.add (aM k1) 4) = some (vS o4 k8 k9)/\ax (1 + o)/\br (decide ((k8:Int) < 1 + o)) (x1 true w1) (∃ o5 k10 k11,World.cell? w1 (Addr.add (aM k1) 2) = some (vS o5 k10 k11)/\x1 (decide (64 < (k10:Int))) w1)))))/\∀ (I1:Nat->Value) (b1:Bool) (w2:World),x1 b1 w2->br b1 (R (vB false) w2) (∃ o6 k12 k13,World.cell? w2 (aM k1) = some (vS o6 k12 k13)/\ax ((k12:Int) - 1)/\∃ o7 k14 k15,World.cell? w2 (Addr.add (aM k1) 1) = some (vS o7 k14 k15)/\ax ((k12:Int) - 1 + (k14:Int))/\ax ((k12:Int) - 1 + (k14:Int) - o)/\br (decide (64 < (k12:Int) - 1 + (k14:Int) - o)) (R (vB false) w2) (∃ o8 k16 k17 o9 k18 k19 o10 k20 k21 n1 o11 k22 k23,V.rowAt w2 (aM k1) 0 5 = some [vS o8 k16 k17,vS o9 k18 k19,vS o10 k20 k21,iI n1,vS o11 k22 k23]/\rE 124 [vA (Array.mk [vS o8 k16 k17,vS o9 k18 k19,vS o10 k20 k21,iI n1,vS o11 k22 k23])] w2 λv1 w3=>∃ b2,v1 = vB b2/\br (!b2) (R (vB false) w3) (∃ o12 k24 k25 o13 k26 k27 o14 k28 k29 n2 o15 k30 k31,V.rowAt w3 (aM k1) 0 5 = some [vS o12 k24 k25,vS o13 k26 k27,vS o14 k28 k29,iI n2,vS o15 k30 k31]/\rE 125 [vA (Array.mk [vS o12 k24 k25,vS o13 k26 k27,vS o14 k28 k29,iI n2,vS o15 k30 k31])] w3 λv2 w4=>∃ b3,v2 = vB b3/\∃ o16 k32 k33 o17 k34 k35 o18 k36 k37 n3 o19 k38 k39,V.rowAt w4 (aM k1) 0 5 = some [vS o16 k32 k33,vS o17 k34 k35,vS o18 k36 k37,iI n3,vS o19 k38 k39]/\rE 126 [vA (Array.mk [vS o16 k32 k33,vS o17 k34 k35,vS o18 k36 k37,iI n3,vS o19 k38 k39]),iI o] w4 λv3 w5=>∃ b4,v3 = vB b4/\∃ o20 k40 k41 o21 k42 k43 o22 k44 k45 n4 o23 k46 k47,V.rowAt w5 (aM k1) 0 5 = some [vS o20 k40 k41,vS o21 k42 k43,vS o22 k44 k45,iI n4,vS o23 k46 k47]/\∃ o24 k48 k49,World.cell? w5 (aM k1) = some (vS o24 k48 k49)/\ax ((k48:Int) + o)/\rE 127 [vA (Array.mk [vS o20 k40 k41,vS o21 k42 k43,vS o22 k44 k45,iI n4,vS o23 k46 k47]),iI o,iI ((k48:Int) + o)] w5 λv4 w6=>∃ b5,v4 = vB b5/\∃ o25 k50 k51 o26 k52 k53 o27 k54 k55 n5 o28 k56 k57,V.rowAt w6 (aM k1) 0 5 = some [vS o25 k50 k51,vS o26 k52 k53,vS o27 k54 k55,iI n5,vS o28 k56 k57]/\rE 128 [vA (Array.mk [vS o25 k50 k51,vS o26 k52 k53,vS o27 k54 k55,iI n5,vS o28 k56 k57]),iI o] w6 λv5 w7=>∃ o29 k58 k59,v5 = vS o29 k58 k59/\∀ w8,drawn w7 w8->∃ (I2:WP),I2 w8/\br b3 (br b4 (br b5 (∃ o30 k60 k61,(∀ w9,I2 w9->World.cell? w9 (Addr.add (aM k1) 1) = some (vS o30 k60 k61))/\ax ((k60:Int) - o)/\br ((k58:Int) == (k60:Int) - o) (∃ n6,(∀ w10,I2 w10->World.cell? w10 (Addr.add (aM k1) 3) = some (iI n6))/\∃ o31 k62 k63,(∀ w11,I2 w11->World.cell? w11 (aM k1) = some (vS o31 k62 k63))/\ax ((k62:Int) + o)/\br (decide ((k62:Int) + o<=n6)) (∃ n7,(∀ w12,I2 w12->World.cell? w12 (Addr.add (aM k1) 3) = some (iI n7))/\∃ o32 k64 k65 o33 k66 k67 o34 k68 k69 n8 o35 k70 k71,(∀ w13,I2 w13->V.rowAt w13 (aM k1) 0 5 = some [vS o32 k64 k65,vS o33 k66 k67,vS o34 k68 k69,iI n8,vS o35 k70 k71])/\rE 72 [vA (Array.mk [vS o32 k64 k65,vS o33 k66 k67,vS o34 k68 k69,iI n8,vS o35 k70 k71])] w8 λv6 w14=>∃ n9,v6 = iI n9/\I2 w14/\R (vB (decide (n7 < n9))) w14) (R (vB false) w8)) (R (vB false) w8)) (R (vB false) w8)) (R (vB false) w8)) (R (vB false) w8))))):aA Tryz.prog 75 [(.agg #[(.slice a b c),(.slice d e f),(.slice g i j),(.int .i64 k),(.slice l m n)]),(.int .i64 o)] w R:=rv Tryz.func75 qj (by kernel_rfl) h
abbrev fJ:FuncId:=86
def fb:bn:={ rngs:=[],loops:=[],joins:=[],blocks:=[] }
theorem fe {a:Yg} {b c:Nat} {d e:Int} {w:World} {R:Value->WP} (h:new w (oC [iI d,iI e] 104) λk1 w1=>∃ n1 n2,V.rowAt w1 (aM k1) 0 2 = some [iI n1,iI n2]/\rE 136 [vS a b c,vA (Array.mk [iI n1,iI n2])] w1 λv1 w2=>∃ n3,v1 = iI n3/\R (vB (decide (0<=n3))) w2):aA Tryz.prog 86 [(.slice a b c),(.agg #[(.int .i64 d),(.int .i64 e)])] w R:=rv Tryz.func86 fb (by kernel_rfl) h
abbrev Bo:FuncId:=89
def yn:bn:={ rngs:=[],loops:=[(6,[(5,(.one .slice)),(63,(.one (.int .i64)))]),(14,[(96,(.one (.int .i64)))])],joins:=[(2,[(57,(.one .bool))]),(9,[(83,(.one .bool))])],blocks:=[] }
theorem yp {a:Yg} {b c:Nat} {d:Yg} {e f:Nat} {g:Yg} {i j:Nat} {k:Int} {l:Yg} {m n:Nat} {o:Int} {w:World} {R:Value->WP} (h:new w (oC [vS a b c,vS d e f,vS g i j,iI k,vS l m n] 27) λk1 w1=>∃ (x1:lP [(57,nm)]),(∃ o1 k2 k3,World.cell? w1 (aM k1) = some (vS o1 k2 k3)/\br ((k2:Int) == 0) (x1 true w1) (∃ o2 k4 k5,World.cell? w1 (aM k1) = some (vS o2 k4 k5)/\idx o2 k4 0 2 λa1=>∃ s1 n1,V.rowAt w1 a1 0 2 = some [Value.string s1,iI n1]/\∃ v1,Sem.run Proofs.Tryz.prog (iu BinOp.neq 83 (Operand.tmp 20) (Operand.tmp 21) (vG [Value.string s1,iI n1]) (vG [Value.string (ByteArray.mk (Array.mk [])),iI 0])) w1 = Result.ok v1 w1/\∃ b1,v1 = vB b1/\br b1 (x1 true w1) (∃ o3 k6 k7,World.cell? w1 (Addr.add (aM k1) 1) = some (vS o3 k6 k7)/\br (decide ((k6:Int)<=o)) (x1 true w1) (∃ o4 k8 k9,World.cell? w1 (aM k1) = some (vS o4 k8 k9)/\br (decide (65 < (k8:Int))) (x1 true w1) (∃ o5 k10 k11,World.cell? w1 (Addr.add (aM k1) 1) = some (vS o5 k10 k11)/\ax (64 + o)/\br (decide (64 + o < (k10:Int))) (x1 true w1) (∃ o6 k12 k13,World.cell? w1 (aM k1) = some (vS o6 k12 k13)/\ax ((k12:Int) - 1)/\∃ o7 k14 k15,World.cell? w1 (Addr.add (aM k1) 1) = some (vS o7 k14 k15)/\ax ((k12:Int) - 1 + (k14:Int))/\ax ((k12:Int) - 1 + (k14:Int) - o)/\x1 (decide (64 < (k12:Int) - 1 + (k14:Int) - o)) w1))))))/\∀ (I1:Nat->Value) (b2:Bool) (w2:World),x1 b2 w2->br b2 (R (vB false) w2) (new w2 (Obj.map (Array.mk []) 0) λk16 w3=>∃ o8 k17 k18,World.cell? w3 (aM k1) = some (vS o8 k17 k18)/\uc o8 k17 k18 (some 1) none none 2 λ(o9:Yg) (k19 k20:Nat)=>∃ (x2:lP [(5,gD),(63,aD)]),∃ (x3:lN [(5,gD),(63,aD)]),x2 none 0 0 0 w3/\∀ (I2:Nat->Value) (o10:Yg) (k21 k22:Nat) (n2:Int) (w4:World),x2 o10 k21 k22 n2 w4->br (decide (n2 < (k19:Int))) (idx o9 k19 n2 2 λa2=>∃ s2 n3,V.rowAt w4 a2 0 2 = some [Value.string s2,iI n3]/\new w4 (oC [Value.string (ByteArray.mk (Array.mk [])),iI 0] 83) λk23 w5=>fV w5 (aM k23) [Value.string s2,iI n3] λw6=>∃ (x4:lP [(83,nm)]),(∃ s3,World.cell? w6 (aM k23) = some (Value.string s3)/\rE 138 [Value.string s3] w6 λv2 w7=>∃ b3,v2 = vB b3/\br (!b3) (x4 true w7) (∃ n4,World.cell? w7 (Addr.add (aM k23) 1) = some (iI n4)/\br (decide (n4 < 0)) (x4 true w7) (∃ n5,World.cell? w7 (Addr.add (aM k23) 1) = some (iI n5)/\∃ o11 k24 k25,World.cell? w7 (Addr.add (aM k1) 2) = some (vS o11 k24 k25)/\x4 (decide ((k24:Int) < n5)) w7)))/\∀ (I3:Nat->Value) (b4:Bool) (w8:World),x4 b4 w8->br b4 (R (vB false) w8) (∃ s4,World.cell? w8 (aM k23) = some (Value.string s4)/\new w8 (oC [Value.string s4] 9) λk26 w9=>rS (ir 23 (Array.mk [vS o10 k21 k22,vS (some (aM k26)) 1 1])) w9 λv3 w10=>∃ o12 k27 k28,v3 = vS o12 k27 k28/\∃ n6,World.cell? w10 (Addr.add (aM k23) 1) = some (iI n6)/\aX Proofs.Tryz.prog (Instr.mapUpdate 226 (Value.map (some k16)) (iI n6) (iI 1)) w10 λ(x5:Unit) (w11:World)=>ax (n2 + 1)/\x2 o12 k27 k28 (n2 + 1) w11/\x3 o12 k27 k28 (n2 + 1) w11 < x3 o10 k21 k22 n2 w4)) (∃ o13 k29 k30,World.cell? w4 (Addr.add (aM k1) 2) = some (vS o13 k29 k30)/\∃ (x6:lP [(96,aD)]),∃ (x7:lN [(96,aD)]),x6 0 w4/\∀ (I4:Nat->Value) (n7:Int) (w12:World),x6 n7 w12->br (decide (n7 < (k29:Int))) (idx o13 k29 n7 1 λa3=>∃ n8,World.cell? w12 a3 = some (iI n8)/\br (decide (n8 < 1)) (R (vB false) w12) (br (decide (3 < n8)) (R (vB false) w12) (ax (n7 + 1)/\aX Proofs.Tryz.prog (Instr.lookup 226 (Value.map (some k16)) (iI (n7 + 1)) false) w12 λv4 w13=>∃ n9,v4 = iI n9/\br (n9 == 0) (R (vB false) w13) (ax (n7 + 1)/\x6 (n7 + 1) w13/\x7 (n7 + 1) w13 < x7 n7 w12)))) (∃ o14 k31 k32,World.cell? w12 (Addr.add (aM k1) 1) = some (vS o14 k31 k32)/\uc o14 k31 k32 (some o) none none 1 λ(o15:Yg) (k33 k34:Nat)=>rE 139 [vS o10 k21 k22] w12 λv5 w14=>∃ b5,v5 = vB b5/\br b5 (rE 139 [vS o15 k33 k34] w14 λv6 w15=>∃ b6,v6 = vB b6/\br b6 (rE 140 [vS o15 k33 k34,Value.func (Fn.func 141) (Array.mk []) (Array.mk [])] w15 λv7 w16=>∃ b7,v7 = vB b7/\R (vB !b7) w16) (R (vB false) w15)) (R (vB false) w14))))):aA Tryz.prog 89 [(.agg #[(.slice a b c),(.slice d e f),(.slice g i j),(.int .i64 k),(.slice l m n)]),(.int .i64 o)] w R:=rv Tryz.func89 yn (by kernel_rfl) h
abbrev u7:FuncId:=90
def rJ:bn:={ rngs:=[],loops:=[(7,[(8,(.one .slice)),(43,(.one (.int .i64)))]),(12,[(73,(.one (.int .i64)))])],joins:=[(2,[(25,(.one .bool))]),(10,[(69,(.one .bool))])],blocks:=[] }
theorem rK {a:Yg} {b c:Nat} {d:Yg} {e f:Nat} {g:Yg} {i j:Nat} {k:Int} {l:Yg} {m n:Nat} {o:Int} {w:World} {R:Value->WP} (h:new w (oC [vS a b c,vS d e f,vS g i j,iI k,vS l m n] 27) λk1 w1=>∃ (x1:lP [(25,nm)]),(∃ o1 k2 k3,World.cell? w1 (Addr.add (aM k1) 4) = some (vS o1 k2 k3)/\br (decide ((k2:Int)<=o)) (x1 true w1) (∃ o2 k4 k5,World.cell? w1 (Addr.add (aM k1) 4) = some (vS o2 k4 k5)/\ax (96 + o)/\x1 (decide (96 + o < (k4:Int))) w1))/\∀ (I1:Nat->Value) (b1:Bool) (w2:World),x1 b1 w2->br b1 (R (vT (Array.mk [vS none 0 0,vB false])) w2) (∃ o3 k6 k7,World.cell? w2 (aM k1) = some (vS o3 k6 k7)/\∃ o4 k8 k9,World.cell? w2 (Addr.add (aM k1) 1) = some (vS o4 k8 k9)/\ax ((k6:Int) + (k8:Int))/\∃ o5 k10 k11,World.cell? w2 (aM k1) = some (vS o5 k10 k11)/\ax ((k10:Int) + o)/\∃ o6 k12 k13,World.cell? w2 (Addr.add (aM k1) 4) = some (vS o6 k12 k13)/\uc o6 k12 k13 (some o) none none 3 λ(o7:Yg) (k14 k15:Nat)=>∃ (x2:lP [(8,gD),(43,aD)]),∃ (x3:lN [(8,gD),(43,aD)]),x2 none 0 0 0 w2/\∀ (I2:Nat->Value) (o8:Yg) (k16 k17:Nat) (n1:Int) (w3:World),x2 o8 k16 k17 n1 w3->br (decide (n1 < (k14:Int))) (idx o7 k14 n1 3 λa1=>∃ n2 o9 k18 k19 n3,V.rowAt w3 a1 0 3 = some [iI n2,vS o9 k18 k19,iI n3]/\new w3 (oC [iI 0,vS none 0 0,iI 0] 81) λk20 w4=>fV w4 (aM k20) [iI n2,vS o9 k18 k19,iI n3] λw5=>∃ (x4:lP [(69,nm)]),(∃ n4,World.cell? w5 (aM k20) = some (iI n4)/\br (decide (n4 < (k10:Int) + o)) (x4 true w5) (∃ n5,World.cell? w5 (aM k20) = some (iI n5)/\br (decide ((k6:Int) + (k8:Int)<=n5)) (x4 true w5) (∃ n6,World.cell? w5 (Addr.add (aM k20) 2) = some (iI n6)/\br (decide (n6 < 0)) (x4 true w5) (∃ n7,World.cell? w5 (Addr.add (aM k20) 2) = some (iI n7)/\∃ o10 k21 k22,World.cell? w5 (Addr.add (aM k1) 2) = some (vS o10 k21 k22)/\x4 (decide ((k21:Int) < n7)) w5))))/\∀ (I3:Nat->Value) (b2:Bool) (w6:World),x4 b2 w6->br b2 (R (vT (Array.mk [vS none 0 0,vB false])) w6) (∃ o11 k23 k24,World.cell? w6 (Addr.add (aM k20) 1) = some (vS o11 k23 k24)/\∃ (x5:lP [(73,aD)]),∃ (x6:lN [(73,aD)]),x5 0 w6/\∀ (I4:Nat->Value) (n8:Int) (w7:World),x5 n8 w7->br (decide (n8 < (k23:Int))) (idx o11 k23 n8 1 λa2=>∃ n9,World.cell? w7 a2 = some (iI n9)/\br (decide (n9 < 1)) (R (vT (Array.mk [vS none 0 0,vB false])) w7) (br (decide ((k6:Int) + (k8:Int)<=n9)) (R (vT (Array.mk [vS none 0 0,vB false])) w7) (∃ o12 k25 k26,World.cell? w7 (aM k1) = some (vS o12 k25 k26)/\br (decide ((k25:Int)<=n9)) (br (decide (n9 < (k10:Int) + o)) (R (vT (Array.mk [vS none 0 0,vB false])) w7) (ax (n8 + 1)/\x5 (n8 + 1) w7/\x6 (n8 + 1) w7 < x6 n8 w7)) (ax (n8 + 1)/\x5 (n8 + 1) w7/\x6 (n8 + 1) w7 < x6 n8 w7)))) (∃ n10,World.cell? w7 (aM k20) = some (iI n10)/\rE 143 [vS o8 k16 k17,iI n10] w7 λv1 w8=>∃ b3,v1 = vB b3/\br (!b3) (∃ n11,World.cell? w8 (aM k20) = some (iI n11)/\new w8 (oC [iI n11] 3) λk27 w9=>rS (ir 24 (Array.mk [vS o8 k16 k17,vS (some (aM k27)) 1 1])) w9 λv2 w10=>∃ o13 k28 k29,v2 = vS o13 k28 k29/\ax (n1 + 1)/\x2 o13 k28 k29 (n1 + 1) w10/\x3 o13 k28 k29 (n1 + 1) w10 < x3 o8 k16 k17 n1 w3) (ax (n1 + 1)/\x2 o8 k16 k17 (n1 + 1) w8/\x3 o8 k16 k17 (n1 + 1) w8 < x3 o8 k16 k17 n1 w3)))) (∀ w11,drawn w3 w11->∃ (I5:WP),I5 w11/\∃ o14 k30 k31,(∀ w12,I5 w12->World.cell? w12 (Addr.add (aM k1) 1) = some (vS o14 k30 k31))/\ax ((k30:Int) - o)/\br ((k16:Int) == (k30:Int) - o) (∃ n12,(∀ w13,I5 w13->World.cell? w13 (Addr.add (aM k1) 3) = some (iI n12))/\br (decide ((k10:Int) + o<=n12)) (∃ n13,(∀ w14,I5 w14->World.cell? w14 (Addr.add (aM k1) 3) = some (iI n13))/\R (vT (Array.mk [vS o8 k16 k17,vB (decide (n13 < (k6:Int) + (k8:Int)))])) w11) (R (vT (Array.mk [vS o8 k16 k17,vB false])) w11)) (R (vT (Array.mk [vS o8 k16 k17,vB false])) w11)))):aA Tryz.prog 90 [(.agg #[(.slice a b c),(.slice d e f),(.slice g i j),(.int .i64 k),(.slice l m n)]),(.int .i64 o)] w R:=rv Tryz.func90 rJ (by kernel_rfl) h
abbrev zP:FuncId:=109
def wE:bn:={ rngs:=[],loops:=[],joins:=[],blocks:=[] }
theorem wF {a:Yg} {w:World} {R:Value->WP} (h:br (Option.isNone a) (R (iI 0) w) (nn a λa1=>∃ n1,World.cell? w (Addr.add a1 1) = some (iI n1)/\R (iI n1) w)):aA Tryz.prog 109 [(.pointer a)] w R:=rv Tryz.func109 wE (by kernel_rfl) h
abbrev yq:FuncId:=110
def u9:bn:={ rngs:=[],loops:=[],joins:=[],blocks:=[] }
theorem u_ {a:Yg} {b c:Nat} {d:Int} {w:World} {R:Value->WP} (h:nz 64/\ax (Int.tdiv d 64)/\idx a b (Int.tdiv d 64) 1 λa1=>∃ n1,World.cell? w a1 = some (Value.int IntKind.u64 n1)/\nz 64/\ns (Int.tmod d 64)/\R (vB (kL BinOp.and IntKind.u64 (bH IntKind.u64 n1 (Int.tmod d 64)) 1 == 1)) w):aA Tryz.prog 110 [(.slice a b c),(.int .i64 d)] w R:=rv Tryz.func110 u9 (by kernel_rfl) h
abbrev yr:FuncId:=111
def va:bn:={ rngs:=[],loops:=[],joins:=[],blocks:=[] }
theorem vb {a:Yg} {b c:Nat} {d:Int} {w:World} {R:Value->WP} (h:∀ w1,drawn w w1->∃ (I1:WP),I1 w1/\nz 64/\ax (Int.tdiv d 64)/\idx a b (Int.tdiv d 64) 1 λa1=>∃ n1,(∀ w2,I1 w2->World.cell? w2 a1 = some (Value.int IntKind.u64 n1))/\nz 64/\ns (Int.tmod d 64)/\idx a b (Int.tdiv d 64) 1 λa2=>st1 w1 a2 (Value.int IntKind.u64 (kL BinOp.or IntKind.u64 n1 (MN IntKind.u64 1 (Int.tmod d 64)))) λw3=>R (vT (Array.mk [])) w3):aA Tryz.prog 111 [(.slice a b c),(.int .i64 d)] w R:=rv Tryz.func111 va (by kernel_rfl) h
abbrev ql:FuncId:=112
def nB:bn:={ rngs:=[],loops:=[],joins:=[],blocks:=[] }
theorem nC {a:FuncId} {b:List Value} {w:World} {R:Value->WP} (h:rE 165 [vS none 0 0,Value.func (Fn.func a) (Array.mk []) (Array.mk b)] w λv1 w1=>∃ o1 k1 k2,v1 = vS o1 k1 k2/\R (vS o1 k1 k2) w1):aA Tryz.prog 112 [(.func (.func a) #[] ⟨b⟩)] w R:=rv Tryz.func112 nB (by kernel_rfl) h
abbrev Bp:FuncId:=113
def yu:bn:={ rngs:=[],loops:=[],joins:=[],blocks:=[] }
theorem yv {a:Yg} {w:World} {R:Value->WP} (h:new w (oC [vS none 0 0] 190) λk1 w1=>br (!Option.isNone a) (nn a λa1=>∃ o1 k2 k3,World.cell? w1 a1 = some (vS o1 k2 k3)/\rE 166 [vS o1 k2 k3] w1 λv1 w2=>∃ o2 k4 k5,v1 = vS o2 k4 k5/\st1 w2 (aM k1) (vS o2 k4 k5) λw3=>R (Value.func (Fn.func 167) (Array.mk []) (Array.mk [vP (some (aM k1))])) w3) (R (Value.func (Fn.func 167) (Array.mk []) (Array.mk [vP (some (aM k1))])) w1)):aA Tryz.prog 113 [(.pointer a)] w R:=rv Tryz.func113 yu (by kernel_rfl) h
abbrev nD:FuncId:=124
def lK:bn:={ rngs:=[],loops:=[(4,[(3,(.one (.int .i64)))]),(10,[(5,(.one (.int .i64)))])],joins:=[(2,[(25,(.one .bool))]),(8,[(62,(.one .bool))])],blocks:=[] }
theorem lL {a:Yg} {b c:Nat} {d:Yg} {e f:Nat} {g:Yg} {i j:Nat} {k:Int} {l:Yg} {m n:Nat} {w:World} {R:Value->WP} (h:new w (oC [vS a b c,vS d e f,vS g i j,iI k,vS l m n] 27) λk1 w1=>∃ (x1:lP [(25,nm)]),(∃ o1 k2 k3,World.cell? w1 (aM k1) = some (vS o1 k2 k3)/\br ((k2:Int) == 0) (x1 true w1) (∃ o2 k4 k5,World.cell? w1 (aM k1) = some (vS o2 k4 k5)/\idx o2 k4 0 2 λa1=>∃ s1,World.cell? w1 a1 = some (Value.string s1)/\br (!ByteArray.toList s1 == ByteArray.toList (ByteArray.mk (Array.mk []))) (x1 true w1) (∃ o3 k6 k7,World.cell? w1 (aM k1) = some (vS o3 k6 k7)/\idx o3 k6 0 2 λa2=>∃ n1,World.cell? w1 (Addr.add a2 1) = some (iI n1)/\x1 (n1 != 0) w1)))/\∀ (I1:Nat->Value) (b1:Bool) (w2:World),x1 b1 w2->br b1 (R (vB false) w2) (∃ (x2:lP [(3,aD)]),∃ (x3:lN [(3,aD)]),x2 1 w2/\∀ (I2:Nat->Value) (n2:Int) (w3:World),x2 n2 w3->∃ o4 k8 k9,World.cell? w3 (aM k1) = some (vS o4 k8 k9)/\br (decide (n2 < (k8:Int))) (∃ o5 k10 k11,World.cell? w3 (aM k1) = some (vS o5 k10 k11)/\idx o5 k10 n2 2 λa3=>∃ s2,World.cell? w3 a3 = some (Value.string s2)/\rE 178 [Value.string s2] w3 λv1 w4=>∃ b2,v1 = vB b2/\∃ (x4:lP [(62,nm)]),(∀ w5,drawn w4 w5->∃ (I3:WP),I3 w5/\br (!b2) (x4 true w5) (∃ o6 k12 k13,(∀ w6,I3 w6->World.cell? w6 (aM k1) = some (vS o6 k12 k13))/\idx o6 k12 n2 2 λa4=>∃ n3,(∀ w7,I3 w7->World.cell? w7 (Addr.add a4 1) = some (iI n3))/\br (decide (n3 < 0)) (x4 true w5) (∃ o7 k14 k15,(∀ w8,I3 w8->World.cell? w8 (aM k1) = some (vS o7 k14 k15))/\idx o7 k14 n2 2 λa5=>∃ n4,(∀ w9,I3 w9->World.cell? w9 (Addr.add a5 1) = some (iI n4))/\∃ o8 k16 k17,(∀ w10,I3 w10->World.cell? w10 (Addr.add (aM k1) 2) = some (vS o8 k16 k17))/\x4 (decide ((k16:Int) < n4)) w5)))/\∀ (I4:Nat->Value) (b3:Bool) (w11:World),x4 b3 w11->br b3 (R (vB false) w11) (∃ (x5:lP [(5,aD)]),∃ (x6:lN [(5,aD)]),x5 1 w11/\∀ (I5:Nat->Value) (n5:Int) (w12:World),x5 n5 w12->br (decide (n5 < n2)) (∀ w13,drawn w12 w13->∃ (I6:WP),I6 w13/\∃ o9 k18 k19,(∀ w14,I6 w14->World.cell? w14 (aM k1) = some (vS o9 k18 k19))/\idx o9 k18 n5 2 λa6=>∃ s3,(∀ w15,I6 w15->World.cell? w15 a6 = some (Value.string s3))/\∃ o10 k20 k21,(∀ w16,I6 w16->World.cell? w16 (aM k1) = some (vS o10 k20 k21))/\idx o10 k20 n2 2 λa7=>∃ s4,(∀ w17,I6 w17->World.cell? w17 a7 = some (Value.string s4))/\br (ByteArray.toList s3 == ByteArray.toList s4) (R (vB false) w13) (ax (n5 + 1)/\x5 (n5 + 1) w13/\x6 (n5 + 1) w13 < x6 n5 w12)) (ax (n2 + 1)/\x2 (n2 + 1) w12/\x3 (n2 + 1) w12 < x3 n2 w3))) (R (vB true) w3))):aA Tryz.prog 124 [(.agg #[(.slice a b c),(.slice d e f),(.slice g i j),(.int .i64 k),(.slice l m n)])] w R:=rv Tryz.func124 lK (by kernel_rfl) h
abbrev mD:FuncId:=125
def kN:bn:={ rngs:=[],loops:=[(2,[(3,(.one (.int .i64)))]),(6,[(4,(.one .bool)),(5,(.one (.int .i64)))])],joins:=[],blocks:=[] }
theorem kO {a:Yg} {b c:Nat} {d:Yg} {e f:Nat} {g:Yg} {i j:Nat} {k:Int} {l:Yg} {m n:Nat} {w:World} {R:Value->WP} (h:new w (oC [vS a b c,vS d e f,vS g i j,iI k,vS l m n] 27) λk1 w1=>∃ (x1:lP [(3,aD)]),∃ (x2:lN [(3,aD)]),x1 0 w1/\∀ (I1:Nat->Value) (n1:Int) (w2:World),x1 n1 w2->∃ o1 k2 k3,World.cell? w2 (Addr.add (aM k1) 2) = some (vS o1 k2 k3)/\br (decide (n1 < (k2:Int))) (∃ (x3:lP [(4,nm),(5,aD)]),∃ (x4:lN [(4,nm),(5,aD)]),x3 false 0 w2/\∀ (I2:Nat->Value) (b1:Bool) (n2:Int) (w3:World),x3 b1 n2 w3->∃ o2 k4 k5,World.cell? w3 (aM k1) = some (vS o2 k4 k5)/\br (decide (n2 < (k4:Int))) (br b1 (ax (n2 + 1)/\x3 true (n2 + 1) w3/\x4 true (n2 + 1) w3 < x4 b1 n2 w3) (∃ o3 k6 k7,World.cell? w3 (aM k1) = some (vS o3 k6 k7)/\idx o3 k6 n2 2 λa1=>∃ n3,World.cell? w3 (Addr.add a1 1) = some (iI n3)/\ax (n1 + 1)/\ax (n2 + 1)/\x3 (n3 == n1 + 1) (n2 + 1) w3/\x4 (n3 == n1 + 1) (n2 + 1) w3 < x4 b1 n2 w3)) (br (!b1) (R (vB false) w3) (∃ o4 k8 k9,World.cell? w3 (Addr.add (aM k1) 2) = some (vS o4 k8 k9)/\idx o4 k8 n1 1 λa2=>∃ n4,World.cell? w3 a2 = some (iI n4)/\br (decide (n4 < 1)) (R (vB false) w3) (∃ o5 k10 k11,World.cell? w3 (Addr.add (aM k1) 2) = some (vS o5 k10 k11)/\idx o5 k10 n1 1 λa3=>∃ n5,World.cell? w3 a3 = some (iI n5)/\br (decide (3 < n5)) (R (vB false) w3) (ax (n1 + 1)/\x1 (n1 + 1) w3/\x2 (n1 + 1) w3 < x2 n1 w2))))) (R (vB true) w2)):aA Tryz.prog 125 [(.agg #[(.slice a b c),(.slice d e f),(.slice g i j),(.int .i64 k),(.slice l m n)])] w R:=rv Tryz.func125 kN (by kernel_rfl) h
abbrev oN:FuncId:=126
def mE:bn:={ rngs:=[],loops:=[(2,[(5,(.one (.int .i64)))]),(8,[(7,(.one (.int .i64)))])],joins:=[],blocks:=[] }
theorem mF {a:Yg} {b c:Nat} {d:Yg} {e f:Nat} {g:Yg} {i j:Nat} {k:Int} {l:Yg} {m n:Nat} {o:Int} {w:World} {R:Value->WP} (h:new w (oC [vS a b c,vS d e f,vS g i j,iI k,vS l m n] 27) λk1 w1=>∃ (x1:lP [(5,aD)]),∃ (x2:lN [(5,aD)]),x1 o w1/\∀ (I1:Nat->Value) (n1:Int) (w2:World),x1 n1 w2->∃ o1 k2 k3,World.cell? w2 (Addr.add (aM k1) 1) = some (vS o1 k2 k3)/\br (decide (n1 < (k2:Int))) (∃ o2 k4 k5,World.cell? w2 (Addr.add (aM k1) 1) = some (vS o2 k4 k5)/\idx o2 k4 n1 1 λa1=>∃ s1,World.cell? w2 a1 = some (Value.string s1)/\rE 179 [Value.string s1] w2 λv1 w3=>∃ b1,v1 = vB b1/\br (!b1) (R (vB false) w3) (∃ (x3:lP [(7,aD)]),∃ (x4:lN [(7,aD)]),x3 o w3/\∀ (I2:Nat->Value) (n2:Int) (w4:World),x3 n2 w4->br (decide (n2 < n1)) (∀ w5,drawn w4 w5->∃ (I3:WP),I3 w5/\∃ o3 k6 k7,(∀ w6,I3 w6->World.cell? w6 (Addr.add (aM k1) 1) = some (vS o3 k6 k7))/\idx o3 k6 n2 1 λa2=>∃ s2,(∀ w7,I3 w7->World.cell? w7 a2 = some (Value.string s2))/\∃ o4 k8 k9,(∀ w8,I3 w8->World.cell? w8 (Addr.add (aM k1) 1) = some (vS o4 k8 k9))/\idx o4 k8 n1 1 λa3=>∃ s3,(∀ w9,I3 w9->World.cell? w9 a3 = some (Value.string s3))/\br (ByteArray.toList s2 == ByteArray.toList s3) (R (vB false) w5) (ax (n2 + 1)/\x3 (n2 + 1) w5/\x4 (n2 + 1) w5 < x4 n2 w4)) (ax (n1 + 1)/\x1 (n1 + 1) w4/\x2 (n1 + 1) w4 < x2 n1 w2))) (R (vB true) w2)):aA Tryz.prog 126 [(.agg #[(.slice a b c),(.slice d e f),(.slice g i j),(.int .i64 k),(.slice l m n)]),(.int .i64 o)] w R:=rv Tryz.func126 mE (by kernel_rfl) h
abbrev nE:FuncId:=127
def lM:bn:={ rngs:=[],loops:=[(2,[(7,(.one (.int .i64)))]),(8,[(9,(.one (.int .i64)))])],joins:=[(6,[(47,(.one .bool))])],blocks:=[] }
theorem lO {a:Yg} {b c:Nat} {d:Yg} {e f:Nat} {g:Yg} {i j:Nat} {k:Int} {l:Yg} {m n:Nat} {o p:Int} {w:World} {R:Value->WP} (h:new w (oC [vS a b c,vS d e f,vS g i j,iI k,vS l m n] 27) λk1 w1=>∃ (x1:lP [(7,aD)]),∃ (x2:lN [(7,aD)]),x1 o w1/\∀ (I1:Nat->Value) (n1:Int) (w2:World),x1 n1 w2->∃ o1 k2 k3,World.cell? w2 (Addr.add (aM k1) 4) = some (vS o1 k2 k3)/\br (decide (n1 < (k2:Int))) (∃ o2 k4 k5,World.cell? w2 (Addr.add (aM k1) 4) = some (vS o2 k4 k5)/\idx o2 k4 n1 3 λa1=>∃ n2 o3 k6 k7 n3,V.rowAt w2 a1 0 3 = some [iI n2,vS o3 k6 k7,iI n3]/\new w2 (oC [iI 0,vS none 0 0,iI 0] 81) λk8 w3=>fV w3 (aM k8) [iI n2,vS o3 k6 k7,iI n3] λw4=>∃ (x3:lP [(47,nm)]),(∀ w5,drawn w4 w5->∃ (I2:WP),I2 w5/\∃ n4,(∀ w6,I2 w6->World.cell? w6 (aM k8) = some (iI n4))/\br (decide (n4 < p)) (x3 true w5) (∃ n5,(∀ w7,I2 w7->World.cell? w7 (aM k8) = some (iI n5))/\∃ o4 k9 k10 o5 k11 k12 o6 k13 k14 n6 o7 k15 k16,(∀ w8,I2 w8->V.rowAt w8 (aM k1) 0 5 = some [vS o4 k9 k10,vS o5 k11 k12,vS o6 k13 k14,iI n6,vS o7 k15 k16])/\rE 72 [vA (Array.mk [vS o4 k9 k10,vS o5 k11 k12,vS o6 k13 k14,iI n6,vS o7 k15 k16])] w5 λv1 w9=>∃ n7,v1 = iI n7/\∃ (I3:WP),I3 w9/\(∀ w10,I3 w10->I2 w10)/\br (decide (n7<=n5)) (x3 true w9) (∃ n8,(∀ w11,I3 w11->World.cell? w11 (Addr.add (aM k8) 2) = some (iI n8))/\br (decide (n8 < 0)) (x3 true w9) (∃ n9,(∀ w12,I3 w12->World.cell? w12 (Addr.add (aM k8) 2) = some (iI n9))/\∃ o8 k17 k18,(∀ w13,I3 w13->World.cell? w13 (Addr.add (aM k1) 2) = some (vS o8 k17 k18))/\x3 (decide ((k17:Int) < n9)) w9))))/\∀ (I4:Nat->Value) (b1:Bool) (w14:World),x3 b1 w14->br b1 (R (vB false) w14) (∃ (x4:lP [(9,aD)]),∃ (x5:lN [(9,aD)]),x4 0 w14/\∀ (I5:Nat->Value) (n10:Int) (w15:World),x4 n10 w15->∃ o9 k19 k20,World.cell? w15 (Addr.add (aM k8) 1) = some (vS o9 k19 k20)/\br (decide (n10 < (k19:Int))) (∃ o10 k21 k22,World.cell? w15 (Addr.add (aM k8) 1) = some (vS o10 k21 k22)/\idx o10 k21 n10 1 λa2=>∃ n11,World.cell? w15 a2 = some (iI n11)/\br (decide (n11 < 1)) (R (vB false) w15) (∃ o11 k23 k24 o12 k25 k26 o13 k27 k28 n12 o14 k29 k30,V.rowAt w15 (aM k1) 0 5 = some [vS o11 k23 k24,vS o12 k25 k26,vS o13 k27 k28,iI n12,vS o14 k29 k30]/\rE 72 [vA (Array.mk [vS o11 k23 k24,vS o12 k25 k26,vS o13 k27 k28,iI n12,vS o14 k29 k30])] w15 λv2 w16=>∃ n13,v2 = iI n13/\br (decide (n13<=n11)) (R (vB false) w16) (∃ o15 k31 k32,World.cell? w16 (aM k1) = some (vS o15 k31 k32)/\br (decide ((k31:Int)<=n11)) (br (decide (n11 < p)) (R (vB false) w16) (ax (n10 + 1)/\x4 (n10 + 1) w16/\x5 (n10 + 1) w16 < x5 n10 w15)) (ax (n10 + 1)/\x4 (n10 + 1) w16/\x5 (n10 + 1) w16 < x5 n10 w15)))) (ax (n1 + 1)/\x1 (n1 + 1) w15/\x2 (n1 + 1) w15 < x2 n1 w2))) (R (vB true) w2)):aA Tryz.prog 127 [(.agg #[(.slice a b c),(.slice d e f),(.slice g i j),(.int .i64 k),(.slice l m n)]),(.int .i64 o),(.int .i64 p)] w R:=rv Tryz.func127 lM (by kernel_rfl) h
abbrev rM:FuncId:=128
def oO:bn:={ rngs:=[],loops:=[(3,[(5,(.one .slice)),(6,(.one (.int .i64)))]),(7,[(7,(.one .bool)),(8,(.one (.int .i64)))])],joins:=[],blocks:=[] }
theorem oP {a:Yg} {b c:Nat} {d:Yg} {e f:Nat} {g:Yg} {i j:Nat} {k:Int} {l:Yg} {m n:Nat} {o:Int} {w:World} {R:Value->WP} (h:new w (oC [vS a b c,vS d e f,vS g i j,iI k,vS l m n] 27) λk1 w1=>∃ (x1:lP [(5,gD),(6,aD)]),∃ (x2:lN [(5,gD),(6,aD)]),x1 none 0 0 o w1/\∀ (I1:Nat->Value) (o1:Yg) (k2 k3:Nat) (n1:Int) (w2:World),x1 o1 k2 k3 n1 w2->∃ o2 k4 k5,World.cell? w2 (Addr.add (aM k1) 4) = some (vS o2 k4 k5)/\br (decide (n1 < (k4:Int))) (∃ (x3:lP [(7,nm),(8,aD)]),∃ (x4:lN [(7,nm),(8,aD)]),x3 false 0 w2/\∀ (I2:Nat->Value) (b1:Bool) (n2:Int) (w3:World),x3 b1 n2 w3->br (decide (n2 < (k2:Int))) (∀ w4,drawn w3 w4->∃ (I3:WP),I3 w4/\br b1 (ax (n2 + 1)/\x3 true (n2 + 1) w4/\x4 true (n2 + 1) w4 < x4 b1 n2 w3) (idx o1 k2 n2 1 λa1=>∃ n3,(∀ w5,I3 w5->World.cell? w5 a1 = some (iI n3))/\∃ o3 k6 k7,(∀ w6,I3 w6->World.cell? w6 (Addr.add (aM k1) 4) = some (vS o3 k6 k7))/\idx o3 k6 n1 3 λa2=>∃ n4,(∀ w7,I3 w7->World.cell? w7 a2 = some (iI n4))/\ax (n2 + 1)/\x3 (n3 == n4) (n2 + 1) w4/\x4 (n3 == n4) (n2 + 1) w4 < x4 b1 n2 w3)) (br (!b1) (∃ o4 k8 k9,World.cell? w3 (Addr.add (aM k1) 4) = some (vS o4 k8 k9)/\idx o4 k8 n1 3 λa3=>∃ n5,World.cell? w3 a3 = some (iI n5)/\new w3 (oC [iI n5] 3) λk10 w8=>rS (ir 24 (Array.mk [vS o1 k2 k3,vS (some (aM k10)) 1 1])) w8 λv1 w9=>∃ o5 k11 k12,v1 = vS o5 k11 k12/\ax (n1 + 1)/\x1 o5 k11 k12 (n1 + 1) w9/\x2 o5 k11 k12 (n1 + 1) w9 < x2 o1 k2 k3 n1 w2) (ax (n1 + 1)/\x1 o1 k2 k3 (n1 + 1) w3/\x2 o1 k2 k3 (n1 + 1) w3 < x2 o1 k2 k3 n1 w2))) (R (vS o1 k2 k3) w2)):aA Tryz.prog 128 [(.agg #[(.slice a b c),(.slice d e f),(.slice g i j),(.int .i64 k),(.slice l m n)]),(.int .i64 o)] w R:=rv Tryz.func128 oO (by kernel_rfl) h
abbrev rP:FuncId:=134
def oQ:bn:={ rngs:=[],loops:=[],joins:=[],blocks:=[] }
theorem oR {a:Yg} {b c:Nat} {d:Yg} {e f:Nat} {g:Yg} {i j:Nat} {k:Int} {l:Yg} {m n:Nat} {o:Int} {w:World} {R:Value->WP} (h:new w (oC [vS a b c,vS d e f,vS g i j,iI k,vS l m n] 27) λk1 w1=>∃ o1 k2 k3,World.cell? w1 (aM k1) = some (vS o1 k2 k3)/\br (decide ((k2:Int)<=o)) (∃ o2 k4 k5 o3 k6 k7 o4 k8 k9 n1 o5 k10 k11,V.rowAt w1 (aM k1) 0 5 = some [vS o2 k4 k5,vS o3 k6 k7,vS o4 k8 k9,iI n1,vS o5 k10 k11]/\rE 72 [vA (Array.mk [vS o2 k4 k5,vS o3 k6 k7,vS o4 k8 k9,iI n1,vS o5 k10 k11])] w1 λv1 w2=>∃ n2,v1 = iI n2/\R (vB (decide (o < n2))) w2) (R (vB false) w1)):aA Tryz.prog 134 [(.agg #[(.slice a b c),(.slice d e f),(.slice g i j),(.int .i64 k),(.slice l m n)]),(.int .i64 o)] w R:=rv Tryz.func134 oQ (by kernel_rfl) h
abbrev ij:FuncId:=136
def f_:bn:={ rngs:=[],loops:=[(2,[(8,(.one (.int .i64)))])],joins:=[],blocks:=[] }
theorem ga {a:Yg} {b c:Nat} {d e:Int} {w:World} {R:Value->WP} (h:new w (oC [iI d,iI e] 104) λk1 w1=>∃ (x1:lP [(8,aD)]),∃ (x2:lN [(8,aD)]),x1 0 w1/\∀ (I1:Nat->Value) (n1:Int) (w2:World),x1 n1 w2->br (decide (n1 < (b:Int))) (∀ w3,drawn w2 w3->∃ (I2:WP),I2 w3/\∃ n2 n3,(∀ w4,I2 w4->V.rowAt w4 (aM k1) 0 2 = some [iI n2,iI n3])/\idx a b n1 2 λa1=>∃ n4 n5,(∀ w5,I2 w5->V.rowAt w5 a1 0 2 = some [iI n4,iI n5])/\∃ v1,(∀ w6,I2 w6->Sem.run Proofs.Tryz.prog (iu BinOp.eql 104 (Operand.tmp 11) (Operand.tmp 15) (vG [iI n2,iI n3]) (vG [iI n4,iI n5])) w6 = Result.ok v1 w6)/\∃ b1,v1 = vB b1/\br b1 (R (iI n1) w3) (ax (n1 + 1)/\x1 (n1 + 1) w3/\x2 (n1 + 1) w3 < x2 n1 w2)) (R (iI (-1)) w2)):aA Tryz.prog 136 [(.slice a b c),(.agg #[(.int .i64 d),(.int .i64 e)])] w R:=rv Tryz.func136 f_ (by kernel_rfl) h
abbrev C0:FuncId:=138
def zQ:bn:={ rngs:=[],loops:=[],joins:=[],blocks:=[] }
def rQ (a:ByteArray) (w:World) (R:Value->WP):Prop :=  br (!ByteArray.toList a == ByteArray.toList (ByteArray.mk (Array.mk []))) (br (decide ((↑(ByteArray.size a):Int)<=16)) (ub Proofs.Tryz.prog Ev 183 [Value.string a,Value.func (Fn.func 184) (Array.mk []) (Array.mk [])] w λv1 w1=>∃ n1,v1 = iI n1/\R (vB (decide (n1 < 0))) w1) (R (vB false) w)) (R (vB false) w)
theorem zR (a:ByteArray) (w:World) (R:Value->WP) (h:rQ a w R):aA Tryz.prog 138 [(.string a)] w R:=rv Tryz.func138 zQ (by kernel_rfl) h

abbrev C3:FuncId:=139
def zS:bn:={ rngs:=[],loops:=[(3,[(9,(.one (.int .i64)))])],joins:=[],blocks:=[] }
theorem zT {a:Yg} {b c:Nat} {w:World} {R:Value->WP} (h:new w (Obj.map (Array.mk []) 0) λk1 w1=>∃ (x1:lP [(9,aD)]),∃ (x2:lN [(9,aD)]),x1 0 w1/\∀ (I1:Nat->Value) (n1:Int) (w2:World),x1 n1 w2->br (decide (n1 < (b:Int))) (idx a b n1 1 λa1=>∃ s1,World.cell? w2 a1 = some (Value.string s1)/\aX Proofs.Tryz.prog (Instr.lookup 99 (Value.map (some k1)) (Value.string s1) false) w2 λv1 w3=>∃ n2,v1 = iI n2/\ax (n2 + 1)/\aX Proofs.Tryz.prog (Instr.mapUpdate 99 (Value.map (some k1)) (Value.string s1) (iI (n2 + 1))) w3 λ(x3:Unit) (w4:World)=>ax (n1 + 1)/\x1 (n1 + 1) w4/\x2 (n1 + 1) w4 < x2 n1 w2) (∃ v2,Sem.run Proofs.Tryz.prog (Builtin.len_ (Array.mk [99]) 3 (Array.mk [Value.map (some k1)])) w2 = Result.ok v2 w2/\∃ n3,v2 = iI n3/\R (vB (n3 == (b:Int))) w2)):aA Tryz.prog 139 [(.slice a b c)] w R:=rv Tryz.func139 zS (by kernel_rfl) h
abbrev fK:FuncId:=140
def ff:bn:={ rngs:=[],loops:=[],joins:=[],blocks:=[] }
theorem fh {a:Yg} {b c:Nat} {d:FuncId} {e:List Value} {w:World} {R:Value->WP} (h:rE 185 [vS a b c,Value.func (Fn.func d) (Array.mk []) (Array.mk e)] w λv1 w1=>∃ n1,v1 = iI n1/\R (vB (decide (0<=n1))) w1):aA Tryz.prog 140 [(.slice a b c),(.func (.func d) #[] ⟨e⟩)] w R:=rv Tryz.func140 ff (by kernel_rfl) h
abbrev iB:FuncId:=141
def uf:bn:={ rngs:=[],loops:=[],joins:=[],blocks:=[] }
theorem ug {a:ByteArray} {w:World} {R:Value->WP} (h:rE 142 [Value.string a] w λv1 w1=>∃ b1,v1 = vB b1/\R (vB !b1) w1):aA Tryz.prog 141 [(.string a)] w R:=rv Tryz.func141 uf (by kernel_rfl) h
abbrev C4:FuncId:=142
def zU:bn:={ rngs:=[],loops:=[(2,[(7,(.one (.int .i64)))])],joins:=[],blocks:=[] }
def rU (a:ByteArray) (w:World) (R:Value->WP):Prop :=  ∃ (x1:lP [(7,aD)]),∃ (x2:lN [(7,aD)]),x1 0 w/\∀ (I1:Nat->Value) (n1:Int) (w1:World),x1 n1 w1->br (decide (n1 < (↑(ByteArray.size a):Int))) (EA n1 (ByteArray.size a)/\br ((↑(UInt8.toNat (sb a (Int.toNat n1))):Int) != 95) (br (decide (kL BinOp.or IntKind.u8 (↑(UInt8.toNat (sb a (Int.toNat n1))):Int) 32 < 97)) (br (n1 == 0) (R (vB false) w1) (br (decide ((↑(UInt8.toNat (sb a (Int.toNat n1))):Int) < 48)) (R (vB false) w1) (br (decide (57 < (↑(UInt8.toNat (sb a (Int.toNat n1))):Int))) (R (vB false) w1) (ax (n1 + 1)/\x1 (n1 + 1) w1/\x2 (n1 + 1) w1 < x2 n1 w1)))) (br (decide (122 < kL BinOp.or IntKind.u8 (↑(UInt8.toNat (sb a (Int.toNat n1))):Int) 32)) (br (n1 == 0) (R (vB false) w1) (br (decide ((↑(UInt8.toNat (sb a (Int.toNat n1))):Int) < 48)) (R (vB false) w1) (br (decide (57 < (↑(UInt8.toNat (sb a (Int.toNat n1))):Int))) (R (vB false) w1) (ax (n1 + 1)/\x1 (n1 + 1) w1/\x2 (n1 + 1) w1 < x2 n1 w1)))) (ax (n1 + 1)/\x1 (n1 + 1) w1/\x2 (n1 + 1) w1 < x2 n1 w1))) (ax (n1 + 1)/\x1 (n1 + 1) w1/\x2 (n1 + 1) w1 < x2 n1 w1)) (br (!ByteArray.toList a == ByteArray.toList (ByteArray.mk (Array.mk []))) (R (vB (decide ((↑(ByteArray.size a):Int)<=16))) w1) (R (vB false) w1))
theorem zV (a:ByteArray) (w:World) (R:Value->WP) (h:rU a w R):aA Tryz.prog 142 [(.string a)] w R:=rv Tryz.func142 zU (by kernel_rfl) h

abbrev kP:FuncId:=143
def jR:bn:={ rngs:=[],loops:=[],joins:=[],blocks:=[] }
theorem jS {a:Yg} {b c:Nat} {d:Int} {w:World} {R:Value->WP} (h:rE 186 [vS a b c,iI d] w λv1 w1=>∃ n1,v1 = iI n1/\R (vB (decide (0<=n1))) w1):aA Tryz.prog 143 [(.slice a b c),(.int .i64 d)] w R:=rv Tryz.func143 jR (by kernel_rfl) h
abbrev zW:FuncId:=151
def wG:bn:={ rngs:=[],loops:=[],joins:=[],blocks:=[] }
theorem wH {a b:Int} {w:World} {R:Value->WP} (h:rE 157 [iI a] w λv1 w1=>∃ b1,v1 = vB b1/\br b1 (rE 157 [iI b] w1 λv2 w2=>∃ b2,v2 = vB b2/\br (!b2) (R (vB true) w2) (R (vB (decide (a < b))) w2)) (R (vB (decide (a < b))) w1)):aA Tryz.prog 151 [(.int .i64 a),(.int .i64 b)] w R:=rv Tryz.func151 wG (by kernel_rfl) h
abbrev yw:FuncId:=157
def vc:bn:={ rngs:=[],loops:=[],joins:=[],blocks:=[] }
theorem kQ {a:Int} {w:World} {R:Value->WP} (h:R (vB (a != a)) w):aA Tryz.prog 157 [(.int .i64 a)] w R:=rv Tryz.func157 vc (by kernel_rfl) h
abbrev kv:FuncId:=165
def jB:bn:={ rngs:=[(2,[(7,(.one (.int .i64)))])],loops:=[],joins:=[],blocks:=[] }
theorem jC {a:Yg} {b c:Nat} {d:FuncId} {e:List Value} {w:World} {R:Value->WP} (h:new w (oC [vS a b c] 24) λk1 w1=>wm (Proofs.YtndaepmjkbmjmaaGreatDoor.Fn d) (∃ (x1:List (List Value)),∃ (x2:ay),∃ (x3:ay),∃ (I1:Nat->ay),∃ (x4:ay),∃ (I2:Nat->ay),∃ (x5:List ay),St w1 (I1 0 :: x2 :: x5)/\(∀ (x6:Hp),aC x5 x6->x3 x6)/\T3 Proofs.Tryz.prog d [] e x2 x3 x1/\(∀ (x7:List Value),x7∈x1->∃ n1,x7 = [iI n1])/\(∀ (k2:Nat) (n2:Int),List.get?Internal x1 k2 = some [iI n2]->∀ (x8:List ay) (w2:World),P4 x8 x5->St w2 (I1 k2 :: x8)->∃ (x9:ay),St w2 (x9 :: x8)/\∀ (x10:List ay) (w3:World),P4 x10 x5->St w3 (x9 :: x10)->∃ o1 k3 k4,World.cell? w3 (aM k1) = some (vS o1 k3 k4)/\new w3 (oC [iI n2] 3) λk5 w4=>rS (ir 24 (Array.mk [vS o1 k3 k4,vS (some (aM k5)) 1 1])) w4 λv1 w5=>∃ o2 k6 k7,v1 = vS o2 k6 k7/\st1 w5 (aM k1) (vS o2 k6 k7) λw6=>St w6 (I1 (k2 + 1) :: x10))/\(∀ (w7:World),St w7 (I1 (List.length x1) :: x2 :: x5)->∃ o3 k8 k9,World.cell? w7 (aM k1) = some (vS o3 k8 k9)/\∀ (w8:World),hp w8 = hp w7->R (vS o3 k8 k9) w8)/\(∀ (w9:World),St w9 (x4 :: x2 :: x5)->∀ (w10:World),hp w10 = hp w9->R (vS none 0 0) w10)/\True)):aA Tryz.prog 165 [(.slice a b c),(.func (.func d) #[] ⟨e⟩)] w R:=rv Tryz.func165 jB (by kernel_rfl) h
abbrev ik:FuncId:=166
def gb:bn:={ rngs:=[],loops:=[],joins:=[],blocks:=[] }
theorem gd {a:Yg} {b c:Nat} {w:World} {R:Value->WP} (h:br (Option.isNone a) (R (vS none 0 0) w) (new w (oC [] 241) λk1 w1=>rS (ir 190 (Array.mk [vS (some (aM k1)) 0 0,vS a b c])) w1 λv1 w2=>∃ o1 k2 k3,v1 = vS o1 k2 k3/\R (vS o1 k2 k3) w2)):aA Tryz.prog 166 [(.slice a b c)] w R:=rv Tryz.func166 gb (by kernel_rfl) h
abbrev mi:FuncId:=167
def j8:bn:={ rngs:=[],loops:=[(1,[(7,(.one (.int .i64)))]),(3,[(4,(.one (.int .u64)))])],joins:=[],blocks:=[] }
def jD (E:World->World->Prop) (p0yield:Nat) (c0:Addr) (w:World) (R:Value->World->Prop):Prop :=  ∃ o1 k1 k2,World.cell? w c0 = some (vS o1 k1 k2)/\∃ (x1:lP [(7,aD)]),∃ (x2:lN [(7,aD)]),x1 0 w/\∀ (I1:Nat->Value) (n1:Int) (w1:World),x1 n1 w1->br (decide (n1 < (↑k1:Int))) (idx o1 k1 n1 1 λa1=>∃ n2,World.cell? w1 a1 = some (Value.int IntKind.u64 n2)/\∃ (x3:lP [(4,S1.one (Cs.int IntKind.u64))]),∃ (x4:lN [(4,S1.one (Cs.int IntKind.u64))]),x3 n2 w1/\∀ (I2:Nat->Value) (n3:Int) (w2:World),x3 n3 w2->br (n3 != 0) (ax (64 * n1)/\ub Proofs.Tryz.prog E 168 [Value.int IntKind.u64 n3] w2 λv1 w3=>∃ n4,v1 = iI n4/\ax (64 * n1 + n4)/\U_ Proofs.Tryz.prog E p0yield [iI (64 * n1 + n4)] w3 λv2 w4=>∃ b1,v2 = vB b1/\br (!b1) (R (vT (Array.mk [])) w4) (x3 (kL BinOp.and IntKind.u64 n3 (IntKind.wrap IntKind.u64 (n3 - 1))) w4/\x4 (kL BinOp.and IntKind.u64 n3 (IntKind.wrap IntKind.u64 (n3 - 1))) w4 < x4 n3 w2)) (ax (n1 + 1)/\x1 (n1 + 1) w2/\x2 (n1 + 1) w2 < x2 n1 w1)) (R (vT (Array.mk [])) w1)
theorem qm (E:World->World->Prop) (p0yield:Nat) (c0:Addr) (hE:Ew E) (w:World) (R:Value->World->Prop) (h:jD E p0yield c0 w R):ub Tryz.prog E 167 [(.func (.yield p0yield) #[] #[]),(.pointer (some c0))] w R :=
 Qb aQ Uk mixed Tryz.func167 j8 hE (by kernel_rfl) ((by kernel_rfl:T4 Tryz.prog Ty Fn E j8 Tryz.f167 [(.func (.yield p0yield) #[] #[]),(.pointer (some c0))] w R = jD E p0yield c0 w R) ▸ h)

abbrev ky:FuncId:=168
def jE:bn:={ rngs:=[],loops:=[],joins:=[],blocks:=[] }
theorem jF {a:Int} {w:World} {R:Value->WP} (h:br (a == 0) (R (iI 64) w) (ns 58/\idx (some (aM 0)) 64 (bH IntKind.u64 (IntKind.wrap IntKind.u64 (kL BinOp.and IntKind.u64 a (IntKind.wrap IntKind.u64 (0 - a)) * 285870213051353865)) 58) 1 λa1=>∃ n1,World.cell? w a1 = some (Value.int IntKind.u8 n1)/\ax n1/\R (iI n1) w)):aA Tryz.prog 168 [(.int .u64 a)] w R:=rv Tryz.func168 jE (by kernel_rfl) h
abbrev qo:FuncId:=178
def nF:bn:={ rngs:=[],loops:=[(2,[(3,(.one (.int .i64)))])],joins:=[],blocks:=[] }
theorem nG {a:ByteArray} {w:World} {R:Value->WP} (h:∃ (x1:lP [(3,aD)]),∃ (x2:lN [(3,aD)]),x1 0 w/\∀ (I1:Nat->Value) (n1:Int) (w1:World),x1 n1 w1->br (decide (n1 < (↑(ByteArray.size a):Int))) (EA n1 (ByteArray.size a)/\br (decide ((↑(UInt8.toNat (sb a (Int.toNat n1))):Int) < 32)) (R (vB false) w1) (EA n1 (ByteArray.size a)/\br (decide (126 < (↑(UInt8.toNat (sb a (Int.toNat n1))):Int))) (R (vB false) w1) (EA n1 (ByteArray.size a)/\br ((↑(UInt8.toNat (sb a (Int.toNat n1))):Int) == 39) (R (vB false) w1) (ax (n1 + 1)/\x1 (n1 + 1) w1/\x2 (n1 + 1) w1 < x2 n1 w1)))) (br (decide (1<=(↑(ByteArray.size a):Int))) (R (vB (decide ((↑(ByteArray.size a):Int)<=16))) w1) (R (vB false) w1))):aA Tryz.prog 178 [(.string a)] w R:=rv Tryz.func178 nF (by kernel_rfl) h
abbrev qp:FuncId:=179
def nH:bn:={ rngs:=[],loops:=[(2,[(3,(.one (.int .i64)))])],joins:=[(3,[]),(5,[(4,(.one .bool))])],blocks:=[] }
theorem nI {a:ByteArray} {w:World} {R:Value->WP} (h:∃ (x1:lP [(3,aD)]),∃ (x2:lN [(3,aD)]),x1 0 w/\∀ (I1:Nat->Value) (n1:Int) (w1:World),x1 n1 w1->br (decide (n1 < (↑(ByteArray.size a):Int))) (∃ (x3:lP []),(∃ (x4:lP [(4,nm)]),(EA n1 (ByteArray.size a)/\br (decide (65<=(↑(UInt8.toNat (sb a (Int.toNat n1))):Int))) (EA n1 (ByteArray.size a)/\br (decide ((↑(UInt8.toNat (sb a (Int.toNat n1))):Int)<=90)) (x4 true w1) (EA n1 (ByteArray.size a)/\br (decide (97<=(↑(UInt8.toNat (sb a (Int.toNat n1))):Int))) (EA n1 (ByteArray.size a)/\br (decide ((↑(UInt8.toNat (sb a (Int.toNat n1))):Int)<=122)) (x4 true w1) (EA n1 (ByteArray.size a)/\x4 ((↑(UInt8.toNat (sb a (Int.toNat n1))):Int) == 95) w1)) (EA n1 (ByteArray.size a)/\x4 ((↑(UInt8.toNat (sb a (Int.toNat n1))):Int) == 95) w1))) (EA n1 (ByteArray.size a)/\br (decide (97<=(↑(UInt8.toNat (sb a (Int.toNat n1))):Int))) (EA n1 (ByteArray.size a)/\br (decide ((↑(UInt8.toNat (sb a (Int.toNat n1))):Int)<=122)) (x4 true w1) (EA n1 (ByteArray.size a)/\x4 ((↑(UInt8.toNat (sb a (Int.toNat n1))):Int) == 95) w1)) (EA n1 (ByteArray.size a)/\x4 ((↑(UInt8.toNat (sb a (Int.toNat n1))):Int) == 95) w1)))/\∀ (I2:Nat->Value) (b1:Bool) (w2:World),x4 b1 w2->EA n1 (ByteArray.size a)/\br (decide (48<=(↑(UInt8.toNat (sb a (Int.toNat n1))):Int))) (EA n1 (ByteArray.size a)/\br (decide ((↑(UInt8.toNat (sb a (Int.toNat n1))):Int)<=57)) (br (!b1) (br (!decide (0 < n1)) (R (vB false) w2) (x3 w2)) (x3 w2)) (br (!b1) (R (vB false) w2) (x3 w2))) (br (!b1) (R (vB false) w2) (x3 w2)))/\∀ (I3:Nat->Value) (w3:World),x3 w3->ax (n1 + 1)/\x1 (n1 + 1) w3/\x2 (n1 + 1) w3 < x2 n1 w1) (br (decide (1<=(↑(ByteArray.size a):Int))) (R (vB (decide ((↑(ByteArray.size a):Int)<=16))) w1) (R (vB false) w1))):aA Tryz.prog 179 [(.string a)] w R:=rv Tryz.func179 nH (by kernel_rfl) h
abbrev uh:FuncId:=183
def qq:bn:={ rngs:=[],loops:=[],joins:=[],blocks:=[] }
theorem qt {a:ByteArray} {b:FuncId} {c:List Value} {w:World} {R:Value->WP} (h:rE 233 [Value.string a,Value.func (Fn.func b) (Array.mk []) (Array.mk c),vB true] w λv1 w1=>∃ n1,v1 = iI n1/\R (iI n1) w1):aA Tryz.prog 183 [(.string a),(.func (.func b) #[] ⟨c⟩)] w R:=rv Tryz.func183 qq (by kernel_rfl) h
abbrev je:FuncId:=184
def vd:bn:={ rngs:=[],loops:=[],joins:=[],blocks:=[] }
theorem ve {a:Int} {w:World} {R:Value->WP} (h:br (decide (a < 32)) (R (vB true) w) (br (decide (126 < a)) (R (vB true) w) (R (vB (a == 39)) w))):aA Tryz.prog 184 [(.int .i32 a)] w R:=rv Tryz.func184 vd (by kernel_rfl) h
abbrev il:FuncId:=185
def gf:bn:={ rngs:=[],loops:=[(2,[(8,(.one (.int .i64)))])],joins:=[],blocks:=[] }
theorem gh {a:Yg} {b c:Nat} {d:FuncId} {e:List Value} {w:World} {R:Value->WP} (h:∃ (x1:lP [(8,aD)]),∃ (x2:lN [(8,aD)]),x1 0 w/\∀ (I1:Nat->Value) (n1:Int) (w1:World),x1 n1 w1->br (decide (n1 < (b:Int))) (idx a b n1 1 λa1=>∃ s1,World.cell? w1 a1 = some (Value.string s1)/\wm (Proofs.YtndaepmjkbmjmaaGreatDoor.Fn d) (rE d (Value.string s1 :: e) w1 λv1 w2=>∃ b1,v1 = vB b1/\br b1 (R (iI n1) w2) (ax (n1 + 1)/\x1 (n1 + 1) w2/\x2 (n1 + 1) w2 < x2 n1 w1))) (R (iI (-1)) w1)):aA Tryz.prog 185 [(.slice a b c),(.func (.func d) #[] ⟨e⟩)] w R:=rv Tryz.func185 gf (by kernel_rfl) h
abbrev nJ:FuncId:=186
def lQ:bn:={ rngs:=[],loops:=[(2,[(8,(.one (.int .i64)))])],joins:=[],blocks:=[] }
theorem lR {a:Yg} {b c:Nat} {d:Int} {w:World} {R:Value->WP} (h:∃ (x1:lP [(8,aD)]),∃ (x2:lN [(8,aD)]),x1 0 w/\∀ (I1:Nat->Value) (n1:Int) (w1:World),x1 n1 w1->br (decide (n1 < (b:Int))) (idx a b n1 1 λa1=>∃ n2,World.cell? w1 a1 = some (iI n2)/\br (d == n2) (R (iI n1) w1) (ax (n1 + 1)/\x1 (n1 + 1) w1/\x2 (n1 + 1) w1 < x2 n1 w1)) (R (iI (-1)) w1)):aA Tryz.prog 186 [(.slice a b c),(.int .i64 d)] w R:=rv Tryz.func186 lQ (by kernel_rfl) h
abbrev jf:FuncId:=209
def iC:bn:={ rngs:=[],loops:=[],joins:=[],blocks:=[] }
theorem da {a:Yg} {b c:Nat} {d:FuncId} {e:List Value} {w:World} {R:Value->WP} (h:rE 245 [vS a b c,Value.func (Fn.func d) (Array.mk []) (Array.mk e)] w λv1 w1=>∃ n1,v1 = iI n1/\R (vB (decide (0<=n1))) w1):aA Tryz.prog 209 [(.slice a b c),(.func (.func d) #[] ⟨e⟩)] w R:=rv Tryz.func209 iC (by kernel_rfl) h
abbrev yx:FuncId:=213
def vf:bn:={ rngs:=[(6,[(17,(.one (.int .i64)))])],loops:=[(3,[(11,(.one (.int .i64)))])],joins:=[],blocks:=[] }
theorem vg {a b:Yg} {c d:Nat} {w:World} {R:Value->WP} (h:new w (oC [vP a] 118) λk1 w1=>new w1 (oC [iI 0] 3) λk2 w2=>st1 w2 (aM k2) (iI 0) λw3=>∃ (x1:lP [(11,aD)]),∃ (x2:lN [(11,aD)]),x1 0 w3/\∀ (I1:Nat->Value) (n1:Int) (w4:World),x1 n1 w4->br (decide (n1 < (c:Int))) (idx b c n1 1 λa1=>∃ o1,World.cell? w4 a1 = some (vP o1)/\rE 113 [vP o1] w4 λv1 w5=>∃ g1 x3,v1 = Value.func (Fn.func g1) (Array.mk []) (Array.mk x3)/\wm (Proofs.YtndaepmjkbmjmaaGreatDoor.Fn g1) (∃ (x4:List (List Value)),∃ (x5:ay),∃ (x6:ay),∃ (I2:Nat->ay),∃ (x7:ay),∃ (I3:Nat->ay),∃ (x8:List ay),St w5 (I2 0 :: x5 :: x8)/\(∀ (x9:Hp),aC x8 x9->x6 x9)/\T3 Proofs.Tryz.prog g1 [] x3 x5 x6 x4/\(∀ (x10:List Value),x10∈x4->∃ n2,x10 = [iI n2])/\(∀ (k3:Nat) (n3:Int),List.get?Internal x4 k3 = some [iI n3]->∀ (x11:List ay) (w6:World),P4 x11 x8->St w6 (I2 k3 :: x11)->∃ (x12:ay),St w6 (x12 :: x11)/\∀ (x13:List ay) (w7:World),P4 x13 x8->St w7 (x12 :: x13)->∀ w8,drawn w7 w8->∃ (I4:WP),I4 w8/\∃ n4,(∀ w9,I4 w9->World.cell? w9 (aM k2) = some (iI n4))/\∃ o2,(∀ w10,I4 w10->World.cell? w10 (aM k1) = some (vP o2))/\new w8 (oC [iI n3] 3) λk4 w11=>I4 w11/\rE 60 [vP o2,vS (some (aM k4)) 1 1] w11 λv2 w12=>∃ n5,v2 = iI n5/\I4 w12/\ax (n4 + n5)/\st1 w12 (aM k2) (iI (n4 + n5)) λw13=>St w13 (I2 (k3 + 1) :: x13))/\(∀ (w14:World),St w14 (I2 (List.length x4) :: x5 :: x8)->ax (n1 + 1)/\x1 (n1 + 1) w14/\x2 (n1 + 1) w14 < x2 n1 w4)/\(∀ (w15:World),St w15 (x7 :: x5 :: x8)->∀ (w16:World),hp w16 = hp w15->R (iI 0) w16)/\True)) (∃ n6,World.cell? w4 (aM k2) = some (iI n6)/\∀ (w17:World),hp w17 = hp w4->R (iI n6) w17)):aA Tryz.prog 213 [(.pointer a),(.slice b c d)] w R:=rv Tryz.func213 vf (by kernel_rfl) h
abbrev nK:FuncId:=214
def lU:bn:={ rngs:=[],loops:=[],joins:=[],blocks:=[] }
theorem lV {a:Yg} {b c:Nat} {w:World} {R:Value->WP} (h:br (Option.isNone a) (R (vS none 0 0) w) (new w (oC [] 3) λk1 w1=>rS (ir 24 (Array.mk [vS (some (aM k1)) 0 0,vS a b c])) w1 λv1 w2=>∃ o1 k2 k3,v1 = vS o1 k2 k3/\R (vS o1 k2 k3) w2)):aA Tryz.prog 214 [(.slice a b c)] w R:=rv Tryz.func214 lU (by kernel_rfl) h
abbrev ui:FuncId:=233
def qu:bn:={ rngs:=[],loops:=[(2,[])],joins:=[],blocks:=[] }
theorem qv {a:ByteArray} {b:FuncId} {c:List Value} {d:Bool} {w:World} {R:Value->WP} (h:aX Proofs.Tryz.prog (Instr.range 9 (Value.string a)) w λv1 w1=>∃ o1,v1 = vP o1/\∃ (x1:lP []),∃ (x2:lN []),x1 w1/\∀ (I1:Nat->Value) (w2:World),x1 w2->aX Proofs.Tryz.prog (Instr.next (vP o1) true 0) w2 λv2 w3=>v2 = vT (Array.mk [vB false])/\R (iI (-1)) w3\/∃ n1 n2,v2 = vT (Array.mk [vB true,iI n1,Value.int IntKind.i32 n2])/\wm (Proofs.YtndaepmjkbmjmaaGreatDoor.Fn b) (rE b (Value.int IntKind.i32 n2 :: c) w3 λv3 w4=>∃ b1,v3 = vB b1/\br (b1 == d) (R (iI n1) w4) (x1 w4/\x2 w4 < x2 w2))):aA Tryz.prog 233 [(.string a),(.func (.func b) #[] ⟨c⟩),(.bool d)] w R:=rv Tryz.func233 qu (by kernel_rfl) h
abbrev iD:FuncId:=242
def gJ:bn:={ rngs:=[],loops:=[],joins:=[],blocks:=[] }
theorem gK {a:Yg} {b c:Nat} {d:FuncId} {e:List Value} {w:World} {R:Value->WP} (h:rE 258 [vS a b c,Value.func (Fn.func d) (Array.mk []) (Array.mk e)] w λv1 w1=>∃ n1,v1 = iI n1/\R (vB (decide (0<=n1))) w1):aA Tryz.prog 242 [(.slice a b c),(.func (.func d) #[] ⟨e⟩)] w R:=rv Tryz.func242 gJ (by kernel_rfl) h
abbrev eG:FuncId:=245
def jG:bn:={ rngs:=[],loops:=[(2,[(8,(.one (.int .i64)))])],joins:=[],blocks:=[] }
theorem dN {a:Yg} {b c:Nat} {d:FuncId} {e:List Value} {w:World} {R:Value->WP} (h:∃ (x1:lP [(8,aD)]),∃ (x2:lN [(8,aD)]),x1 0 w/\∀ (I1:Nat->Value) (n1:Int) (w1:World),x1 n1 w1->br (decide (n1 < (b:Int))) (idx a b n1 1 λa1=>∃ n2,World.cell? w1 a1 = some (iI n2)/\wm (Proofs.YtndaepmjkbmjmaaGreatDoor.Fn d) (rE d (iI n2 :: e) w1 λv1 w2=>∃ b1,v1 = vB b1/\br b1 (R (iI n1) w2) (ax (n1 + 1)/\x1 (n1 + 1) w2/\x2 (n1 + 1) w2 < x2 n1 w1))) (R (iI (-1)) w1)):aA Tryz.prog 245 [(.slice a b c),(.func (.func d) #[] ⟨e⟩)] w R:=rv Tryz.func245 jG (by kernel_rfl) h
abbrev EP:FuncId:=247
def Bq:bn:={ rngs:=[],loops:=[],joins:=[],blocks:=[] }
theorem Br {a:Yg} {b c:Nat} {d:Yg} {e f:Nat} {g:Yg} {i j:Nat} {k:Int} {l:Yg} {m n:Nat} {w:World} {R:Value->WP} (h:new w (oC [vS a b c,vS d e f,vS g i j,iI k,vS l m n] 27) λk1 w1=>∃ o1 k2 k3 o2 k4 k5 o3 k6 k7 n1 o4 k8 k9,V.rowAt w1 (aM k1) 0 5 = some [vS o1 k2 k3,vS o2 k4 k5,vS o3 k6 k7,iI n1,vS o4 k8 k9]/\rE 89 [vA (Array.mk [vS o1 k2 k3,vS o2 k4 k5,vS o3 k6 k7,iI n1,vS o4 k8 k9]),iI 0] w1 λv1 w2=>∃ b1,v1 = vB b1/\br (!b1) (R (vB false) w2) (∃ o5 k10 k11 o6 k12 k13 o7 k14 k15 n2 o8 k16 k17,V.rowAt w2 (aM k1) 0 5 = some [vS o5 k10 k11,vS o6 k12 k13,vS o7 k14 k15,iI n2,vS o8 k16 k17]/\rE 90 [vA (Array.mk [vS o5 k10 k11,vS o6 k12 k13,vS o7 k14 k15,iI n2,vS o8 k16 k17]),iI 0] w2 λv2 w3=>∃ o9 k18 k19 b2,v2 = vT (Array.mk [vS o9 k18 k19,vB b2])/\br b2 (rE 259 [vS o9 k18 k19] w3 λv3 w4=>∃ b3,v3 = vB b3/\R (vB b3) w4) (R (vB false) w3))):aA Tryz.prog 247 [(.agg #[(.slice a b c),(.slice d e f),(.slice g i j),(.int .i64 k),(.slice l m n)])] w R:=rv Tryz.func247 Bq (by kernel_rfl) h
abbrev jH:FuncId:=258
def iZ:bn:={ rngs:=[],loops:=[(2,[(8,(.one (.int .i64)))])],joins:=[],blocks:=[] }
theorem i_ {a:Yg} {b c:Nat} {d:FuncId} {e:List Value} {w:World} {R:Value->WP} (h:∃ (x1:lP [(8,aD)]),∃ (x2:lN [(8,aD)]),x1 0 w/\∀ (I1:Nat->Value) (n1:Int) (w1:World),x1 n1 w1->br (decide (n1 < (b:Int))) (idx a b n1 1 λa1=>∃ o1 k1 k2,World.cell? w1 a1 = some (vS o1 k1 k2)/\wm (Proofs.YtndaepmjkbmjmaaGreatDoor.Fn d) (rE d (vS o1 k1 k2 :: e) w1 λv1 w2=>∃ b1,v1 = vB b1/\br b1 (R (iI n1) w2) (ax (n1 + 1)/\x1 (n1 + 1) w2/\x2 (n1 + 1) w2 < x2 n1 w1))) (R (iI (-1)) w1)):aA Tryz.prog 258 [(.slice a b c),(.func (.func d) #[] ⟨e⟩)] w R:=rv Tryz.func258 iZ (by kernel_rfl) h
abbrev kR:FuncId:=259
def jT:bn:={ rngs:=[],loops:=[(2,[(3,(.one (.int .i64)))])],joins:=[],blocks:=[] }
theorem jU {a:Yg} {b c:Nat} {w:World} {R:Value->WP} (h:ax ((b:Int) - 1)/\∃ (x1:lP [(3,aD)]),∃ (x2:lN [(3,aD)]),x1 ((b:Int) - 1) w/\∀ (I1:Nat->Value) (n1:Int) (w1:World),x1 n1 w1->br (decide (0 < n1)) (∀ w2,drawn w1 w2->∃ (I2:WP),I2 w2/\idx a b n1 1 λa1=>∃ n2,(∀ w3,I2 w3->World.cell? w3 a1 = some (iI n2))/\ax (n1 - 1)/\idx a b (n1 - 1) 1 λa2=>∃ n3,(∀ w4,I2 w4->World.cell? w4 a2 = some (iI n3))/\rE 151 [iI n2,iI n3] w2 λv1 w5=>∃ b1,v1 = vB b1/\br b1 (R (vB false) w5) (ax (n1 - 1)/\x1 (n1 - 1) w5/\x2 (n1 - 1) w5 < x2 n1 w1)) (R (vB true) w1)):aA Tryz.prog 259 [(.slice a b c)] w R:=rv Tryz.func259 jT (by kernel_rfl) h
end Go.Proofs.YtndaepmjkbmjmaaGreatDoor
namespace Go.V
section
variable {P:Program} {w w' : World} {L:List ay} {b:Nat} {vs:List Value}
theorem oU {sz l c j:Nat} {a:Yg} {ad:Addr} {v:Value} {k:World->Prop} (h:St w (own sz a l c vs :: L)) (ha:a = some ad) (hj:j < vs.length)
  (hk:∀ w',St w' (own sz a l c (vs.set j v) :: L)->k w') (hv:aV v = true:=by rfl):st1 w (ad.add j) v k:=by
 rcases dz h with ⟨rfl,_⟩ | ⟨b,pre,cs,post,rfl,h,h1,h2,h3⟩
 ·cases ha
 ·cases ha
  rw [add_lit]
  refine bh h (by simp; omega) (λw' h'=>?_) hv
  rw [Xy _ _ (by omega),W6,List.set_append_left _ _ hj] at h'
  refine hk w' (fw h' (by simpa using h1) (by simpa using h2) h3)
theorem aw {a:Yg} {ad:Addr} {len i:Nat} {k:Addr->Prop} (ha:a = some ad) (hi:i < len) (hk:k (ad.add i)):idx a len (i:Int) 1 k :=
 ⟨ad,ha,by omega,by omega,by simpa [cV] using hk⟩
theorem nL {sz l c:Nat} {a:Yg} (h:St w (own sz a l c vs :: L)) (hl:0 < vs.length):∃ ad,a = some ad:=by
 rcases dz h with ⟨rfl,_,_,rfl⟩ | ⟨b,pre,cs,post,rfl,_⟩
 ·simp at hl
 ·exact ⟨_,rfl⟩
theorem Aw {sz l c:Nat} {a:Yg} {ad:Addr} (h:St w (own sz a l c vs :: L)) (ha:a = some ad) {j:Nat} {v:Value} (hj:vs[j]? = some v):w.cell? (ad.add j) = some v:=by
 obtain ⟨ad',h1,h2⟩:=cQ h hj
 rw [ha] at h1; cases h1; exact h2
theorem dA (h:drawn w w'):hp w' = hp w:=by unfold drawn at h; subst h; rfl
theorem St.drawn (h:St w L) (hd:V.drawn w w'):St w' L:=h.eq (dA hd)
end
def cw (ws:List Nat):List Value:=ws.map λ(n:Nat)=>Value.int .u64 (n:Int)
def mem (ws:List Nat) (k:Nat):Bool:=(ws.getD (k / 64) 0).testBit (k % 64)
structure Inv (n:Nat) (ws:List Nat) (m:Nat->Bool):Prop where
 len:ws.length = (n + 63) / 64
 le:n<=1024
 lt:∀ x∈ws,x < 2 ^ 64
 mm:∀ k,m k = mem ws k
 out:∀ k,n<=k->m k = false
def wI (p:Yg) (n:Nat) (m:Nat->Bool):ay:=λh =>
 (p = none/\n = 0/\m = λ_=>false) \/
 ∃ b a c ws,p = some ⟨b,0,none⟩/\Inv n ws m/\aC [aK b [.slice a ws.length c,.int .i64 (n:Int)],own 1 a ws.length c (cw ws)] h
section
variable {w w' : World} {L:List ay} {p:Yg} {n:Nat} {m:Nat->Bool}
theorem jg (h:St w (wI p n m :: L)):(p = none/\n = 0/\(m = λ_=>false)/\St w L) \/
  ∃ b a c ws,p = some ⟨b,0,none⟩/\Inv n ws m/\St w (aK b [.slice a ws.length c,.int .i64 (n:Int)] :: own 1 a ws.length c (cw ws) :: L):=by
 have ht:=h.tail
 obtain ⟨h1,h2,d,s1,s2,ha,hl⟩:=h
 rcases ha with ⟨e1,e2,e3⟩ | ⟨b,a,c,ws,e1,e2,e3⟩
 ·exact .inl ⟨e1,e2,e3,ht⟩
 ·exact .inr ⟨b,a,c,ws,e1,e2,St.flat.1 (show St w (aG [_,_] :: L) from ⟨h1,h2,d,s1,s2,e3,hl⟩)⟩
theorem Kh {b:Nat} {a:Yg} {c:Nat} {ws:List Nat} (hi:Inv n ws m) (h:St w (aK b [.slice a ws.length c,.int .i64 (n:Int)] :: own 1 a ws.length c (cw ws) :: L)):St w (wI (some ⟨b,0,none⟩) n m :: L) :=
 (St.flat.2 (show St w ([_,_] ++ L) from h)).head λh ha=>.inr ⟨b,a,c,ws,rfl,hi,ha⟩
theorem Ni (h:St w (wI p n m :: L)) {k:Nat} (hk:n<=k):m k = false:=by
 rcases jg h with ⟨_,_,rfl,_⟩ | ⟨_,_,_,_,_,hi,_⟩
 ·rfl
 ·exact hi.out k hk
theorem Qe (h:St w (wI p n m :: L)):n<=1024:=by
 rcases jg h with ⟨_,rfl,_,_⟩ | ⟨_,_,_,_,_,hi,_⟩
 ·omega
 ·exact hi.le
end
end Go.V
namespace Go.Proofs.YtndaepmjkbmjmaaGreatDoor
open Go.V
section
variable {w:World} {L:List ay} {a:Yg} {c:Nat} {ws:List Nat} {p:Yg} {n:Nat} {m:Nat->Bool}
theorem Iy {ws:List Nat} {j:Nat} (h:j < ws.length):(cw ws)[j]? = some (.int .u64 ((ws.getD j 0:Nat):Int)):=by
 simp [cw,h]
theorem Ax {ws:List Nat} (hl:∀ x∈ws,x < 2 ^ 64) (j:Nat):ws.getD j 0 < 2 ^ 64:=by
 by_cases h:j < ws.length
 ·rw [Wb,Wa h]; exact hl _ (List.getElem_mem h)
 ·rw [Wb,Wt (by omega)]; simp
theorem Nj:nz 64:=by unfold nz; decide
theorem Ay {k:Nat} (h:k < 9223372036854775807):ax (k:Int):=⟨by omega,by omega⟩
theorem GG (h:St w (own 1 a ws.length c (cw ws) :: L)) (hlt:∀ x∈ws,x < 2 ^ 64) {k:Nat} (hk:k / 64 < ws.length) (hb:k < 4096) :
  aA Tryz.prog yq [.slice a ws.length c,.int .i64 (k:Int)] w λv w'=>v = .bool (mem ws k)/\w' = w:=by
 refine u_ ?_
 obtain ⟨ad,rfl⟩:=nL h (by simp [cw]; omega)
 have hg:=Aw h rfl (Iy hk)
 refine ⟨Nj,?_,?_⟩
 ·rw [Bm]; exact Ay (by omega)
 ·rw [Bm,Ng]
  refine aw rfl hk ⟨_,hg,Nj,?_,?_,rfl⟩
  ·show (0:Int)<=_; omega
  ·rw [Nh (Ax hlt _) (Nat.mod_lt _ (by omega))]; rfl
theorem mem_set {ws:List Nat} {k r:Nat} (hk:k / 64 < ws.length) (j:Nat):mem (ws.set (k / 64) r) j = if j / 64 = k / 64 then r.testBit (j % 64) else mem ws j:=by
 unfold mem
 rw [Wb,Xf]
 split
 ·rename_i h; rw [Wn h.symm]; rfl
 ·rename_i h; rw [Wg (λe=>h e.symm),Wb]
theorem SF {ws:List Nat} {i r:Nat}:(cw ws).set i (.int .u64 (r:Int)) = cw (ws.set i r):=by simp [cw]
theorem GH (h:St w (own 1 a ws.length c (cw ws) :: L)) (hlt:∀ x∈ws,x < 2 ^ 64) {k:Nat} (hk:k / 64 < ws.length) (hb:k < 4096) :
  aA Tryz.prog yr [.slice a ws.length c,.int .i64 (k:Int)] w λv w'=>v = .tuple #[]/\∃ ws',ws'.length = ws.length/\(∀ x∈ws',x < 2 ^ 64)/\(∀ j,mem ws' j = (mem ws j || j == k))/\St w' (own 1 a ws.length c (cw ws') :: L):=by
 refine vb ?_
 intro w1 hd
 have h1:=h.drawn hd
 obtain ⟨ad,rfl⟩:=nL h (by simp [cw]; omega)
 have hg:=λw2 (e:hp w2 = hp w)=>Aw (h.eq e) rfl (Iy hk)
 refine ⟨λw2=>hp w2 = hp w,dA hd,Nj,?_,?_⟩
 ·rw [Bm]; exact Ay (by omega)
 ·rw [Bm,Ng]
  refine aw rfl hk ⟨_,hg,Nj,?_,aw rfl hk ?_⟩
  ·show (0:Int)<=_; omega
  ·have hm:k % 64 < 64:=Nat.mod_lt _ (by omega)
   rw [Nf hm,Qd (Ax hlt _) (Nat.pow_lt_pow_right (by omega) hm)]
   refine oU h1 rfl (by simpa [cw] using hk) λw3 h3=>?_
   rw [SF] at h3
   refine ⟨rfl,_,by simp,λx hx=>?_,λj=>?_,h3⟩
   ·rcases XO hx with hx | rfl
    ·exact hlt x hx
    ·exact Nat.or_lt_two_pow (Ax hlt _) (Nat.pow_lt_pow_right (by omega) hm)
   ·rw [mem_set hk]
    split
    ·rename_i e
     rw [Nat.testBit_or,Nat.testBit_two_pow]
     unfold mem
     rw [e]
     congr 1
     by_cases hj:j = k
     ·subst hj; simp
     ·have:¬ (k % 64 = j % 64):=by omega
      simp [hj,this]
    ·rename_i e
     have:(j == k) = false:=by simp; intro h; exact e (by rw [h])
     simp [this]
theorem SG (h:St w (wI p n m :: L)):aA Tryz.prog zP [.pointer p] w λv w'=>v = .int .i64 (n:Int)/\w' = w:=by
 refine wF ?_
 rcases jg h with ⟨rfl,rfl,rfl,_⟩ | ⟨b,a,c,ws,rfl,hi,h⟩
 ·exact ⟨rfl,rfl⟩
 ·refine ⟨(n:Int),?_,rfl,rfl⟩
  rw [aL,h.cell]; rfl
theorem SH (hi:Inv n ws m) {k:Nat} (hk:k < n):k / 64 < ws.length:=by rw [hi.len]; omega
end
end Go.Proofs.YtndaepmjkbmjmaaGreatDoor
namespace Go.V
def rV (h:Hp) (a:Addr):Option Value :=
 match h a.block with
 | some (.cells c _ _)=>if a.spot.isSome then none else c[a.off]?
 | _=>none
theorem tI {h h' : Hp} (s:sub h h') {a:Addr} {v:Value} (hc:rV h a = some v):rV h' a = some v:=by
 unfold rV at *
 split at hc
 ·rename_i c _ _ he; rw [s _ _ he]; exact hc
 ·cases hc
theorem oV {w:World} {a:Addr} {v:Value} (hc:rV (hp w) a = some v):w.cell? a = some v:=by
 unfold rV at hc
 split at hc
 ·rename_i c _ _ he; unfold World.cell?; rw [nq he]; exact hc
 ·cases hc
def eR (a:Yg) (vs:List Value):ay:=λh=>vs = []\/∃ ad,a = some ad/\∀ j v,vs[j]? = some v->rV h (ad.add j) = some v
section
variable {w w' : World} {L:List ay} {a:Yg} {vs:List Value}
theorem ER (h:St w (eR a vs :: L)) {j:Nat} {v:Value} (hj:vs[j]? = some v):∃ ad,a = some ad/\w.cell? (ad.add j) = some v:=by
 obtain ⟨h1,h2,d,s1,s2,ha,hl⟩:=h
 rcases ha with rfl | ⟨ad,e,hc⟩
 ·simp at hj
 ·exact ⟨ad,e,oV (tI s1 (hc j v hj))⟩
theorem cf {sz l c:Nat} {h:Hp} (ha:own sz a l c vs h):eR a vs h:=by
 rcases ha with ⟨_,_,_,rfl⟩ | ⟨b,pre,cs,post,rfl,⟨e,he⟩,_⟩
 ·exact .inl rfl
 ·refine .inr ⟨_,rfl,λj v hj=>?_⟩
  rw [add_lit]; unfold rV; simp only [he]
  have:=(V9.1 hj).1
  simp only [Option.isSome_none,XF,if_false,List.getElem?_toArray]
  rw [Wm (by omega),W6,Wl this]; exact hj
end
def iv (xs:List Int):List Value:=xs.map λx=>Value.int .i64 x
theorem SI {xs:List Int} {j:Nat} {x:Int} (h:xs[j]? = some x):(iv xs)[j]? = some (.int .i64 x):=by simp [iv,h]
theorem bw {l j:Nat} (h:j < l):l - ((j:Int) + 1).toNat < l - (j:Int).toNat:=by omega
def j9 (n:Nat) (m:Nat->Bool):Nat:=((List.range n).filter m).length
theorem Iz (n:Nat) (m:Nat->Bool):j9 n m<=n:=by
 unfold j9; exact WC (WM _ _) (by simp)
theorem rW (n:Nat) (m:Nat->Bool):j9 (n + 1) m = j9 n m + (if m n then 1 else 0):=by
 unfold j9; rw [Xi,WK,We]
 congr 1
 by_cases h:m n <;> simp [h]
theorem DM {n:Nat} {m m' : Nat->Bool} (h:∀ k,k < n->m k = m' k):j9 n m = j9 n m':=by
 unfold j9; congr 1; exact Xk λk hk=>h k (by simpa using hk)
theorem Ki {n:Nat} {m:Nat->Bool} {k:Nat} (hk:k < n) (hm:m k = false):j9 n (λj=>m j || j == k) = j9 n m + 1:=by
  induction n with
  | zero=>omega
  | succ n ih =>
    rw [rW,rW]
    by_cases h:k = n
    · subst h
      rw [DM (m' := m) λj hj => by have : (j == k) = false := by simp; omega
                                   simp [this]]
      simp [hm]
    · rw [ih (by omega)]
      have:(n == k) = false:=by simp; omega
      simp only [this,Bool.or_false]; omega
def fL (n:Nat) (m:Nat->Bool) (xs:List Int):Nat->Bool:=λk=>m k || (decide (k < n) && xs.contains (k:Int))
theorem bA {xs:List Int} {j:Nat} {x:Int} (h:xs[j]? = some x):xs.take (j + 1) = xs.take j ++ [x]:=by
 rw [Wf,h]; rfl
theorem mG (l:List Int) (x y:Int):(l ++ [x]).contains y = (l.contains y || y == x):=by
 simp only [List.contains_append,List.contains_cons,List.contains_nil,Bool.or_false]
theorem LA {n:Nat} {m:Nat->Bool} {xs:List Int} {j:Nat} {x:Nat} (h:xs[j]? = some (x:Int)) (hx:x < n):fL n m (xs.take (j + 1)) = λk=>fL n m (xs.take j) k || k == x:=by
 funext k
 simp only [fL,bA h,mG]
 have e:((k:Int) == (x:Int)) = (k == x):=by
  rw [WX]; simp only [X2]; omega
 rw [e]
 by_cases hk:k = x
 ·subst hk; simp [hx]
 ·have:(k == x) = false:=by simp [hk]
  simp [this]
theorem DN {n:Nat} {m:Nat->Bool} {xs:List Int} {j:Nat} {x:Int} (h:xs[j]? = some x) (hx:∀ k:Nat,k < n->(k:Int) = x->fL n m (xs.take j) k = true):fL n m (xs.take (j + 1)) = fL n m (xs.take j):=by
 funext k
 have hk:=hx k
 simp only [fL,bA h,mG] at hk ⊢
 by_cases h1:k < n
 ·by_cases h2:(k:Int) = x
  ·have:=hk h1 h2
   simp only [h1,decide_true,XL] at this ⊢
   rw [this]
   revert this
   cases m k <;> simp
   intro h; exact .inl h
  ·have:((k:Int) == x) = false:=by simp [h2]
   simp [this]
 ·simp [h1]
theorem GI (n:Nat) (m:Nat->Bool):fL n m [] = m:=by funext k; simp [fL]
end Go.V
namespace Go.Proofs.YtndaepmjkbmjmaaGreatDoor
open Go.V
section
variable {w:World} {L:List ay} {a:Yg} {l c:Nat} {p:Yg} {n:Nat} {m:Nat->Bool} {xs:List Int}
theorem R0 {D:ay} (hD:∀ h,D h->eR a (iv xs) h) (h:St w (wI p n m :: D :: L)) (hl:xs.length = l) (hb:l<=4611686018427387904) :
  aA Tryz.prog rC [.pointer p,.slice a l c] w λv w'=>v = .int .i64 ((j9 n (fL n m xs):Int) - j9 n m)/\St w' (wI p n (fL n m xs) :: D :: L):=by
 refine ym ?_
 refine ⟨λn1 n2 w=>∃ j:Nat,n2 = j/\j<=l/\n1 = (j9 n (fL n m (xs.take j)):Int) - j9 n m/\St w (wI p n (fL n m (xs.take j)) :: D :: L),
  λ_ n2 _=>l - n2.toNat,⟨0,rfl,by omega,by simp [GI],by simpa [GI] using h⟩,?_⟩
 rintro _ n1 n2 w1 ⟨j,rfl,hj,hn1,hs⟩
 refine ae (λh0=>?_) λh0=>?_
 ·have h0:j < l:=by have:=V7 h0; omega
  obtain ⟨x,hx⟩ : ∃ x,xs[j]? = some x:=⟨xs[j],by simp [show j < xs.length by omega]⟩
  obtain ⟨ad,rfl,hc⟩:=ER (hs.swap.head hD) (SI hx)
  have hle:=Iz n (fL n m (xs.take j))
  have hle2:=Iz n m
  have hn:=Qe hs
  have mI:ax ((j:Int) + 1):=⟨by omega,by omega⟩
  refine aw rfl h0 ⟨x,hc,?_⟩
  have skip:(∀ k:Nat,k < n->(k:Int) = x->fL n m (xs.take j) k = true)->∀ w2,St w2 (wI p n (fL n m (xs.take j)) :: D :: L)->ax ((j:Int) + 1) /\
    (∃ j' : Nat,(j:Int) + 1 = j'/\j'<=l/\n1 = (j9 n (fL n m (xs.take j')):Int) - j9 n m/\St w2 (wI p n (fL n m (xs.take j')) :: D :: L))/\l - ((j:Int) + 1).toNat < l - (j:Int).toNat:=by
   intro hx' w2 hs2
   refine ⟨mI,⟨j + 1,by simp,by omega,?_,?_⟩,bw h0⟩
   ·rw [DN hx hx']; exact hn1
   ·rw [DN hx hx']; exact hs2
  refine ae (λh1=>?_) λh1=>?_
  ·have h1:=V7 h1
   obtain ⟨x,rfl⟩:=Int.eq_ofNat_of_zero_le h1
   refine (SG hs).mono ?_
   rintro _ _ ⟨rfl,rfl⟩
   refine ⟨_,rfl,ae (λh2=>?_) λh2=>?_⟩
   ·have h2:x < n:=by have:=V7 h2; omega
    rcases jg hs with ⟨rfl,rfl,_⟩ | ⟨b,ab,cb,ws,rfl,hi,hs2⟩
    ·omega
    have hw:=SH hi h2
    have hxb:x < 4096:=by omega
    refine ⟨ab,ws.length,cb,by rw [hs2.cell]; rfl,?_⟩
    refine (GG hs2.swap hi.lt hw hxb).mono ?_
    rintro _ _ ⟨rfl,rfl⟩
    refine ⟨_,rfl,ae (λh3=>?_) λh3=>?_⟩
    ·refine ⟨ab,ws.length,cb,by rw [hs2.cell]; rfl,?_⟩
     refine (GH hs2.swap hi.lt hw hxb).mono ?_
     rintro _ w3 ⟨rfl,ws',e1,e2,e3,hs3⟩
     have hfalse:fL n m (xs.take j) x = false:=by rw [hi.mm]; simpa using h3
     have hcnt:=Ki h2 hfalse
     have hst:=LA (m:=m) hx h2
     refine ⟨rfl,⟨by omega,by omega⟩,mI,⟨j + 1,by simp,by omega,?_,?_⟩,bw h0⟩
     ·rw [hst,hcnt,hn1]; omega
     ·rw [hst]
      rw [<- e1] at hs3
      refine Kh ⟨e1 ▸ hi.len,hi.le,e2,λk=>?_,λk hk=>?_⟩ (by rw [e1] at hs3 ⊢; exact hs3.swap)
      ·rw [e3,hi.mm]
      ·rw [hi.out k hk]; simp; omega
    ·refine skip (λk hk he=>?_) _ hs
     have:k = x:=by omega
     subst this
     rw [hi.mm]; simpa using h3
   ·refine skip (λk hk he=>?_) _ hs
    have:=V8 h2; omega
  ·refine skip (λk hk he=>?_) _ hs
   have:=V8 h1; omega
 ·have h0:j = l:=by have:=V8 h0; omega
  subst h0
  rw [<- hl,Ww] at hs hn1
  exact ⟨by rw [hn1],hs⟩
end
end Go.Proofs.YtndaepmjkbmjmaaGreatDoor
namespace Go.V
theorem ES (n:Nat):IntKind.u64.wrap (n:Int) = ((n % 18446744073709551616:Nat):Int):=by
 simp only [IntKind.wrap,IntKind.signed,IntKind.bits]
 simp
theorem ET {x:Nat} (h0:x≠0) (hx:x < 2 ^ 64):IntKind.u64.wrap (0 - (x:Int)) = ((18446744073709551616 - x:Nat):Int):=by
 have:(0 - (x:Int)) % (18446744073709551616:Int) = ((18446744073709551616 - x:Nat):Int):=by omega
 simpa [IntKind.wrap,IntKind.signed,IntKind.bits] using this
theorem Nk {T:List Nat} {i k:Nat} {f:Nat->Value} (h:T.getD i 0 = k) (hi:i < T.length):(T.map f)[i]? = some (f k):=by
 rw [Wb,Wa hi] at h
 rw [Wc,Wa hi]
 simp only [Option.getD_some] at h
 rw [h]; rfl
theorem SJ {x a:Nat} (h0:x≠0) (hx:x < 2 ^ 64) (ha:x &&& (18446744073709551616 - x) = a) :
  bH .u64 (IntKind.u64.wrap (kL .and .u64 (x:Int) (IntKind.u64.wrap (0 - (x:Int))) * 285870213051353865)) 58 = ((a * 285870213051353865 % 18446744073709551616 / 2 ^ 58:Nat):Int):=by
 have e2:=Bk (a:=x) (b:=18446744073709551616 - x) hx (by omega)
 rw [ET h0 hx,e2,ha]
 have e3:=ES (a * 285870213051353865)
 rw [Int.natCast_mul] at e3
 have e5:((285870213051353865:Nat):Int) = 285870213051353865:=rfl
 rw [e5] at e3
 rw [e3]
 exact Bl (s:=58) (by omega)
end Go.V
namespace Go.Proofs.YtndaepmjkbmjmaaGreatDoor
open Go.V
theorem wJ {x:Nat} (hx:x < 2 ^ 64) (w:World) {L:List ay} (h:St w (eR (some ⟨0,0,none⟩) (Lib.deBruijn64tab.map λ(k:Nat)=>Value.int .u8 (k:Int)) :: L)):aA Tryz.prog ky [.int .u64 (x:Int)] w λv w'=>v = .int .i64 ((Lib.ctz 64 x:Nat):Int)/\w' = w:=by
 refine jF ?_
 refine ae (λh0=>?_) λh0=>?_
 ·have:x = 0:=by simpa using h0
  subst this
  exact ⟨rfl,rfl⟩
 ·have h0:x≠0:=by simpa using h0
  obtain ⟨hlow,hk⟩:=Lib.lowest_bit 64 x h0 hx
  obtain ⟨hi,htab⟩:=Lib.deBruijn64_at _ hk
  rw [SJ h0 hx hlow]
  generalize Lib.ctz 64 x = k at hk hi htab ⊢
  have e58:(2:Nat) ^ 58 = 288230376151711744:=by decide
  rw [e58]
  generalize 2 ^ k * 285870213051353865 % 18446744073709551616 / 288230376151711744 = i at hi htab ⊢
  refine ⟨show (0:Int)<=58 by decide,aw rfl hi ⟨(k:Int),?_,⟨by omega,by omega⟩,rfl,rfl⟩⟩
  have hg:=Nk (f:=λ(k:Nat)=>Value.int .u8 (k:Int)) htab hi
  obtain ⟨ad,e,hc⟩:=ER h hg
  cases e
  exact hc
end Go.Proofs.YtndaepmjkbmjmaaGreatDoor
namespace Go.V
theorem DO (a b:Nat) (m:Nat->Bool):j9 (a + b) m = j9 a m + j9 b (λk=>m (a + k)):=by
 unfold j9
 rw [List.range_add,WK,We,List.filter_map,Wh]
 rfl
theorem GJ {a:Nat} {m:Nat->Bool} (h:∀ k,k < a->m k = false):j9 a m = 0:=by
 unfold j9
 rw [Xv.2 λk hk=>by simp [h k (by simpa using hk)]]; rfl
theorem Qf {n:Nat} {ws:List Nat} {m:Nat->Bool} (hi:Inv n ws m):j9 (64 * ws.length) m = j9 n m:=by
 have h:64 * ws.length = n + (64 * ws.length - n):=by rw [hi.len]; omega
 rw [h,DO,GJ (a:=64 * ws.length - n) λk _=>hi.out _ (by omega)]; omega
def H_ (s:Int):Nat:=(if 1024 < if s < 0 then 0 else s then 1024 else if s < 0 then 0 else s).toNat
theorem SK (s:Int):(if 1024 < if s < 0 then 0 else s then (1024:Int) else if s < 0 then 0 else s) = (H_ s:Int):=by
 unfold H_
 split <;> split <;> omega
theorem SL (s:Int):H_ s<=1024:=by
 unfold H_; split
 ·decide
 ·split <;> omega
theorem Qg {n:Nat} (h:n<=1024):H_ (n:Int) = n:=by
 unfold H_
 rw [Wg (by rw [Wg (by omega)]; omega),Wg (by omega)]; simp
theorem db (v:Value):∀ n,jz n [v] = List.replicate n v
 | 0=>rfl
 | n + 1=>by simp [jz,db v n,XZ]
theorem Qh (n:Nat):cw (List.replicate n 0) = List.replicate n (.int .u64 0):=by simp [cw]
theorem Nl (n k:Nat):mem (List.replicate n 0) k = false:=by
 unfold mem
 rw [Wb,Xr]
 split <;> simp
theorem inv_zero {n:Nat} (h:n<=1024):Inv n (List.replicate ((n + 63) / 64) 0) (λ_=>false) :=
 ⟨by simp,h,λx hx=>by rw [List.mem_replicate] at hx; rw [hx.2]; decide,λk=>(Nl _ k).symm,λ_ _=>rfl⟩
end Go.V
namespace Go.Proofs.YtndaepmjkbmjmaaGreatDoor
open Go.V
section
variable {w:World} {L:List ay} {a:Yg} {l c:Nat} {p:Yg} {n:Nat} {m:Nat->Bool} {xs:List Int}
theorem Ve (size:Int) {D:ay} (hD:∀ h,D h->eR a (iv xs) h) (h:St w (D :: L)) (hl:xs.length = l) (hb:l<=4611686018427387904) :
  aA Tryz.prog DL [.int .i64 size,.slice a l c] w λv w'=>∃ b,v = .pointer (some ⟨b,0,none⟩)/\St w' (wI (some ⟨b,0,none⟩) (H_ size) (fL (H_ size) (λ_=>false) xs) :: D :: L):=by
 refine GF _ _ _ _ w _ ?_
 unfold Bn
 rw [SK]
 have hle:=SL size
 generalize H_ size = N at *
 have e0:((N:Int) + 63) = ((N + 63:Nat):Int):=by omega
 rw [e0,Bm,Ws]
 refine ⟨Ay (by omega),Nj,Ay (by omega),⟨by omega,rfl,by omega⟩,?_⟩
 rw [db]
 refine ah h λb1 w1 h1=>ah h1 λb2 w2 h2=>?_
 have h3:St w2 (wI (some ⟨b2,0,none⟩) N (λ_=>false) :: D :: L):=by
  refine Kh (a:=some ⟨b1,0,none⟩) (c:=(N + 63) / 64) (inv_zero hle) ?_
  have hlen:(List.replicate ((N + 63) / 64) 0:List Nat).length = (N + 63) / 64:=by simp
  rw [hlen]
  refine St.swap (iy (cs:=[]) ?_ ?_ ?_ (Wr _))
  ·rw [WG,Qh]; exact h2.swap
  ·simp [cw]
  ·simp [cw]
 refine (R0 hD h3 hl hb).mono ?_
 rintro _ w3 ⟨rfl,h4⟩
 exact ⟨_,rfl,b2,rfl,h4⟩
end
end Go.Proofs.YtndaepmjkbmjmaaGreatDoor
namespace Go.V
def T5 (b:Nat) (n:Nat) (m:Nat->Bool):ay:=ex λx:Yg × Nat × List Nat=>aG [pu (Inv n x.2.2 m),aK b [.slice x.1 x.2.2.length x.2.1],own 1 x.1 x.2.2.length x.2.1 (cw x.2.2)]
theorem wK {w:World} {L:List ay} {b n:Nat} {m:Nat->Bool}:St w (T5 b n m :: L)↔∃ a c ws,Inv n ws m/\St w (aK b [.slice a ws.length c] :: own 1 a ws.length c (cw ws) :: L):=by
 unfold T5
 rw [St.ex]
 constructor
 ·rintro ⟨⟨a,c,ws⟩,h⟩
  have h:=St.pu.1 (St.flat.1 h)
  exact ⟨a,c,ws,h.1,h.2⟩
 ·rintro ⟨a,c,ws,hi,h⟩
  exact ⟨⟨a,c,ws⟩,St.flat.2 (St.pu.2 ⟨hi,h⟩)⟩
theorem SM {ws:List Nat} (h:cw ws = []):ws = []:=by simpa [cw] using h
end Go.V
namespace Go.Proofs.YtndaepmjkbmjmaaGreatDoor
open Go.V
section
variable {w:World} {L:List ay} {a:Yg} {l c:Nat} {p:Yg} {n:Nat} {m:Nat->Bool} {xs:List Int} {ws:List Nat}
theorem Qi {D:ay} (hD:∀ h,D h->eR a (cw ws) h) (h:St w (D :: L)) (hb:ws.length<=1024) (hn:a = none->ws = []) :
  aA Tryz.prog ik [.slice a ws.length c] w λv w'=>∃ a' c',v = .slice a' ws.length c'/\St w' (own 1 a' ws.length c' (cw ws) :: D :: L):=by
 refine gd ?_
 cases a with
 | none =>
  have h3:=hn rfl
  subst h3
  exact ⟨none,0,rfl,az 1 h⟩
 | some ad =>
  refine ah h λb w1 h1=>?_
  have h2:St w1 (own 1 (some ⟨b,0,none⟩) 0 0 [] :: D :: L):=iy (cs:=[]) h1 rfl rfl (Wr _)
  refine (iA aQ (rfl:aj Ty _ = .slice _) rfl rfl rfl h2 (n:=ws.length) (news:=cw ws) ?_ ?_ (by omega)).mono ?_
  ·exact fx aQ (rfl:aj Ty _ = .slice _) (by simp [cw]) (.inr ⟨ad,rfl,λj u hj=>by
    obtain ⟨_,e,hc⟩:=ER (h2.swap.head hD) hj
    cases e; exact hc⟩) (λu hu=>by
    simp only [cw,Wu] at hu
    obtain ⟨_,_,rfl⟩:=hu; rfl)
  ·show (0 + ws.length) * 8<=_; omega
  ·rintro _ w2 ⟨a',c',rfl,h3⟩
   rw [Xc,WT] at h3
   exact ⟨_,_,_,rfl,a',c',by rw [Xc],h3⟩
end
end Go.Proofs.YtndaepmjkbmjmaaGreatDoor
namespace Go.V
def rX (n:Nat) (m:Nat->Bool):List Nat:=(List.range n).filter m
theorem DP (n:Nat) (m:Nat->Bool):(rX n m).length = j9 n m:=rfl
theorem Nn {n k:Nat} {m:Nat->Bool} (hk:k < n) (hm:m k = true):(rX n m)[j9 k m]? = some k:=by
 have e:n = k + (n - k - 1 + 1):=by omega
 unfold rX
 rw [e,List.range_add,WK,Wm (by simp [j9])]
 have:j9 k m - (List.filter m (List.range k)).length = 0:=by simp [j9]
 rw [this,List.range_succ_eq_map,WV,Xj]
 simp [hm]
theorem Np {x:Nat} (h0:x≠0) (hx:x < 2 ^ 64):Lib.ctz 64 x < 64/\x.testBit (Lib.ctz 64 x) = true/\(∀ k,k < Lib.ctz 64 x->x.testBit k = false)/\∀ k,(x &&& (x - 1)).testBit k = (x.testBit k && !(k == Lib.ctz 64 x)):=by
 have e:Lib.ctz 64 x = Lib.ctzFrom 64 x:=by unfold Lib.ctz; rw [Wg h0]
 obtain ⟨q,hq,hc⟩:=Lib.ctzFrom_spec 64 x (by omega) hx
 rw [e]
 generalize Lib.ctzFrom 64 x = c at *
 have hp:0 < 2 ^ c:=Nat.two_pow_pos c
 have hx1:x - 1 = 2 ^ c * (2 * q) + (2 ^ c - 1):=by
  rw [hq,Nat.mul_add,Xw]; omega
 have t1:∀ k,x.testBit k = if k < c then false else (2 * q + 1).testBit (k - c):=λk=>by
  rw [hq]
  have:=Nat.testBit_two_pow_mul_add (2 * q + 1) (b:=0) (i:=c) hp k
  rw [Nat.add_zero] at this
  rw [this]; simp
 have t2:∀ k,(x - 1).testBit k = if k < c then true else (2 * q).testBit (k - c):=λk=>by
  rw [hx1,Nat.testBit_two_pow_mul_add _ (by omega)]
  split
  ·rename_i h; rw [Nat.testBit_two_pow_sub_one]; simp [h]
  ·rfl
 refine ⟨hc,?_,λk hk=>?_,λk=>?_⟩
 ·rw [t1,Wg (by omega)]; simp
 ·rw [t1,Wn hk]
 ·rw [Nat.testBit_and,t2,t1]
  by_cases hk:k < c
  ·simp [hk]
  ·rw [Wg hk,Wg hk]
   by_cases hkc:k = c
   ·subst hkc; simp
   ·have e3:k - c = (k - c - 1) + 1:=by omega
    have:(k == c) = false:=by simp [hkc]
    rw [this,e3,Nat.testBit_add_one,Nat.testBit_add_one]
    have e4:(2 * q + 1) / 2 = q:=by omega
    have e5:2 * q / 2 = q:=by omega
    rw [e4,e5]; simp
def EU (l:List Nat):List (List Value):=l.map λ(k:Nat)=>[Value.int .i64 (k:Int)]
theorem uU {a b:Nat} {m:Nat->Bool} (h:a<=b) (hf:∀ k,a<=k->k < b->m k = false):j9 b m = j9 a m:=by
 have e:b = a + (b - a):=by omega
 rw [e,DO,GJ (a:=b - a) λk hk=>hf _ (by omega) (by omega)]; omega
def Qj:List Value:=Lib.deBruijn64tab.map λ(k:Nat)=>Value.int .u8 (k:Int)
def eM:ay:=eR (some ⟨0,0,none⟩) Qj
theorem SN {A:ay} {w:World} (h:A (hp w)):St w [A]:=⟨hp w,λ_=>none,λ_=>.inr rfl,sub.refl _,λ_ _ h=>(nomatch h),h,trivial⟩
end Go.V
namespace Go.Proofs.YtndaepmjkbmjmaaGreatDoor
open Go.V
section
variable {w:World} {L:List ay} {b:Nat} {n:Nat} {m:Nat->Bool}
theorem DQ:T3 Tryz.prog mi [] [.pointer (some ⟨b,0,none⟩)] (T5 b n m) eM (EU (rX n m)):=by
 intro l E hE J Jx L w0 h0 hQ hy
 have h0' : ∃ a c ws,Inv n ws m/\St w0 (J 0 :: aK b [.slice a ws.length c] :: own 1 a ws.length c (cw ws) :: L):=by
  obtain ⟨a,c,ws,hi,h2⟩:=wK.1 h0.swap
  exact ⟨a,c,ws,hi,h2.F7⟩
 obtain ⟨a,c,ws,hi,hs0⟩:=h0'
 have back:∀ (A:ay) w',St w' (A :: aK b [.slice a ws.length c] :: own 1 a ws.length c (cw ws) :: L)->St w' (A :: T5 b n m :: L):=by
  intro A w' h
  exact (wK.2 ⟨a,c,ws,hi,h.perm ((List.Perm.swap _ _ _).trans (List.Perm.cons _ (List.Perm.swap _ _ _)))⟩).swap
 have tab2:∀ {A B C:ay} {w'},St w' (A :: B :: C :: L)->St w' [eM]:=λ{A B C w'} h=>SN (hQ _ (bz (bz (bz h))))
 refine qm E l ⟨b,0,none⟩ hE w0 _ ?_
 refine ⟨a,ws.length,c,by rw [hs0.swap.cell]; rfl,?_⟩
 refine ⟨λn1 w=>∃ j:Nat,n1 = j/\j<=ws.length/\St w (J (j9 (64 * j) m) :: aK b [.slice a ws.length c] :: own 1 a ws.length c (cw ws) :: L),λn1 _=>ws.length - n1.toNat,
  ⟨0,rfl,by omega,by simpa [j9] using hs0⟩,?_⟩
 rintro _ n1 w1 ⟨j,rfl,hj,hs⟩
 have hlen:=hi.len
 have hn:=hi.le
 refine ae (λh1=>?_) λh1=>?_
 ·have h1:j < ws.length:=by have:=V7 h1; omega
  obtain ⟨ad,rfl⟩:=nL hs.F7 (by simp [cw]; omega)
  have hg:=Aw hs.F7 rfl (Iy h1)
  refine aw rfl h1 ⟨_,hg,?_⟩
  have hw64:=Ax hi.lt j
  have hmem:∀ k,k < 64->m (64 * j + k) = (ws.getD j 0).testBit k:=λk hk=>by
   rw [hi.mm]; unfold mem
   rw [show (64 * j + k) / 64 = j by omega,show (64 * j + k) % 64 = k by omega]
  generalize ws.getD j 0 = W at hg hw64 hmem ⊢
  refine ⟨λn3 w=>∃ (r s:Nat),n3 = r/\r < 2 ^ 64/\s<=64/\(∀ k,r.testBit k = (decide (s<=k) && W.testBit k))/\St w (J (j9 (64 * j + s) m) :: aK b [.slice (some ad) ws.length c] :: own 1 (some ad) ws.length c (cw ws) :: L),λn3 _=>n3.toNat,
   ⟨W,0,rfl,hw64,by omega,by simp,by simpa using hs⟩,?_⟩
  rintro _ n3 w2 ⟨r,s,rfl,hr,hs64,hbits,hs2⟩
  refine ae (λh2=>?_) λh2=>?_
  ·have h2:r≠0:=by simpa using h2
   obtain ⟨k1,k2,k3,k4⟩:=Np h2 hr
   have hinj:ax (64 * (j:Int)):=⟨by omega,by omega⟩
   refine ⟨hinj,?_⟩
   refine ((wJ hr w2 (tab2 hs2)).VP hE).mono ?_
   rintro _ _ ⟨rfl,rfl⟩
   generalize Lib.ctz 64 r = k at k1 k2 k3 k4 ⊢
   refine ⟨_,rfl,⟨by omega,by omega⟩,?_⟩
   have hsk:s<=k/\W.testBit k = true:=by
    rw [hbits] at k2; simpa using k2
   have hmk:m (64 * j + k) = true:=by rw [hmem k k1]; exact hsk.2
   have hkn:64 * j + k < n:=Nat.lt_of_not_le λhle=>by rw [hi.out _ hle] at hmk; cases hmk
   have hpos:j9 (64 * j + k) m = j9 (64 * j + s) m:=uU (by omega) λq hq1 hq2=>by
    have h3:=k3 (q - 64 * j) (by omega)
    rw [hbits] at h3
    have:s<=q - 64 * j:=by omega
    have h4:=hmem (q - 64 * j) (by omega)
    rw [show 64 * j + (q - 64 * j) = q by omega] at h4
    rw [h4]; simpa [this] using h3
   have hxs:(EU (rX n m))[j9 (64 * j + s) m]? = some [.int .i64 ((64 * j + k:Nat):Int)]:=by
    unfold EU
    rw [Wc,<- hpos,Nn hkn hmk]; rfl
   have e64:(64 * (j:Int) + (k:Int)) = ((64 * j + k:Nat):Int):=by omega
   rw [e64]
   obtain ⟨f',tmps,asg,body,y1,y2⟩:=hy _ _ hxs _ _ (λh hh=>bz (bz hh)) hs2
   refine ⟨f',tmps,asg,body,y1,RoundIn.mono y2 ?_⟩
   rintro e w4 ⟨v,rfl,hE4,hv⟩
   refine ⟨v,rfl,hE4,?_⟩
   have hone:j9 (64 * j + (k + 1)) m = j9 (64 * j + s) m + 1:=by
    rw [show 64 * j + (k + 1) = 64 * j + k + 1 by omega,rW,hmk,hpos]; rfl
   rcases hv with ⟨rfl,hs4⟩ | ⟨rfl,hs4⟩
   ·refine ⟨true,rfl,?_⟩
    have e1:IntKind.u64.wrap ((r:Int) - 1) = ((r - 1:Nat):Int):=by
     have:=wrap_u64 (r - 1) (by omega)
     rw [<- this]; congr 1; omega
    have e2:=Bk (a:=r) (b:=r - 1) hr (by omega)
    show (∃ r' s' : Nat,_/\_)/\_
    rw [e1,e2]
    refine ⟨⟨r &&& (r - 1),k + 1,rfl,Nat.and_lt_two_pow _ (by omega),by omega,λq=>?_,?_⟩,?_⟩
    ·rw [k4,hbits]
     by_cases hq:q < k
     ·have h3:=k3 q hq
      rw [hbits] at h3
      rw [h3]
      have:¬ k + 1<=q:=by omega
      simp [this]
     ·by_cases hqk:q = k
      ·subst hqk
       have:¬ q + 1<=q:=by omega
       simp [this]
      ·have h5:(q == k) = false:=by simp [hqk]
       have h6:s<=q:=by omega
       have h7:k + 1<=q:=by omega
       simp [h5,h6,h7]
    ·rw [hone]; exact hs4
    ·show (((r &&& (r - 1):Nat):Int)).toNat < ((r:Nat):Int).toNat
     have:r &&& (r - 1)<=r - 1:=Nat.and_le_right
     simp only [Ws]
     omega
   ·refine ⟨false,rfl,?_⟩
    exact .inr (back _ _ hs4)
  ·have h2:r = 0:=by simpa using h2
   subst h2
   refine ⟨⟨by omega,by omega⟩,⟨j + 1,by simp,by omega,?_⟩,bw h1⟩
   have:j9 (64 * (j + 1)) m = j9 (64 * j + s) m:=uU (by omega) λq hq1 hq2=>by
    have h3:=hbits (q - 64 * j)
    have h4:=hmem (q - 64 * j) (by omega)
    rw [show 64 * j + (q - 64 * j) = q by omega] at h4
    rw [h4]
    have:s<=q - 64 * j:=by omega
    simpa [this] using h3.symm
   rw [this]; exact hs2
 ·have h1:j = ws.length:=by have:=V8 h1; omega
  subst h1
  rw [Qf hi,<- DP] at hs
  refine .inl ?_
  have:(EU (rX n m)).length = (rX n m).length:=by simp [EU]
  rw [this]
  exact back _ _ hs
end
end Go.Proofs.YtndaepmjkbmjmaaGreatDoor
namespace Go.V
def nM (l:List Nat):List Value:=l.map λ(k:Nat)=>Value.int .i64 (k:Int)
theorem Nq {ks:List Nat} {i k:Nat} (h:ks[i]? = some k):nM (ks.take (i + 1)) = nM (ks.take i) ++ [.int .i64 (k:Int)]:=by
 unfold nM; rw [Wf,h]; simp
end Go.V
namespace Go.Proofs.YtndaepmjkbmjmaaGreatDoor
open Go.V
section
variable {w:World} {L:List ay} {a:Yg} {l c:Nat} {p:Yg} {n:Nat} {m:Nat->Bool} {xs:List Int} {ws:List Nat}
theorem GK {g:FuncId} {cap:List Value} {D Q:ay} {ks:List Nat} {vs:List Value} (hg:Fn g = true) (hI:T3 Tryz.prog g [] cap D Q (EU ks)) (hQ:∀ h,aC L h->Q h) (hb:l + ks.length<=1099511627776)
  (h:St w (own 1 a l c vs :: D :: L)) :
  aA Tryz.prog kv [.slice a l c,.func (.func g) #[] ⟨cap⟩] w λv w'=>∃ a' c',v = .slice a' (l + ks.length) c'/\St w' (own 1 a' (l + ks.length) c' (vs ++ nM ks) :: D :: L):=by
 refine jC ?_
 refine ah h λb w1 h1=>bJ.2 ⟨hg,?_⟩
 refine ⟨EU ks,D,Q,λi=>ex λy:Yg × Nat=>aG [aK b [.slice y.1 (l + i) y.2],own 1 y.1 (l + i) y.2 (vs ++ nM (ks.take i))],pu False,λ_=>pu False,L,?_,hQ,hI,?_,?_,?_,?_,trivial⟩
 ·refine St.ex.2 ⟨(a,c),St.flat.2 ?_⟩
  simpa [nM] using h1
 ·intro x hx
  simp only [EU,Wu] at hx
  obtain ⟨k,_,rfl⟩:=hx
  exact ⟨_,rfl⟩
 ·intro i x hx L' w2 _ hs
  refine ⟨_,hs,λL'' w3 _ hs3=>?_⟩
  obtain ⟨⟨a1,c1⟩,hs3⟩:=St.ex.1 hs3
  have hs3:=St.flat.1 hs3
  have hx:(EU ks)[i]? = some [.int .i64 x]:=hx
  obtain ⟨k,hk,rfl⟩ : ∃ k,ks[i]? = some k/\x = (k:Int):=by
   unfold EU at hx
   rw [Wc] at hx
   cases hki:ks[i]? with
   | none=>rw [hki] at hx; cases hx
   | some k=>rw [hki] at hx; simp at hx; exact ⟨k,rfl,hx.symm⟩
  have hil:=(V9.1 hk).1
  refine ⟨a1,l + i,c1,by rw [hs3.cell]; rfl,?_⟩
  refine ah hs3 λb2 w4 h4=>?_
  refine (iA aQ (rfl:aj Ty _ = .slice _) rfl rfl rfl h4.F7 (n:=1) (news:=[.int .i64 (k:Int)]) ?_ ?_ (by omega)).mono ?_
  ·refine fx aQ (rfl:aj Ty _ = .slice _) rfl (.inr ⟨_,rfl,λj u hj=>?_⟩) (λu hu=>?_)
   ·rw [aL,h4.cell]; exact hj
   ·simp only [Wy] at hu; subst hu; rfl
  ·show (l + i + 1) * 8<=_; omega
  ·rintro _ w5 ⟨a',c',rfl,h5⟩
   refine ⟨_,_,_,rfl,bh h5.F7 (by simp) λw6 h6=>St.ex.2 ⟨(a',c'),St.flat.2 ?_⟩⟩
   rw [Nq hk,<- Wj]
   have h7:St w6 (aK b [.slice a' (l + i + 1) c'] :: own 1 a' (l + i + 1) c' (vs ++ nM (ks.take i) ++ [.int .i64 (k:Int)]) :: aK b2 [.int .i64 (k:Int)] :: L''):=h6
   exact h7.perm (List.Perm.refl _) |>.F7.tail
 ·intro w2 hs
  obtain ⟨⟨a1,c1⟩,hs⟩:=St.ex.1 hs
  have hs:=St.flat.1 hs
  have e:(EU ks).length = ks.length:=by simp [EU]
  rw [e,Ww] at hs
  refine ⟨a1,_,c1,by rw [hs.cell]; rfl,λw3 h3=>⟨a1,c1,rfl,(hs.eq h3).tail⟩⟩
 ·intro w2 hs
  exact (St.pu.1 hs).1.elim
theorem LB {g:FuncId} {cap:List Value} {D Q:ay} {ks:List Nat} (hg:Fn g = true) (hI:T3 Tryz.prog g [] cap D Q (EU ks)) (hQ:∀ h,aC L h->Q h) (hb:ks.length<=1099511627776) (h:St w (D :: L)) :
  aA Tryz.prog ql [.func (.func g) #[] ⟨cap⟩] w λv w'=>∃ a' c',v = .slice a' ks.length c'/\St w' (own 1 a' ks.length c' (nM ks) :: D :: L):=by
 refine nC ?_
 refine (GK hg hI hQ (l:=0) (by omega) (az 1 h)).mono ?_
 rintro _ w' ⟨a',c',rfl,h1⟩
 rw [Xc,WT] at h1
 exact ⟨_,_,_,rfl,a',c',by rw [Xc],h1⟩
end
end Go.Proofs.YtndaepmjkbmjmaaGreatDoor
namespace Go.V
theorem SO (ks:List Nat):nM ks = iv (ks.map λ(k:Nat)=>(k:Int)):=by simp [nM,iv]
end Go.V
namespace Go.V
def VT:List ay->List ay
 | []=>[]
 | _ :: L=>L
def Kj:Nat->List ay->List ay
 | 0,L=>L
 | n + 1,L=>Kj n (VT L)
abbrev R3 (L:List ay) (n:Nat):List ay:=Kj n L
theorem DR:∀ n,Kj n [] = []
 | 0=>rfl
 | n + 1=>DR n
def Qk (i:Nat):List Nat->Bool
 | []=>false
 | j :: l=>Nat.beq i j || Qk i l
theorem Kk (i:Nat):∀ l,Qk i l = l.contains i
 | []=>rfl
 | j :: l=>by
  rw [Qk,Kk i l,List.contains_cons]; congr 1; rw [WX]; simp
def Nr (L:List ay):List Nat->List ay->List ay
 | [],T=>T
 | i :: is,T=>oJ L i :: Nr L is T
def U1 (n:Nat):List Nat->Bool
 | []=>true
 | i :: is=>Nat.blt i n && !Qk i is && U1 n is
theorem zA:∀ (n:Nat) (L:List ay) (h:Hp),aC L h ->
  ∃ (f:Nat->Hp) (g:Hp),(∀ i j,i≠j->i < n->j < n->Ez (f i) (f j))/\(∀ i,i < n->Ez (f i) g)/\(∀ i,i < n->sub (f i) h)/\sub g h/\(∀ i,i < n->oJ L i (f i))/\aC (R3 L n) g
 | 0,L,h,hs=>⟨λ_=>h,h,λ_ _ _ hi=>absurd hi (by omega),λ_ hi=>absurd hi (by omega),λ_ hi=>absurd hi (by omega),sub.refl _,λ_ hi=>absurd hi (by omega),hs⟩
 | n + 1,[],h,hs=>⟨λ_ _=>none,h,λ_ _ _ _ _ _=>.inl rfl,λ_ _ _=>.inl rfl,λ_ _ _ _ h=>(nomatch h),sub.refl _,λ_ _=>trivial,by show aC (Kj n []) _; rw [DR]; trivial⟩
 | n + 1,A :: L,h,⟨h1,h2,d,s1,s2,ha,hl⟩=>by
  obtain ⟨f,g,f1,f2,f3,f4,f5,f6⟩:=zA n L h2 hl
  refine ⟨λi=>match i with | 0=>h1 | i + 1=>f i,g,λi j hne hi hj=>?_,λi hi=>?_,λi hi=>?_,f4.trans s2,λi hi=>?_,f6⟩
  ·cases i with
   | zero=>cases j with
    | zero=>exact absurd rfl hne
    | succ j=>exact d.sub (sub.refl _) (f3 j (by omega))
   | succ i=>cases j with
    | zero=>exact (d.sub (sub.refl _) (f3 i (by omega))).symm
    | succ j=>exact f1 i j (by omega) (by omega) (by omega)
  ·cases i with
   | zero=>exact d.sub (sub.refl _) f4
   | succ i=>exact f2 i (by omega)
  ·cases i with
   | zero=>exact s1
   | succ i=>exact (f3 i (by omega)).trans s2
  ·cases i with
   | zero=>exact ha
   | succ i=>exact f5 i (by omega)
theorem Bt {L T:List ay} {n:Nat} {f:Nat->Hp} {g h:Hp} (f1:∀ i j,i≠j->i < n->j < n->Ez (f i) (f j)) (f2:∀ i,i < n->Ez (f i) g) (f3:∀ i,i < n->sub (f i) h) (f4:sub g h)
  (f5:∀ i,i < n->oJ L i (f i)) (f6:aC T g):∀ is:List Nat,U1 n is = true->∃ u,sub u h/\aC (Nr L is T) u/\∀ i,i < n->i∉is->Ez (f i) u
 | [],_=>⟨g,f4,f6,λi hi _=>f2 i hi⟩
 | i :: is,hok=>by
  simp only [U1,Kk,Wo,Xt,Nat.blt_eq] at hok
  obtain ⟨⟨hi,hni⟩,hok⟩:=hok
  have hni:i∉is:=by simpa using hni
  obtain ⟨u,u1,u2,u3⟩:=Bt f1 f2 f3 f4 f5 f6 is hok
  have d:=u3 i hi hni
  refine ⟨My (f i) u,Ap (f3 i hi) u1,⟨f i,u,d,tE _ _,tF d,f5 i hi,u2⟩,λj hj hjn=>?_⟩
  simp only [Wp,not_or] at hjn
  exact (Aq (f1 i j (λe=>hjn.1 e.symm) hi hj) (u3 j hj hjn.2).symm).symm
theorem St.pick {w:World} {L:List ay} (h:St w L) (n:Nat) (is:List Nat) (hok:U1 n is = true:=by rfl):St w (Nr L is (R3 L n)):=by
 obtain ⟨f,g,f1,f2,f3,f4,f5,f6⟩:=zA n L _ h
 obtain ⟨u,u1,u2,_⟩:=Bt f1 f2 f3 f4 f5 f6 is hok
 exact ft u2 u1
example {w:World} {A B C:ay} {L:List ay} (h:St w (A :: B :: C :: L)):St w (C :: A :: L):=h.pick 3 [2,0]
end Go.V
namespace Go.V
def Gr (w w' : World):Prop:=sub (hp w) (hp w')
theorem Gr.refl (w:World):Gr w w:=sub.refl _
theorem Gr.trans {a b c:World} (h:Gr a b) (k:Gr b c):Gr a c:=sub.trans h k
theorem Gr.of_eq {w w' : World} (h:hp w' = hp w):Gr w w':=by unfold Gr; rw [h]; exact sub.refl _
theorem St.gr {w w' : World} {L:List ay} (h:St w L) (g:Gr w w'):St w' L:=ft h g
abbrev all (w:World):List ay:=[has (hp w)]
theorem bD {h0 h:Hp} (s:sub h0 h):aC [has h0] h:=⟨h0,λ_=>none,λ_=>.inr rfl,s,λ_ _ h=>(nomatch h),sub.refl _,trivial⟩
theorem St.here {w:World} {h0:Hp} (s:sub h0 (hp w)):St w [V.has h0]:=bD s
theorem St.all (w:World):St w (V.all w):=bD (sub.refl _)
theorem zB {L M N:List ay} (hm:∀ h,aC M h->aC N h):∀ {h:Hp},aC (L ++ M) h->aC (L ++ N) h:=by
 induction L with
 | nil=>exact λh=>hm _ h
 | cons A L ih=>exact λ⟨h1,h2,d,s1,s2,ha,hl⟩=>⟨h1,h2,d,s1,s2,ha,ih hl⟩
theorem LC {L:List ay} {h0:Hp} (hl:aC L h0):∀ h,aC [has h0] h->aC L h:=λh hh=>ft hl (kG hh)
theorem St.on {w' : World} {N L:List ay} {h0:Hp} (h:St w' (N ++ [V.has h0])) (hl:aC L h0):St w' (N ++ L):=zB (LC hl) h
theorem St.qV {w' : World} {A:ay} {L:List ay} {h0:Hp} (h:St w' [A,V.has h0]) (hl:aC L h0):St w' (A :: L):=St.on (N:=[A]) h hl
theorem St.Kl {w' : World} {A B:ay} {L:List ay} {h0:Hp} (h:St w' [A,B,V.has h0]) (hl:aC L h0):St w' (A :: B :: L):=St.on (N:=[A,B]) h hl
theorem St.gone {w' : World} {N:List ay} {h0:Hp} (h:St w' (N ++ [V.has h0])):sub h0 (hp w'):=by
 induction N with
 | nil=>exact kG h
 | cons A N ih=>exact ih h.tail
theorem St.aZ {w' : World} {A:ay} {h0:Hp} (h:St w' [A,V.has h0]):sub h0 (hp w'):=St.gone (N:=[A]) h
theorem St.freeze {w:World} {A:ay} {L:List ay} (h:St w (A :: L)):∃ h0,aC L h0/\sub h0 (hp w)/\St w [A,V.has h0]:=by
 obtain ⟨h1,h2,d,s1,s2,ha,hl⟩:=h
 exact ⟨h2,hl,s2,h1,h2,d,s1,s2,ha,bD (sub.refl _)⟩
theorem St.first {w:World} {A:ay} {L:List ay} (h:St w (A :: L)):∃ h1,sub h1 (hp w)/\A h1:=by
 obtain ⟨h1,h2,d,s1,s2,ha,hl⟩:=h
 exact ⟨h1,s1,ha⟩

def av (h:Hp) (a:Addr) (vs:List Value):Prop:=∀ j v,vs[j]? = some v->rV h (a.add j) = some v
theorem av.mono {h h' : Hp} {a:Addr} {vs:List Value} (s:sub h h') (r:av h a vs):av h' a vs:=λj v hj=>tI s (r j v hj)
theorem av.cell {w:World} {h:Hp} {a:Addr} {vs:List Value} (r:av h a vs) (s:sub h (hp w)) {j:Nat} {v:Value} (hj:vs[j]? = some v):w.cell? (a.add j) = some v:=oV (tI s (r j v hj))
theorem av.cell0 {w:World} {h:Hp} {a:Addr} {v:Value} {vs:List Value} (r:av h a (v :: vs)) (s:sub h (hp w)):w.cell? a = some v:=by
 have:=r.cell s (j:=0) (v:=v) rfl
 simpa [Addr.add] using this
theorem av.drop {h:Hp} {a:Addr} {us vs:List Value} (r:av h a (us ++ vs)):av h (a.add us.length) vs:=λj v hj=>by
 rw [add_add]; exact r _ v (by rw [Wm (by omega),W6]; exact hj)
theorem av.take {h:Hp} {a:Addr} {us vs:List Value} (r:av h a (us ++ vs)):av h a us:=λj v hj =>
 r j v (by rw [Wl (V9.1 hj).1]; exact hj)
theorem DS {w:World} {h:Hp} {a:Addr} (s:sub h (hp w)):∀ (vs:List Value) (i:Nat),av h (a.add i) vs->rowAt w a i vs.length = some vs
 | [],i,_=>rfl
 | v :: vs,i,r=>by
  have h1:w.cell? (a.add i) = some v:=r.cell0 s
  have h2:av h (a.add (i + 1)) vs:=by
   rw [<- add_add]; exact av.drop (us:=[v]) r
  simp only [WZ,rowAt,h1,DS s vs (i + 1) h2]
theorem av.at {w:World} {h:Hp} {a:Addr} {vs:List Value} {n:Nat} (r:av h a vs) (s:sub h (hp w)) (hn:vs.length = n):rowAt w a 0 n = some vs:=by
 subst hn; exact DS s vs 0 (by simpa [Addr.add] using r)
theorem oW {b:Nat} {vs:List Value} {h:Hp} (hc:aK b vs h):av h ⟨b,0,none⟩ vs:=λj v hj=>by
 obtain ⟨e,he⟩:=hc
 rw [aL]; unfold rV; simp only [he]; simpa using hj
class oF (α : Type) where
 n:Nat
 rd:Hp->α->List Value->Prop
 mono:∀ {h h' : Hp} {x:α} {vs:List Value},sub h h'->rd h x vs->rd h' x vs
 len:∀ {h:Hp} {x:α} {vs:List Value},rd h x vs->vs.length = n
abbrev rd {α : Type} [oF α] (h:Hp) (x:α) (vs:List Value):Prop:=oF.rd h x vs
def a_ {α : Type} [oF α] (h:Hp) (xs:List α) (a:Yg) (l:Nat):Prop :=
 xs.length = l/\∀ i x,xs[i]? = some x->∃ ad vs,a = some ad/\av h (ad.add (cV i (oF.n α))) vs/\rd h x vs
section
variable {α : Type} [oF α] {h h' : Hp} {w:World} {xs:List α} {a:Yg} {l:Nat}
theorem a_.mono (s:sub h h') (r:a_ h xs a l):a_ h' xs a l :=
 ⟨r.1,λi x hx=>by obtain ⟨ad,vs,h1,h2,h3⟩:=r.2 i x hx; exact ⟨ad,vs,h1,h2.mono s,oF.mono s h3⟩⟩
theorem a_.nil:a_ h ([] : List α) a 0:=⟨rfl,λi x hx=>by simp at hx⟩
theorem a_.get (r:a_ h xs a l) {i:Nat} (hi:i < l):∃ x ad vs,xs[i]? = some x/\a = some ad/\av h (ad.add (cV i (oF.n α))) vs/\rd h x vs:=by
 have hl:i < xs.length:=by rw [r.1]; exact hi
 obtain ⟨ad,vs,h1,h2,h3⟩:=r.2 i xs[i] (Wa hl)
 exact ⟨xs[i],ad,vs,Wa hl,h1,h2,h3⟩
theorem a_.drop {k m:Nat} (r:a_ h xs a l) (hk:k<=l) (hm:l<=m):a_ h (xs.drop k) (gC a k m (oF.n α)) (l - k):=by
 refine ⟨by rw [Xp,r.1],λi x hx=>?_⟩
 rw [WL] at hx
 have hlt:=(V9.1 hx).1
 obtain ⟨ad,vs,rfl,h2,h3⟩:=r.2 _ x hx
 have hr:=r.1
 refine ⟨ad.add (cV k (oF.n α)),vs,?_,?_,h3⟩
 ·unfold gC; rw [Wg (by omega)]; rfl
 ·rw [add_add,aJ,aJ,<- Nat.add_mul,<- aJ]; exact h2
theorem a_.take {k:Nat} (r:a_ h xs a l) (hk:k<=l):a_ h (xs.take k) a k:=by
 refine ⟨by rw [Wx,r.1]; omega,λi x hx=>?_⟩
 rw [Xg] at hx
 split at hx
 ·exact r.2 i x hx
 ·cases hx
class rY (α : Type) extends oF α where
 val:α->Value
 one:∀ {h:Hp} {x:α} {vs:List Value},rd h x vs↔vs = [val x]
 n1:n = 1
end
section
variable {α : Type} [rY α] {h h' : Hp} {w:World} {xs:List α} {a:Yg} {l:Nat}
theorem a_.at (r:a_ h xs a l) {i:Nat} {x:α} (hx:xs[i]? = some x):∃ ad,a = some ad/\∀ w,sub h (hp w)->w.cell? (ad.add i) = some (rY.val x):=by
 obtain ⟨ad,vs,h1,h2,h3⟩:=r.2 i x hx
 have:=rY.one.1 h3
 subst this
 refine ⟨ad,h1,λw s=>?_⟩
 have:=h2.cell0 s
 rw [aJ,rY.n1,Xw] at this
 exact this
theorem a_.cE (r:a_ h xs a l) {i:Nat} (hi:i < l):∃ x ad,xs[i]? = some x/\a = some ad/\∀ w,sub h (hp w)->w.cell? (ad.add i) = some (rY.val x):=by
 have hl:i < xs.length:=by rw [r.1]; exact hi
 obtain ⟨ad,h1,h2⟩:=r.at (Wa hl)
 exact ⟨_,ad,Wa hl,h1,h2⟩
theorem fi (hl:xs.length = l) (hr:eR a (xs.map rY.val) h):a_ h xs a l:=by
 refine ⟨hl,λi x hx=>?_⟩
 rcases hr with hn | ⟨ad,rfl,hc⟩
 ·have:xs = []:=by simpa using hn
  subst this; simp at hx
 ·refine ⟨ad,[rY.val x],rfl,λj v hj=>?_,rY.one.2 rfl⟩
  cases j with
  | zero =>
   simp only [Yd,Option.some.injEq] at hj
   subst hj
   rw [aJ,rY.n1,Xw]
   have:=hc i (rY.val x) (by rw [Wc,hx]; rfl)
   simpa [add_add] using this
  | succ j=>simp at hj
theorem a_.row (r:a_ h xs a l):eR a (xs.map rY.val) h:=by
 cases xs with
 | nil=>exact .inl rfl
 | cons x0 xs' =>
  obtain ⟨ad,vs,rfl,_⟩:=r.2 0 x0 rfl
  refine .inr ⟨ad,rfl,λj v hj=>?_⟩
  rw [Wc] at hj
  cases hx:(x0 :: xs')[j]? with
  | none=>rw [hx] at hj; cases hj
  | some x =>
   rw [hx] at hj; cases hj
   obtain ⟨ad',vs,e,h2,h3⟩:=r.2 j x hx
   cases e
   have:=rY.one.1 h3
   subst this
   have:=h2 0 _ rfl
   rw [aJ,rY.n1,Xw] at this
   simpa [add_add] using this
end
instance:rY Int:={ n:=1,rd:=λ_ x vs=>vs = [.int .i64 x],mono:=λ_ h=>h,len:=λh=>by rw [h]; rfl,val:=λx=>.int .i64 x,one:=Iff.rfl,n1:=rfl }
instance:rY Bool:={ n:=1,rd:=λ_ x vs=>vs = [.bool x],mono:=λ_ h=>h,len:=λh=>by rw [h]; rfl,val:=λx=>.bool x,one:=Iff.rfl,n1:=rfl }
instance:rY ByteArray:={ n:=1,rd:=λ_ x vs=>vs = [.string x],mono:=λ_ h=>h,len:=λh=>by rw [h]; rfl,val:=λx=>.string x,one:=Iff.rfl,n1:=rfl }
instance {α : Type} [oF α] : oF (List α) :=
 { n:=1,rd:=λh xs vs=>∃ a l c,vs = [.slice a l c]/\l<=c/\a_ h xs a l,mono:=λs ⟨a,l,c,h1,h3,h2⟩=>⟨a,l,c,h1,h3,h2.mono s⟩,len:=λ⟨_,_,_,h,_⟩=>by rw [h]; rfl }
def anyI:Int->Prop:=λz=>-9223372036854775808<=z/\z<=9223372036854775807
def bv (bs:List Bool):List Value:=bs.map λb=>Value.bool b
theorem dS {h:Hp} {xs:List Int} {a:Yg} {l:Nat} (hl:xs.length = l) (hr:eR a (iv xs) h):a_ h xs a l:=fi hl hr
theorem kS {h:Hp} {xs:List Bool} {a:Yg} {l:Nat} (hl:xs.length = l) (hr:eR a (bv xs) h):a_ h xs a l:=fi hl hr
theorem a_.iv {h:Hp} {xs:List Int} {a:Yg} {l:Nat} (r:a_ h xs a l):eR a (V.iv xs) h:=r.row
theorem oX (xs:List Int):(iv xs).length = xs.length:=by simp [iv]
theorem mH (xs:List Bool):(bv xs).length = xs.length:=by simp [bv]
theorem vh {w w' : World} (h:hp w' = hp w):sub (hp w) (hp w'):=Gr.of_eq h
end Go.V
namespace Go.V
def aN (bs:List Bool):Nat->Bool:=λk=>bs.getD k false
def mb (bs:List Bool):List Nat:=rX bs.length (aN bs)
def dc (bs:List Bool):List Int:=(mb bs).map λ(k:Nat)=>(k:Int)
def aY (bs:List Bool):Nat:=j9 bs.length (aN bs)
def wL (n:Nat) (m:Nat->Bool):List Bool:=(List.range n).map m
def de (bs:List Bool) (xs:List Int):List Bool:=wL bs.length (fL bs.length (aN bs) xs)
def hasB (bs:List Bool) (k:Int):Bool:=decide (0<=k) && aN bs k.toNat
def C5 (size:Int) (xs:List Int):List Bool:=de (List.replicate (H_ size) false) xs
def cF (bs:List Bool) (vss:List (List Bool)):List Bool:=vss.foldl (λb v=>de b (dc v)) bs
theorem kT (n:Nat) (m:Nat->Bool):(wL n m).length = n:=by simp [wL]
theorem bI (bs:List Bool) (xs:List Int):(de bs xs).length = bs.length:=kT _ _
theorem Ql (size:Int) (xs:List Int):(C5 size xs).length = H_ size:=by simp [C5,bI]
theorem oY {bs:List Bool} {k:Nat} (h:bs.length<=k):aN bs k = false:=by
 unfold aN; rw [Wb,Wt h]; rfl
theorem jr {bs:List Bool} {k:Nat} {b:Bool} (h:bs[k]? = some b):aN bs k = b:=by
 unfold aN; rw [Wb,h]; rfl
theorem wM {n:Nat} {m:Nat->Bool} (hm:∀ k,n<=k->m k = false):aN (wL n m) = m:=by
 funext k
 by_cases h:k < n
 ·exact jr (by simp [wL,h])
 ·rw [oY (by rw [kT]; omega),hm k (by omega)]
theorem Km (bs:List Bool):wL bs.length (aN bs) = bs:=by
 apply W8
 intro k
 by_cases h:k < bs.length
 ·simp [wL,h,aN]
 ·rw [Wt (by rw [kT]; omega),Wt (by omega)]
theorem gE {cs bs:List Bool} (hl:cs.length = bs.length) (h:∀ k,aN cs k = aN bs k):cs = bs:=by
 rw [<- Km cs,<- Km bs,hl]; congr 1; funext k; exact h k
theorem gF (bs:List Bool) (xs:List Int):aN (de bs xs) = fL bs.length (aN bs) xs :=
 wM λk hk=>by simp [fL,oY hk]; omega
theorem kz (n k:Nat):aN (List.replicate n false) k = false:=by
 unfold aN; rw [Wb,Xr]; split <;> rfl
theorem fy (bs:List Bool):aY bs<=bs.length:=Iz _ _
theorem oZ (bs:List Bool):(dc bs).length = aY bs:=by rw [dc,Wh]; rfl
theorem SP {bs:List Bool} {k:Nat}:k∈mb bs↔aN bs k = true:=by
 simp only [mb,rX,WN,WA]
 refine ⟨λh=>h.2,λh=>⟨Nat.lt_of_not_le λhl=>?_,h⟩⟩
 rw [oY hl] at h; cases h
theorem Qm {bs:List Bool} {x:Int}:x∈dc bs↔hasB bs x = true:=by
 simp only [dc,Wu,SP,hasB,Wo,Wk]
 constructor
 ·rintro ⟨k,h,rfl⟩; exact ⟨by omega,h⟩
 ·rintro ⟨h1,h2⟩; exact ⟨_,h2,by omega⟩
theorem EV {bs:List Bool} {k:Nat}:(dc bs).contains (k:Int) = aN bs k:=by
 rw [WX,XD,Qm]
 simp [hasB]
theorem SR (bs:List Bool):iv (dc bs) = nM (mb bs):=by rw [dc,SO]
theorem dT (bs vs:List Bool) (k:Nat):aN (de bs (dc vs)) k = (aN bs k || (decide (k < bs.length) && aN vs k)):=by
 rw [gF,fL,EV]
theorem vi (vss:List (List Bool)):∀ bs,(cF bs vss).length = bs.length:=by
 induction vss with
 | nil=>exact λ_=>rfl
 | cons v l ih=>exact λbs=>(ih _).trans (bI _ _)
theorem LD (vss:List (List Bool)):∀ (bs:List Bool) (k:Nat),aN (cF bs vss) k = (aN bs k || (decide (k < bs.length) && vss.any λv=>aN v k)):=by
 induction vss with
 | nil=>intro bs k; simp [cF]
 | cons v l ih =>
  intro bs k
  show aN (cF (de bs (dc v)) l) k = _
  rw [ih,bI,dT,List.any_cons]
  cases aN bs k <;> cases decide (k < bs.length) <;> simp
theorem GL {vss:List (List Bool)} {bs v:List Bool} {j:Nat} (h:vss[j]? = some v):cF bs (vss.take (j + 1)) = de (cF bs (vss.take j)) (dc v):=by
 unfold cF; rw [Wf,h,List.foldl_append]; rfl
theorem LF {bs:List Bool} {xs:List Int} {j:Nat} {x:Int} (h:xs[j]? = some x):de (de bs (xs.take j)) [x] = de bs (xs.take (j + 1)):=by
 refine gE (by simp [bI]) λk=>?_
 rw [gF,gF,gF]
 simp only [fL,bI,bA h,mG,List.contains_cons,List.contains_nil,Bool.or_false]
 cases aN bs k <;> cases decide (k < bs.length) <;> simp
theorem Ns {n:Nat} {m m' : Nat->Bool} (h:∀ k,m k = true->m' k = true):j9 n m<=j9 n m':=by
 unfold j9
 rw [<- List.countP_eq_length_filter,<- List.countP_eq_length_filter]
 exact List.countP_mono_left λk _=>h k
theorem nN (bs:List Bool) (xs:List Int):aY bs<=aY (de bs xs):=by
 unfold aY; rw [bI,gF]
 exact Ns λk h=>by simp [fL,h]
def eF (p:Yg) (bs:List Bool):ay:=wI p bs.length (aN bs)
def nO (h:Hp) (p:Yg) (bs:List Bool):Prop :=
 (p = none/\bs = [])\/∃ b a c ws,p = some ⟨b,0,none⟩/\Inv bs.length ws (aN bs)/\av h ⟨b,0,none⟩ [.slice a (List.length ws) c,.int .i64 (bs.length:Int)]/\eR a (cw ws) h
theorem eR.mono {h h' : Hp} {a:Yg} {vs:List Value} (s:sub h h') (r:eR a vs h):eR a vs h':=by
 rcases r with r | ⟨ad,e,hc⟩
 ·exact .inl r
 ·exact .inr ⟨ad,e,λj v hj=>tI s (hc j v hj)⟩
theorem nO.mono {h h' : Hp} {p:Yg} {bs:List Bool} (s:sub h h') (r:nO h p bs):nO h' p bs:=by
 rcases r with r | ⟨b,a,c,ws,h1,h2,h3,h4⟩
 ·exact .inl r
 ·exact .inr ⟨b,a,c,ws,h1,h2,h3.mono s,h4.mono s⟩
theorem EW {h:Hp} {p:Yg} {bs:List Bool} (ho:eF p bs h):nO h p bs:=by
 rcases ho with ⟨h1,h2,_⟩ | ⟨b,a,c,ws,h1,h2,h3⟩
 ·exact .inl ⟨h1,Wv h2⟩
 ·obtain ⟨g1,g2,d,s1,s2,ha,g3,g4,d',s3,s4,hb,_⟩:=h3
  exact .inr ⟨b,a,c,ws,h1,h2,(oW ha).mono s1,(cf hb).mono (s3.trans s2)⟩
theorem St.nO {w:World} {L:List ay} {p:Yg} {bs:List Bool} (h:St w (eF p bs :: L)):nO (hp w) p bs:=by
 obtain ⟨h1,s,ha⟩:=h.first
 exact (EW ha).mono s
theorem nO.le {h:Hp} {p:Yg} {bs:List Bool} (r:V.nO h p bs):bs.length<=1024:=by
 rcases r with ⟨_,rfl⟩ | ⟨b,a,c,ws,_,h2,_⟩
 ·simp
 ·exact h2.le
theorem Nt {w:World} {L:List ay} {p:Yg} {n:Nat} {m:Nat->Bool} (h:St w (wI p n m :: L)):St w (eF p (wL n m) :: L):=by
 unfold eF; rw [kT,wM λk hk=>Ni h hk]; exact h
instance:rY (Yg):={ n:=1,rd:=λ_ x vs=>vs = [.pointer x],mono:=λ_ h=>h,len:=λh=>by rw [h]; rfl,val:=λx=>.pointer x,one:=Iff.rfl,n1:=rfl }
end Go.V
namespace Go.Proofs.YtndaepmjkbmjmaaGreatDoor
open Go.V
section
variable {w:World} {L:List ay} {a:Yg} {l c:Nat} {p q:Yg} {bs cs:List Bool} {xs:List Int} {ws:List Nat}
theorem Nu (h:St w (eF p bs :: L)) (hx:∀ h,aC L h->a_ h xs a l) (hb:l<=4611686018427387904) :
  aA Tryz.prog rC [.pointer p,.slice a l c] w λv w'=>v = .int .i64 ((aY (de bs xs):Int) - aY bs)/\St w' (eF p (de bs xs) :: L):=by
 obtain ⟨h0,hl,hs,h1⟩:=h.freeze
 have hx:=hx h0 hl
 refine (R0 (D:=has h0) (L:=[]) (λh hh=>hx.iv.mono hh) h1 hx.1 hb).mono ?_
 rintro _ w' ⟨rfl,h2⟩
 refine ⟨?_,?_⟩
 ·simp only [aY,bI,gF]
 ·have h2:=Nt h2
  exact h2.qV hl
theorem SS (size:Int) (hx:a_ (hp w) xs a l) (hb:l<=4611686018427387904) :
  aA Tryz.prog DL [.int .i64 size,.slice a l c] w λv w'=>∃ b,v = .pointer (some ⟨b,0,none⟩)/\St w' (eF (some ⟨b,0,none⟩) (C5 size xs) :: all w):=by
 refine (Ve size (D:=has (hp w)) (L:=[]) (λh hh=>hx.iv.mono hh) (St.all w) hx.1 hb).mono ?_
 rintro _ w' ⟨b,rfl,h2⟩
 refine ⟨b,rfl,?_⟩
 have h2:=Nt h2
 have e:wL (H_ size) (fL (H_ size) (λ_=>false) xs) = C5 size xs:=by
  unfold C5 de
  rw [X3]
  congr 2
  funext k; exact (kz _ k).symm
 rw [e] at h2
 exact h2
theorem R4 (h:nO (hp w) p bs):aA Tryz.prog Bp [.pointer p] w λv w'=>∃ b,v = .func (.func mi) #[] #[.pointer (some ⟨b,0,none⟩)]/\St w' (T5 b bs.length (aN bs) :: all w):=by
 refine yv ?_
 refine ah (St.all w) λb w1 h1=>?_
 rcases h with ⟨rfl,rfl⟩ | ⟨b2,a,c,ws,rfl,hi,h2,hr⟩
 ·refine ⟨b,rfl,wK.2 ⟨none,0,[],inv_zero (Wi _),?_⟩⟩
  exact (az 1 h1).swap
 ·have hl:ws.length<=1024:=by rw [hi.len]; have:=hi.le; omega
  refine ⟨a,ws.length,c,h2.cell0 h1.aZ,?_⟩
  refine (Qi (D:=has (hp w)) (λh hh=>hr.mono hh) h1.swap hl (λe=>?_)).mono ?_
  ·subst e
   rcases hr with hr | ⟨_,hr,_⟩
   ·exact SM hr
   ·cases hr
  rintro _ w2 ⟨a',c',rfl,h3⟩
  refine ⟨_,_,_,rfl,?_⟩
  refine bh h3.F7 (by simp) λw3 h4=>?_
  exact ⟨b,rfl,wK.2 ⟨a',c',ws,hi,h4⟩⟩
theorem DT (h:nO (hp w) p bs) (ht:eM (hp w)):aA Tryz.prog u6 [.pointer p] w λv w'=>∃ a' c',v = .slice a' (aY bs) c'/\St w' (own 1 a' (aY bs) c' (iv (dc bs)) :: all w):=by
 refine rG ?_
 have hn:=h.le
 have hc:=fy bs
 refine (R4 h).mono ?_
 rintro _ w1 ⟨b,rfl,h1⟩
 refine ⟨_,_,rfl,?_⟩
 refine (LB (rfl:Fn _ = true) DQ (λh hh=>eR.mono (kG hh) ht) (by rw [DP]; show aY bs<=_; omega) h1).mono ?_
 rintro _ w2 ⟨a',c',rfl,h3⟩
 refine ⟨_,_,_,rfl,a',c',rfl,?_⟩
 rw [SR]
 exact h3.swap.tail
theorem EX (h:St w (own 1 a l c (iv xs) :: L)):a_ (hp w) xs a l:=by
 have hl:=iz h
 obtain ⟨h1,s,ha⟩:=h.first
 exact (dS (by simpa [iv] using hl) (cf ha)).mono s
end
end Go.Proofs.YtndaepmjkbmjmaaGreatDoor
namespace Go.V
theorem tJ {bs cs:List Bool} (h:∀ k,aN cs k = true->aN bs k = true):de bs (dc cs) = bs:=by
 refine gE (bI _ _) λk=>?_
 rw [dT]
 cases hk:aN cs k
 ·simp
 ·simp [h k hk]
theorem C6 (bs:List Bool) (vss:List (List Bool)) (k:Nat) (h:aN bs k = true):aN (cF bs vss) k = true:=by
 rw [LD,h]; rfl
theorem IA (vss:List (List Bool)):∀ bs,aY bs<=aY (cF bs vss):=by
 induction vss with
 | nil=>exact λ_=>Wr _
 | cons v l ih=>exact λbs=>WC (nN bs (dc v)) (ih _)
theorem Kn {ks:List Nat} {i:Nat} {us:List Value} (h:(EU ks)[i]? = some us):∃ k,ks[i]? = some k/\us = [.int .i64 (k:Int)]:=by
 unfold EU at h
 rw [Wc] at h
 cases hk:ks[i]? with
 | none=>rw [hk] at h; cases h
 | some k=>rw [hk] at h; cases h; exact ⟨k,rfl,rfl⟩
theorem Qn (ks:List Nat):(EU ks).length = ks.length:=by simp [EU]
theorem Qo {bs:List Bool} {i k:Nat} (h:(mb bs)[i]? = some k):(dc bs)[i]? = some (k:Int):=by simp [dc,h]
theorem kU {L:List ay} {A:ay}:∀ {h:Hp},A∈L->aC L h->∃ h1,sub h1 h/\A h1:=by
 induction L with
 | nil=>intro h hm; simp at hm
 | cons B L ih =>
  rintro h hm ⟨h1,h2,d,s1,s2,ha,hl⟩
  rcases Wp.1 hm with rfl | hm
  ·exact ⟨h1,s1,ha⟩
  ·obtain ⟨h3,s3,h4⟩:=ih hm hl
   exact ⟨h3,s3.trans s2,h4⟩
end Go.V
namespace Go.Proofs.YtndaepmjkbmjmaaGreatDoor
open Go.V
section
variable {w:World} {L:List ay} {a:Yg} {l c:Nat} {p q:Yg} {bs cs:List Bool} {xs:List Int} {os:List (Yg)} {vss:List (List Bool)}
theorem Ko (h:St w (eF p bs :: L)) (hx:∀ h,aC L h->a_ h os a l) (hv:vss.length = os.length) (ho:∀ h,aC L h->∀ (i:Nat) q v,os[i]? = some q->vss[i]? = some v->nO h q v\/(q = p/\v = bs))
  (ht:∀ h,aC L h->eM h) (hb:l<=4611686018427387904) :
  aA Tryz.prog yx [.pointer p,.slice a l c] w λv w'=>v = .int .i64 ((aY (cF bs vss):Int) - aY bs)/\St w' (eF p (cF bs vss) :: L):=by
 obtain ⟨h0,hl,_,h1⟩:=h.freeze
 have hx:=hx h0 hl
 have ho:=ho h0 hl
 have ht:eM h0:=ht h0 hl
 have hn:=h.nO.le
 have done:∀ w',St w' (eF p (cF bs vss) :: [has h0])->St w' (eF p (cF bs vss) :: L):=λw' h=>h.qV hl
 clear h hl
 refine vg ?_
 refine ah h1 λb1 w1 h1=>ah h1 λb2 w2 h1=>bh h1 (by simp) λw3 h1=>?_
 have cb:∀ j,aY (cF bs (vss.take j))<=1024:=λj=>by
  have:=fy (cF bs (vss.take j)); rw [vi] at this; omega
 refine ⟨λn1 w=>∃ j:Nat,n1 = j/\j<=l/\St w [aK b2 [.int .i64 ((aY (cF bs (vss.take j)):Int) - aY bs)],aK b1 [.pointer p],eF p (cF bs (vss.take j)),has h0],λn1 _=>l - n1.toNat,
  ⟨0,rfl,by omega,?_⟩,?_⟩
 ·show St w3 [aK b2 [.int .i64 ((aY bs:Int) - aY bs)],_,_,_]
  rw [Int.sub_self]; exact h1
 rintro _ n1 w4 ⟨j,rfl,hj,hs⟩
 refine ae (λhlt=>?_) λhlt=>?_
 ·have hlt:j < l:=by have:=V7 hlt; omega
  obtain ⟨q,ad,hq,rfl,hc⟩:=hx.cE hlt
  have hs0:sub h0 (hp w4):=(hs.pick 4 [3]).has
  refine aw rfl hlt ⟨q,hc _ hs0,?_⟩
  obtain ⟨v,hvj⟩ : ∃ v,vss[j]? = some v:=⟨vss[j]'(by rw [hv,hx.1]; omega),Wa _⟩
  have hU:=GL (bs:=bs) hvj
  have hlenU:(cF bs (vss.take j)).length = bs.length:=vi _ _
  have cbj:=cb j
  have cbj1:=cb (j + 1)
  have c0:=IA (vss.take j) bs
  have c1:=nN (cF bs (vss.take j)) (dc v)
  rw [<- hU] at c1
  obtain ⟨v',hr',he'⟩ : ∃ v',nO (hp w4) q v'/\de (cF bs (vss.take j)) (dc v') = cF bs (vss.take (j + 1)):=by
   rcases ho j q v hq hvj with hr | ⟨rfl,rfl⟩
   ·exact ⟨v,hr.mono hs0,hU.symm⟩
   ·refine ⟨cF v (vss.take j),(hs.pick 4 [2]).nO,?_⟩
    rw [hU,tJ λ_ h=>h,tJ λk hk=>C6 _ _ _ hk]
  rw [<- he'] at c1 cbj1
  generalize hU0:cF bs (vss.take j) = U at *
  refine (R4 hr').mono ?_
  rintro _ w5 ⟨b3,rfl,h5⟩
  have h6:=h5.qV hs
  refine ⟨_,_,rfl,bJ.2 ⟨rfl,?_⟩⟩
  refine ⟨EU (mb v'),T5 b3 v'.length (aN v'),eM,λi=>aG [aK b2 [.int .i64 ((aY (de U ((dc v').take i)):Int) - aY bs)],aK b1 [.pointer p],eF p (de U ((dc v').take i))],pu False,λ_=>pu False,[has h0],?_,(λh hh=>eR.mono (kG hh) ht),DQ,?_,?_,?_,?_,trivial⟩
  ·have h7:=h6.pick 5 [1,2,3,0,4]
   have e:de U [] = U:=gE (bI _ _) λk=>by rw [gF]; simp [fL]
   show St w5 [aG [aK b2 [.int .i64 ((aY (de U []):Int) - aY bs)],_,eF p (de U [])],_,_]
   rw [e]
   exact (St.flat.2 (show St w5 ([_,_,_] ++ [_,_]) from h7))
  ·intro x hx
   obtain ⟨i,hi,rfl⟩:=List.mem_iff_getElem.1 hx
   obtain ⟨k,_,e⟩:=Kn (Wa hi)
   exact ⟨_,e⟩
  ·intro i x hx L' w6 _ hs6
   obtain ⟨k,hk,e⟩:=Kn hx
   cases e
   refine ⟨_,hs6,λL'' w7 _ hs7 w8 hd=>?_⟩
   have hs8:=St.flat.1 (hs7.drawn hd)
   refine ⟨λw=>w.cell? ⟨b2,0,none⟩ = some (.int .i64 ((aY (de U ((dc v').take i)):Int) - aY bs))/\w.cell? ⟨b1,0,none⟩ = some (.pointer p),⟨hs8.cell 0,hs8.swap.cell 0⟩,_,λw h=>h.1,_,λw h=>h.2,?_⟩
   refine ah hs8 λb4 w9 h9=>⟨⟨h9.swap.cell 0,h9.F7.cell 0⟩,?_⟩
   refine (Nu (xs:=[(k:Int)]) (l:=1) (h9.pick 4 [3,0,1,2]) (λh hh=>?_) (by omega)).mono ?_
   ·obtain ⟨h1,_,_,s1,_,⟨e,he⟩,_⟩:=hh
    exact (dS (xs:=[(k:Int)]) rfl (.inr ⟨_,rfl,oW ⟨e,he⟩⟩)).mono s1
   ·rintro _ w10 ⟨rfl,h10⟩
    rw [LF (Qo hk)] at h10 ⊢
    have k1:=nN U ((dc v').take i)
    have k2:=fy (de U ((dc v').take i))
    have k3:=fy (de U ((dc v').take (i + 1)))
    rw [bI] at k2 k3
    refine ⟨_,rfl,⟨(h10.pick 4 [2]).cell 0,(h10.pick 4 [3]).cell 0⟩,⟨by omega,by omega⟩,?_⟩
    refine bh (h10.pick 4 [2,3,0]) (by simp) λw11 h11=>St.flat.2 ?_
    have e:((aY (de U ((dc v').take i)):Int) - aY bs + ((aY (de U ((dc v').take (i + 1))):Int) - aY (de U ((dc v').take i)))) = (aY (de U ((dc v').take (i + 1))):Int) - aY bs:=by omega
    rw [e] at h11
    exact h11
  ·intro w6 h6
   refine ⟨⟨by omega,by omega⟩,⟨j + 1,by simp,by omega,?_⟩,bw hlt⟩
   have e:(dc v').take (EU (mb v')).length = dc v':=Wq (by rw [Qn,oZ]; exact Wr _)
   dsimp only at h6
   rw [e,he'] at h6
   exact (show St w6 [_,_,_,_,_] from St.flat.1 h6).pick 5 [0,1,2,4]
  ·intro w6 h6
   exact (St.pu.1 h6).1.elim
 ·have hlt:j = l:=by have:=V8 hlt; omega
  subst hlt
  rw [<- hx.1,<- hv,Ww] at hs
  refine ⟨_,hs.cell 0,λw5 h5=>⟨rfl,done _ ?_⟩⟩
  exact (hs.eq h5).pick 4 [2,3]
end
end Go.Proofs.YtndaepmjkbmjmaaGreatDoor
namespace Go.V
theorem au {a:Yg} {ad:Addr} {len i sz:Nat} {k:Addr->Prop} (ha:a = some ad) (hi:i < len) (hk:k (ad.add (cV i sz))):idx a len (i:Int) sz k :=
 ⟨ad,ha,by omega,by omega,by simpa using hk⟩
section
variable {P:Program} {w w' : World} {L:List ay} {b:Nat} {us vs:List Value} {e e' : TypeId} {A B C D:ay}
theorem aP {Ty:TypeId->Option cP} (hT:eC P Ty) {t tx ty:TypeId} {i:cP} {z:Value} (hk:aj Ty t = .slice e) (hkx:aj Ty tx = .slice e') (hi:Ty e = some i) (hz:i.zero = some z) (hzs:(cellsOf z).length = i.size)
  {a:Yg} {l c:Nat} (h:St w (aK b vs :: own i.size a l c us :: L)) (hv:vs.length = i.size) (h1:∀ u∈vs,aV u = true) (hb:(l + 1) * i.bytes<=140737488355328) (h63:l < 9223372036854775807) :
  aX P (Builtin.append_ (Array.mk [t,tx]) ty (Array.mk [.slice a l c,.slice (some ⟨b,0,none⟩) 1 1])) w λv w'=>∃ a' c',v = .slice a' (l + 1) c'/\St w' (own i.size a' (l + 1) c' (us ++ vs) :: aK b vs :: L):=by
 refine iA hT hk hi hz hzs h.swap (n:=1) (news:=vs) ?_ hb (by omega)
 refine fx hT hkx (by omega) (.inr ⟨_,rfl,λj u hj=>?_⟩) h1
 rw [aL,h.cell]; exact hj
end
end Go.V
namespace Go.V
theorem St.row {w:World} {L:List ay} {b:Nat} {vs:List Value} (h:St w (aK b vs :: L)):av (hp w) ⟨b,0,none⟩ vs:=by
 obtain ⟨h1,s,ha⟩:=h.first
 exact (oW ha).mono s
theorem EY {bs:List Bool} {j:Nat} (h:j < bs.length) (b:Bool) (k:Nat):aN (bs.set j b) k = if k = j then b else aN bs k:=by
 unfold aN
 rw [Wb,Xf]
 by_cases e:k = j
 ·subst e; simp [h]
 ·rw [Wg (λh=>e h.symm),Wg e,Wb]
end Go.V

namespace Go.V
theorem C7 {c:Bool} {a b:Prop} (h:c = true) (ha:a):br c a b:=by subst h; exact ha
theorem LG {c:Bool} {a b:Prop} (h:c = false) (hb:b):br c a b:=by subst h; exact hb
end Go.V
namespace Go.V
theorem cO {L:List ay}:∀ {h:Hp} (i:Nat),i < L.length->aC L h->∃ h1,sub h1 h/\oJ L i h1:=by
 induction L with
 | nil=>intro h i hi; simp at hi
 | cons A L ih =>
  rintro h i hi ⟨h1,h2,d,s1,s2,ha,hl⟩
  cases i with
  | zero=>exact ⟨h1,s1,ha⟩
  | succ i =>
   obtain ⟨h3,s3,h4⟩:=ih i (by simpa using hi) hl
   exact ⟨h3,s3.trans s2,h4⟩
def wN:List ay->Nat
 | []=>0
 | _ :: L=>wN L + 1
theorem gG:∀ L,wN L = L.length
 | []=>rfl
 | _ :: L=>by simp [wN,gG L]
theorem aU {L:List ay} {h h0:Hp} (i:Nat) (hl:aC L h) (e:oJ L i = has h0:=by rfl) (hi:Nat.blt i (wN L) = true:=by rfl):sub h0 h:=by
 obtain ⟨h1,s,ha⟩:=cO i (by simpa [gG] using hi) hl
 rw [e] at ha
 exact sub.trans ha s
theorem St.l {w:World} {L:List ay} (h:St w L):aC L (hp w):=h
theorem SU {bs:List Bool} {k:Nat} (h:aN bs k = true):k < bs.length:=Nat.lt_of_not_le λhl=>by rw [oY hl] at h; cases h
section
variable {A B C:List Bool} {N:Nat} (hA:A.length = N) (hB:B.length = N) (hC:C.length = N)
include hA hB hC
end
end Go.V

namespace Go.V
theorem IB {M:List ay}:∀ {i:Nat} {A:ay},M[i]? = some A->M.Perm (A :: M.eraseIdx i):=by
 induction M with
 | nil=>intro i A h; simp at h
 | cons B M ih =>
  intro i A h
  cases i with
  | zero=>simp at h; subst h; exact List.Perm.refl _
  | succ i=>exact (List.Perm.cons B (ih (by simpa using h))).trans (List.Perm.swap _ _ _)
theorem Nv {M:List ay} {B:ay}:∀ {i:Nat} {A:ay},M[i]? = some A->(M.set i B).Perm (B :: M.eraseIdx i):=by
 induction M with
 | nil=>intro i A h; simp at h
 | cons C M ih =>
  intro i A h
  cases i with
  | zero=>exact List.Perm.refl _
  | succ i=>exact (List.Perm.cons C (ih (A:=A) (by simpa using h))).trans (List.Perm.swap _ _ _)
section
variable {w:World} {L M:List ay} {A B:ay} {i:Nat}
theorem St.out (h:St w (aG M :: L)) (hi:M[i]? = some A):St w (A :: aG (M.eraseIdx i) :: L):=by
 have h1:St w (M.eraseIdx i ++ A :: L):=(St.flat.1 h).perm (((IB hi).append_right L).trans W4.symm)
 exact (St.flat.2 h1).swap
theorem St.back (h:St w (B :: aG (M.eraseIdx i) :: L)) (hi:M[i]? = some A):St w (aG (M.set i B) :: L):=by
 have h1:=St.flat.1 h.swap
 exact St.flat.2 (h1.perm (W4.trans ((Nv hi).symm.append_right L)))
theorem St.snoc (h:St w (A :: aG M :: L)):St w (aG (M ++ [A]) :: L):=by
 have h1:=St.flat.1 h.swap
 exact St.flat.2 (by rw [Wj]; exact h1)
end
theorem Kp {α β : Type} (f:α->β->ay) {ps:List α} {vs:List β} {i:Nat} {p:α} {v' : β} (hp:ps[i]? = some p):(List.zipWith f ps vs).set i (f p v') = List.zipWith f ps (vs.set i v'):=by
 apply W8
 intro k
 rw [Xf,XE,XE,Xf,List.length_zipWith]
 by_cases hk:i = k
 ·subst hk
  rw [Wn rfl,Wn rfl,hp]
  have:=(V9.1 hp).1
  by_cases hl:i < vs.length
  ·simp [hl,this]; omega
  ·simp [hl]; omega
 ·rw [Wg hk,Wg hk]
def bk (p:Nat):Yg:=some ⟨p,0,none⟩
def pv (os:List (Yg)):List Value:=os.map λo=>Value.pointer o
def jc (ps:List Nat) (vss:List (List Bool)):List ay:=List.zipWith (λp v=>eF (bk p) v) ps vss
end Go.V
namespace Go.V
theorem Vf {L:List ay} {h:Hp} {ps:List Nat} {vss:List (List Bool)} {k m p:Nat} {v:List Bool} (i:Nat) (hl:aC L h) (hp:ps[k]? = some p) (hv:vss[k]? = some v) (hk:k≠m) (e:oJ L i = aG ((jc ps vss).eraseIdx m):=by rfl) (hi:Nat.blt i (wN L) = true:=by rfl):nO h (bk p) v:=by
 obtain ⟨h1,s,ha⟩:=cO i (by simpa [gG] using hi) hl
 rw [e] at ha
 obtain ⟨h2,s2,hb⟩:=kU (A:=eF (bk p) v) (List.mem_eraseIdx_iff_getElem?.2 ⟨k,hk,by unfold jc; rw [XE,hp,hv]⟩) ha
 exact (EW hb).mono (s2.trans s)
theorem SV {L:List ay} {h:Hp} {a:Yg} {l c:Nat} {os:List (Yg)} (i:Nat) (hl:aC L h) (e:oJ L i = own 1 a l c (pv os):=by rfl) (hi:Nat.blt i (wN L) = true:=by rfl):os.length = l->a_ h os a l:=λhx=>by
 obtain ⟨h1,s,ha⟩:=cO i (by simpa [gG] using hi) hl
 rw [e] at ha
 exact (fi hx (cf ha)).mono s
theorem ai {L:List ay} {h:Hp} {b:Nat} {vs:List Value} (i:Nat) (hl:aC L h) (e:oJ L i = aK b vs:=by rfl) (hi:Nat.blt i (wN L) = true:=by rfl):av h ⟨b,0,none⟩ vs:=by
 obtain ⟨h1,s,ha⟩:=cO i (by simpa [gG] using hi) hl
 rw [e] at ha
 exact (oW ha).mono s
end Go.V
namespace Go.V
open MapKept
class MVal (κ : Type) where
 val:κ->Value
 inj:∀ a b:κ,val a = val b->a = b
class wO (κ : Type) [DecidableEq κ] extends MVal κ where
 kd:TypeDesc
 now:∀ a b:κ,Instr.sameNow kd (val a) (val b) = some (decide (a = b))
 key:∀ a,IsKey kd (val a)
 bits:∀ a,Instr.sameBits 10000 (val a) (val a) = true
instance:wO Int:={ kd:=.int .i64,val:=λx=>.int .i64 x,inj:=λa b h=>by injection h,now:=λa b=>by simp [Instr.sameNow]; rfl,key:=λ_=>rfl,bits:=λa=>by simp [Instr.sameBits] }
instance:wO ByteArray:={ kd:=.string,val:=λx=>.string x,inj:=λa b h=>by injection h,now:=λa b=>by simp only [Instr.sameNow,Option.some.injEq]; rw [WX,Wk]; exact bytes_beq a b,key:=λ_=>trivial,bits:=λa=>by simp only [Instr.sameBits]; exact (bytes_beq a a).2 rfl }
section
variable {κ : Type} [DecidableEq κ] {P:Program} {w:World} {L:List ay}
def assoc (k:κ):List (κ × Value)->Option Value
 | []=>none
 | (a,v) :: m=>if k = a then some v else assoc k m
def bK (k:κ) (v:Value):List (κ × Value)->List (κ × Value)
 | []=>[(k,v)]
 | (a,u) :: m=>if k = a then (k,v) :: m else (a,u) :: bK k v m
theorem dB (k a:κ) (v:Value):∀ m,assoc a (bK k v m) = if a = k then some v else assoc a m
 | []=>by simp [bK,assoc]
 | (b,u) :: m=>by
  unfold bK
  by_cases h:k = b
  ·subst h
   by_cases ha:a = k
   ·simp [assoc,ha]
   ·simp [assoc,ha]
  ·rw [Wg h]
   by_cases hab:a = b
   ·subst hab
    simp [assoc,XG h]
   ·simp [assoc,hab,dB k a v m]
theorem Bu (k:κ) (v:Value):∀ m,(bK k v m).length = if (assoc k m).isSome then m.length else m.length + 1
 | []=>rfl
 | (b,u) :: m=>by
  unfold bK assoc
  by_cases h:k = b
  ·simp [h]
  ·simp only [Wg h,WZ,Bu k v m]
   split <;> rfl
variable [MVal κ]
structure uV (es:Array MapEntry) (clock:Nat) (m:List (κ × Value)):Prop where
 eq:es.toList.map (λe=>(e.key,e.val)) = m.map λx=>(MVal.val x.1,x.2)
 nd:(es.toList.map (·.born)).Nodup
 lt:∀ e∈es.toList,e.born < clock
def mapA (b:Nat) (m:List (κ × Value)):ay:=λh=>∃ es clock,h b = some (.map es clock)/\uV es clock m
theorem js {b:Nat} {m:List (κ × Value)}:St w (mapA b m :: L)↔∃ es clock,uV es clock m/\St w (blk b (.map es clock) :: L) :=
 ⟨λ⟨h1,h2,d,s1,s2,⟨es,cl,ha,he⟩,hl⟩=>⟨es,cl,he,h1,h2,d,s1,s2,ha,hl⟩,λ⟨es,cl,he,h1,h2,d,s1,s2,ha,hl⟩=>⟨h1,h2,d,s1,s2,⟨es,cl,ha,he⟩,hl⟩⟩
theorem dC {b:Nat} (h:St w (blk b (.map #[] 0) :: L)):St w (mapA b ([] : List (κ × Value)) :: L):=js.2 ⟨_,_,⟨rfl,by simp,by simp⟩,h⟩
structure Ul (k:κ) (m:List (κ × Value)) (r:Option (Nat × Value)):Prop where
 eq:(r.map (·.2)) = assoc k m
 at' : ∀ j v,r = some (j,v)->j < m.length/\(m[j]?).map (·.1) = some k/\∀ u,bK k u m = m.set j (k,u)
 no:r = none->∀ u,bK k u m = m ++ [(k,u)]
structure rZ (P:Program) (kt:TypeId) (κ : Type) [DecidableEq κ] [MVal κ] : Prop where
 check:∀ (w:World) (em:Bool) (k:κ),(Instr.checkKey em 10000 kt (MVal.val k)).run P w = .ok () w
 find:∀ (w:World) (k:κ) (es:List MapEntry) (m:List (κ × Value)),es.map (λe=>(e.key,e.val)) = m.map (λx=>(MVal.val x.1,x.2))->∃ r,(Instr.findKey kt (MVal.val k) es).run P w = .ok r w/\Ul k m r
 bits:∀ k:κ,Instr.sameBits 10000 (MVal.val k) (MVal.val k) = true
end
section
variable {κ : Type} [DecidableEq κ] {P:Program} {w:World} {L:List ay}
theorem Bv [wO κ] (k:κ):∀ (es:List MapEntry) (m:List (κ × Value)) (i:Nat),es.map (λe=>(e.key,e.val)) = m.map (λx=>(MVal.val x.1,x.2)) ->
  ∃ r,Instr.findNow (wO.kd κ) (MVal.val k) es i = some r/\(r.map (·.2)) = assoc k m/\(∀ j v,r = some (j,v)->i<=j/\j < i + m.length/\(m[j - i]?).map (·.1) = some k/\∀ u,bK k u m = m.set (j - i) (k,u))/\(r = none->∀ u,bK k u m = m ++ [(k,u)])
 | [],[],i,_=>⟨none,rfl,rfl,λj v h=>(by cases h),λ_ u=>rfl⟩
 | [],_ :: _,i,h=>by simp at h
 | _ :: _,[],i,h=>by simp at h
 | e :: es,(a,v) :: m,i,h=>by
  simp only [WV,List.cons.injEq,Prod.mk.injEq] at h
  obtain ⟨⟨h1,h2⟩,h3⟩:=h
  unfold Instr.findNow
  rw [h1,wO.now]
  by_cases hk:k = a
  ·subst hk
   refine ⟨some (i,e.val),by simp,by simp [assoc,h2],λj u hj=>?_,λhn=>by cases hn⟩
   cases hj
   simp [bK]
  ·obtain ⟨r,q1,q2,q3,q4⟩:=Bv k es m (i + 1) h3
   refine ⟨r,by simp [hk,q1],by simp [assoc,hk,q2],λj u hj=>?_,λhn u=>by simp [bK,hk,q4 hn u]⟩
   obtain ⟨p1,p2,p3,p4⟩:=q3 j u hj
   have e1:j - i = (j - (i + 1)) + 1:=by omega
   refine ⟨by omega,by simp; omega,by rw [e1]; simpa using p3,λu=>by rw [e1]; simp [bK,hk,p4 u]⟩
theorem rZ.Bw [wO κ] {kt:TypeId} (hkt:P.underlying kt = some (wO.kd κ)):rZ P kt κ where
 check:=λw em k=>run_checkKey (P:=P) (w:=w) hkt (wO.key k) em 9999
 find:=λw k es m he=>by
  obtain ⟨r,q1,q2,q3,q4⟩:=Bv k es m 0 he
  refine ⟨r,run_findKey (P:=P) (w:=w) hkt q1,q2,λj v hj=>?_,q4⟩
  obtain ⟨_,p2,p3,p4⟩:=q3 j v hj
  rw [Nat.sub_zero] at p3 p4
  exact ⟨by omega,p3,p4⟩
 bits:=wO.bits
variable [MVal κ]
variable {Ty:TypeId->Option cP}
theorem wP {d:TypeDesc} {k e:TypeId} (h:Kd.map k e = dZ d):d = .map k e:=by cases d <;> simp [dZ] at h; obtain ⟨rfl,rfl⟩:=h; rfl
theorem jI (hT:eC P Ty) {t kt et:TypeId} {i:cP} {z:Value} (hk:aj Ty t = .map kt et) (hkt:rZ P kt κ) (hi:Ty et = some i) (hz:i.zero = some z) {b:Nat} {m:List (κ × Value)} (h:St w (mapA b m :: L)) (k:κ) :
  aX P (Instr.lookup t (.map (some b)) (MVal.val k) false) w λv w'=>v = (assoc k m).getD z/\w' = w:=by
 obtain ⟨d,hd,hd'⟩:=du hT hk (by simp)
 rw [wP hd'] at hd
 obtain ⟨es,cl,⟨he,_,_⟩,h⟩:=js.1 h
 obtain ⟨r,hf,q2,_,_⟩:=hkt.find w k es.toList m he
 obtain ⟨info,d2,ha⟩:=q8 hT hi
 have hzz:(zeroValue et).run P w = .ok z w:=jA ha.inf (by rw [<- ha.zero,hz])
 refine ⟨_,w,?_,Ev.refl w,rfl,rfl⟩
 have hg:=h.get
 have hc:=λe=>hkt.check w e k
 unfold Instr.lookup
 simp only [Sem.run_bind,aS hd,Result.andThen_ok,run_getObj_map w b es cl hg,Sem.run_pure,hc,hf]
 rw [<- q2]
 cases r with
 | none=>simp [Sem.run_bind,hzz]
 | some x=>simp
theorem mj (hT:eC P Ty) {t kt et:TypeId} (hk:aj Ty t = .map kt et) (hkt:rZ P kt κ) {b:Nat} {m:List (κ × Value)} (h:St w (mapA b m :: L)) (k:κ) (v:Value) :
  aX P (Instr.mapUpdate t (.map (some b)) (MVal.val k) v) w λ_ w'=>St w' (mapA b (bK k v m) :: L):=by
 obtain ⟨d,hd,hd'⟩:=du hT hk (by simp)
 rw [wP hd'] at hd
 obtain ⟨es,cl,⟨he,hnd,hlt⟩,h⟩:=js.1 h
 obtain ⟨r,hf,q2,q3,q4⟩:=hkt.find w k es.toList m he
 have hg:=h.get
 have hc:=λe=>hkt.check w e k
 have hlen:es.size = m.length:=by have:=congrArg List.length he; simpa using this
 have ev:∀ o:Array MapEntry × Nat,Ev w { w with heap:=w.heap.setIfInBounds b (.map o.1 o.2) }:=λo=>by
  refine ⟨rfl,rfl,rfl,by simp,?_,?_⟩ <;>
  ·intro x d hx
   rw [Xn]; exact hx
   intro e; subst e; rw [hg] at hx; cases hx
 cases r with
 | none =>
  refine ⟨(),_,?_,ev (es.push { key:=MVal.val k,val:=v,born:=cl },cl + 1),js.2 ⟨_,_,?_,h.setObj _⟩⟩
  ·unfold Instr.mapUpdate
   simp only [Sem.run_bind,aS hd,Result.andThen_ok,run_getObj_map w b es cl hg,hc,hf]
   exact run_setObj_map _ hg
  ·refine ⟨by rw [q4 rfl v]; simp [he],?_,?_⟩
   ·rw [Array.toList_push,WB,WR]
    refine ⟨hnd,by simp,λa ha b hb e=>?_⟩
    obtain ⟨x,hx,rfl⟩:=Wu.1 ha
    have:=hlt x hx
    simp at hb; omega
   ·intro e he'
    rw [Array.toList_push,Wd,Wy] at he'
    rcases he' with he' | rfl
    ·have:=hlt e he'; omega
    ·exact Nat.lt_succ_self _
 | some x =>
  obtain ⟨j,u⟩:=x
  obtain ⟨p2,p3,p4⟩:=q3 j u rfl
  have hj:j < es.size:=by omega
  have hkey:((es[j]?).map (·.key)).getD (MVal.val k) = MVal.val k:=by
   have h1:=congrArg (λl=>l[j]?) he
   simp only [Wc] at h1
   cases hm:m[j]? with
   | none=>rw [hm] at p3; cases p3
   | some y =>
    rw [hm] at p3 h1
    simp only [Xb,Option.some.injEq] at p3
    have hjl:j < es.toList.length:=by simpa using hj
    rw [Wa hjl] at h1
    simp only [Xb,Option.some.injEq,Prod.mk.injEq] at h1
    simp [hj]
    have:=h1.1
    rw [p3] at this
    simpa using this
  refine ⟨(),_,?_,ev (es.modify j λe=>{ e with key:=MVal.val k,val:=v },cl),js.2 ⟨_,_,?_,h.setObj _⟩⟩
  ·unfold Instr.mapUpdate
   simp only [Sem.run_bind,aS hd,Result.andThen_ok,run_getObj_map w b es cl hg,hc,hf,hkey,Instr.keyThatStays,hkt.bits,if_true,Sem.run_pure]
   exact run_setObj_map _ hg
  ·refine ⟨?_,?_,?_⟩
   rotate_left
   ·have:(es.modify j λe=>{ e with key:=MVal.val k,val:=v }).toList.map (·.born) = es.toList.map (·.born):=by
     apply W8
     intro i
     simp only [Wc,WQ,W7]
     split
     ·cases es[i]? <;> rfl
     ·rfl
    rw [this]; exact hnd
   ·intro e he'
    obtain ⟨i,hi⟩:=WH he'
    rw [WQ,W7] at hi
    split at hi
    ·cases hx:es[i]? with
     | none=>rw [hx] at hi; cases hi
     | some x=>rw [hx] at hi; cases hi; exact hlt x (by rw [<- WQ] at hx; exact V_ hx)
    ·rw [<- WQ] at hi; exact hlt e (V_ hi)
   rw [p4 v]
   apply W8
   intro i
   have h1:=congrArg (λl=>l[i]?) he
   simp only [Wc,WQ] at h1
   simp only [Wc,WQ,W7,Xf]
   by_cases hij:j = i
   ·subst hij
    simp [hj,p2] <;> omega
   ·simp [hij,h1]
theorem Qp (hT:eC P Ty) {t kt et ty:TypeId} (hk:aj Ty t = .map kt et) {b:Nat} {m:List (κ × Value)} (h:St w (mapA b m :: L)):(Builtin.len_ #[t] ty #[.map (some b)]).run P w = .ok (.int .i64 (m.length:Int)) w:=by
 obtain ⟨d,hd,hd'⟩:=du hT hk (by simp)
 rw [wP hd'] at hd
 obtain ⟨es,cl,⟨he,_,_⟩,h⟩:=js.1 h
 have hlen:es.size = m.length:=by have:=congrArg List.length he; simpa using this
 have hg:=h.get
 simp [Builtin.len_,run_underlying hd,run_getObj_map w b es cl hg,hlen,goInt]
end
section
variable {κ : Type} [DecidableEq κ] [wO κ] {P:Program} {w:World} {L:List ay} {Ty:TypeId->Option cP}
theorem bZ (hT:eC P Ty) {t kt et:TypeId} {i:cP} {z:Value} (hk:aj Ty t = .map kt et) (hkt:P.underlying kt = some (wO.kd κ)) (hi:Ty et = some i) (hz:i.zero = some z) {b:Nat} {m:List (κ × Value)} (h:St w (mapA b m :: L)) (k:κ) :
  aX P (Instr.lookup t (.map (some b)) (MVal.val k) false) w λv w'=>v = (assoc k m).getD z/\w' = w:=jI hT hk (rZ.Bw hkt) hi hz h k
theorem cR (hT:eC P Ty) {t kt et:TypeId} (hk:aj Ty t = .map kt et) (hkt:P.underlying kt = some (wO.kd κ)) {b:Nat} {m:List (κ × Value)} (h:St w (mapA b m :: L)) (k:κ) (v:Value) :
  aX P (Instr.mapUpdate t (.map (some b)) (MVal.val k) v) w λ_ w'=>St w' (mapA b (bK k v m) :: L):=mj hT hk (rZ.Bw hkt) h k v
end
end Go.V
namespace Go.V
def fM (s:ByteArray) (i:Nat):Nat:=(sb s i).toNat
theorem SX (s:ByteArray) (i:Nat):fM s i < 256:=(sb s i).toNat_lt
theorem SY {s:ByteArray} {i:Nat} (h:i < s.size):sb s i = s[i]'h:=by
 unfold sb
 have:i < s.data.size:=h
 rw [Array.getElem?_eq_getElem this]; rfl
theorem toList_data (s:ByteArray):s.toList = s.data.toList:=by rw [ByteArray.toList_eq]
theorem zC (x y:ByteArray):(x.toList == y.toList) = decide (x = y):=by
 rw [WX,X2,Wk,toList_data,toList_data]
 exact ⟨λh=>WideShapes.bytes_inj h,λh=>by rw [h]⟩
theorem GM (x:ByteArray):(x.toList == ByteArray.toList (ByteArray.mk (Array.mk []))) = decide (x.size = 0):=by
 rw [zC,WX,Wk,Wk]
 constructor
 ·rintro rfl; rfl
 ·intro h
  refine WideShapes.bytes_inj ?_
  have:x.data.toList.length = 0:=by simpa using h
  rw [Wv this]
def FY (c:Nat):Bool:=decide (32<=c) && decide (c<=126) && !decide (c = 39)
def dx (s:ByteArray):Bool:=decide (1<=s.size) && decide (s.size<=16) && (List.range s.size).all λi=>FY (fM s i)
def IC (i c:Nat):Bool:=decide (c = 95) || (decide (65<=c) && decide (c<=90)) || (decide (97<=c) && decide (c<=122)) || (decide (i≠0) && decide (48<=c) && decide (c<=57))
def df (s:ByteArray):Bool:=decide (1<=s.size) && decide (s.size<=16) && (List.range s.size).all λi=>IC i (fM s i)
theorem tK {n:Nat} {p:Nat->Bool}:(List.range n).all p = true↔∀ i,i < n->p i = true:=by
 simp [XH]
theorem LH (s:ByteArray) (pos:Nat) (h:pos < s.size) (hb:128<=(s[pos]'h).toNat):128<=(Utf8.decode s pos).1:=by
 have e:s.get! (pos + 0) = s[pos]'h:=by
  show s.get! pos = _
  simp [ByteArray.get!,getElem!_pos,h]
  rfl
 have hb0:128<=(s.get! (pos + 0)).toNat:=by rw [e]; exact hb
 have hx:∀ k,(s.get! (pos + k)).toNat < 256:=λk=>(s.get! (pos + k)).toNat_lt
 have h0:=hx 0; have h1:=hx 1; have h2:=hx 2; have h3:=hx 3
 simp only [Utf8.decode]
 repeat' split
 all_goals simp_all [Utf8.runeError]
 all_goals omega
theorem wrap_u8 (n:Nat) (h:n < 256):IntKind.u8.wrap (n:Int) = n:=by
 have:(n:Int) % (256:Int) = n:=Int.emod_eq_of_lt (by omega) (by omega)
 simp [IntKind.wrap,IntKind.signed,IntKind.bits,this]
theorem Nw {a b:Nat} (ha:a < 256) (hb:b < 256):kL .or .u8 (a:Int) (b:Int) = ((a ||| b:Nat):Int):=by
 show IntKind.u8.wrap (((BitVec.ofInt 8 (a:Int)) ||| (BitVec.ofInt 8 (b:Int))).toNat:Int) = _
 have e:∀ n:Nat,BitVec.ofInt 8 (n:Int) = BitVec.ofNat 8 n:=λn=>by apply BitVec.eq_of_toNat_eq; simp
 rw [e,e,BitVec.toNat_or,BitVec.toNat_ofNat,BitVec.toNat_ofNat,Nat.mod_eq_of_lt ha,Nat.mod_eq_of_lt hb]
 exact wrap_u8 _ (Nat.or_lt_two_pow (n:=8) ha hb)
theorem Vg:∀ c:Fin 256,(decide (97<=(c.val ||| 32)) && decide ((c.val ||| 32)<=122)) = ((decide (65<=c.val) && decide (c.val<=90)) || (decide (97<=c.val) && decide (c.val<=122))):=by decide +kernel
instance instRepList1 {α : Type} [oF α] : oF (List α):=inferInstance
def Kq (xs:List Int):Prop:=∀ i x y,xs[i]? = some x->xs[i + 1]? = some y->x<=y
end Go.V
namespace Go.Proofs.YtndaepmjkbmjmaaGreatDoor
open Go.V
section
variable {w:World} {L:List ay} {a:Yg} {l c:Nat} {s:ByteArray} {ss:List ByteArray} {xs:List Int}
theorem LI (r:Int):aA Tryz.prog je [.int .i32 r] w λv w'=>v = .bool (decide (r < 32) || decide (126 < r) || (r == 39))/\w' = w:=by
 refine ve ?_
 refine ae (λh=>⟨by rw [h]; rfl,rfl⟩) λh=>ae (λh2=>⟨by rw [h,h2]; rfl,rfl⟩) λh2=>⟨by rw [h,h2]; rfl,rfl⟩
theorem GN (hs:s.size<=4611686018427387904):aA Tryz.prog uh [.string s,.func (.func je) #[] #[]] w λv w'=>(∃ n:Int,v = .int .i64 n/\(decide (n < 0) = (List.range s.size).all λi=>FY (fM s i)))/\Gr w w':=by
 refine qt ?_
 have key:aA Tryz.prog ui [.string s,.func (.func je) #[] #[],.bool true] w λv w'=>(∃ n:Int,v = .int .i64 n/\(decide (n < 0) = (List.range s.size).all λi=>FY (fM s i)))/\Gr w w':=by
  refine qv ?_
  have h0:=St.all w
  refine ⟨_,_,run_range_string w 9 s Tryz.underlying9,Ev.push _ _,_,rfl,?_⟩
  have h1:=h0.push (.stringIter s 0)
  generalize w.heap.size = b at h1
  refine ⟨λw'=>∃ p,p<=s.size/\(∀ i,i < p->FY (fM s i) = true)/\St w' (blk b (.stringIter s p) :: all w),λw'=>s.size - w'.iterPos b,⟨0,by omega,λi hi=>by omega,h1⟩,?_⟩
  rintro _ w2 ⟨p,hp,hall,h2⟩
  have hk:=h2.get
  by_cases hlt:p < s.size
  ·have hev:Ev w2 (w2.iterAt b s (p + (Utf8.decode s p).2)):=by
    refine ⟨rfl,rfl,rfl,by simp [World.iterAt],?_,?_⟩ <;>
    ·intro x d hx
     simp only [World.iterAt]
     rw [Xn]; exact hx
     intro e; subst e; rw [hk] at hx; cases hx
   refine ⟨_,_,Lib.run_next_any_at w2 b s p _ hk hlt,hev,.inr ⟨_,_,rfl,bJ.2 ⟨rfl,(LI _).mono ?_⟩⟩⟩
   have h3:St (w2.iterAt b s (p + (Utf8.decode s p).2)) (blk b (.stringIter s (p + (Utf8.decode s p).2)) :: all w):=h2.setObj _
   rintro _ _ ⟨rfl,rfl⟩
   refine ⟨_,rfl,?_⟩
   have hget:fM s p = (s[p]'hlt).toNat:=by unfold fM; rw [SY hlt]
   refine ae (λh4=>?_) λh4=>?_
   ·refine ⟨⟨_,rfl,?_⟩,h3.tail.has⟩
    have:FY (fM s p) = false:=by
     by_cases h5:(s[p]'hlt).toNat < 128
     ·rw [decode_ascii s p hlt h5] at h4
      unfold FY
      rw [hget]
      simp at h4 ⊢
      omega
     ·unfold FY; rw [hget]; simp; omega
    have e1:(List.range s.size).all (λi=>FY (fM s i)) = false:=by
     rw [List.all_eq_false]; exact ⟨p,by simpa using hlt,by simp [this]⟩
    rw [e1]; simp
   ·have h5:(s[p]'hlt).toNat < 128:=by
     refine Nat.lt_of_not_le λh5=>?_
     have:=LH s p hlt h5
     simp at h4; omega
    rw [decode_ascii s p hlt h5] at h3 h4 ⊢
    have hok:FY (fM s p) = true:=by
     unfold FY; rw [hget]; simp at h4 ⊢; omega
    refine ⟨⟨p + 1,hlt,λi hi=>?_,h3⟩,?_⟩
    ·by_cases e:i = p
     ·rw [e]; exact hok
     ·exact hall i (by omega)
    ·have e1:World.iterPos w2 b = p:=by simp [World.iterPos,hk]
     have e2:World.iterPos (w2.iterAt b s (p + 1)) b = p + 1:=by simp [World.iterPos,h3.get]
     show s.size - World.iterPos (w2.iterAt b s (p + 1)) b < s.size - World.iterPos w2 b
     rw [e1,e2]; omega
  ·refine ⟨_,_,Lib.run_next_end_at w2 b s p _ hk hlt,Ev.refl _,.inl ⟨rfl,⟨_,rfl,?_⟩,h2.tail.has⟩⟩
   have:(List.range s.size).all (λi=>FY (fM s i)) = true:=tK.2 λi hi=>hall i (by omega)
   rw [this]; rfl
 refine key.mono ?_
 rintro _ w' ⟨⟨n,rfl,hn⟩,hg⟩
 exact ⟨n,rfl,⟨n,rfl,hn⟩,hg⟩
theorem Nx (hs:s.size<=4611686018427387904):aA Tryz.prog C0 [.string s] w λv w'=>v = .bool (dx s)/\Gr w w':=by
 refine zR _ w _ ?_
 unfold rQ
 rw [GM]
 unfold dx
 refine ae (λh=>?_) λh=>?_
 ·have h:1<=s.size:=by simp only [Xt,W1] at h; omega
  refine ae (λh2=>?_) λh2=>?_
  ·have h2:s.size<=16:=by have:=V7 h2; omega
   refine (GN hs).mono ?_
   rintro _ w' ⟨⟨n,rfl,hn⟩,hg⟩
   exact ⟨n,rfl,by rw [hn]; simp [h,h2],hg⟩
  ·have h2:¬ s.size<=16:=by have:=V8 h2; omega
   exact ⟨by simp [h2],Gr.refl _⟩
 ·have h:¬ 1<=s.size:=by simp only [Bool.not_eq_false',Wk] at h; omega
  exact ⟨by simp [h],Gr.refl _⟩
theorem Ny (hs:s.size<=4611686018427387904):aA Tryz.prog C4 [.string s] w λv w'=>v = .bool (df s)/\w' = w:=by
 refine zV _ w _ ?_
 unfold rU
 rw [GM]
 refine ⟨λn w'=>∃ j:Nat,n = j/\j<=s.size/\(∀ i,i < j->IC i (fM s i) = true)/\w' = w,λn _=>s.size - n.toNat,⟨0,rfl,by omega,λi hi=>by omega,rfl⟩,?_⟩
 rintro _ n w1 ⟨j,rfl,hj,hall,rfl⟩
 refine ae (λh=>?_) λh=>?_
 ·have h:j < s.size:=by have:=V7 h; omega
  refine ⟨⟨by omega,by omega⟩,?_⟩
  rw [Ws]
  have hlt:=SX s j
  have hor:=Vg ⟨fM s j,hlt⟩
  have e8:kL .or .u8 ((sb s j).toNat:Int) 32 = ((fM s j ||| 32:Nat):Int):=Nw (b:=32) hlt (by omega)
  rw [e8]
  show br (((fM s j:Nat):Int) != 95) _ _
  have stp:IC j (fM s j) = true->ax ((j:Int) + 1)/\(∃ j' : Nat,(j:Int) + 1 = j'/\j'<=s.size/\(∀ i,i < j'->IC i (fM s i) = true)/\w1 = w1)/\s.size - ((j:Int) + 1).toNat < s.size - (j:Int).toNat:=λhok=>by
   refine ⟨⟨by omega,by omega⟩,⟨j + 1,by simp,by omega,λi hi=>?_,rfl⟩,bw h⟩
   by_cases e:i = j
   ·rw [e]; exact hok
   ·exact hall i (by omega)
  have bad:IC j (fM s j) = false->Value.bool false = Value.bool (df s)/\w1 = w1:=λhno=>by
   refine ⟨?_,rfl⟩
   have:(List.range s.size).all (λi=>IC i (fM s i)) = false:=by
    rw [List.all_eq_false]; exact ⟨j,by simpa using h,by simp [hno]⟩
   unfold df; rw [this]; simp
  have okd:(fM s j = 95\/(97<=(fM s j ||| 32)/\(fM s j ||| 32)<=122)\/(j≠0/\48<=fM s j/\fM s j<=57))↔IC j (fM s j) = true:=by
   have hor' : (97<=(fM s j ||| 32)/\(fM s j ||| 32)<=122)↔((65<=fM s j/\fM s j<=90)\/(97<=fM s j/\fM s j<=122)):=by
    have:=congrArg (· = true) hor
    simpa using this
   rw [hor']
   unfold IC
   simp only [W9,Wo,Wk]
   omega
  generalize fM s j ||| 32 = d at *
  have yes:(fM s j = 95\/(97<=d/\d<=122)\/(j≠0/\48<=fM s j/\fM s j<=57))->_:=λhh=>stp (okd.1 hh)
  have no:¬ (fM s j = 95\/(97<=d/\d<=122)\/(j≠0/\48<=fM s j/\fM s j<=57))->_:=λhh=>bad (by cases hq:IC j (fM s j); rfl; exact absurd (okd.2 hq) hh)
  clear okd hor e8 stp bad
  refine ae (λh1=>?_) λh1=>?_
  ·have h1:fM s j≠95:=by simp at h1; omega
   refine ae (λh2=>?_) λh2=>?_
   ·have h2:d < 97:=by have:=V7 h2; omega
    refine ae (λh3=>no (by simp at h3; omega)) λh3=>ae (λh4=>no (by have:((fM s j:Nat):Int) < 48:=V7 h4; omega)) λh4=>ae (λh5=>no (by have:57 < ((fM s j:Nat):Int):=V7 h5; omega)) λh5=>yes (.inr (.inr ?_))
    have h4:¬ ((fM s j:Nat):Int) < 48:=V8 h4
    have h5:¬ 57 < ((fM s j:Nat):Int):=V8 h5
    simp at h3; omega
   ·have h2:97<=d:=by have:=V8 h2; omega
    refine ae (λh6=>?_) λh6=>yes (.inr (.inl ⟨h2,by have:=V8 h6; omega⟩))
    have h6:122 < d:=by have:=V7 h6; omega
    refine ae (λh3=>no (by simp at h3; omega)) λh3=>ae (λh4=>no (by have:((fM s j:Nat):Int) < 48:=V7 h4; omega)) λh4=>ae (λh5=>no (by have:57 < ((fM s j:Nat):Int):=V7 h5; omega)) λh5=>yes (.inr (.inr ?_))
    have h4:¬ ((fM s j:Nat):Int) < 48:=V8 h4
    have h5:¬ 57 < ((fM s j:Nat):Int):=V8 h5
    simp at h3; omega
  ·exact yes (.inl (by simp at h1; omega))
 ·have h:j = s.size:=by have:=V8 h; omega
  subst h
  have hall':=tK.2 hall
  unfold df
  rw [hall']
  refine ae (λh=>?_) λh=>?_
  ·have h:1<=s.size:=by simp only [Xt,W1] at h; omega
   refine ⟨?_,rfl⟩
   have e:decide ((s.size:Int)<=16) = decide (s.size<=16):=by rw [WX]; simp only [Wk]; omega
   rw [e]; simp [h]
  ·have h:¬ 1<=s.size:=by simp only [Bool.not_eq_false',Wk] at h; omega
   exact ⟨by simp [h],rfl⟩
theorem ID (hx:a_ (hp w) xs a l) (hb:l<=4611686018427387904) (x:Int):aA Tryz.prog kP [.slice a l c,.int .i64 x] w λv w'=>v = .bool (decide (x∈xs))/\w' = w:=by
 refine jS ?_
 have key:aA Tryz.prog nJ [.slice a l c,.int .i64 x] w λv w'=>(∃ n:Int,v = .int .i64 n/\decide (0<=n) = decide (x∈xs))/\w' = w:=by
  refine lR ?_
  have hl:=hx.1
  refine ⟨λn w'=>∃ j:Nat,n = j/\j<=l/\x∉xs.take j/\w' = w,λn _=>l - n.toNat,⟨0,rfl,by omega,by simp,rfl⟩,?_⟩
  rintro _ n w1 ⟨j,rfl,hj,hni,rfl⟩
  refine ae (λh=>?_) λh=>?_
  ·have h:j < l:=by have:=V7 h; omega
   obtain ⟨y,ad,hy1,rfl,hy2⟩:=hx.cE h
   refine aw rfl h ⟨y,hy2 _ (sub.refl _),ae (λh2=>?_) λh2=>?_⟩
   ·have h2:x = y:=by simpa using h2
    subst h2
    exact ⟨⟨_,rfl,by rw [WI (V_ hy1)]; simp⟩,rfl⟩
   ·have h2:x≠y:=by simpa using h2
    refine ⟨⟨by omega,by omega⟩,⟨j + 1,by simp,by omega,?_,rfl⟩,bw h⟩
    rw [bA hy1,Wd]
    simp [hni,h2]
  ·have h:j = l:=by have:=V8 h; omega
   subst h
   rw [<- hl,Ww] at hni
   exact ⟨⟨_,rfl,by rw [W2 hni]; rfl⟩,rfl⟩
 refine key.mono ?_
 rintro _ _ ⟨⟨n,rfl,hn⟩,rfl⟩
 exact ⟨n,rfl,by rw [hn],rfl⟩
theorem Qq (x:Int):aA Tryz.prog yw [.int .i64 x] w λv w'=>v = .bool false/\w' = w:=kQ ⟨by simp,rfl⟩
theorem SZ (x y:Int):aA Tryz.prog zW [.int .i64 x,.int .i64 y] w λv w'=>v = .bool (decide (x < y))/\w' = w:=by
 refine wH ((Qq x).mono ?_)
 rintro _ _ ⟨rfl,rfl⟩
 exact ⟨_,rfl,LG rfl ⟨rfl,rfl⟩⟩
theorem IE (hx:a_ (hp w) xs a l) (hb:l<=4611686018427387904):aA Tryz.prog kR [.slice a l c] w λv w'=>(∃ r:Bool,v = .bool r/\(r = true↔Kq xs))/\hp w' = hp w:=by
 refine jU ?_
 have hl:=hx.1
 refine ⟨⟨by omega,by omega⟩,λn w'=>∃ j:Nat,n = (l:Int) - 1 - j/\j<=l/\(∀ i x y,l - 1 - j<=i->xs[i]? = some x->xs[i + 1]? = some y->x<=y)/\hp w' = hp w,λn _=>n.toNat,⟨0,by omega,by omega,?_,rfl⟩,?_⟩
 ·intro i x y hi h1 h2
  have:=(V9.1 h2).1; omega
 rintro _ n w1 ⟨j,rfl,hj,hall,hw⟩
 refine ae (λh=>?_) λh=>?_
 ·have h:=V7 h
  have hj2:j + 1 < l:=by omega
  intro w2 hd
  have hw2:=(dA hd).trans hw
  have e1:((l:Int) - 1 - j) = ((l - 1 - j:Nat):Int):=by omega
  have e2:(((l - 1 - j:Nat):Int) - 1) = ((l - 2 - j:Nat):Int):=by omega
  rw [e1,e2]
  obtain ⟨x,ad,hx1,rfl,hx2⟩:=hx.cE (by omega:l - 1 - j < l)
  obtain ⟨y,ad2,hy1,e3,hy2⟩:=hx.cE (by omega:l - 2 - j < l)
  cases e3
  refine ⟨λw'=>hp w' = hp w,hw2,aw rfl (by omega) ⟨x,λw3 h3=>hx2 _ (vh h3),⟨by omega,by omega⟩,aw rfl (by omega) ⟨y,λw3 h3=>hy2 _ (vh h3),(SZ x y).mono ?_⟩⟩⟩
  rintro _ _ ⟨rfl,rfl⟩
  refine ⟨_,rfl,ae (λh5=>?_) λh5=>?_⟩
  ·have h5:=V7 h5
   refine ⟨⟨false,rfl,by simp; intro hs; have:=hs (l - 2 - j) y x hy1 (by rw [show l - 2 - j + 1 = l - 1 - j by omega]; exact hx1); omega⟩,hw2⟩
  ·have h5:=V8 h5
   refine ⟨⟨by omega,by omega⟩,⟨j + 1,by omega,by omega,λi x' y' hi h1 h2=>?_,hw2⟩,by dsimp only; omega⟩
   by_cases e:i = l - 2 - j
   ·subst e
    rw [hy1] at h1
    rw [show l - 2 - j + 1 = l - 1 - j by omega,hx1] at h2
    cases h1; cases h2; omega
   ·exact hall i x' y' (by omega) h1 h2
 ·have h:=V8 h
  exact ⟨⟨true,rfl,by simp; exact λi x y h1 h2=>hall i x y (by have:=(V9.1 h2).1; omega) h1 h2⟩,hw⟩
theorem IF (hs:s.size<=4611686018427387904):aA Tryz.prog iB [.string s] w λv w'=>v = .bool (!df s)/\w' = w:=by
 refine ug ((Ny hs).mono ?_)
 rintro _ _ ⟨rfl,rfl⟩
 exact ⟨_,rfl,rfl,rfl⟩
theorem zX (hx:a_ (hp w) ss a l) (hb:l<=4611686018427387904) (hs:∀ s∈ss,s.size<=4611686018427387904):aA Tryz.prog fK [.slice a l c,.func (.func iB) #[] #[]] w λv w'=>v = .bool (!ss.all df)/\w' = w:=by
 refine fh ?_
 have key:aA Tryz.prog il [.slice a l c,.func (.func iB) #[] #[]] w λv w'=>(∃ n:Int,v = .int .i64 n/\decide (0<=n) = !ss.all df)/\w' = w:=by
  refine gh ?_
  have hl:=hx.1
  refine ⟨λn w'=>∃ j:Nat,n = j/\j<=l/\(ss.take j).all df = true/\w' = w,λn _=>l - n.toNat,⟨0,rfl,by omega,rfl,rfl⟩,?_⟩
  rintro _ n w1 ⟨j,rfl,hj,hni,rfl⟩
  refine ae (λh=>?_) λh=>?_
  ·have h:j < l:=by have:=V7 h; omega
   obtain ⟨y,ad,hy1,rfl,hy2⟩:=hx.cE h
   refine aw rfl h ⟨y,hy2 _ (sub.refl _),bJ.2 ⟨rfl,(IF (hs y (V_ hy1))).mono ?_⟩⟩
   rintro _ _ ⟨rfl,rfl⟩
   refine ⟨_,rfl,ae (λh2=>?_) λh2=>?_⟩
   ·have:ss.all df = false:=by rw [List.all_eq_false]; exact ⟨y,V_ hy1,by simpa using h2⟩
    exact ⟨⟨_,rfl,by rw [this]; simp⟩,rfl⟩
   ·refine ⟨⟨by omega,by omega⟩,⟨j + 1,by simp,by omega,?_,rfl⟩,bw h⟩
    rw [Wf,hy1,List.all_append,hni]
    simpa using h2
  ·have h:j = l:=by have:=V8 h; omega
   subst h
   rw [<- hl,Ww] at hni
   exact ⟨⟨_,rfl,by rw [hni]; rfl⟩,rfl⟩
 refine key.mono ?_
 rintro _ _ ⟨⟨n,rfl,hn⟩,rfl⟩
 exact ⟨n,rfl,by rw [hn],rfl⟩
theorem vj {l:List ByteArray} {x:ByteArray}:(l ++ [x]).Nodup↔l.Nodup/\x∉l:=by
 rw [WR]
 constructor
 ·rintro ⟨h1,_,h3⟩; exact ⟨h1,λh=>h3 x h x (by simp) rfl⟩
 ·rintro ⟨h1,h2⟩; exact ⟨h1,by simp,λa ha b hb e=>by simp at hb; subst hb; subst e; exact h2 ha⟩
theorem GO (hx:a_ (hp w) ss a l) (hb:l<=4611686018427387904):aA Tryz.prog C3 [.slice a l c] w λv w'=>v = .bool (decide ss.Nodup)/\Gr w w':=by
 refine zT ?_
 have hl:=hx.1
 refine mh (St.all w) λb w1 h=>?_
 have h:=dC (κ:=ByteArray) h
 refine ⟨λn w'=>∃ (j:Nat) (m:List (ByteArray × Value)),n = j/\j<=l/\(∀ s,(assoc s m).isSome = true↔s∈ss.take j)/\(∀ s v,assoc s m = some v->∃ k:Nat,v = .int .i64 (k:Int)/\k<=j)/\m.length<=j/\(m.length = j↔(ss.take j).Nodup)/\St w' (mapA b m :: all w),λn _=>l - n.toNat,
  ⟨0,[],rfl,by omega,by simp [assoc],λs v h=>by simp [assoc] at h,by simp,by simp,h⟩,?_⟩
 clear h
 rintro _ n w2 ⟨j,m,rfl,hj,hm1,hm2,hm3,hm4,h⟩
 refine ae (λhlt=>?_) λhlt=>?_
 ·have hlt:j < l:=by have:=V7 hlt; omega
  obtain ⟨s,ad,hs1,rfl,hs2⟩:=hx.cE hlt
  refine aw rfl hlt ⟨s,hs2 _ h.aZ,(bZ (κ:=ByteArray) aQ (rfl:aj Ty _ = .map _ _) Tryz.underlying9 rfl rfl h s).mono ?_⟩
  rintro _ _ ⟨rfl,rfl⟩
  obtain ⟨k,hk,hkj⟩ : ∃ k:Nat,(assoc s m).getD (.int .i64 0) = .int .i64 (k:Int)/\k<=j:=by
   cases ha:assoc s m with
   | none=>exact ⟨0,rfl,by omega⟩
   | some v=>obtain ⟨k,rfl,hk⟩:=hm2 s v ha; exact ⟨k,rfl,hk⟩
  refine ⟨_,hk,⟨by omega,by omega⟩,(cR (κ:=ByteArray) aQ (rfl:aj Ty _ = .map _ _) Tryz.underlying9 h s _).mono ?_⟩
  rintro _ w4 h
  have et:ss.take (j + 1) = ss.take j ++ [s]:=by rw [Wf,hs1]; rfl
  refine ⟨⟨by omega,by omega⟩,⟨j + 1,_,by simp,by omega,λs'=>?_,λs' v hv=>?_,?_,?_,h⟩,bw hlt⟩
  ·rw [dB,et,Wd,<- hm1]
   by_cases e:s' = s <;> simp [e]
  ·rw [dB] at hv
   split at hv
   ·cases hv; exact ⟨k + 1,by simp,by omega⟩
   ·obtain ⟨k',rfl,hk'⟩:=hm2 s' v hv; exact ⟨k',rfl,by omega⟩
  ·rw [Bu]; split <;> omega
  ·rw [Bu,et,vj,<- hm4,<- hm1]
   by_cases e:(assoc s m).isSome = true
   ·simp [e]; omega
   ·simp [e]
 ·have hlt:j = l:=by have:=V8 hlt; omega
  subst hlt
  refine ⟨_,Qp aQ (rfl:aj Ty _ = .map _ _) h,_,rfl,?_,h.aZ⟩
  rw [<- hl,Ww] at hm4
  congr 1
  rw [WX,Wk,<- hm4,hl]
  simp only [X2]; omega
end
end Go.Proofs.YtndaepmjkbmjmaaGreatDoor
namespace Go.Proofs.YtndaepmjkbmjmaaGreatDoor
abbrev cX:TypeId:=3
abbrev bB:=@Tryz.underlying3
abbrev Nz:TypeId:=5
abbrev LK:=@Tryz.underlying5
abbrev nP:TypeId:=9
abbrev kV:=@Tryz.underlying9
abbrev NA:TypeId:=24
abbrev C8:TypeId:=51
abbrev C9:TypeId:=52
abbrev GP:TypeId:=56
abbrev mJ:TypeId:=62
abbrev Bz:=@Tryz.eqGuardType62
abbrev BA:=@Tryz.stoodInHeld62
abbrev fj:TypeId:=83
abbrev EZ:=@Tryz.eqGuardType83
abbrev E0:=@Tryz.stoodInHeld83
abbrev r_:TypeId:=95
abbrev zY:=@Tryz.stoodInHeld95
abbrev zZ:TypeId:=99
abbrev bF:TypeId:=104
abbrev wQ:=@Tryz.eqGuardType104
abbrev E1:=@Tryz.stoodInHeld104
abbrev E2:=@Tryz.isAgg104
abbrev E3:=@Tryz.sizeOf104
abbrev mK:TypeId:=118
abbrev kA:TypeId:=184
abbrev C_:=@Tryz.eqGuardType184
abbrev Da:=@Tryz.stoodInHeld184
abbrev IG:TypeId:=201
abbrev GQ:=@Tryz.underlying201
abbrev E4:TypeId:=226
abbrev nQ:FuncId:=53
abbrev fA:FuncId:=96
abbrev dD:FuncId:=97
abbrev z6:=@Tryz.func97
abbrev BB:FuncId:=98
abbrev uj:FuncId:=99
abbrev wR:FuncId:=157
end Go.Proofs.YtndaepmjkbmjmaaGreatDoor
namespace Go.V
structure jJ where
 name:ByteArray
 level:Int
structure aH where
 left:Int
 right:List Int
 level:Int
structure af where
 terms:List jJ
 nons:List ByteArray
 levels:List Int
 start:Int
 prods:List aH
instance:oF jJ:={ n:=2,rd:=λ_ t vs=>vs = [.string t.name,.int .i64 t.level],mono:=λ_ h=>h,len:=λh=>by rw [h]; rfl }
instance:oF aH:={ n:=3,rd:=λh p vs=>∃ a l c,vs = [.int .i64 p.left,.slice a l c,.int .i64 p.level]/\l<=c/\a_ h p.right a l,mono:=λs ⟨a,l,c,h1,h2,h3⟩=>⟨a,l,c,h1,h2,h3.mono s⟩,len:=λ⟨_,_,_,h,_⟩=>by rw [h]; rfl }
structure GA where
 ta:Yg
 tl:Nat
 tc:Nat
 na:Yg
 nl:Nat
 nc:Nat
 la:Yg
 ll:Nat
 lc:Nat
 s:Int
 pa:Yg
 pl:Nat
 pc:Nat
def GA.cells (x:GA):List Value:=[.slice x.ta x.tl x.tc,.slice x.na x.nl x.nc,.slice x.la x.ll x.lc,.int .i64 x.s,.slice x.pa x.pl x.pc]
structure gR (h:Hp) (g:af) (x:GA):Prop where
 t:a_ h g.terms x.ta x.tl
 n:a_ h g.nons x.na x.nl
 l:a_ h g.levels x.la x.ll
 s:x.s = g.start
 p:a_ h g.prods x.pa x.pl
 tc:x.tl<=x.tc
 nc:x.nl<=x.nc
 lc:x.ll<=x.lc
 pc:x.pl<=x.pc
theorem gR.mono {h h' : Hp} {g:af} {x:GA} (s:sub h h') (r:gR h g x):gR h' g x:=⟨r.t.mono s,r.n.mono s,r.l.mono s,r.s,r.p.mono s,r.tc,r.nc,r.lc,r.pc⟩
instance:oF af:={ n:=5,rd:=λh g vs=>∃ x:GA,vs = x.cells/\gR h g x,mono:=λs ⟨x,h1,h2⟩=>⟨x,h1,h2.mono s⟩,len:=λ⟨_,h,_⟩=>by rw [h]; rfl }
def iE (g:af):Prop:=g.terms.length<=17592186044416/\g.nons.length<=17592186044416/\g.levels.length<=17592186044416/\g.prods.length * 40<=140737488351232/\(∀ t∈g.terms,t.name.size<=140737488351232/\anyI t.level)/\(∀ s∈g.nons,s.size<=140737488351232)/\(∀ p∈g.prods,p.right.length<=17592186043904)
theorem se {L:List ay} {b:Nat}:∀ (vs us:List Value) (i:Nat) {w:World},i + vs.length<=us.length->St w (aK b us :: L)->St (cd w ⟨b,0,none⟩ i vs) (aK b (us.take i ++ vs ++ us.drop (i + vs.length)) :: L)
 | [],us,i,w,_,h=>by simpa [cd] using h
 | v :: vs,us,i,w,hl,h=>by
  have h1:=h.SD i v
  have h2:=se vs (us.set i v) (i + 1) (by simp at hl ⊢; omega) h1
  simp only [WZ] at hl
  have e:(us.set i v).take (i + 1) ++ vs ++ (us.set i v).drop (i + 1 + vs.length) = us.take i ++ v :: vs ++ us.drop (i + (vs.length + 1)):=by
   rw [List.drop_set_of_lt (by omega),List.take_set,Wf,Xy _ _ (by simp; omega)]
   have:us[i]? = some (us[i]'(by omega)):=Wa _
   rw [this]
   have e2:i - (us.take i).length = 0:=by simp; omega
   rw [e2]
   simp
   congr 1; omega
  rw [e] at h2
  simp only [cd,aL,WZ]
  exact h2
theorem vk {w:World} {L:List ay} {b:Nat} {us:List Value} (h:St w (aK b us :: L)):∀ (vs:List Value) (i:Nat),i + vs.length<=us.length->(∀ v∈vs,aV v = true)->jy w ⟨b,0,none⟩ i vs
 | [],i,_,_=>trivial
 | v :: vs,i,hl,h1=>by
  simp only [WZ] at hl
  refine ⟨h1 v (by simp),⟨us[i]'(by omega),?_⟩,?_,vk h vs (i + 1) (by omega) λu hu=>h1 u (by simp [hu])⟩
  ·rw [aL,h.cell]; exact Wa _
  ·rw [aL]; exact h.frozen i none
theorem bx {w:World} {L:List ay} {b:Nat} {us vs:List Value} {k:World->Prop} (h:St w (aK b us :: L)) (hl:us.length = vs.length) (h1:∀ v∈vs,aV v = true) (hk:∀ w',St w' (aK b vs :: L)->k w'):fV w ⟨b,0,none⟩ vs k:=by
 refine ⟨vk h vs 0 (by omega) h1,λw' hw=>?_⟩
 subst hw
 have h2:=se vs us 0 (by omega) h
 refine hk _ ?_
 have e:us.take 0 ++ vs ++ us.drop (0 + vs.length) = vs:=by rw [List.take_zero,WT,Xl (by omega),WG]
 rwa [e] at h2
theorem dE {a:Yg} {len cap lo sz:Nat} {k:Yg->Nat->Nat->Prop} (h1:lo<=len) (h2:len<=cap) (hk:k (gC a lo cap sz) (len - lo) (cap - lo)):uc a len cap (some (lo:Int)) none none sz k :=
 ⟨.inl rfl,.inl rfl,⟨by show (0:Int)<=(lo:Int); omega,by show (lo:Int)<=(len:Int); omega⟩,by simpa using hk⟩
def sf (g:af) (added:Nat):Prop:=g.terms[0]? = some ⟨.empty,0⟩/\added < g.nons.length/\g.terms.length<=65/\g.nons.length<=64 + added/\g.terms.length - 1 + (g.nons.length - added)<=64 /\
 (∀ t∈g.terms.drop 1,dx t.name = true/\0<=t.level/\t.level<=g.levels.length)/\(∀ (i:Nat) v,g.levels[i]? = some v->1<=v/\v<=3/\∃ t∈g.terms.drop 1,t.level = (i:Int) + 1) /\
 ((g.terms.drop 1).map jJ.name).Nodup/\(g.nons.drop added).Nodup/\∀ s∈g.nons.drop added,df s = true
end Go.V
namespace Go.Proofs.YtndaepmjkbmjmaaGreatDoor
open Go.V
section
variable {w:World} {L:List ay} {g:af} {x:GA}
theorem Kr (w:World) (xo yo:Operand) (s e:ByteArray) (n m:Int):Sem.run Tryz.prog (iu .neq fj xo yo (.agg #[.string s,.int .i64 n]) (.agg #[.string e,.int .i64 m])) w = .ok (.bool (!(decide (s = e) && (n == m)))) w:=by
 unfold iu
 rw [Sem.run_bind,run_eqGuard_agg w _ _ _ _ _ _ EZ]
 simp only [Result.andThen_ok]
 have ht:Tryz.prog.underlying fj = some (.struct (Tryz.prog.fieldsOf fj)):=by kernel_rfl
 have hi:Tryz.prog.underlying cX = some (.int .i64):=bB
 have hs:Tryz.prog.underlying nP = some .string:=kV
 have hf : (Tryz.prog.fieldsOf fj).toList = [{ name := "Name", type := nP, offset := 0, embedded := false, tag := "", pkgPath := "", byteOffset := 0 }, { name := "Level", type := cX, offset := 1, embedded := false, tag := "", pkgPath := "", byteOffset := 16 }] := by kernel_rfl
 have p0:∀ (v u:Value) (w:World),(part nP #[v,u] 0).run Tryz.prog w = .ok v w:=λv u w=>by simp [part,dy hs,dZ,Kd.isAgg]
 have p1:∀ (v u:Value) (w:World),(part cX #[v,u] 1).run Tryz.prog w = .ok u w:=λv u w=>by simp [part,dy hi,dZ,Kd.isAgg]
 have eqS:∀ d w,(Op.equalIn (d + 1) nP (.string s) (.string e)).run Tryz.prog w = .ok (s.toList == e.toList) w:=λd w=>run_equalIn_string w d _ _ _ hs
 have eqI:∀ d w,(Op.equalIn (d + 1) cX (.int .i64 n) (.int .i64 m)).run Tryz.prog w = .ok (n == m) w:=λd w=>run_equalIn_int w d _ _ _ _ _ hi
 have key:(Op.equalIn (9998 + 1 + 1) fj (.agg #[.string s,.int .i64 n]) (.agg #[.string e,.int .i64 m])).run Tryz.prog w = .ok (decide (s = e) && (n == m)) w:=by
  rw [run_equalIn_agg w (9998 + 1) fj _ _ ht E0,hf]
  unfold Op.eqFields
  simp only [ne_eq,String.reduceEq,not_false_eq_true,if_true,Sem.run_bind,p0,Result.andThen_ok,eqS,zC]
  cases hq:decide (s = e)
  ·simp
  ·unfold Op.eqFields
   simp only [ne_eq,String.reduceEq,not_false_eq_true,if_true,Sem.run_bind,p1,Result.andThen_ok,eqI,Bool.not_true,XF,if_false]
   cases hn:(n == m)
   ·simp
   ·unfold Op.eqFields; simp
 rw [run_neq_struct]
 show ((Op.equalIn (9998 + 1 + 1) fj (.agg #[.string s,.int .i64 n]) (.agg #[.string e,.int .i64 m])).run Tryz.prog w).andThen _ = _
 rw [key]
 rfl
end
end Go.Proofs.YtndaepmjkbmjmaaGreatDoor
namespace Go.V
theorem Qr {w:World} {L:List ay} {a:Yg} {l c:Nat} {ss:List ByteArray} (h:St w (own 1 a l c (ss.map λs=>Value.string s) :: L)):a_ (hp w) ss a l:=by
 have hl:=iz h
 obtain ⟨h1,s,ha⟩:=h.first
 exact (fi (by simpa using hl) (cf ha)).mono s
end Go.V
namespace Go.Proofs.YtndaepmjkbmjmaaGreatDoor
open Go.V
section
variable {w:World} {L:List ay} {g:af} {x:GA}
theorem DU (hg:gR (hp w) g x) (hb:iE g) (added:Nat) (ha:added<=1) :
  aA Tryz.prog Bo [.agg ⟨x.cells⟩,.int .i64 (added:Int)] w λv w'=>(∃ r:Bool,v = .bool r/\(r = true↔sf g added))/\Gr w w':=by
 refine yp ?_
 refine ah (St.all w) λk1 w1 h=>?_
 have gw:Gr w w1:=h.aZ
 have hg:=hg.mono gw
 have rb:av (hp w1) ⟨k1,0,none⟩ x.cells:=h.row
 obtain ⟨b1,b2,b3,b4,b5,b6,b7⟩:=hb
 have tl:=hg.t.1
 have nl:=hg.n.1
 have ll:=hg.l.1
 have hfin:∀ w',sub (hp w1) (hp w')->Gr w w':=λw' h=>gw.trans h
 have h:=St.all w1
 unfold V.all at h
 have c0:=λ(w' : World) (s:sub (hp w1) (hp w'))=>rb.cell0 (v:=.slice x.ta x.tl x.tc) s
 have c1:=λ(w' : World) (s:sub (hp w1) (hp w'))=>rb.cell s (j:=1) (v:=.slice x.na x.nl x.nc) rfl
 have c2:=λ(w' : World) (s:sub (hp w1) (hp w'))=>rb.cell s (j:=2) (v:=.slice x.la x.ll x.lc) rfl
 generalize hp w1 = H at *
 have s1:sub H (hp w1):=h.has
 have pre:Prop:=True
 refine ⟨λb w'=>(b = false↔(g.terms[0]? = some ⟨.empty,0⟩/\added < g.nons.length/\g.terms.length<=65/\g.nons.length<=64 + added/\g.terms.length - 1 + (g.nons.length - added)<=64))/\w' = w1,?_,?_⟩
 ·refine ⟨_,_,_,c0 _ s1,ae (λh1=>⟨?_,rfl⟩) λh1=>?_⟩
  ·have:g.terms = []:=Wv (by simp at h1; omega)
   simp [this]
  have h1:0 < x.tl:=by simp at h1; omega
  obtain ⟨t0,ad,vs,ht1,hta,ht2,ht3⟩:=hg.t.get h1
  have ht3:vs = [.string t0.name,.int .i64 t0.level]:=ht3
  subst ht3
  have ht2:av H ad [.string t0.name,.int .i64 t0.level]:=by simpa [aJ,Addr.add] using ht2
  have e0:(g.terms[0]? = some ⟨.empty,0⟩)↔(t0.name = .empty/\t0.level = 0):=by
   rw [ht1]
   constructor
   ·intro e; cases e; exact ⟨rfl,rfl⟩
   ·rintro ⟨e1,e2⟩; cases t0; simp_all
  rw [e0]
  refine ⟨_,_,_,c0 _ s1,⟨ad,hta,by omega,by omega,?_⟩⟩
  have ez:ad.add (cV (Int.toNat 0) 2) = ad:=by simp [aJ,Addr.add]
  rw [ez]
  refine ⟨_,_,ht2.at s1 rfl,_,Kr _ _ _ _ _ _ _,_,rfl,ae (λh2=>⟨?_,rfl⟩) λh2=>?_⟩
  ·simp only [Xt,Bool.and_eq_false_iff,W1,XN] at h2
   have:¬ (t0.name = .empty/\t0.level = 0):=λe=>h2.elim (λh=>h e.1) (λh=>h e.2)
   simp [this]
  have h2:t0.name = ByteArray.mk (Array.mk [])/\t0.level = 0:=by simpa using h2
  have h2:t0.name = .empty/\t0.level = 0:=h2
  refine ⟨_,_,_,c1 _ s1,ae (λh3=>⟨?_,rfl⟩) λh3=>?_⟩
  ·have:=V7 h3
   simp; omega
  have h3:=V8 h3
  refine ⟨_,_,_,c0 _ s1,ae (λh4=>⟨?_,rfl⟩) λh4=>?_⟩
  ·have:=V7 h4
   simp; omega
  have h4:=V8 h4
  refine ⟨_,_,_,c1 _ s1,⟨by omega,by omega⟩,ae (λh5=>⟨?_,rfl⟩) λh5=>?_⟩
  ·have:=V7 h5
   simp; omega
  have h5:=V8 h5
  refine ⟨_,_,_,c0 _ s1,⟨by omega,by omega⟩,_,_,_,c1 _ s1,⟨by omega,by omega⟩,⟨by omega,by omega⟩,?_,rfl⟩
  rw [W1]
  simp only [h2,true_and,and_true]
  omega
 rintro _ b _ ⟨hpre,rfl⟩
 refine ae (λhbt=>?_) λhbf=>?_
 ·subst hbt
  refine ⟨⟨false,rfl,?_⟩,hfin _ s1⟩
  constructor
  ·intro h; cases h
  ·rintro ⟨p1,p2,p3,p4,p5,_⟩
   have:=hpre.2 ⟨p1,p2,p3,p4,p5⟩
   cases this
 obtain ⟨p1,p2,p3,p4,p5⟩:=hpre.1 hbf
 have hT:1<=x.tl:=by
  have:=(V9.1 p1).1; omega
 refine mh h λk16 w3 h=>?_
 have h:=dC (κ:=Int) h
 refine ⟨_,_,_,c0 _ h.aZ,dE (lo:=1) hT hg.tc ?_⟩
 have hts:=hg.t.drop hT hg.tc
 have htl:(g.terms.drop 1).length = x.tl - 1:=hts.1
 -- the terminals
 refine ⟨λo l' c' n w'=>∃ (j:Nat) (m:List (Int × Value)),n = j/\j<=x.tl - 1/\j = l'/\(∀ t∈(g.terms.drop 1).take j,dx t.name = true/\0<=t.level/\t.level<=g.levels.length)/\(∀ n:Int,assoc n m = if ∃ t∈(g.terms.drop 1).take j,t.level = n then some (.int .i64 1) else none) /\
   St w' [own 1 o j c' (((g.terms.drop 1).take j).map λt=>Value.string t.name),mapA k16 m,has H],λ_ _ _ n _=>x.tl - 1 - n.toNat,⟨0,[],rfl,by omega,rfl,by simp,by simp [assoc],az 1 h⟩,?_⟩
 clear h
 rintro _ o10 _ k22 n2 w4 ⟨j,m,rfl,hj,rfl,hok,hm,h⟩
 have s4:sub H (hp w4):=aU 2 h.l
 refine ae (λhlt=>?_) λhlt=>?_
 ·have hlt:j < x.tl - 1:=by have:=V7 hlt; omega
  obtain ⟨t,ad,vs,ht1,hta,ht2,ht3⟩:=hts.get hlt
  have ht3:vs = [.string t.name,.int .i64 t.level]:=ht3
  subst ht3
  have htm:t∈g.terms.drop 1:=V_ ht1
  have htg:t∈g.terms:=Xm htm
  obtain ⟨q1,q2⟩:=b5 t htg
  have et:(g.terms.drop 1).take (j + 1) = (g.terms.drop 1).take j ++ [t]:=by rw [Wf,ht1]; rfl
  refine ⟨ad,hta,by omega,by omega,?_⟩
  rw [Ws]
  refine ⟨_,_,ht2.at s4 rfl,ah h λk23 w5 h=>bx h rfl (by simp [aV]) λw6 h=>?_⟩
  refine ⟨λb w'=>(b = false↔(dx t.name = true/\0<=t.level/\t.level<=g.levels.length))/\St w' [aK k23 [.string t.name,.int .i64 t.level],own 1 o10 j k22 (((g.terms.drop 1).take j).map λt=>Value.string t.name),mapA k16 m,has H],?_,?_⟩
  ·refine ⟨_,h.cell 0,(Nx (by omega)).mono ?_⟩
   rintro _ w7 ⟨rfl,hg7⟩
   have h:=h.gr hg7
   refine ⟨_,rfl,ae (λh1=>⟨?_,h⟩) λh1=>?_⟩
   ·have h1:dx t.name = false:=by simpa using h1
    simp [h1]
   have h1:dx t.name = true:=by simpa using h1
   have cl:w7.cell? ((⟨k23,0,none⟩ : Addr).add 1) = some (.int .i64 t.level):=h.row.cell (sub.refl _) rfl
   refine ⟨_,cl,ae (λh2=>⟨?_,h⟩) λh2=>?_⟩
   ·have h2:=V7 h2
    simp [h1]; omega
   have h2:=V8 h2
   refine ⟨_,cl,_,_,_,c2 _ (aU 3 h.l),?_,h⟩
   rw [W1]
   simp only [h1,true_and]
   omega
  ·clear h
   rintro _ b4 w8 ⟨hb4,h⟩
   refine ae (λhbt=>?_) λhbf=>?_
   ·subst hbt
    refine ⟨⟨false,rfl,?_⟩,hfin _ (aU 3 h.l)⟩
    constructor
    ·intro h; cases h
    ·rintro ⟨_,_,_,_,_,p6,_⟩
     have:=hb4.2 (p6 t htm)
     cases this
   have hokt:=hb4.1 hbf
   refine ⟨_,h.cell 0,ah h λk26 w9 h=>?_⟩
   refine (aP aQ (rfl:aj Ty _ = .slice _) (rfl:aj Ty _ = .slice _) rfl rfl rfl (h.pick 5 [0,2,1,3,4]) rfl (by simp [aV]) (by show (j + 1) * 16<=_; omega) (by omega)).mono ?_
   rintro _ w10 ⟨a',c',rfl,h⟩
   have h:=h.pick 5 [3,0,2,4]
   refine ⟨_,_,_,rfl,_,(ai (b:=k23) (vs:=[.string t.name,.int .i64 t.level]) 2 h.l).cell (sub.refl _) (j:=1) rfl,?_⟩
   refine (cR (κ:=Int) aQ (rfl:aj Ty _ = .map _ _) bB h t.level (.int .i64 1)).mono ?_
   rintro _ w11 h
   refine ⟨⟨by omega,by omega⟩,⟨j + 1,bK t.level (.int .i64 1) m,by simp,by omega,rfl,λt' ht'=>?_,λn=>?_,?_⟩,by dsimp only; omega⟩
   ·rw [et,Wd] at ht'
    rcases ht' with ht' | ht'
    ·exact hok t' ht'
    ·simp at ht'; subst ht'; exact hokt
   ·rw [dB,hm,et]
    by_cases e:n = t.level
    ·subst e
     rw [Wn rfl,Wn ⟨t,by simp,rfl⟩]
    ·rw [Wg e]
     have:(∃ t'∈(g.terms.drop 1).take j ++ [t],t'.level = n)↔∃ t'∈(g.terms.drop 1).take j,t'.level = n:=by
      constructor
      ·rintro ⟨t',h1,h2⟩
       rcases Wd.1 h1 with h1 | h1
       ·exact ⟨t',h1,h2⟩
       ·simp at h1; subst h1; exact absurd h2.symm e
      ·rintro ⟨t',h1,h2⟩; exact ⟨t',Wd.2 (.inl h1),h2⟩
     simp only [this]
   ·have e:(((g.terms.drop 1).take j).map λt=>Value.string t.name) ++ [.string t.name] = ((g.terms.drop 1).take (j + 1)).map λt=>Value.string t.name:=by rw [et]; simp
    rw [<- e]
    exact h.pick 4 [1,0,3]
 have hlt:j = x.tl - 1:=by have:=V8 hlt; omega
 subst hlt
 rw [Wq (by omega)] at hok hm h
 refine ⟨_,_,_,c2 _ s4,λn w'=>∃ i:Nat,n = i/\i<=x.ll/\(∀ (k:Nat) v,k < i->g.levels[k]? = some v->1<=v/\v<=3/\∃ t∈g.terms.drop 1,t.level = (k:Int) + 1)/\St w' [own 1 o10 (x.tl - 1) k22 ((g.terms.drop 1).map λt=>Value.string t.name),mapA k16 m,has H],λn _=>x.ll - n.toNat,⟨0,rfl,by omega,λk v hk=>by omega,h⟩,?_⟩
 clear h s4
 rintro _ n7 w12 ⟨i,rfl,hi,hlv,h⟩
 have s12:sub H (hp w12):=aU 2 h.l
 have bad:∀ {v:Int},g.levels[i]? = some v->¬ (1<=v/\v<=3/\∃ t∈g.terms.drop 1,t.level = (i:Int) + 1)->(∃ r:Bool,Value.bool false = .bool r/\(r = true↔sf g added))/\Gr w w12:=λ{v} hv hn=>by
  refine ⟨⟨false,rfl,?_⟩,hfin _ s12⟩
  constructor
  ·intro h; cases h
  ·rintro ⟨_,_,_,_,_,_,p7,_⟩
   exact absurd (p7 i v hv) hn
 refine ae (λhlt=>?_) λhlt=>?_
 ·have hlt:i < x.ll:=by have:=V7 hlt; omega
  obtain ⟨v,ad,hv1,hva,hv2⟩:=hg.l.cE hlt
  refine ⟨ad,hva,by omega,by omega,?_⟩
  rw [Ws]
  refine ⟨_,hv2 _ s12,ae (λh1=>bad hv1 (by have:=V7 h1; omega)) λh1=>ae (λh2=>bad hv1 (by have:=V7 h2; omega)) λh2=>⟨⟨by omega,by omega⟩,?_⟩⟩
  refine (bZ (κ:=Int) aQ (rfl:aj Ty _ = .map _ _) bB rfl rfl (h.pick 3 [1]) ((i:Int) + 1)).mono ?_
  rintro _ _ ⟨rfl,rfl⟩
  rw [hm]
  by_cases he:∃ t∈g.terms.drop 1,t.level = (i:Int) + 1
  ·rw [Wn he]
   refine ⟨_,rfl,LG rfl ⟨⟨by omega,by omega⟩,⟨i + 1,by simp,by omega,λk v' hk hv'=>?_,h⟩,bw hlt⟩⟩
   by_cases e:k = i
   ·subst e
    rw [hv1] at hv'; cases hv'
    exact ⟨by have:=V8 h1; omega,by have:=V8 h2; omega,he⟩
   ·exact hlv k v' (by omega) hv'
  ·rw [Wg he]
   exact ⟨_,rfl,C7 rfl (bad hv1 (λh=>he h.2.2))⟩
 have hlt:i = x.ll:=by have:=V8 hlt; omega
 subst hlt
 have hlv' : ∀ (k:Nat) v,g.levels[k]? = some v->1<=v/\v<=3/\∃ t∈g.terms.drop 1,t.level = (k:Int) + 1:=λk v hv=>hlv k v (by have:=(V9.1 hv).1; omega) hv
 refine ⟨_,_,_,c1 _ s12,dE (lo:=added) (by omega) hg.nc ?_⟩
 have hns:=hg.n.drop (k:=added) (by omega) hg.nc
 have e1:((g.terms.drop 1).map λt=>Value.string t.name) = ((g.terms.drop 1).map jJ.name).map λs=>Value.string s:=by rw [XK]; rfl
 rw [e1] at h
 have rt:a_ (hp w12) ((g.terms.drop 1).map jJ.name) o10 (x.tl - 1):=Qr h
 refine (GO rt (by omega)).mono ?_
 rintro _ w14 ⟨rfl,g14⟩
 have s14:sub H (hp w14):=s12.trans g14
 refine ⟨_,rfl,ae (λh1=>?_) λh1=>?_⟩
 ·have h1:=V7 h1
  refine (GO (hns.mono s14) (by omega)).mono ?_
  rintro _ w15 ⟨rfl,g15⟩
  have s15:sub H (hp w15):=s14.trans g15
  refine ⟨_,rfl,ae (λh2=>?_) λh2=>?_⟩
  ·have h2:=V7 h2
   refine (zX (hns.mono s15) (by omega) (λs hs=>by have:=b6 s (Xm hs); omega)).mono ?_
   rintro _ _ ⟨rfl,rfl⟩
   refine ⟨_,rfl,⟨_,rfl,?_⟩,hfin _ s15⟩
   rw [Bool.not_not,XH]
   exact ⟨λh3=>⟨p1,p2,p3,p4,p5,hok,hlv',h1,h2,h3⟩,λ⟨_,_,_,_,_,_,_,_,_,h3⟩=>h3⟩
  ·have h2:=V8 h2
   refine ⟨⟨false,rfl,?_⟩,hfin _ s15⟩
   exact ⟨λh=>(by cases h),λ⟨_,_,_,_,_,_,_,_,h3,_⟩=>absurd h3 h2⟩
 ·have h1:=V8 h1
  refine ⟨⟨false,rfl,?_⟩,hfin _ s14⟩
  exact ⟨λh=>(by cases h),λ⟨_,_,_,_,_,_,_,h3,_⟩=>absurd h3 h1⟩
end
end Go.Proofs.YtndaepmjkbmjmaaGreatDoor
namespace Go.V
def nR (acc:List Int) (x:Int):List Int:=if x∈acc then acc else acc ++ [x]
def cK (l:List Int):List Int:=l.foldl nR []
theorem zD {l:List Int} {j:Nat} {x:Int} (h:l[j]? = some x):cK (l.take (j + 1)) = nR (cK (l.take j)) x:=by
 unfold cK; rw [Wf,h,List.foldl_append]; rfl
theorem NB {acc:List Int} {x y:Int}:y∈nR acc x↔y∈acc\/y = x:=by
 unfold nR; split
 ·rename_i h; exact ⟨.inl,λh'=>h'.elim id (λe=>e ▸ h)⟩
 ·simp
theorem NC (acc:List Int) (x:Int):acc.length<=(nR acc x).length/\(nR acc x).length<=acc.length + 1:=by
 unfold nR; split <;> simp
theorem IH {acc:List Int} (x:Int) (h:acc.Nodup):(nR acc x).Nodup:=by
 unfold nR; split
 ·exact h
 ·rename_i hn
  rw [WR]
  exact ⟨h,by simp,λa ha b hb e=>by simp at hb; subst hb; subst e; exact hn ha⟩
theorem BC (l:List Int):∀ acc,acc.Nodup->(l.foldl nR acc).Nodup/\(∀ y,y∈l.foldl nR acc↔y∈acc\/y∈l)/\(l.foldl nR acc).length<=acc.length + l.length:=by
 induction l with
 | nil=>intro acc h; exact ⟨h,by simp,by simp⟩
 | cons x l ih =>
  intro acc h
  obtain ⟨h1,h2,h3⟩:=ih _ (IH x h)
  refine ⟨h1,λy=>?_,?_⟩
  ·show y∈l.foldl nR (nR acc x)↔_
   rw [h2,NB,Wp,or_assoc]
  ·show (l.foldl nR (nR acc x)).length<=_
   have:=(NC acc x).2
   simp only [WZ]; omega
theorem II {l:List Int} {y:Int}:y∈cK l↔y∈l:=by
 have:=(BC l [] (by simp)).2.1 y
 simpa [cK] using this
theorem vl (l:List Int):(cK l).length<=l.length:=by
 have:=(BC l [] (by simp)).2.2
 simpa [cK] using this
def af.T (g:af):Nat:=g.terms.length
def af.N (g:af):Nat:=g.nons.length
def eH (g:af) (added:Nat) (s:Int):Prop:=1<=s/\s < g.T + g.N/\¬ ((g.T:Int)<=s/\s < g.T + added)
def kW (g:af) (added:Nat) (p:aH):Prop:=((g.T:Int) + added<=p.left/\p.left < g.T + g.N/\0<=p.level/\p.level<=g.levels.length)/\∀ s∈p.right,eH g added s
def gL (g:af) (added:Nat):List Int:=cK ((g.prods.drop added).map aH.left)
def yy (g:af) (added:Nat):Prop:=added < g.prods.length/\g.prods.length<=96 + added/\(∀ p∈g.prods.drop added,kW g added p) /\
 ((gL g added).length:Int) = (g.N:Int) - added/\(g.T:Int) + added<=g.start/\g.start < g.T + g.N
def ND (g:af):Prop:=sf g 0/\yy g 0/\Kq (gL g 0)
def ak (g:af):Prop:=g.nons[0]? = some .empty/\sf g 1/\yy g 1/\∃ p,g.prods[0]? = some p/\p.left = (g.T:Int)/\p.right = [g.start]/\p.level = 0
end Go.V
namespace Go.Proofs.YtndaepmjkbmjmaaGreatDoor
open Go.V
section
variable {w:World} {L:List ay} {g:af} {x:GA}
theorem uW (hg:gR (hp w) g x) (hb:iE g) (added:Nat) (ha:added<=1) :
  aA Tryz.prog u7 [.agg ⟨x.cells⟩,.int .i64 (added:Int)] w λv w'=>∃ (a:Yg) (l c:Nat) (xs:List Int) (r:Bool),v = .tuple #[.slice a l c,.bool r]/\(r = true↔yy g added)/\(r = true->xs = gL g added)/\St w' (own 1 a l c (iv xs) :: all w):=by
 refine rK ?_
 refine ah (St.all w) λk1 w1 h=>?_
 have gw:Gr w w1:=h.aZ
 have hg:=hg.mono gw
 have rb:av (hp w1) ⟨k1,0,none⟩ x.cells:=h.row
 obtain ⟨b1,b2,b3,b4,b5,b6,b7⟩:=hb
 have tl:=hg.t.1
 have nl:=hg.n.1
 have ll:=hg.l.1
 have pl:=hg.p.1
 have hfin:∀ w' (A:ay),St w' [A,has (hp w1)]->St w' [A,has (hp w)]:=λw' A h=>h.qV (bD gw)
 have h:=St.all w1
 unfold V.all at h
 have c0:=λ(w' : World) (s:sub (hp w1) (hp w'))=>rb.cell0 (v:=.slice x.ta x.tl x.tc) s
 have c1:=λ(w' : World) (s:sub (hp w1) (hp w'))=>rb.cell s (j:=1) (v:=.slice x.na x.nl x.nc) rfl
 have c2:=λ(w' : World) (s:sub (hp w1) (hp w'))=>rb.cell s (j:=2) (v:=.slice x.la x.ll x.lc) rfl
 have c3:=λ(w' : World) (s:sub (hp w1) (hp w'))=>rb.cell s (j:=3) (v:=.int .i64 x.s) rfl
 have c4:=λ(w' : World) (s:sub (hp w1) (hp w'))=>rb.cell s (j:=4) (v:=.slice x.pa x.pl x.pc) rfl
 unfold V.all
 generalize hp w1 = H at *
 have s1:sub H (hp w1):=h.has
 have hT:g.T = x.tl:=tl
 have hN:g.N = x.nl:=nl
 have no:∀ w',sub H (hp w')->¬ yy g added->∃ (a:Yg) (l c:Nat) (xs:List Int) (r:Bool),Value.tuple (Array.mk [.slice none 0 0,.bool false]) = .tuple #[.slice a l c,.bool r]/\(r = true↔yy g added)/\(r = true->xs = gL g added)/\St w' [own 1 a l c (iv xs),has (hp w)]:=λw' s hn =>
  ⟨none,0,0,[],false,rfl,⟨λh=>(by cases h),λh=>absurd h hn⟩,λh=>(by cases h),hfin _ _ (az 1 (bD s))⟩
 refine ⟨λb w'=>(b = false↔(added < g.prods.length/\g.prods.length<=96 + added))/\w' = w1,?_,?_⟩
 ·refine ⟨_,_,_,c4 _ s1,ae (λh1=>⟨?_,rfl⟩) λh1=>?_⟩
  ·have:=V7 h1
   simp; omega
  have h1:=V8 h1
  refine ⟨_,_,_,c4 _ s1,⟨by omega,by omega⟩,?_,rfl⟩
  rw [W1]; omega
 rintro _ b _ ⟨hpre,rfl⟩
 refine ae (λhbt=>?_) λhbf=>?_
 ·subst hbt
  refine no _ s1 ?_
  rintro ⟨p1,p2,_⟩
  have:=hpre.2 ⟨p1,p2⟩; cases this
 obtain ⟨p1,p2⟩:=hpre.1 hbf
 refine ⟨_,_,_,c0 _ s1,_,_,_,c1 _ s1,⟨by omega,by omega⟩,_,_,_,c0 _ s1,⟨by omega,by omega⟩,_,_,_,c4 _ s1,dE (lo:=added) (by omega) hg.pc ?_⟩
 have hps:=hg.p.drop (k:=added) (by omega) hg.pc
 have hpsl:=hps.1
 refine ⟨λo l' c' n w'=>∃ j:Nat,n = j/\j<=x.pl - added/\(cK (((g.prods.drop added).map aH.left).take j)).length = l'/\(∀ p∈(g.prods.drop added).take j,kW g added p) /\
   St w' [own 1 o l' c' (iv (cK (((g.prods.drop added).map aH.left).take j))),has H],λ_ _ _ n _=>x.pl - added - n.toNat,⟨0,rfl,by omega,rfl,by simp,az 1 h⟩,?_⟩
 clear h
 rintro _ o8 _ k17 n1 w3 ⟨j,rfl,hj,rfl,hok,h⟩
 have s3:sub H (hp w3):=aU 1 h.l
 have hll:(cK (((g.prods.drop added).map aH.left).take j)).length<=j:=WC (vl _) (by simp; omega)
 refine ae (λhlt=>?_) λhlt=>?_
 ·have hlt:j < x.pl - added:=by have:=V7 hlt; omega
  obtain ⟨p,ad,vs,hp1,hpa,hp2,ra,rl,rc,rfl,hrc,hp3⟩:=hps.get hlt
  have hpm:p∈g.prods.drop added:=V_ hp1
  have hlp:((g.prods.drop added).map aH.left)[j]? = some p.left:=by rw [Wc,hp1]; rfl
  have rl1:=hp3.1
  have b7':=b7 p (Xm hpm)
  refine ⟨ad,hpa,by omega,by omega,?_⟩
  rw [Ws]
  refine ⟨_,_,_,_,_,hp2.at s3 rfl,ah h λk20 w4 h=>bx h rfl (by simp [aV]) λw5 h=>?_⟩
  have hbox:∀ w',sub (hp w5) (hp w')->av (hp w') ⟨k20,0,none⟩ [.int .i64 p.left,.slice ra rl rc,.int .i64 p.level]:=λw' s=>h.row.mono s
  have s5:sub H (hp w5):=aU 2 h.l
  have d0:=λ(w' : World) (s:sub (hp w5) (hp w'))=>(hbox w' s).cell0 (v:=.int .i64 p.left) (sub.refl _)
  have d1:=λ(w' : World) (s:sub (hp w5) (hp w'))=>(hbox w' s).cell (sub.refl _) (j:=1) (v:=.slice ra rl rc) rfl
  have d2:=λ(w' : World) (s:sub (hp w5) (hp w'))=>(hbox w' s).cell (sub.refl _) (j:=2) (v:=.int .i64 p.level) rfl
  refine ⟨λb w'=>(b = false↔((g.T:Int) + added<=p.left/\p.left < g.T + g.N/\0<=p.level/\p.level<=g.levels.length))/\w' = w5,?_,?_⟩
  ·refine ⟨_,d0 _ (sub.refl _),ae (λh1=>⟨?_,rfl⟩) λh1=>?_⟩
   ·have:=V7 h1
    simp; omega
   have h1:=V8 h1
   refine ⟨_,d0 _ (sub.refl _),ae (λh2=>⟨?_,rfl⟩) λh2=>?_⟩
   ·have:=V7 h2
    simp; omega
   have h2:=V8 h2
   refine ⟨_,d2 _ (sub.refl _),ae (λh3=>⟨?_,rfl⟩) λh3=>?_⟩
   ·have:=V7 h3
    simp; omega
   have h3:=V8 h3
   refine ⟨_,d2 _ (sub.refl _),_,_,_,c2 _ s5,?_,rfl⟩
   rw [W1]; omega
  rintro _ b2 w6 ⟨hb2,rfl⟩
  refine ae (λhbt=>?_) λhbf=>?_
  ·subst hbt
   refine no _ s5 ?_
   rintro ⟨_,_,p3,_⟩
   have:=hb2.2 (p3 p hpm).1; cases this
  have hpok:=hb2.1 hbf
  refine ⟨_,_,_,d1 _ (sub.refl _),λn w'=>∃ i:Nat,n = i/\i<=rl/\(∀ (k:Nat) s,k < i->p.right[k]? = some s->eH g added s)/\w' = w6,λn _=>rl - n.toNat,⟨0,rfl,by omega,λk s hk=>by omega,rfl⟩,?_⟩
  rintro _ n8 w7 ⟨i,rfl,hi,hsy,rfl⟩
  refine ae (λhlt2=>?_) λhlt2=>?_
  ·have hlt2:i < rl:=by have:=V7 hlt2; omega
   obtain ⟨s,ad2,hs1,rfl,hs2⟩:=hp3.cE hlt2
   have bad:¬ eH g added s->_:=λhn=>no w7 s5 (λhq=>hn ((hq.2.2.1 p hpm).2 s (V_ hs1)))
   have good:eH g added s->ax ((i:Int) + 1)/\(∃ i' : Nat,(i:Int) + 1 = i'/\i'<=rl/\(∀ (k:Nat) s,k < i'->p.right[k]? = some s->eH g added s)/\w7 = w7)/\rl - ((i:Int) + 1).toNat < rl - (i:Int).toNat:=λhgd=>by
    refine ⟨⟨by omega,by omega⟩,⟨i + 1,by simp,by omega,λk s' hk hs'=>?_,rfl⟩,bw hlt2⟩
    by_cases e:k = i
    ·subst e; rw [hs1] at hs'; cases hs'; exact hgd
    ·exact hsy k s' (by omega) hs'
   refine aw rfl hlt2 ⟨s,hs2 _ s5,ae (λh1=>bad ?_) λh1=>ae (λh2=>bad ?_) λh2=>⟨_,_,_,c0 _ s5,ae (λh3=>ae (λh4=>bad ?_) λh4=>good ?_) λh3=>good ?_⟩⟩
   ·have:=V7 h1; unfold eH; omega
   ·have:=V7 h2; unfold eH; omega
   ·have h3:=V7 h3; have h4:=V7 h4; unfold eH; omega
   ·have h1:=V8 h1; have h2:=V8 h2; have h3:=V7 h3; have h4:=V8 h4; unfold eH; omega
   ·have h1:=V8 h1; have h2:=V8 h2; have h3:=V8 h3; unfold eH; omega
  have hlt2:i = rl:=by have:=V8 hlt2; omega
  subst hlt2
  have hpok2:kW g added p:=⟨hpok,λs hs=>by
   obtain ⟨k,hk,e⟩:=List.mem_iff_getElem.1 hs
   exact hsy k s (by omega) (by rw [<- e]; exact Wa hk)⟩
  have hok2:∀ q∈(g.prods.drop added).take (j + 1),kW g added q:=λq hq=>by
   rw [Wf,hp1] at hq
   rcases Wd.1 hq with hq | hq
   ·exact hok q hq
   ·simp at hq; subst hq; exact hpok2
  have et:=zD hlp
  refine ⟨_,d0 _ (sub.refl _),(ID (EX (h.pick 3 [1])) (by omega) p.left).mono ?_⟩
  rintro _ _ ⟨rfl,rfl⟩
  refine ⟨_,rfl,ae (λh1=>?_) λh1=>?_⟩
  ·have h1:p.left∉cK (((g.prods.drop added).map aH.left).take j):=by simpa using h1
   refine ⟨_,d0 _ (sub.refl _),ah h λk27 w9 h=>?_⟩
   refine (aP aQ (rfl:aj Ty _ = .slice _) (rfl:aj Ty _ = .slice _) rfl rfl rfl (h.pick 4 [0,2,3]) rfl (by simp [aV]) (by show (_ + 1) * 8<=_; omega) (by omega)).mono ?_
   rintro _ w10 ⟨a',c',rfl,h⟩
   have e2:cK (((g.prods.drop added).map aH.left).take (j + 1)) = cK (((g.prods.drop added).map aH.left).take j) ++ [p.left]:=by rw [et]; unfold nR; rw [Wg h1]
   refine ⟨_,_,_,rfl,⟨by omega,by omega⟩,⟨j + 1,by simp,by omega,by rw [e2]; simp,hok2,?_⟩,by dsimp only; omega⟩
   rw [e2]
   have e3:∀ l:List Int,iv (l ++ [p.left]) = iv l ++ [.int .i64 p.left]:=λl=>by simp [iv]
   rw [e3]
   exact h.pick 3 [0,2]
  ·have h1:p.left∈cK (((g.prods.drop added).map aH.left).take j):=by simpa using h1
   have e2:cK (((g.prods.drop added).map aH.left).take (j + 1)) = cK (((g.prods.drop added).map aH.left).take j):=by rw [et]; unfold nR; rw [Wn h1]
   refine ⟨⟨by omega,by omega⟩,⟨j + 1,by simp,by omega,by rw [e2],hok2,?_⟩,by dsimp only; omega⟩
   rw [e2]
   exact h.pick 3 [1,2]
 have hlt:j = x.pl - added:=by have:=V8 hlt; omega
 subst hlt
 have el:((g.prods.drop added).map aH.left).take (x.pl - added) = (g.prods.drop added).map aH.left:=Wq (by simp; omega)
 rw [el] at h hll ⊢
 rw [Wq (by omega)] at hok
 intro w11 hd
 have h:=h.drawn hd
 have s11:sub H (hp w11):=aU 1 h.l
 refine ⟨λw'=>sub H (hp w'),s11,_,_,_,λw' s=>c1 _ s,⟨by omega,by omega⟩,ae (λh1=>?_) λh1=>?_⟩
 ·have h1:((gL g added).length:Int) = (x.nl:Int) - added:=by simpa [gL] using h1
  refine ⟨_,λw' s=>c3 _ s,ae (λh2=>?_) λh2=>?_⟩
  ·have h2:=V7 h2
   refine ⟨_,λw' s=>c3 _ s,_,_,_,_,_,rfl,?_,λ_=>rfl,hfin _ _ h⟩
   rw [Wk]
   have hs:=hg.s
   constructor
   ·intro h3; exact ⟨p1,p2,hok,by rw [hN]; exact h1,by omega,by omega⟩
   ·rintro ⟨_,_,_,_,_,q⟩; omega
  ·have h2:=V8 h2
   have hs:=hg.s
   exact ⟨_,_,_,_,false,rfl,⟨λh=>(by cases h),λ⟨_,_,_,_,q,_⟩=>absurd (by omega:(g.T:Int) + added<=g.start->False) (by omega)⟩,λh=>(by cases h),hfin _ _ h⟩
 ·have h1:¬ ((gL g added).length:Int) = (x.nl:Int) - added:=by simpa [gL] using h1
  exact ⟨_,_,_,_,false,rfl,⟨λh=>(by cases h),λ⟨_,_,_,q,_⟩=>absurd (by rw [<- hN]; exact q) h1⟩,λh=>(by cases h),hfin _ _ h⟩
theorem Qs (hg:gR (hp w) g x) (hb:iE g):aA Tryz.prog EP [.agg ⟨x.cells⟩] w λv w'=>(∃ r:Bool,v = .bool r/\(r = true↔ND g))/\Gr w w':=by
 refine Br ?_
 refine ah (St.all w) λk1 w1 h=>?_
 have gw:Gr w w1:=h.aZ
 have hg:=hg.mono gw
 have rb:av (hp w1) ⟨k1,0,none⟩ x.cells:=h.row
 refine ⟨_,_,_,_,_,_,_,_,_,_,_,_,_,rb.at (sub.refl _) rfl,(DU (x:=x) hg hb 0 (by omega)).mono ?_⟩
 rintro _ w2 ⟨⟨r,rfl,hr⟩,g2⟩
 refine ⟨_,rfl,ae (λh1=>?_) λh1=>?_⟩
 ·have h1:r = false:=by simpa using h1
  subst h1
  exact ⟨⟨false,rfl,⟨λh=>(by cases h),λh=>absurd (hr.2 h.1) (by simp)⟩⟩,gw.trans g2⟩
 have h1:r = true:=by simpa using h1
 have hsy:=hr.1 h1
 refine ⟨_,_,_,_,_,_,_,_,_,_,_,_,_,(rb.mono g2).at (sub.refl _) rfl,(uW (x:=x) (hg.mono g2) hb 0 (by omega)).mono ?_⟩
 rintro _ w3 ⟨a,l,c,xs,r2,rfl,hr2,hxs,h3⟩
 have g3:Gr w w3:=(gw.trans g2).trans h3.aZ
 refine ⟨_,_,_,_,rfl,ae (λh4=>?_) λh4=>?_⟩
 ·have hxs:=hxs h4
  have hlen:=iz h3
  have hp2:=hr2.1 h4
  have hl2:=vl ((g.prods.drop 0).map aH.left)
  rw [oX,hxs] at hlen
  have hl3:(gL g 0).length<=96:=by
   have:=hp2.2.1
   simp only [Wh,Xp] at hl2
   unfold gL; omega
  refine (IE (EX h3) (by omega)).mono ?_
  rintro _ w4 ⟨⟨r3,rfl,hr3⟩,hw4⟩
  refine ⟨_,rfl,⟨r3,rfl,?_⟩,g3.trans (Gr.of_eq hw4)⟩
  rw [hr3,hxs]
  exact ⟨λh=>⟨hsy,hp2,h⟩,λh=>h.2.2⟩
 ·subst h4
  exact ⟨⟨false,rfl,⟨λh=>(by cases h),λh=>absurd (hr2.2 h.2.1) (by simp)⟩⟩,g3⟩
end
end Go.Proofs.YtndaepmjkbmjmaaGreatDoor
namespace Go.V
structure GB (H:Hp) (k:Nat) (x:GA):Prop where
 c0:∀ {w:World},sub H (hp w)->w.cell? ⟨k,0,none⟩ = some (.slice x.ta x.tl x.tc)
 c1:∀ {w:World},sub H (hp w)->w.cell? ((⟨k,0,none⟩ : Addr).add 1) = some (.slice x.na x.nl x.nc)
 c2:∀ {w:World},sub H (hp w)->w.cell? ((⟨k,0,none⟩ : Addr).add 2) = some (.slice x.la x.ll x.lc)
 c3:∀ {w:World},sub H (hp w)->w.cell? ((⟨k,0,none⟩ : Addr).add 3) = some (.int .i64 x.s)
 c4:∀ {w:World},sub H (hp w)->w.cell? ((⟨k,0,none⟩ : Addr).add 4) = some (.slice x.pa x.pl x.pc)
 row:∀ {w:World},sub H (hp w)->rowAt w ⟨k,0,none⟩ 0 5 = some x.cells
theorem NF {H:Hp} {k:Nat} {x:GA} (r:av H ⟨k,0,none⟩ x.cells):GB H k x :=
 ⟨λs=>r.cell0 s,λs=>r.cell s (j:=1) rfl,λs=>r.cell s (j:=2) rfl,λs=>r.cell s (j:=3) rfl,λs=>r.cell s (j:=4) rfl,λs=>r.at s rfl⟩
theorem cW {w:World} {g:af} {x:GA} {e:TypeId} {k:Nat->World->Prop} (hg:gR (hp w) g x) (hk:∀ k1 w1,Gr w w1->gR (hp w1) g x->GB (hp w1) k1 x->k k1 w1):new w (.cells (Array.mk x.cells) e) k :=
 ah (St.all w) λk1 w1 h=>hk k1 w1 h.aZ (hg.mono h.aZ) (NF h.row)
theorem ml {a:Yg} {len sz:Nat} {k:Addr->Prop} {ad:Addr} (ha:a = some ad) (hi:0 < len) (hk:k ad):idx a len 0 sz k :=
 ⟨ad,ha,by omega,by omega,by simpa [aJ,Addr.add] using hk⟩
theorem GR:∀ {l m:List Int},l.Nodup->(∀ x∈l,x∈m)->l.length<=m.length
 | [],m,_,_=>Wi _
 | a :: l,m,h,hs=>by
  rw [W5] at h
  have ham:=hs a (by simp)
  have:=GR (l:=l) (m:=m.erase a) h.2 λx hx=>(List.mem_erase_of_ne (λe=>h.1 (by subst e; exact hx))).2 (hs x (by simp [hx]))
  rw [List.length_erase_of_mem ham] at this
  have:=List.length_pos_of_mem ham
  simp only [WZ]; omega
def BD (g:af):Prop:=g.terms[0]? = some ⟨.empty,0⟩/\(∀ t∈g.terms.drop 1,dx t.name = true/\0<=t.level/\t.level<=g.levels.length)/\((g.terms.drop 1).map jJ.name).Nodup
def wS (g:af):Prop:=∀ (i:Nat) v,g.levels[i]? = some v->1<=v/\v<=3/\∃ t∈g.terms,t.level = (i:Int) + 1
def GS (g:af) (added:Nat):Prop:=(g.nons.drop added).Nodup/\∀ s∈g.nons.drop added,df s = true
theorem IJ {g:af} {added:Nat} (h:sf g added):g.levels.length<=64:=by
 obtain ⟨_,_,h3,_,_,_,h7,_⟩:=h
 have:=GR (l:=(List.range g.levels.length).map λ(k:Nat)=>(k:Int) + 1) (m:=(g.terms.drop 1).map jJ.level) (by
  rw [WY,W3]
  exact List.Pairwise.imp (λh e=>h (by omega)) List.nodup_range) (λx hx=>by
  obtain ⟨k,hk,rfl⟩:=Wu.1 hx
  rw [WA] at hk
  obtain ⟨_,_,t,ht,e⟩:=h7 k _ (Wa hk)
  exact Wu.2 ⟨t,ht,e⟩)
 simp at this; omega
theorem wT {g:af} {added:Nat}:sf g added↔added < g.nons.length/\g.terms.length<=65/\g.nons.length<=64 + added/\g.levels.length<=64/\g.terms.length - 1 + (g.nons.length - added)<=64/\BD g/\wS g/\GS g added:=by
 constructor
 ·intro h
  have hl:=IJ h
  obtain ⟨h1,h2,h3,h4,h5,h6,h7,h8,h9,h10⟩:=h
  exact ⟨h2,h3,h4,hl,h5,⟨h1,h6,h8⟩,λi v hv=>by obtain ⟨a,b,t,ht,e⟩:=h7 i v hv; exact ⟨a,b,t,Xm ht,e⟩,h9,h10⟩
 ·rintro ⟨h2,h3,h4,hl,h5,⟨h1,h6,h8⟩,h7,h9,h10⟩
  refine ⟨h1,h2,h3,h4,h5,h6,λi v hv=>?_,h8,h9,h10⟩
  obtain ⟨a,b,t,ht,e⟩:=h7 i v hv
  refine ⟨a,b,t,?_,e⟩
  cases hg:g.terms with
  | nil=>rw [hg] at ht; cases ht
  | cons t0 ts =>
   rw [hg] at ht h1
   cases h1
   rcases Wp.1 ht with rfl | ht
   ·exact absurd e (by show (0:Int)≠_; omega)
   ·exact ht
end Go.V
namespace Go.Proofs.YtndaepmjkbmjmaaGreatDoor
open Go.V
section
variable {w:World} {L:List ay} {g:af} {x:GA} {s:ByteArray}
theorem NG (hs:s.size<=4611686018427387904):aA Tryz.prog qo [.string s] w λv w'=>v = .bool (dx s)/\w' = w:=by
 refine nG ?_
 refine ⟨λn w'=>∃ j:Nat,n = j/\j<=s.size/\(∀ i,i < j->FY (fM s i) = true)/\w' = w,λn _=>s.size - n.toNat,⟨0,rfl,by omega,λi hi=>by omega,rfl⟩,?_⟩
 rintro _ n w1 ⟨j,rfl,hj,hall,rfl⟩
 refine ae (λh=>?_) λh=>?_
 ·have h:j < s.size:=by have:=V7 h; omega
  have hin:EA (j:Int) s.size:=⟨by omega,by omega⟩
  have bad:FY (fM s j) = false->Value.bool false = Value.bool (dx s)/\w1 = w1:=λhno=>by
   refine ⟨?_,rfl⟩
   have:(List.range s.size).all (λi=>FY (fM s i)) = false:=by
    rw [List.all_eq_false]; exact ⟨j,by simpa using h,by simp [hno]⟩
   unfold dx; rw [this]; simp
  rw [Ws]
  refine ⟨hin,ae (λh1=>bad ?_) λh1=>⟨hin,ae (λh2=>bad ?_) λh2=>⟨hin,ae (λh3=>bad ?_) λh3=>?_⟩⟩⟩
  ·have h1:((fM s j:Nat):Int) < 32:=V7 h1
   unfold FY; simp; omega
  ·have h2:126 < ((fM s j:Nat):Int):=V7 h2
   unfold FY; simp; omega
  ·have h3:((fM s j:Nat):Int) = 39:=eq_of_beq h3
   unfold FY; simp; omega
  ·have h1:¬ ((fM s j:Nat):Int) < 32:=V8 h1
   have h2:¬ 126 < ((fM s j:Nat):Int):=V8 h2
   have h3:¬ ((fM s j:Nat):Int) = 39:=XN.1 h3
   refine ⟨⟨by omega,by omega⟩,⟨j + 1,by simp,by omega,λi hi=>?_,rfl⟩,bw h⟩
   by_cases e:i = j
   ·subst e; unfold FY; simp; omega
   ·exact hall i (by omega)
 ·have h:j = s.size:=by have:=V8 h; omega
  subst h
  have hall':=tK.2 hall
  unfold dx
  rw [hall']
  refine ae (λh=>⟨?_,rfl⟩) λh=>⟨?_,rfl⟩
  ·have h:1<=s.size:=by have:=V7 h; omega
   have e:decide ((s.size:Int)<=16) = decide (s.size<=16):=by rw [WX]; simp only [Wk]; omega
   rw [e]; simp [h]
  ·have h:¬ 1<=s.size:=by have:=V8 h; omega
   simp [h]
theorem IK (hg:gR (hp w) g x) (hb:iE g):aA Tryz.prog nD [.agg ⟨x.cells⟩] w λv w'=>(∃ r:Bool,v = .bool r/\(r = true↔BD g))/\Gr w w':=by
 refine lL ?_
 refine cW hg λk1 w1 gw hg B=>?_
 obtain ⟨b1,b2,b3,b4,b5,b6,b7⟩:=hb
 have tl:=hg.t.1
 have ll:=hg.l.1
 have no:∀ {w'},Gr w1 w'->¬ BD g->(∃ r:Bool,Value.bool false = .bool r/\(r = true↔BD g))/\Gr w w':=λ{w'} gg hn=>⟨⟨false,rfl,⟨λh=>(by cases h),λh=>absurd h hn⟩⟩,gw.trans gg⟩
 have at' : ∀ {i:Nat},i < x.tl->∃ t ad,g.terms[i]? = some t/\x.ta = some ad/\(∀ w',Gr w1 w'->w'.cell? (ad.add (cV i 2)) = some (.string t.name))/\(∀ w',Gr w1 w'->w'.cell? ((ad.add (cV i 2)).add 1) = some (.int .i64 t.level)):=λ{i} hi=>by
  obtain ⟨t,ad,vs,h1,h2,h3,h4⟩:=hg.t.get hi
  have h4:vs = [.string t.name,.int .i64 t.level]:=h4
  subst h4
  exact ⟨t,ad,h1,h2,λw' s=>h3.cell0 s,λw' s=>h3.cell s (j:=1) rfl⟩
 refine ⟨λb w'=>(b = false↔g.terms[0]? = some ⟨.empty,0⟩)/\w' = w1,?_,?_⟩
 ·refine ⟨_,_,_,B.c0 (sub.refl _),ae (λh1=>⟨?_,rfl⟩) λh1=>?_⟩
  ·have:g.terms = []:=Wv (by simp at h1; omega)
   simp [this]
  have h1:0 < x.tl:=by simp at h1; omega
  obtain ⟨t0,ad,ht1,hta,q1,q2⟩:=at' h1
  have q1:w1.cell? ad = some (.string t0.name):=by simpa [aJ,Addr.add] using q1 w1 (Gr.refl _)
  have q2:w1.cell? (ad.add 1) = some (.int .i64 t0.level):=by
   have:=q2 w1 (Gr.refl _)
   rw [add_add] at this
   simpa [aJ] using this
  refine ⟨_,_,_,B.c0 (sub.refl _),ml hta h1 ⟨_,q1,ae (λh2=>⟨?_,rfl⟩) λh2=>?_⟩⟩
  ·rw [zC] at h2
   have h2:t0.name≠ByteArray.mk (Array.mk []):=by simpa using h2
   rw [ht1]
   simp only [reduceCtorEq,false_iff]
   intro e; cases e; exact h2 rfl
  ·rw [zC] at h2
   have h2:t0.name = ByteArray.mk (Array.mk []):=by simpa using h2
   refine ⟨_,_,_,B.c0 (sub.refl _),ml hta h1 ⟨_,q2,?_,rfl⟩⟩
   rw [ht1]
   constructor
   ·intro e
    have:t0.level = 0:=by simpa using e
    cases t0; simp_all; rfl
   ·intro e; cases e; rfl
 rintro _ b w2 ⟨hpre,rfl⟩
 refine ae (λhbt=>?_) λhbf=>?_
 ·subst hbt
  exact no (Gr.refl _) λh=>by have:=hpre.2 h.1; cases this
 have p1:=hpre.1 hbf
 have hT:1<=x.tl:=by have:=(V9.1 p1).1; omega
 refine ⟨λn w'=>∃ j:Nat,n = (j:Int) + 1/\j + 1<=x.tl/\(∀ t∈(g.terms.drop 1).take j,dx t.name = true/\0<=t.level/\t.level<=g.levels.length)/\(((g.terms.drop 1).take j).map jJ.name).Nodup/\Gr w2 w',λn _=>x.tl - n.toNat,⟨0,rfl,by omega,by simp,by simp,Gr.refl _⟩,?_⟩
 rintro _ n w3 ⟨j,rfl,hj,hok,hnd,g3⟩
 refine ⟨_,_,_,B.c0 g3,ae (λhlt=>?_) λhlt=>?_⟩
 ·have hlt:j + 1 < x.tl:=by have:=V7 hlt; omega
  obtain ⟨t,ad,ht1,hta,q1,q2⟩:=at' hlt
  have ht1' : (g.terms.drop 1)[j]? = some t:=by rw [WL,X9]; exact ht1
  have htm:=V_ ht1'
  obtain ⟨u1,u2⟩:=b5 t (Xm htm)
  have et:(g.terms.drop 1).take (j + 1) = (g.terms.drop 1).take j ++ [t]:=by rw [Wf,ht1']; rfl
  have ej:((j:Int) + 1) = ((j + 1:Nat):Int):=by omega
  rw [ej]
  refine ⟨_,_,_,B.c0 g3,au hta hlt ⟨_,q1 _ g3,(NG (by omega)).mono ?_⟩⟩
  rintro _ w4 ⟨rfl,rfl⟩
  refine ⟨_,rfl,λb w'=>(b = false↔(dx t.name = true/\0<=t.level/\t.level<=g.levels.length))/\Gr w2 w',?_,?_⟩
  ·intro w5 hd
   have g5:Gr w2 w5:=g3.trans (Gr.of_eq (dA hd))
   refine ⟨λw'=>Gr w2 w',g5,ae (λh1=>⟨?_,g5⟩) λh1=>?_⟩
   ·have h1:dx t.name = false:=by simpa using h1
    simp [h1]
   have h1:dx t.name = true:=by simpa using h1
   refine ⟨_,_,_,λw' s=>B.c0 s,au hta hlt ⟨_,λw' s=>q2 _ s,ae (λh2=>⟨?_,g5⟩) λh2=>?_⟩⟩
   ·have h2:=V7 h2
    simp [h1]; omega
   have h2:=V8 h2
   refine ⟨_,_,_,λw' s=>B.c0 s,au hta hlt ⟨_,λw' s=>q2 _ s,_,_,_,λw' s=>B.c2 s,?_,g5⟩⟩
   rw [W1]
   simp only [h1,true_and]; omega
  rintro _ b3 w11 ⟨hb3,g11⟩
  refine ae (λhbt=>?_) λhbf=>?_
  ·subst hbt
   exact no g11 λh=>by have:=hb3.2 (h.2.1 t htm); cases this
  have hokt:=hb3.1 hbf
  refine ⟨λn w'=>∃ k:Nat,n = (k:Int) + 1/\k<=j/\(∀ u∈(g.terms.drop 1).take k,u.name≠t.name)/\Gr w2 w',λn _=>x.tl - n.toNat,⟨0,rfl,by omega,by simp,g11⟩,?_⟩
  rintro _ n5 w12 ⟨k,rfl,hk,hne,g12⟩
  refine ae (λhlt2=>?_) λhlt2=>?_
  ·have hlt2:k < j:=by have:=V7 hlt2; omega
   obtain ⟨u,ad',hu1,hua,r1,_⟩:=at' (by omega:k + 1 < x.tl)
   rw [hta] at hua; cases hua
   have hu1' : (g.terms.drop 1)[k]? = some u:=by rw [WL,X9]; exact hu1
   have ek:((k:Int) + 1) = ((k + 1:Nat):Int):=by omega
   intro w13 hd
   have g13:Gr w2 w13:=g12.trans (Gr.of_eq (dA hd))
   rw [ek]
   refine ⟨λw'=>Gr w2 w',g13,_,_,_,λw' s=>B.c0 s,au hta (by omega) ⟨_,λw' s=>r1 _ s,_,_,_,λw' s=>B.c0 s,au hta hlt ⟨_,λw' s=>q1 _ s,?_⟩⟩⟩
   rw [zC]
   refine ae (λh=>?_) λh=>?_
   ·have h:=V7 h
    refine no g13 λhp=>?_
    have hnn:=hp.2.2
    have e1:((g.terms.drop 1).map jJ.name)[k]? = some t.name:=by rw [Wc,hu1',<- h]; rfl
    have e2:((g.terms.drop 1).map jJ.name)[j]? = some t.name:=by rw [Wc,ht1']; rfl
    have:=(List.getElem?_inj (V9.1 e1).1 hnn).1 (e1.trans e2.symm)
    omega
   ·have h:=V8 h
    refine ⟨⟨by omega,by omega⟩,⟨k + 1,by simp,by omega,λu' hu'=>?_,g13⟩,by dsimp only; omega⟩
    rw [Wf,hu1'] at hu'
    rcases Wd.1 hu' with hu' | hu'
    ·exact hne u' hu'
    ·simp at hu'; subst hu'; exact h
  ·have hlt2:k = j:=by have:=V8 hlt2; omega
   subst hlt2
   refine ⟨⟨by omega,by omega⟩,⟨k + 1,by simp,by omega,λt' ht'=>?_,?_,g12⟩,by dsimp only; omega⟩
   ·rw [et] at ht'
    rcases Wd.1 ht' with ht' | ht'
    ·exact hok t' ht'
    ·simp at ht'; subst ht'; exact hokt
   ·rw [et,WB]
    exact vj.2 ⟨hnd,λhm=>by obtain ⟨u,hu,e⟩:=Wu.1 hm; exact hne u hu e⟩
 ·have hlt:j + 1 = x.tl:=by have:=V8 hlt; omega
  rw [Wq (by simp; omega)] at hok hnd
  exact ⟨⟨true,rfl,⟨λ_=>⟨p1,hok,hnd⟩,λ_=>rfl⟩⟩,gw.trans g3⟩
end
end Go.Proofs.YtndaepmjkbmjmaaGreatDoor
namespace Go.V
def DV (g:af) (added:Nat):Prop:=sf g added/\yy g added
theorem IL {l:List Int} (h:0 < l.length):0 < (cK l).length:=by
 obtain ⟨x,hx⟩:=List.exists_mem_of_length_pos h
 exact List.length_pos_of_mem (II.2 hx)
def GU (g:af) (added:Nat):Prop:=g.nons.length<=64 + added/\g.terms.length<=65/\g.prods.length<=96 + added/\added < g.prods.length/\g.levels.length<=64
theorem GV {g:af} {added:Nat}:DV g added↔GU g added/\(g.terms.length:Int) - 1 + g.nons.length - added<=64/\BD g/\wS g/\GS g added/\(∀ p∈g.prods.drop added,kW g added p)/\((gL g added).length:Int) = (g.N:Int) - added/\(g.T:Int) + added<=g.start/\g.start < g.T + g.N:=by
 unfold DV
 rw [wT]
 constructor
 ·rintro ⟨⟨h1,h2,h3,h4,h5,h6,h7,h8⟩,p1,p2,p3,p4,p5,p6⟩
  exact ⟨⟨h3,h2,p2,p1,h4⟩,by omega,h6,h7,h8,p3,p4,p5,p6⟩
 ·rintro ⟨⟨h3,h2,p2,p1,h4⟩,h5,h6,h7,h8,p3,p4,p5,p6⟩
  have hpos:0 < (gL g added).length:=IL (by simp; omega)
  have hN:g.N = g.nons.length:=rfl
  have hT:1<=g.terms.length:=by have:=(V9.1 h6.1).1; omega
  exact ⟨⟨by omega,h2,h3,h4,by omega,h6,h7,h8⟩,p1,p2,p3,p4,p5,p6⟩
end Go.V
namespace Go.Proofs.YtndaepmjkbmjmaaGreatDoor
open Go.V
section
variable {w:World} {L:List ay} {g:af} {x:GA} {s:ByteArray}
def S0 (c:Nat):Bool:=decide (c = 95) || (decide (65<=c) && decide (c<=90)) || (decide (97<=c) && decide (c<=122))
theorem BE {i c:Nat}:IC i c = (S0 c || (decide (i≠0) && decide (48<=c) && decide (c<=57))):=rfl
theorem NH (hs:s.size<=4611686018427387904):aA Tryz.prog qp [.string s] w λv w'=>v = .bool (df s)/\w' = w:=by
 refine nI ?_
 refine ⟨λn w'=>∃ j:Nat,n = j/\j<=s.size/\(∀ i,i < j->IC i (fM s i) = true)/\w' = w,λn _=>s.size - n.toNat,⟨0,rfl,by omega,λi hi=>by omega,rfl⟩,?_⟩
 rintro _ n w1 ⟨j,rfl,hj,hall,rfl⟩
 refine ae (λh=>?_) λh=>?_
 ·have h:j < s.size:=by have:=V7 h; omega
  have hin:EA (j:Int) s.size:=⟨by omega,by omega⟩
  have hc:((sb s j).toNat:Int) = (fM s j:Nat):=rfl
  rw [Ws,hc]
  refine ⟨λw'=>IC j (fM s j) = true/\w' = w1,⟨λb w'=>b = S0 (fM s j)/\w' = w1,⟨hin,?_⟩,?_⟩,?_⟩
  ·generalize fM s j = c
   have h95:((c:Int) == 95) = decide (c = 95):=by rw [WX]; simp only [X2,Wk]; omega
   unfold S0
   rw [h95]
   refine ae (λh1=>⟨hin,ae (λh2=>⟨?_,rfl⟩) λh2=>⟨hin,ae (λh3=>⟨hin,ae (λh4=>⟨?_,rfl⟩) λh4=>⟨hin,?_,rfl⟩⟩) λh3=>⟨hin,?_,rfl⟩⟩⟩) λh1=>⟨hin,ae (λh3=>⟨hin,ae (λh4=>⟨?_,rfl⟩) λh4=>⟨hin,?_,rfl⟩⟩) λh3=>⟨hin,?_,rfl⟩⟩
   all_goals
    rw [WX]
    simp only [W9,Wo,Wk,W1,true_iff] at *
    omega
  ·rintro _ b w2 ⟨hb,rfl⟩
   rw [BE,<- hb]
   have bad:IC j (fM s j) = false->Value.bool false = Value.bool (df s)/\w2 = w2:=λhno=>by
    refine ⟨?_,rfl⟩
    have:(List.range s.size).all (λi=>IC i (fM s i)) = false:=by
     rw [List.all_eq_false]; exact ⟨j,by simpa using h,by simp [hno]⟩
    unfold df; rw [this]; simp
   rw [BE,<- hb] at bad
   generalize fM s j = c at bad
   refine ⟨hin,ae (λh1=>⟨hin,ae (λh2=>ae (λh3=>ae (λh4=>bad ?_) λh4=>⟨?_,rfl⟩) λh3=>⟨?_,rfl⟩) λh2=>ae (λh3=>bad ?_) λh3=>⟨?_,rfl⟩⟩) λh1=>ae (λh3=>bad ?_) λh3=>⟨?_,rfl⟩⟩
   all_goals cases b
   all_goals first | (cases h3; done) | simp [BE]
   all_goals
    simp only [Xt,Bool.not_eq_false',Wk,W1] at *
    omega
  ·rintro _ w2 ⟨hok,rfl⟩
   refine ⟨⟨by omega,by omega⟩,⟨j + 1,by simp,by omega,λi hi=>?_,rfl⟩,by dsimp only; omega⟩
   by_cases e:i = j
   ·subst e; exact hok
   ·exact hall i (by omega)
 ·have h:j = s.size:=by have:=V8 h; omega
  have hall' : (List.range s.size).all (λi=>IC i (fM s i)) = true:=tK.2 (by rw [<- h]; exact hall)
  unfold df
  rw [hall']
  refine ae (λh=>?_) λh=>?_
  ·have h:1<=s.size:=by have:=V7 h; omega
   refine ⟨?_,rfl⟩
   have e:decide ((s.size:Int)<=16) = decide (s.size<=16):=by rw [WX]; simp only [Wk]; omega
   rw [e]; simp [h]
  ·have h:¬ 1<=s.size:=by have:=V8 h; omega
   exact ⟨by simp [h],rfl⟩
theorem GW (hg:gR (hp w) g x) (hb:iE g):aA Tryz.prog mD [.agg ⟨x.cells⟩] w λv w'=>(∃ r:Bool,v = .bool r/\(r = true↔wS g))/\Gr w w':=by
 refine kO ?_
 refine cW hg λk1 w1 gw hg B=>?_
 obtain ⟨b1,b2,b3,b4,b5,b6,b7⟩:=hb
 have tl:=hg.t.1
 have ll:=hg.l.1
 have no:∀ {w'},Gr w1 w'->¬ wS g->(∃ r:Bool,Value.bool false = .bool r/\(r = true↔wS g))/\Gr w w':=λ{w'} gg hn=>⟨⟨false,rfl,⟨λh=>(by cases h),λh=>absurd h hn⟩⟩,gw.trans gg⟩
 refine ⟨λn w'=>∃ i:Nat,n = i/\i<=x.ll/\(∀ (k:Nat) v,k < i->g.levels[k]? = some v->1<=v/\v<=3/\∃ t∈g.terms,t.level = (k:Int) + 1)/\w' = w1,λn _=>x.ll - n.toNat,⟨0,rfl,by omega,λk v hk=>by omega,rfl⟩,?_⟩
 rintro _ n1 w2 ⟨i,rfl,hi,hok,rfl⟩
 refine ⟨_,_,_,B.c2 (sub.refl _),ae (λhlt=>?_) λhlt=>?_⟩
 ·have hlt:i < x.ll:=by have:=V7 hlt; omega
  obtain ⟨v,ad,hv1,hva,hv2⟩:=hg.l.cE hlt
  refine ⟨λb n w'=>∃ k:Nat,n = k/\k<=x.tl/\(b = true↔∃ t∈g.terms.take k,t.level = (i:Int) + 1)/\w' = w2,λb n _=>x.tl - n.toNat,⟨0,rfl,by omega,by simp,rfl⟩,?_⟩
  rintro _ b n2 w3 ⟨k,rfl,hk,hbk,rfl⟩
  refine ⟨_,_,_,B.c0 (sub.refl _),ae (λhlt2=>?_) λhlt2=>?_⟩
  ·have hlt2:k < x.tl:=by have:=V7 hlt2; omega
   obtain ⟨t,ad2,vs,ht1,hta,ht2,ht3⟩:=hg.t.get hlt2
   have ht3:vs = [.string t.name,.int .i64 t.level]:=ht3
   subst ht3
   have et:g.terms.take (k + 1) = g.terms.take k ++ [t]:=by rw [Wf,ht1]; rfl
   refine ae (λh1=>?_) λh1=>?_
   ·subst h1
    refine ⟨⟨by omega,by omega⟩,⟨k + 1,by simp,by omega,?_,rfl⟩,bw hlt2⟩
    obtain ⟨t',h1,h2⟩:=hbk.1 rfl
    exact ⟨λ_=>⟨t',by rw [et]; exact Wd.2 (.inl h1),h2⟩,λ_=>rfl⟩
   ·subst h1
    refine ⟨_,_,_,B.c0 (sub.refl _),au hta hlt2 ⟨_,ht2.cell (sub.refl _) (j:=1) rfl,⟨by omega,by omega⟩,⟨by omega,by omega⟩,⟨k + 1,by simp,by omega,?_,rfl⟩,bw hlt2⟩⟩
    rw [et]
    constructor
    ·intro h; exact ⟨t,by simp,by simpa using h⟩
    ·rintro ⟨t',h1,h2⟩
     rcases Wd.1 h1 with h1 | h1
     ·have:=hbk.2 ⟨t',h1,h2⟩; cases this
     ·simp at h1; subst h1; simpa using h2
  ·have hlt2:k = x.tl:=by have:=V8 hlt2; omega
   rw [Wq (by omega)] at hbk
   refine ae (λh1=>no (Gr.refl _) λhp=>?_) λh1=>?_
   ·have:=hbk.2 (hp i v hv1).2.2
    rw [this] at h1; cases h1
   have h1:b = true:=by simpa using h1
   refine ⟨_,_,_,B.c2 (sub.refl _),aw hva hlt ⟨_,hv2 _ (sub.refl _),ae (λh2=>no (Gr.refl _) λhp=>?_) λh2=>⟨_,_,_,B.c2 (sub.refl _),aw hva hlt ⟨_,hv2 _ (sub.refl _),ae (λh3=>no (Gr.refl _) λhp=>?_) λh3=>?_⟩⟩⟩⟩
   ·have:=V7 h2; have:=(hp i v hv1).1; omega
   ·have:=V7 h3; have:=(hp i v hv1).2.1; omega
   ·have h2:=V8 h2
    have h3:=V8 h3
    refine ⟨⟨by omega,by omega⟩,⟨i + 1,by simp,by omega,λk' v' hk' hv'=>?_,rfl⟩,bw hlt⟩
    by_cases e:k' = i
    ·subst e; rw [hv1] at hv'; cases hv'; exact ⟨by omega,by omega,hbk.1 h1⟩
    ·exact hok k' v' (by omega) hv'
 ·have hlt:i = x.ll:=by have:=V8 hlt; omega
  subst hlt
  exact ⟨⟨true,rfl,⟨λ_ i v hv=>hok i v (by have:=(V9.1 hv).1; omega) hv,λ_=>rfl⟩⟩,gw⟩
theorem LL (hg:gR (hp w) g x) (hb:iE g) (added:Nat):aA Tryz.prog oN [.agg ⟨x.cells⟩,.int .i64 (added:Int)] w λv w'=>(∃ r:Bool,v = .bool r/\(r = true↔GS g added))/\Gr w w':=by
 refine mF ?_
 refine cW hg λk1 w1 gw hg B=>?_
 obtain ⟨b1,b2,b3,b4,b5,b6,b7⟩:=hb
 have nl:=hg.n.1
 have no:∀ {w'},Gr w1 w'->¬ GS g added->(∃ r:Bool,Value.bool false = .bool r/\(r = true↔GS g added))/\Gr w w':=λ{w'} gg hn=>⟨⟨false,rfl,⟨λh=>(by cases h),λh=>absurd h hn⟩⟩,gw.trans gg⟩
 refine ⟨λn w'=>∃ i:Nat,n = ((added + i:Nat):Int)/\(added + i<=x.nl\/i = 0)/\((g.nons.drop added).take i).Nodup/\(∀ s∈(g.nons.drop added).take i,df s = true)/\Gr w1 w',λn _=>x.nl - n.toNat,⟨0,rfl,.inr rfl,by simp,by simp,Gr.refl _⟩,?_⟩
 rintro _ n1 w2 ⟨i,rfl,hi,hnd,hok,g2⟩
 refine ⟨_,_,_,B.c1 g2,ae (λhlt=>?_) λhlt=>?_⟩
 ·have hlt:added + i < x.nl:=by have:=V7 hlt; omega
  obtain ⟨s,ad,hs1,hsa,hs2⟩:=hg.n.cE hlt
  have hs1' : (g.nons.drop added)[i]? = some s:=by rw [WL]; exact hs1
  have hsm:=V_ hs1'
  have et:(g.nons.drop added).take (i + 1) = (g.nons.drop added).take i ++ [s]:=by rw [Wf,hs1']; rfl
  refine ⟨_,_,_,B.c1 g2,aw hsa hlt ⟨_,hs2 _ g2,(NH (by have:=b6 s (Xm hsm); omega)).mono ?_⟩⟩
  rintro _ w2 ⟨rfl,rfl⟩
  refine ⟨_,rfl,ae (λh1=>no g2 λhp=>?_) λh1=>?_⟩
  ·rw [hp.2 s hsm] at h1; cases h1
  have h1:df s = true:=by simpa using h1
  refine ⟨λn w'=>∃ k:Nat,n = ((added + k:Nat):Int)/\k<=i/\(∀ u∈(g.nons.drop added).take k,u≠s)/\Gr w1 w',λn _=>x.nl - n.toNat,⟨0,rfl,by omega,by simp,g2⟩,?_⟩
  rintro _ n2 w4 ⟨k,rfl,hk,hne,g4⟩
  refine ae (λhlt2=>?_) λhlt2=>?_
  ·have hlt2:k < i:=by have:=V7 hlt2; omega
   obtain ⟨u,ad',hu1,hua,hu2⟩:=hg.n.cE (by omega:added + k < x.nl)
   rw [hsa] at hua; cases hua
   have hu1' : (g.nons.drop added)[k]? = some u:=by rw [WL]; exact hu1
   intro w5 hd
   have g5:Gr w1 w5:=g4.trans (Gr.of_eq (dA hd))
   refine ⟨λw'=>Gr w1 w',g5,_,_,_,λw' s=>B.c1 s,aw hsa (by omega) ⟨_,λw' s=>hu2 _ s,_,_,_,λw' s=>B.c1 s,aw hsa hlt ⟨_,λw' s=>hs2 _ s,?_⟩⟩⟩
   rw [zC]
   refine ae (λh=>no g5 λhp=>?_) λh=>?_
   ·have h:=V7 h
    subst h
    have:=(List.getElem?_inj (V9.1 hu1').1 hp.1).1 (hu1'.trans hs1'.symm)
    omega
   ·have h:=V8 h
    refine ⟨⟨by omega,by omega⟩,⟨k + 1,by omega,by omega,λu' hu'=>?_,g5⟩,by dsimp only; omega⟩
    rw [Wf,hu1'] at hu'
    rcases Wd.1 hu' with hu' | hu'
    ·exact hne u' hu'
    ·simp at hu'; subst hu'; exact h
  ·have hlt2:k = i:=by have:=V8 hlt2; omega
   subst hlt2
   refine ⟨⟨by omega,by omega⟩,⟨k + 1,by omega,by omega,?_,λt' ht'=>?_,g4⟩,by dsimp only; omega⟩
   ·rw [et]; exact vj.2 ⟨hnd,λhm=>hne s hm rfl⟩
   ·rw [et] at ht'
    rcases Wd.1 ht' with ht' | ht'
    ·exact hok t' ht'
    ·simp at ht'; subst ht'; exact h1
 ·have hlt:=V8 hlt
  rw [Wq (by simp; omega)] at hok hnd
  exact ⟨⟨true,rfl,⟨λ_=>⟨hnd,hok⟩,λ_=>rfl⟩⟩,gw.trans g2⟩
theorem jh (hg:gR (hp w) g x) (hb:iE g):aA Tryz.prog oM [.agg ⟨x.cells⟩] w λv w'=>v = .int .i64 ((g.T:Int) + g.N)/\Gr w w':=by
 refine mC ?_
 refine cW hg λk1 w1 gw hg B=>?_
 have tl:=hg.t.1
 have nl:=hg.n.1
 obtain ⟨b1,b2,b3,b4,b5,b6,b7⟩:=hb
 exact ⟨_,_,_,B.c0 (sub.refl _),_,_,_,B.c1 (sub.refl _),⟨by omega,by omega⟩,by unfold af.T af.N; rw [tl,nl],gw⟩
theorem IM (hg:gR (hp w) g x) (hb:iE g) (added:Nat):aA Tryz.prog nE [.agg ⟨x.cells⟩,.int .i64 (added:Int),.int .i64 ((g.T:Int) + added)] w λv w'=>(∃ r:Bool,v = .bool r/\(r = true↔∀ p∈g.prods.drop added,kW g added p))/\Gr w w':=by
 refine lO ?_
 refine cW hg λk1 w1 gw hg B=>?_
 have hb':=hb
 obtain ⟨b1,b2,b3,b4,b5,b6,b7⟩:=hb
 have tl:g.T = x.tl:=hg.t.1
 have nl:g.N = x.nl:=hg.n.1
 have ll:=hg.l.1
 have pl:=hg.p.1
 have no:∀ {w'},Gr w1 w'->¬ (∀ p∈g.prods.drop added,kW g added p)->(∃ r:Bool,Value.bool false = .bool r/\(r = true↔∀ p∈g.prods.drop added,kW g added p))/\Gr w w':=λ{w'} gg hn=>⟨⟨false,rfl,⟨λh=>(by cases h),λh=>absurd h hn⟩⟩,gw.trans gg⟩
 refine ⟨λn w'=>∃ j:Nat,n = ((added + j:Nat):Int)/\(added + j<=x.pl\/j = 0)/\(∀ p∈(g.prods.drop added).take j,kW g added p)/\Gr w1 w',λn _=>x.pl - n.toNat,⟨0,rfl,.inr rfl,by simp,Gr.refl _⟩,?_⟩
 rintro _ n1 w2 ⟨j,rfl,hj,hok,g2⟩
 refine ⟨_,_,_,B.c4 g2,ae (λhlt=>?_) λhlt=>?_⟩
 ·have hlt:added + j < x.pl:=by have:=V7 hlt; omega
  obtain ⟨p,ad,vs,hp1,hpa,hp2,ra,rl,rc,rfl,hrc,hp3⟩:=hg.p.get hlt
  have hp1' : (g.prods.drop added)[j]? = some p:=by rw [WL]; exact hp1
  have hpm:=V_ hp1'
  have rl1:=hp3.1
  have b7':=b7 p (Xm hpm)
  refine ⟨_,_,_,B.c4 g2,au hpa hlt ⟨_,_,_,_,_,hp2.at g2 rfl,ah (St.all w2) λk8 w3 h=>bx h rfl (by simp [aV]) λw4 h=>?_⟩⟩
  have g4:Gr w1 w4:=g2.trans h.aZ
  have hbox:av (hp w4) ⟨k8,0,none⟩ [.int .i64 p.left,.slice ra rl rc,.int .i64 p.level]:=h.row
  have d0:=λ(w' : World) (s:Gr w4 w')=>hbox.cell0 s
  have d1:=λ(w' : World) (s:Gr w4 w')=>hbox.cell s (j:=1) (v:=.slice ra rl rc) rfl
  have d2:=λ(w' : World) (s:Gr w4 w')=>hbox.cell s (j:=2) (v:=.int .i64 p.level) rfl
  refine ⟨λb w'=>(b = false↔((g.T:Int) + added<=p.left/\p.left < g.T + g.N/\0<=p.level/\p.level<=g.levels.length))/\Gr w4 w',?_,?_⟩
  ·intro w5 hd
   have g5:Gr w4 w5:=Gr.of_eq (dA hd)
   refine ⟨λw'=>Gr w4 w',g5,_,λw' s=>d0 _ s,ae (λh1=>⟨?_,g5⟩) λh1=>?_⟩
   ·have:=V7 h1
    simp; omega
   have h1:=V8 h1
   refine ⟨_,λw' s=>d0 _ s,_,_,_,_,_,_,_,_,_,_,_,_,_,λw' s=>B.row (g4.trans s),(jh (x:=x) (hg.mono (g4.trans g5)) hb').mono ?_⟩
   rintro _ w9 ⟨rfl,g9⟩
   have g9:Gr w4 w9:=g5.trans g9
   refine ⟨_,rfl,λw'=>Gr w4 w',g9,λ_ h=>h,ae (λh2=>⟨?_,g9⟩) λh2=>?_⟩
   ·have:=V7 h2
    simp; omega
   have h2:=V8 h2
   refine ⟨_,λw' s=>d2 _ s,ae (λh3=>⟨?_,g9⟩) λh3=>?_⟩
   ·have:=V7 h3
    simp; omega
   have h3:=V8 h3
   refine ⟨_,λw' s=>d2 _ s,_,_,_,λw' s=>B.c2 (g4.trans s),?_,g9⟩
   rw [W1]; omega
  rintro _ b2 w13 ⟨hb2,g13⟩
  refine ae (λhbt=>?_) λhbf=>?_
  ·subst hbt
   exact no (g4.trans g13) λh=>by have:=hb2.2 (h p hpm).1; cases this
  have hpok:=hb2.1 hbf
  refine ⟨λn w'=>∃ i:Nat,n = i/\i<=rl/\(∀ (k:Nat) s,k < i->p.right[k]? = some s->eH g added s)/\Gr w4 w',λn _=>rl - n.toNat,⟨0,rfl,by omega,λk s hk=>by omega,g13⟩,?_⟩
  rintro _ n8 w14 ⟨i,rfl,hi,hsy,g14⟩
  refine ⟨_,_,_,d1 _ g14,ae (λhlt2=>?_) λhlt2=>?_⟩
  ·have hlt2:i < rl:=by have:=V7 hlt2; omega
   obtain ⟨s,ad2,hs1,hsa,hs2⟩:=hp3.cE hlt2
   have bad:∀ {w'},Gr w4 w'->¬ eH g added s->_:=λ{w'} gg hn=>no (g4.trans gg) (λhq=>hn ((hq p hpm).2 s (V_ hs1)))
   have good:∀ {w'},Gr w4 w'->eH g added s->ax ((i:Int) + 1)/\(∃ i' : Nat,(i:Int) + 1 = i'/\i'<=rl/\(∀ (k:Nat) s,k < i'->p.right[k]? = some s->eH g added s)/\Gr w4 w')/\rl - ((i:Int) + 1).toNat < rl - (i:Int).toNat:=λ{w'} gg hgd=>by
    refine ⟨⟨by omega,by omega⟩,⟨i + 1,by simp,by omega,λk s' hk hs'=>?_,gg⟩,bw hlt2⟩
    by_cases e:k = i
    ·subst e; rw [hs1] at hs'; cases hs'; exact hgd
    ·exact hsy k s' (by omega) hs'
   refine ⟨_,_,_,d1 _ g14,aw hsa hlt2 ⟨s,hs2 _ (g4.trans g14),ae (λh1=>bad g14 ?_) λh1=>?_⟩⟩
   ·have:=V7 h1; unfold eH; omega
   refine ⟨_,_,_,_,_,_,_,_,_,_,_,_,_,B.row (g4.trans g14),(jh (x:=x) (hg.mono (g4.trans g14)) hb').mono ?_⟩
   rintro _ w15 ⟨rfl,g15⟩
   have g15:Gr w4 w15:=g14.trans g15
   refine ⟨_,rfl,ae (λh2=>bad g15 ?_) λh2=>⟨_,_,_,B.c0 (g4.trans g15),ae (λh3=>ae (λh4=>bad g15 ?_) λh4=>good g15 ?_) λh3=>good g15 ?_⟩⟩
   ·have:=V7 h2; unfold eH; omega
   ·have h3:=V7 h3; have h4:=V7 h4; unfold eH; omega
   ·have h1:=V8 h1; have h2:=V8 h2; have h3:=V7 h3; have h4:=V8 h4; unfold eH; omega
   ·have h1:=V8 h1; have h2:=V8 h2; have h3:=V8 h3; unfold eH; omega
  have hlt2:i = rl:=by have:=V8 hlt2; omega
  subst hlt2
  refine ⟨⟨by omega,by omega⟩,⟨j + 1,by omega,by omega,λq hq=>?_,g4.trans g14⟩,by dsimp only; omega⟩
  rw [Wf,hp1'] at hq
  rcases Wd.1 hq with hq | hq
  ·exact hok q hq
  ·simp at hq; subst hq
   exact ⟨hpok,λs hs=>by
    obtain ⟨k,hk,e⟩:=List.mem_iff_getElem.1 hs
    exact hsy k s (by omega) (by rw [<- e]; exact Wa hk)⟩
 ·have hlt:=V8 hlt
  rw [Wq (by simp; omega)] at hok
  exact ⟨⟨true,rfl,⟨λ_=>hok,λ_=>rfl⟩⟩,gw.trans g2⟩
theorem Qt (hg:gR (hp w) g x) (hb:iE g) (added:Nat):aA Tryz.prog rM [.agg ⟨x.cells⟩,.int .i64 (added:Int)] w λv w'=>∃ a c,v = .slice a (gL g added).length c/\St w' (own 1 a (gL g added).length c (iv (gL g added)) :: all w):=by
 refine oP ?_
 refine cW hg λk1 w1 gw hg B=>?_
 obtain ⟨b1,b2,b3,b4,b5,b6,b7⟩:=hb
 have pl:=hg.p.1
 have hfin:∀ {w' : World} {A:ay},St w' (A :: all w1)->St w' (A :: all w):=λh=>h.qV (bD gw)
 refine ⟨λo l' c' n w'=>∃ j:Nat,n = ((added + j:Nat):Int)/\(added + j<=x.pl\/j = 0)/\(cK (((g.prods.drop added).map aH.left).take j)).length = l' /\
   St w' (own 1 o l' c' (iv (cK (((g.prods.drop added).map aH.left).take j))) :: all w1),λ_ _ _ n _=>x.pl - n.toNat,⟨0,rfl,.inr rfl,rfl,az 1 (St.all w1)⟩,?_⟩
 rintro _ o1 _ c1 n1 w2 ⟨j,rfl,hj,rfl,h⟩
 have g2:Gr w1 w2:=h.aZ
 have hll:(cK (((g.prods.drop added).map aH.left).take j)).length<=j:=WC (vl _) (by simp; omega)
 refine ⟨_,_,_,B.c4 g2,ae (λhlt=>?_) λhlt=>?_⟩
 ·have hlt:added + j < x.pl:=by have:=V7 hlt; omega
  obtain ⟨p,ad,vs,hp1,hpa,hp2,ra,rl,rc,rfl,hrc,hp3⟩:=hg.p.get hlt
  have hp1' : (g.prods.drop added)[j]? = some p:=by rw [WL]; exact hp1
  have hlp:((g.prods.drop added).map aH.left)[j]? = some p.left:=by rw [Wc,hp1']; rfl
  have et:=zD hlp
  generalize hLJ:cK (((g.prods.drop added).map aH.left).take j) = LJ at *
  refine ⟨λb n w'=>∃ k:Nat,n = k/\k<=LJ.length/\(b = true↔p.left∈LJ.take k)/\St w' (own 1 o1 LJ.length c1 (iv LJ) :: all w1),λb n _=>LJ.length - n.toNat,⟨0,rfl,by omega,by simp,h⟩,?_⟩
  clear h g2
  rintro _ b n2 w3 ⟨k,rfl,hk,hbk,h⟩
  refine ae (λhlt2=>?_) λhlt2=>?_
  ·have hlt2:k < LJ.length:=by have:=V7 hlt2; omega
   intro w4 hd
   have h:=h.drawn hd
   have g4:Gr w1 w4:=h.aZ
   obtain ⟨y,ad2,hy1,rfl,hy2⟩:=(EX h).cE hlt2
   have ey:LJ.take (k + 1) = LJ.take k ++ [y]:=bA hy1
   refine ⟨λw'=>Gr w4 w',Gr.refl _,ae (λh1=>?_) λh1=>?_⟩
   ·subst h1
    exact ⟨⟨by omega,by omega⟩,⟨k + 1,by simp,by omega,⟨λ_=>by rw [ey]; exact Wd.2 (.inl (hbk.1 rfl)),λ_=>rfl⟩,h⟩,bw hlt2⟩
   ·subst h1
    refine aw rfl hlt2 ⟨y,λw' s=>hy2 _ s,_,_,_,λw' s=>B.c4 (g4.trans s),au hpa hlt ⟨_,λw' s=>hp2.cell0 (g4.trans s),⟨by omega,by omega⟩,⟨k + 1,by simp,by omega,?_,h⟩,bw hlt2⟩⟩
    rw [ey,Wd]
    have:p.left∉LJ.take k:=λhm=>by have:=hbk.2 hm; cases this
    simp only [this,false_or,Wy,X2]
    exact eq_comm
  ·have hlt2:k = LJ.length:=by have:=V8 hlt2; omega
   subst hlt2
   rw [Ww] at hbk
   refine ae (λh1=>?_) λh1=>?_
   ·have h1:p.left∉LJ:=λhm=>by rw [hbk.2 hm] at h1; cases h1
    refine ⟨_,_,_,B.c4 h.aZ,au hpa hlt ⟨_,hp2.cell0 h.aZ,ah h λk10 w8 h=>?_⟩⟩
    refine (aP aQ (rfl:aj Ty _ = .slice _) (rfl:aj Ty _ = .slice _) rfl rfl rfl h rfl (by simp [aV]) (by show (_ + 1) * 8<=_; omega) (by omega)).mono ?_
    rintro _ w10 ⟨a',c',rfl,h⟩
    have e2:cK (((g.prods.drop added).map aH.left).take (j + 1)) = LJ ++ [p.left]:=by rw [et]; unfold nR; rw [Wg h1]
    refine ⟨_,_,_,rfl,⟨by omega,by omega⟩,⟨j + 1,by omega,by omega,by rw [e2]; simp,?_⟩,by dsimp only; omega⟩
    rw [e2]
    have e3:∀ l:List Int,iv (l ++ [p.left]) = iv l ++ [.int .i64 p.left]:=λl=>by simp [iv]
    rw [e3]
    exact h.pick 3 [0,2]
   ·have h1:p.left∈LJ:=hbk.1 (by simpa using h1)
    have e2:cK (((g.prods.drop added).map aH.left).take (j + 1)) = LJ:=by rw [et]; unfold nR; rw [Wn h1]
    refine ⟨⟨by omega,by omega⟩,⟨j + 1,by omega,by omega,by rw [e2],?_⟩,by dsimp only; omega⟩
    rw [e2]; exact h
 ·have hlt:=V8 hlt
  have el:((g.prods.drop added).map aH.left).take j = (g.prods.drop added).map aH.left:=Wq (by simp; omega)
  rw [el] at h ⊢
  exact ⟨o1,c1,rfl,hfin h⟩
end
end Go.Proofs.YtndaepmjkbmjmaaGreatDoor
namespace Go.V
theorem Gr.drawn {w w' : World} (h:V.drawn w w'):Gr w w':=Gr.of_eq (dA h)
theorem IP {g:af}:ak g↔(2<=g.nons.length/\g.nons[0]? = some .empty/\2<=g.prods.length/\∃ p,g.prods[0]? = some p/\p.left = (g.T:Int)/\p.right = [g.start]/\p.level = 0)/\DV g 1:=by
 unfold ak DV
 constructor
 ·rintro ⟨h1,h2,h3,h4⟩
  have:=(wT.1 h2).1
  have:=(GV.1 ⟨h2,h3⟩).1.2.2.2.1
  exact ⟨⟨by omega,h1,by omega,h4⟩,h2,h3⟩
 ·rintro ⟨⟨_,h1,_,h4⟩,h2,h3⟩
  exact ⟨h1,h2,h3,h4⟩
end Go.V
namespace Go.Proofs.YtndaepmjkbmjmaaGreatDoor
open Go.V
section
variable {w:World} {L:List ay} {g:af} {x:GA} {s:ByteArray}
theorem S3 (hg:gR (hp w) g x) (hb:iE g) (added:Nat) (ha:added<=1):aA Tryz.prog ue [.agg ⟨x.cells⟩,.int .i64 (added:Int)] w λv w'=>(∃ r:Bool,v = .bool r/\(r = true↔DV g added))/\Gr w w':=by
 refine qk ?_
 refine cW hg λk1 w1 gw hg B=>?_
 have hb':=hb
 obtain ⟨b1,b2,b3,b4,b5,b6,b7⟩:=hb
 have tl:=hg.t.1
 have nl:=hg.n.1
 have ll:=hg.l.1
 have pl:=hg.p.1
 have hT:g.T = x.tl:=tl
 have hN:g.N = x.nl:=nl
 have hst:=hg.s
 rw [GV]
 unfold GU
 rw [hT,hN,tl,nl,ll,pl]
 generalize hP:(_/\_:Prop) = P
 have no:∀ {w'},Gr w1 w'->¬ P->(∃ r:Bool,Value.bool false = .bool r/\(r = true↔P))/\Gr w w':=λ{w'} gg hn=>⟨⟨false,rfl,⟨λh=>(by cases h),λh=>absurd h hn⟩⟩,gw.trans gg⟩
 refine ⟨λb w'=>(b = false↔(x.nl<=64 + added/\x.tl<=65/\x.pl<=96 + added/\added < x.pl/\x.ll<=64))/\w' = w1,?_,?_⟩
 ·refine ⟨_,_,_,B.c1 (sub.refl _),⟨by omega,by omega⟩,ae (λh1=>⟨?_,rfl⟩) λh1=>⟨_,_,_,B.c0 (sub.refl _),ae (λh2=>⟨?_,rfl⟩) λh2=>⟨_,_,_,B.c4 (sub.refl _),⟨by omega,by omega⟩,ae (λh3=>⟨?_,rfl⟩) λh3=>⟨_,_,_,B.c4 (sub.refl _),⟨by omega,by omega⟩,ae (λh4=>⟨?_,rfl⟩) λh4=>⟨_,_,_,B.c2 (sub.refl _),?_,rfl⟩⟩⟩⟩⟩
  all_goals simp only [Wk,W1,Bool.true_eq_false,false_iff] at *
  all_goals omega
 rintro _ b w2 ⟨hb0,rfl⟩
 refine ae (λh1=>no (Gr.refl _) λhp=>?_) λh1=>?_
 ·rw [<- hP] at hp
  have:=hb0.2 hp.1
  rw [h1] at this; cases this
 obtain ⟨z1,z2,z3,z4,z5⟩:=hb0.1 h1
 refine ⟨_,_,_,B.c0 (sub.refl _),⟨by omega,by omega⟩,_,_,_,B.c1 (sub.refl _),⟨by omega,by omega⟩,⟨by omega,by omega⟩,ae (λh2=>no (Gr.refl _) λhp=>?_) λh2=>?_⟩
 ·rw [<- hP] at hp
  have:=V7 h2; have:=hp.2.1; omega
 have h2:=V8 h2
 refine ⟨_,_,_,_,_,_,_,_,_,_,_,_,_,B.row (sub.refl _),(IK (x:=x) hg hb').mono ?_⟩
 rintro _ w3 ⟨⟨r1,rfl,e1⟩,g3⟩
 refine ⟨_,rfl,ae (λh3=>no g3 λhp=>?_) λh3=>?_⟩
 ·rw [<- hP] at hp
  have:=e1.2 hp.2.2.1; rw [this] at h3; cases h3
 have h3:r1 = true:=by simpa using h3
 have e1:=e1.1 h3
 refine ⟨_,_,_,_,_,_,_,_,_,_,_,_,_,B.row g3,(GW (x:=x) (hg.mono g3) hb').mono ?_⟩
 rintro _ w4 ⟨⟨r2,rfl,e2⟩,g4⟩
 have g4:Gr w2 w4:=g3.trans g4
 refine ⟨_,rfl,_,_,_,_,_,_,_,_,_,_,_,_,_,B.row g4,(LL (x:=x) (hg.mono g4) hb' added).mono ?_⟩
 rintro _ w5 ⟨⟨r3,rfl,e3⟩,g5⟩
 have g5:Gr w2 w5:=g4.trans g5
 have hpf:=IM (x:=x) (hg.mono g5) hb' added
 rw [hT] at hpf
 refine ⟨_,rfl,_,_,_,_,_,_,_,_,_,_,_,_,_,B.row g5,_,_,_,B.c0 g5,⟨by omega,by omega⟩,hpf.mono ?_⟩
 rintro _ w6 ⟨⟨r4,rfl,e4⟩,g6⟩
 have g6:Gr w2 w6:=g5.trans g6
 refine ⟨_,rfl,_,_,_,_,_,_,_,_,_,_,_,_,_,B.row g6,(Qt (x:=x) (hg.mono g6) hb' added).mono ?_⟩
 rintro _ w7 ⟨a,c,rfl,h7⟩
 have g7:Gr w2 w7:=g6.trans h7.aZ
 refine ⟨_,_,_,rfl,λw8 hd=>⟨λw'=>Gr w2 w',g7.trans (Gr.drawn hd),?_⟩⟩
 have g8:Gr w2 w8:=g7.trans (Gr.drawn hd)
 refine ae (λi1=>ae (λi2=>ae (λi3=>⟨_,_,_,λw' s=>B.c1 s,⟨by omega,by omega⟩,ae (λi4=>⟨_,λw' s=>B.c3 s,_,_,_,λw' s=>B.c0 s,⟨by omega,by omega⟩,ae (λi5=>⟨_,λw' s=>B.c3 s,_,_,_,_,_,_,_,_,_,_,_,_,_,λw' s=>B.row s,(jh (x:=x) (hg.mono g8) hb').mono ?_⟩) λi5=>no g8 λhp=>?_⟩) λi4=>no g8 λhp=>?_⟩) λi3=>no g8 λhp=>?_) λi2=>no g8 λhp=>?_) λi1=>no g8 λhp=>?_
 ·rintro _ w9 ⟨rfl,g9⟩
  have g9:Gr w2 w9:=g8.trans g9
  refine ⟨_,rfl,g9,⟨_,rfl,?_⟩,gw.trans g9⟩
  rw [<- hP,hT,hN,Wk,<- hst]
  have i4:=eq_of_beq i4
  have i5:=V7 i5
  exact ⟨λh=>⟨⟨z1,z2,z3,z4,z5⟩,by omega,e1,e2.1 i1,e3.1 i2,e4.1 i3,i4,i5,h⟩,λh=>h.2.2.2.2.2.2.2.2⟩
 ·rw [<- hP,<- hst] at hp
  have:=V8 i5; have:=hp.2.2.2.2.2.2.2.1; omega
 ·rw [<- hP] at hp
  have:=hp.2.2.2.2.2.2.1
  simp only [XN,ne_eq] at i4
  omega
 ·rw [<- hP] at hp
  rw [e4.2 hp.2.2.2.2.2.1] at i3; cases i3
 ·rw [<- hP] at hp
  rw [e3.2 hp.2.2.2.2.1] at i2; cases i2
 ·rw [<- hP] at hp
  rw [e2.2 hp.2.2.2.1] at i1; cases i1
end
end Go.Proofs.YtndaepmjkbmjmaaGreatDoor
