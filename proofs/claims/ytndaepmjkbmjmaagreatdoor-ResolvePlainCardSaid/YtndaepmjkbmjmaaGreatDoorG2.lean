/- Texts of this claim, one behind the other. -/
import Derived.Test.YtndaepmjkbmjmaaGreatDoorG1
import Derived.Lib.TrailingZeros
import Derived.Laws.IdiomCopy
import Derived.MapKept
import Derived.Laws.RangeAny
import Derived.Laws.Strings
import Derived.Lib.OthersKept
import Derived.Laws.StructEq
set_option linter.unusedVariables false
set_option linter.unusedSectionVars false
set_option maxRecDepth 100000
set_option maxHeartbeats 16000000
namespace Go.V
end Go.V
namespace Go.Proofs.YtndaepmjkbmjmaaGreatDoor
end Go.Proofs.YtndaepmjkbmjmaaGreatDoor
open Go.V Go.Proofs.YtndaepmjkbmjmaaGreatDoor
namespace Go.Proofs.YtndaepmjkbmjmaaGreatDoor
abbrev se:FuncId:=14
def oP:bh:={ rngs:=[],loops:=[(6,[(4,(.one (.int .i64)))])],joins:=[],blocks:=[] }
theorem oQ {a:Wr} {b c:Nat} {d:Wr} {e f:Nat} {g:Wr} {i j:Nat} {k:Int} {l:Wr} {m n:Nat} {w:Ws} {R:Value->WP} (h:new w (oC [vS a b c,vS d e f,vS g i j,iI k,vS l m n] 27) λk1 w1=>new w1 (oC [vS none 0 0,vS none 0 0,vS none 0 0,iI 0,vS none 0 0] 27) λk2 w2=>∃ n1,cL w2 (Addr.add (aM k1) 3) (iI n1)/\new w2 (oC [vS none 0 0,vS none 0 0,vS none 0 0,iI 0,vS none 0 0] 27) λk3 w3=>cG w3 (aM k3) [vS none 0 0,vS none 0 0,vS none 0 0,iI n1,vS none 0 0] λw4=>∃ o1 k4 k5,cL w4 (aM k3) (vS o1 k4 k5)/\∃ o2 k6 k7,cL w4 (aM k1) (vS o2 k6 k7)/\rS (jT 22 (Array.mk [vS o1 k4 k5,vS o2 k6 k7])) w4 λv1 w5=>∃ o3 k8 k9,v1 = vS o3 k8 k9/\st1 w5 (aM k3) (vS o3 k8 k9) λw6=>∃ o4 k10 k11,cL w6 (Addr.add (aM k3) 1) (vS o4 k10 k11)/\∃ o5 k12 k13,cL w6 (Addr.add (aM k1) 1) (vS o5 k12 k13)/\rS (jT 23 (Array.mk [vS o4 k10 k11,vS o5 k12 k13])) w6 λv2 w7=>∃ o6 k14 k15,v2 = vS o6 k14 k15/\st1 w7 (Addr.add (aM k3) 1) (vS o6 k14 k15) λw8=>∃ o7 k16 k17,cL w8 (Addr.add (aM k3) 2) (vS o7 k16 k17)/\∃ o8 k18 k19,cL w8 (Addr.add (aM k1) 2) (vS o8 k18 k19)/\rS (jT 24 (Array.mk [vS o7 k16 k17,vS o8 k18 k19])) w8 λv3 w9=>∃ o9 k20 k21,v3 = vS o9 k20 k21/\st1 w9 (Addr.add (aM k3) 2) (vS o9 k20 k21) λw10=>∃ (x1:lP [(4,aD)]),∃ (x2:lN [(4,aD)]),x1 0 w10/\∀ (I1:Nat->Value) (n2:Int) (w11:Ws),x1 n2 w11->∃ o10 k22 k23,cL w11 (Addr.add (aM k1) 4) (vS o10 k22 k23)/\br (decide (n2 < (k22:Int))) (∀ w12,drawn w11 w12->∃ (I2:WP),I2 w12/\∃ o11 k24 k25,(∀ w13,I2 w13->cL w13 (Addr.add (aM k1) 4) (vS o11 k24 k25))/\idx o11 k24 n2 3 λa1=>∃ n3,(∀ w14,I2 w14->cL w14 a1 (iI n3))/\∃ o12 k26 k27,(∀ w15,I2 w15->cL w15 (Addr.add (aM k1) 4) (vS o12 k26 k27))/\idx o12 k26 n2 3 λa2=>∃ n4,(∀ w16,I2 w16->cL w16 (Addr.add a2 2) (iI n4))/\new w12 (oC [iI 0,vS none 0 0,iI 0] 81) λk28 w17=>I2 w17/\cG w17 (aM k28) [iI n3,vS none 0 0,iI n4] λw18=>∀ w19,drawn w18 w19->∃ (I3:WP),I3 w19/\∃ o13 k29 k30,(∀ w20,I3 w20->cL w20 (Addr.add (aM k28) 1) (vS o13 k29 k30))/\∃ o14 k31 k32,(∀ w21,I3 w21->cL w21 (Addr.add (aM k1) 4) (vS o14 k31 k32))/\idx o14 k31 n2 3 λa3=>∃ o15 k33 k34,(∀ w22,I3 w22->cL w22 (Addr.add a3 1) (vS o15 k33 k34))/\rS (jT 24 (Array.mk [vS o13 k29 k30,vS o15 k33 k34])) w19 λv4 w23=>∃ o16 k35 k36,v4 = vS o16 k35 k36/\I3 w23/\st1 w23 (Addr.add (aM k28) 1) (vS o16 k35 k36) λw24=>∃ o17 k37 k38,cL w24 (Addr.add (aM k3) 4) (vS o17 k37 k38)/\∃ n5 o18 k39 k40 n6,rA w24 (aM k28) 3 [iI n5,vS o18 k39 k40,iI n6]/\new w24 (oC [iI n5,vS o18 k39 k40,iI n6] 81) λk41 w25=>rS (jT 25 (Array.mk [vS o17 k37 k38,vS (some (aM k41)) 1 1])) w25 λv5 w26=>∃ o19 k42 k43,v5 = vS o19 k42 k43/\st1 w26 (Addr.add (aM k3) 4) (vS o19 k42 k43) λw27=>aw (n2 + 1)/\x1 (n2 + 1) w27/\x2 (n2 + 1) w27 < x2 n2 w11) (∃ o20 k44 k45 o21 k46 k47 o22 k48 k49 n7 o23 k50 k51,rA w11 (aM k3) 5 [vS o20 k44 k45,vS o21 k46 k47,vS o22 k48 k49,iI n7,vS o23 k50 k51]/\cG w11 (aM k2) [vS o20 k44 k45,vS o21 k46 k47,vS o22 k48 k49,iI n7,vS o23 k50 k51] λw28=>∃ o24 k52 k53 o25 k54 k55 o26 k56 k57 n8 o27 k58 k59,rA w28 (aM k2) 5 [vS o24 k52 k53,vS o25 k54 k55,vS o26 k56 k57,iI n8,vS o27 k58 k59]/\R (vG [vS o24 k52 k53,vS o25 k54 k55,vS o26 k56 k57,iI n8,vS o27 k58 k59]) w28)):ay Tryz.prog 14 [(.agg #[(.slice a b c),(.slice d e f),(.slice g i j),(.int .i64 k),(.slice l m n)])] w R:=rv Tryz.func14 oP (by kernel_rfl) h
abbrev oR:FuncId:=39
def mS:bh:={ rngs:=[],loops:=[],joins:=[(2,[(20,(.one .bool))])],blocks:=[] }
theorem mT {a:Wr} {b c:Nat} {d:Wr} {e f:Nat} {g:Wr} {i j:Nat} {k:Int} {l:Wr} {m n:Nat} {w:Ws} {R:Value->WP} (h:new w (oC [vS a b c,vS d e f,vS g i j,iI k,vS l m n] 27) λk1 w1=>∃ (x1:lP [(20,pI)]),(∃ o1 k2 k3,cL w1 (Addr.add (aM k1) 1) (vS o1 k2 k3)/\br (decide ((k2:Int) < 2)) (x1 true w1) (∃ o2 k4 k5,cL w1 (Addr.add (aM k1) 1) (vS o2 k4 k5)/\idx o2 k4 0 1 λa1=>∃ s1,cL w1 a1 (Value.string s1)/\br (!ByteArray.toList s1 == ByteArray.toList (ByteArray.mk (Array.mk []))) (x1 true w1) (∃ o3 k6 k7,cL w1 (Addr.add (aM k1) 4) (vS o3 k6 k7)/\x1 (decide ((k6:Int) < 2)) w1)))/\∀ (I1:Nat->Value) (b1:Bool) (w2:Ws),x1 b1 w2->br b1 (R (vB false) w2) (∃ o4 k8 k9,cL w2 (Addr.add (aM k1) 4) (vS o4 k8 k9)/\idx o4 k8 0 3 λa2=>∃ n1 o5 k10 k11 n2,rA w2 a2 3 [iI n1,vS o5 k10 k11,iI n2]/\new w2 (oC [iI 0,vS none 0 0,iI 0] 81) λk12 w3=>cG w3 (aM k12) [iI n1,vS o5 k10 k11,iI n2] λw4=>∀ w5,drawn w4 w5->∃ (I2:WP),I2 w5/\∃ n3,(∀ w6,I2 w6->cL w6 (aM k12) (iI n3))/\∃ o6 k13 k14,(∀ w7,I2 w7->cL w7 (aM k1) (vS o6 k13 k14))/\br (n3 != (k13:Int)) (R (vB false) w5) (∃ o7 k15 k16,(∀ w8,I2 w8->cL w8 (Addr.add (aM k12) 1) (vS o7 k15 k16))/\br ((k15:Int) != 1) (R (vB false) w5) (∃ o8 k17 k18,(∀ w9,I2 w9->cL w9 (Addr.add (aM k12) 1) (vS o8 k17 k18))/\idx o8 k17 0 1 λa3=>∃ n4,(∀ w10,I2 w10->cL w10 a3 (iI n4))/\∃ n5,(∀ w11,I2 w11->cL w11 (Addr.add (aM k1) 3) (iI n5))/\br (n4 != n5) (R (vB false) w5) (∃ n6,(∀ w12,I2 w12->cL w12 (Addr.add (aM k12) 2) (iI n6))/\br (n6 != 0) (R (vB false) w5) (∃ o9 k19 k20 o10 k21 k22 o11 k23 k24 n7 o12 k25 k26,rA w5 (aM k1) 5 [vS o9 k19 k20,vS o10 k21 k22,vS o11 k23 k24,iI n7,vS o12 k25 k26]/\rE 75 [vG [vS o9 k19 k20,vS o10 k21 k22,vS o11 k23 k24,iI n7,vS o12 k25 k26],iI 1] w5 λv1 w13=>∃ b2,v1 = vB b2/\R (vB b2) w13)))))):ay Tryz.prog 39 [(.agg #[(.slice a b c),(.slice d e f),(.slice g i j),(.int .i64 k),(.slice l m n)])] w R:=rv Tryz.func39 mS (by kernel_rfl) h
abbrev Bu:FuncId:=49
def ym:bh:={ rngs:=[],loops:=[],joins:=[(2,[(21,(.one .bool))])],blocks:=[] }
theorem yn {a:Wr} {b c:Nat} {d:Wr} {e f:Nat} {g:Wr} {i j:Nat} {k:Int} {l:Wr} {m n:Nat} {w:Ws} {R:Value->WP} (h:new w (oC [vS a b c,vS d e f,vS g i j,iI k,vS l m n] 27) λk1 w1=>∃ (x1:lP [(21,pI)]),(∃ o1 k2 k3,cL w1 (Addr.add (aM k1) 1) (vS o1 k2 k3)/\br ((k2:Int) == 0) (x1 true w1) (∃ o2 k4 k5,cL w1 (Addr.add (aM k1) 1) (vS o2 k4 k5)/\idx o2 k4 0 1 λa1=>∃ s1,cL w1 a1 (Value.string s1)/\br (!ByteArray.toList s1 == ByteArray.toList (ByteArray.mk (Array.mk []))) (x1 true w1) (∃ o3 k6 k7 o4 k8 k9 o5 k10 k11 n1 o6 k12 k13,rA w1 (aM k1) 5 [vS o3 k6 k7,vS o4 k8 k9,vS o5 k10 k11,iI n1,vS o6 k12 k13]/\rE 89 [vG [vS o3 k6 k7,vS o4 k8 k9,vS o5 k10 k11,iI n1,vS o6 k12 k13],iI 1] w1 λv1 w2=>∃ b1,v1 = vB b1/\x1 (!b1) w2)))/\∀ (I1:Nat->Value) (b2:Bool) (w3:Ws),x1 b2 w3->br b2 (R (vB false) w3) (∃ o7 k14 k15 o8 k16 k17 o9 k18 k19 n2 o10 k20 k21,rA w3 (aM k1) 5 [vS o7 k14 k15,vS o8 k16 k17,vS o9 k18 k19,iI n2,vS o10 k20 k21]/\rE 90 [vG [vS o7 k14 k15,vS o8 k16 k17,vS o9 k18 k19,iI n2,vS o10 k20 k21],iI 1] w3 λv2 w4=>∃ o11 k22 k23 b3,v2 = vU [vS o11 k22 k23,vB b3]/\∃ o12 k24 k25,cL w4 (Addr.add (aM k1) 4) (vS o12 k24 k25)/\∀ w5,drawn w4 w5->∃ (I2:WP),I2 w5/\br b3 (idx o12 k24 0 3 λa2=>∃ n3,(∀ w6,I2 w6->cL w6 a2 (iI n3))/\∃ o13 k26 k27,(∀ w7,I2 w7->cL w7 (aM k1) (vS o13 k26 k27))/\br (n3 == (k26:Int)) (idx o12 k24 0 3 λa3=>∃ o14 k28 k29,(∀ w8,I2 w8->cL w8 (Addr.add a3 1) (vS o14 k28 k29))/\br ((k28:Int) == 1) (idx o12 k24 0 3 λa4=>∃ o15 k30 k31,(∀ w9,I2 w9->cL w9 (Addr.add a4 1) (vS o15 k30 k31))/\idx o15 k30 0 1 λa5=>∃ n4,(∀ w10,I2 w10->cL w10 a5 (iI n4))/\∃ n5,(∀ w11,I2 w11->cL w11 (Addr.add (aM k1) 3) (iI n5))/\br (n4 == n5) (idx o12 k24 0 3 λa6=>∃ n6,(∀ w12,I2 w12->cL w12 (Addr.add a6 2) (iI n6))/\R (vB (n6 == 0)) w5) (R (vB false) w5)) (R (vB false) w5)) (R (vB false) w5)) (R (vB false) w5))):ay Tryz.prog 49 [(.agg #[(.slice a b c),(.slice d e f),(.slice g i j),(.int .i64 k),(.slice l m n)])] w R:=rv Tryz.func49 ym (by kernel_rfl) h
abbrev Cf:FuncId:=59
def E9:bh:={ rngs:=[],loops:=[],joins:=[],blocks:=[] }
def zP (a:Int) (b:Wr) (c d:Nat) (w:Ws) (R:Value->WP):Prop :=  aw ((if 1024 < if a < 0 then 0 else a then 1024 else if a < 0 then 0 else a) + 63)/\nz 64/\aw (Int.tdiv ((if 1024 < if a < 0 then 0 else a then 1024 else if a < 0 then 0 else a) + 63) 64)/\Dc (Int.tdiv ((if 1024 < if a < 0 then 0 else a then 1024 else if a < 0 then 0 else a) + 63) 64) (Int.tdiv ((if 1024 < if a < 0 then 0 else a then 1024 else if a < 0 then 0 else a) + 63) 64) 8/\new w (Obj.cells (Array.mk (lD (Int.toNat (Int.tdiv ((if 1024 < if a < 0 then 0 else a then 1024 else if a < 0 then 0 else a) + 63) 64)) [Value.int IntKind.u64 0])) 241) λk1 w1=>new w1 (oC [vS (some (aM k1)) (Int.toNat (Int.tdiv ((if 1024 < if a < 0 then 0 else a then 1024 else if a < 0 then 0 else a) + 63) 64)) (Int.toNat (Int.tdiv ((if 1024 < if a < 0 then 0 else a then 1024 else if a < 0 then 0 else a) + 63) 64)),iI (if 1024 < if a < 0 then 0 else a then 1024 else if a < 0 then 0 else a)] 192) λk2 w2=>r_ Proofs.Tryz.prog Ev 60 [vP (some (aM k2)),vS b c d] w2 λv1 w3=>∃ n1,v1 = iI n1/\R (vP (some (aM k2))) w3
theorem E_ (a:Int) (b:Wr) (c d:Nat) (w:Ws) (R:Value->WP) (h:zP a b c d w R):ay Tryz.prog 59 [(.int .i64 a),(.slice b c d)] w R:=rv Tryz.func59 E9 (by kernel_rfl) h

abbrev pY:FuncId:=60
def wG:bh:={ rngs:=[],loops:=[(3,[(5,(.one (.int .i64))),(10,(.one (.int .i64)))])],joins:=[],blocks:=[] }
theorem wH {a b:Wr} {c d:Nat} {w:Ws} {R:Value->WP} (h:∃ (x1:lP [(5,aD),(10,aD)]),∃ (x2:lN [(5,aD),(10,aD)]),x1 0 0 w/\∀ (I1:Nat->Value) (n1 n2:Int) (w1:Ws),x1 n1 n2 w1->br (decide (n2 < (c:Int))) (idx b c n2 1 λa1=>∃ n3,World.cell? w1 a1 = some (iI n3)/\br (decide (0<=n3)) (rE 109 [vP a] w1 λv1 w2=>∃ n4,v1 = iI n4/\br (decide (n3 < n4)) (nn a λa2=>∃ o1 k1 k2,World.cell? w2 a2 = some (vS o1 k1 k2)/\rE 110 [vS o1 k1 k2,iI n3] w2 λv2 w3=>∃ b1,v2 = vB b1/\br (!b1) (nn a λa3=>∃ o2 k3 k4,World.cell? w3 a3 = some (vS o2 k3 k4)/\rE 111 [vS o2 k3 k4,iI n3] w3 λv3 w4=>v3 = vU []/\aw (n1 + 1)/\aw (n2 + 1)/\x1 (n1 + 1) (n2 + 1) w4/\x2 (n1 + 1) (n2 + 1) w4 < x2 n1 n2 w1) (aw (n2 + 1)/\x1 n1 (n2 + 1) w3/\x2 n1 (n2 + 1) w3 < x2 n1 n2 w1)) (aw (n2 + 1)/\x1 n1 (n2 + 1) w2/\x2 n1 (n2 + 1) w2 < x2 n1 n2 w1)) (aw (n2 + 1)/\x1 n1 (n2 + 1) w1/\x2 n1 (n2 + 1) w1 < x2 n1 n2 w1)) (R (iI n1) w1)):ay Tryz.prog 60 [(.pointer a),(.slice b c d)] w R:=rv Tryz.func60 wG (by kernel_rfl) h
abbrev tC:FuncId:=61
def pZ:bh:={ rngs:=[],loops:=[],joins:=[],blocks:=[] }
theorem p8 {a:Wr} {w:Ws} {R:Value->WP} (h:rE 113 [vP a] w λv1 w1=>∃ g1 x1,v1 = Value.func (Fn.func g1) (Array.mk []) (Array.mk x1)/\rE 112 [Value.func (Fn.func g1) (Array.mk []) (Array.mk x1)] w1 λv2 w2=>∃ o1 k1 k2,v2 = vS o1 k1 k2/\R (vS o1 k1 k2) w2):ay Tryz.prog 61 [(.pointer a)] w R:=rv Tryz.func61 pZ (by kernel_rfl) h
abbrev nU:FuncId:=72
def mn:bh:={ rngs:=[],loops:=[],joins:=[],blocks:=[] }
theorem mo {a:Wr} {b c:Nat} {d:Wr} {e f:Nat} {g:Wr} {i j:Nat} {k:Int} {l:Wr} {m n:Nat} {w:Ws} {R:Value->WP} (h:new w (oC [vS a b c,vS d e f,vS g i j,iI k,vS l m n] 27) λk1 w1=>∃ o1 k2 k3,cL w1 (aM k1) (vS o1 k2 k3)/\∃ o2 k4 k5,cL w1 (Addr.add (aM k1) 1) (vS o2 k4 k5)/\aw ((k2:Int) + (k4:Int))/\R (iI ((k2:Int) + (k4:Int))) w1):ay Tryz.prog 72 [(.agg #[(.slice a b c),(.slice d e f),(.slice g i j),(.int .i64 k),(.slice l m n)])] w R:=rv Tryz.func72 mn (by kernel_rfl) h
abbrev sf:FuncId:=75
def oT:bh:={ rngs:=[],loops:=[],joins:=[(2,[(43,(.one .bool))])],blocks:=[] }
theorem oU {a:Wr} {b c:Nat} {d:Wr} {e f:Nat} {g:Wr} {i j:Nat} {k:Int} {l:Wr} {m n:Nat} {o:Int} {w:Ws} {R:Value->WP} (h:new w (oC [vS a b c,vS d e f,vS g i j,iI k,vS l m n] 27) λk1 w1=>∃ (x1:lP [(43,pI)]),(∃ o1 k2 k3,cL w1 (Addr.add (aM k1) 1) (vS o1 k2 k3)/\aw (64 + o)/\br (decide (64 + o < (k2:Int))) (x1 true w1) (∃ o2 k4 k5,cL w1 (aM k1) (vS o2 k4 k5)/\br (decide (65 < (k4:Int))) (x1 true w1) (∃ o3 k6 k7,cL w1 (Addr.add (aM k1) 4) (vS o3 k6 k7)/\aw (96 + o)/\br (decide (96 + o < (k6:Int))) (x1 true w1) (∃ o4 k8 k9,cL w1 (Addr.add (aM k1) 4) (vS o4 k8 k9)/\aw (1 + o)/\br (decide ((k8:Int) < 1 + o)) (x1 true w1) (∃ o5 k10 k11,cL w1 (Addr.add (aM k1) 2) (vS o5 k10 k11)/\x1 (decide (64 < (k10:Int))) w1)))))/\∀ (I1:Nat->Value) (b1:Bool) (w2:Ws),x1 b1 w2->br b1 (R (vB false) w2) (∃ o6 k12 k13,cL w2 (aM k1) (vS o6 k12 k13)/\aw ((k12:Int) - 1)/\∃ o7 k14 k15,cL w2 (Addr.add (aM k1) 1) (vS o7 k14 k15)/\aw ((k12:Int) - 1 + (k14:Int))/\aw ((k12:Int) - 1 + (k14:Int) - o)/\br (decide (64 < (k12:Int) - 1 + (k14:Int) - o)) (R (vB false) w2) (∃ o8 k16 k17 o9 k18 k19 o10 k20 k21 n1 o11 k22 k23,rA w2 (aM k1) 5 [vS o8 k16 k17,vS o9 k18 k19,vS o10 k20 k21,iI n1,vS o11 k22 k23]/\rE 124 [vG [vS o8 k16 k17,vS o9 k18 k19,vS o10 k20 k21,iI n1,vS o11 k22 k23]] w2 λv1 w3=>∃ b2,v1 = vB b2/\br (!b2) (R (vB false) w3) (∃ o12 k24 k25 o13 k26 k27 o14 k28 k29 n2 o15 k30 k31,rA w3 (aM k1) 5 [vS o12 k24 k25,vS o13 k26 k27,vS o14 k28 k29,iI n2,vS o15 k30 k31]/\rE 125 [vG [vS o12 k24 k25,vS o13 k26 k27,vS o14 k28 k29,iI n2,vS o15 k30 k31]] w3 λv2 w4=>∃ b3,v2 = vB b3/\∃ o16 k32 k33 o17 k34 k35 o18 k36 k37 n3 o19 k38 k39,rA w4 (aM k1) 5 [vS o16 k32 k33,vS o17 k34 k35,vS o18 k36 k37,iI n3,vS o19 k38 k39]/\rE 126 [vG [vS o16 k32 k33,vS o17 k34 k35,vS o18 k36 k37,iI n3,vS o19 k38 k39],iI o] w4 λv3 w5=>∃ b4,v3 = vB b4/\∃ o20 k40 k41 o21 k42 k43 o22 k44 k45 n4 o23 k46 k47,rA w5 (aM k1) 5 [vS o20 k40 k41,vS o21 k42 k43,vS o22 k44 k45,iI n4,vS o23 k46 k47]/\∃ o24 k48 k49,cL w5 (aM k1) (vS o24 k48 k49)/\aw ((k48:Int) + o)/\rE 127 [vG [vS o20 k40 k41,vS o21 k42 k43,vS o22 k44 k45,iI n4,vS o23 k46 k47],iI o,iI ((k48:Int) + o)] w5 λv4 w6=>∃ b5,v4 = vB b5/\∃ o25 k50 k51 o26 k52 k53 o27 k54 k55 n5 o28 k56 k57,rA w6 (aM k1) 5 [vS o25 k50 k51,vS o26 k52 k53,vS o27 k54 k55,iI n5,vS o28 k56 k57]/\rE 128 [vG [vS o25 k50 k51,vS o26 k52 k53,vS o27 k54 k55,iI n5,vS o28 k56 k57],iI o] w6 λv5 w7=>∃ o29 k58 k59,v5 = vS o29 k58 k59/\∀ w8,drawn w7 w8->∃ (I2:WP),I2 w8/\br b3 (br b4 (br b5 (∃ o30 k60 k61,(∀ w9,I2 w9->cL w9 (Addr.add (aM k1) 1) (vS o30 k60 k61))/\aw ((k60:Int) - o)/\br ((k58:Int) == (k60:Int) - o) (∃ n6,(∀ w10,I2 w10->cL w10 (Addr.add (aM k1) 3) (iI n6))/\∃ o31 k62 k63,(∀ w11,I2 w11->cL w11 (aM k1) (vS o31 k62 k63))/\aw ((k62:Int) + o)/\br (decide ((k62:Int) + o<=n6)) (∃ n7,(∀ w12,I2 w12->cL w12 (Addr.add (aM k1) 3) (iI n7))/\∃ o32 k64 k65 o33 k66 k67 o34 k68 k69 n8 o35 k70 k71,(∀ w13,I2 w13->rA w13 (aM k1) 5 [vS o32 k64 k65,vS o33 k66 k67,vS o34 k68 k69,iI n8,vS o35 k70 k71])/\rE 72 [vG [vS o32 k64 k65,vS o33 k66 k67,vS o34 k68 k69,iI n8,vS o35 k70 k71]] w8 λv6 w14=>∃ n9,v6 = iI n9/\I2 w14/\R (vB (decide (n7 < n9))) w14) (R (vB false) w8)) (R (vB false) w8)) (R (vB false) w8)) (R (vB false) w8)) (R (vB false) w8))))):ay Tryz.prog 75 [(.agg #[(.slice a b c),(.slice d e f),(.slice g i j),(.int .i64 k),(.slice l m n)]),(.int .i64 o)] w R:=rv Tryz.func75 oT (by kernel_rfl) h
abbrev fJ:FuncId:=86
def eR:bh:={ rngs:=[],loops:=[],joins:=[],blocks:=[] }
theorem eV {a:Wr} {b c:Nat} {d e:Int} {w:Ws} {R:Value->WP} (h:new w (oC [iI d,iI e] 104) λk1 w1=>∃ n1 n2,V.rowAt w1 (aM k1) 0 2 = some [iI n1,iI n2]/\rE 136 [vS a b c,vG [iI n1,iI n2]] w1 λv1 w2=>∃ n3,v1 = iI n3/\R (vB (decide (0<=n3))) w2):ay Tryz.prog 86 [(.slice a b c),(.agg #[(.int .i64 d),(.int .i64 e)])] w R:=rv Tryz.func86 eR (by kernel_rfl) h
abbrev zQ:FuncId:=89
def wI:bh:={ rngs:=[],loops:=[(6,[(5,(.one .slice)),(63,(.one (.int .i64)))]),(14,[(96,(.one (.int .i64)))])],joins:=[(2,[(57,(.one .bool))]),(9,[(83,(.one .bool))])],blocks:=[] }
theorem wJ {a:Wr} {b c:Nat} {d:Wr} {e f:Nat} {g:Wr} {i j:Nat} {k:Int} {l:Wr} {m n:Nat} {o:Int} {w:Ws} {R:Value->WP} (h:new w (oC [vS a b c,vS d e f,vS g i j,iI k,vS l m n] 27) λk1 w1=>∃ (x1:lP [(57,pI)]),(∃ o1 k2 k3,cL w1 (aM k1) (vS o1 k2 k3)/\br ((k2:Int) == 0) (x1 true w1) (∃ o2 k4 k5,cL w1 (aM k1) (vS o2 k4 k5)/\idx o2 k4 0 2 λa1=>∃ s1 n1,rA w1 a1 2 [Value.string s1,iI n1]/\∃ v1,Sem.run Proofs.Tryz.prog (fu BinOp.neq 83 (Operand.tmp 20) (Operand.tmp 21) (vG [Value.string s1,iI n1]) (vG [Value.string (ByteArray.mk (Array.mk [])),iI 0])) w1 = Result.ok v1 w1/\∃ b1,v1 = vB b1/\br b1 (x1 true w1) (∃ o3 k6 k7,cL w1 (Addr.add (aM k1) 1) (vS o3 k6 k7)/\br (decide ((k6:Int)<=o)) (x1 true w1) (∃ o4 k8 k9,cL w1 (aM k1) (vS o4 k8 k9)/\br (decide (65 < (k8:Int))) (x1 true w1) (∃ o5 k10 k11,cL w1 (Addr.add (aM k1) 1) (vS o5 k10 k11)/\aw (64 + o)/\br (decide (64 + o < (k10:Int))) (x1 true w1) (∃ o6 k12 k13,cL w1 (aM k1) (vS o6 k12 k13)/\aw ((k12:Int) - 1)/\∃ o7 k14 k15,cL w1 (Addr.add (aM k1) 1) (vS o7 k14 k15)/\aw ((k12:Int) - 1 + (k14:Int))/\aw ((k12:Int) - 1 + (k14:Int) - o)/\x1 (decide (64 < (k12:Int) - 1 + (k14:Int) - o)) w1))))))/\∀ (I1:Nat->Value) (b2:Bool) (w2:Ws),x1 b2 w2->br b2 (R (vB false) w2) (new w2 (Obj.map (Array.mk []) 0) λk16 w3=>∃ o8 k17 k18,cL w3 (aM k1) (vS o8 k17 k18)/\lV o8 k17 k18 (some 1) none none 2 λ(o9:Wr) (k19 k20:Nat)=>∃ (x2:lP [(5,mL),(63,aD)]),∃ (x3:lN [(5,mL),(63,aD)]),x2 none 0 0 0 w3/\∀ (I2:Nat->Value) (o10:Wr) (k21 k22:Nat) (n2:Int) (w4:Ws),x2 o10 k21 k22 n2 w4->br (decide (n2 < (k19:Int))) (idx o9 k19 n2 2 λa2=>∃ s2 n3,rA w4 a2 2 [Value.string s2,iI n3]/\new w4 (oC [Value.string (ByteArray.mk (Array.mk [])),iI 0] 83) λk23 w5=>cG w5 (aM k23) [Value.string s2,iI n3] λw6=>∃ (x4:lP [(83,pI)]),(∃ s3,cL w6 (aM k23) (Value.string s3)/\rE 138 [Value.string s3] w6 λv2 w7=>∃ b3,v2 = vB b3/\br (!b3) (x4 true w7) (∃ n4,cL w7 (Addr.add (aM k23) 1) (iI n4)/\br (decide (n4 < 0)) (x4 true w7) (∃ n5,cL w7 (Addr.add (aM k23) 1) (iI n5)/\∃ o11 k24 k25,cL w7 (Addr.add (aM k1) 2) (vS o11 k24 k25)/\x4 (decide ((k24:Int) < n5)) w7)))/\∀ (I3:Nat->Value) (b4:Bool) (w8:Ws),x4 b4 w8->br b4 (R (vB false) w8) (∃ s4,cL w8 (aM k23) (Value.string s4)/\new w8 (oC [Value.string s4] 9) λk26 w9=>rS (jT 23 (Array.mk [vS o10 k21 k22,vS (some (aM k26)) 1 1])) w9 λv3 w10=>∃ o12 k27 k28,v3 = vS o12 k27 k28/\∃ n6,cL w10 (Addr.add (aM k23) 1) (iI n6)/\aU Proofs.Tryz.prog (Instr.mapUpdate 226 (Value.map (some k16)) (iI n6) (iI 1)) w10 λ(x5:Unit) (w11:Ws)=>aw (n2 + 1)/\x2 o12 k27 k28 (n2 + 1) w11/\x3 o12 k27 k28 (n2 + 1) w11 < x3 o10 k21 k22 n2 w4)) (∃ o13 k29 k30,cL w4 (Addr.add (aM k1) 2) (vS o13 k29 k30)/\∃ (x6:lP [(96,aD)]),∃ (x7:lN [(96,aD)]),x6 0 w4/\∀ (I4:Nat->Value) (n7:Int) (w12:Ws),x6 n7 w12->br (decide (n7 < (k29:Int))) (idx o13 k29 n7 1 λa3=>∃ n8,cL w12 a3 (iI n8)/\br (decide (n8 < 1)) (R (vB false) w12) (br (decide (3 < n8)) (R (vB false) w12) (aw (n7 + 1)/\aU Proofs.Tryz.prog (Instr.lookup 226 (Value.map (some k16)) (iI (n7 + 1)) false) w12 λv4 w13=>∃ n9,v4 = iI n9/\br (n9 == 0) (R (vB false) w13) (aw (n7 + 1)/\x6 (n7 + 1) w13/\x7 (n7 + 1) w13 < x7 n7 w12)))) (∃ o14 k31 k32,cL w12 (Addr.add (aM k1) 1) (vS o14 k31 k32)/\lV o14 k31 k32 (some o) none none 1 λ(o15:Wr) (k33 k34:Nat)=>rE 139 [vS o10 k21 k22] w12 λv5 w14=>∃ b5,v5 = vB b5/\br b5 (rE 139 [vS o15 k33 k34] w14 λv6 w15=>∃ b6,v6 = vB b6/\br b6 (rE 140 [vS o15 k33 k34,Value.func (Fn.func 141) (Array.mk []) (Array.mk [])] w15 λv7 w16=>∃ b7,v7 = vB b7/\R (vB !b7) w16) (R (vB false) w15)) (R (vB false) w14))))):ay Tryz.prog 89 [(.agg #[(.slice a b c),(.slice d e f),(.slice g i j),(.int .i64 k),(.slice l m n)]),(.int .i64 o)] w R:=rv Tryz.func89 wI (by kernel_rfl) h
abbrev tD:FuncId:=90
def p9:bh:={ rngs:=[],loops:=[(7,[(8,(.one .slice)),(43,(.one (.int .i64)))]),(12,[(73,(.one (.int .i64)))])],joins:=[(2,[(25,(.one .bool))]),(10,[(69,(.one .bool))])],blocks:=[] }
theorem p_ {a:Wr} {b c:Nat} {d:Wr} {e f:Nat} {g:Wr} {i j:Nat} {k:Int} {l:Wr} {m n:Nat} {o:Int} {w:Ws} {R:Value->WP} (h:new w (oC [vS a b c,vS d e f,vS g i j,iI k,vS l m n] 27) λk1 w1=>∃ (x1:lP [(25,pI)]),(∃ o1 k2 k3,cL w1 (Addr.add (aM k1) 4) (vS o1 k2 k3)/\br (decide ((k2:Int)<=o)) (x1 true w1) (∃ o2 k4 k5,cL w1 (Addr.add (aM k1) 4) (vS o2 k4 k5)/\aw (96 + o)/\x1 (decide (96 + o < (k4:Int))) w1))/\∀ (I1:Nat->Value) (b1:Bool) (w2:Ws),x1 b1 w2->br b1 (R (vU [vS none 0 0,vB false]) w2) (∃ o3 k6 k7,cL w2 (aM k1) (vS o3 k6 k7)/\∃ o4 k8 k9,cL w2 (Addr.add (aM k1) 1) (vS o4 k8 k9)/\aw ((k6:Int) + (k8:Int))/\∃ o5 k10 k11,cL w2 (aM k1) (vS o5 k10 k11)/\aw ((k10:Int) + o)/\∃ o6 k12 k13,cL w2 (Addr.add (aM k1) 4) (vS o6 k12 k13)/\lV o6 k12 k13 (some o) none none 3 λ(o7:Wr) (k14 k15:Nat)=>∃ (x2:lP [(8,mL),(43,aD)]),∃ (x3:lN [(8,mL),(43,aD)]),x2 none 0 0 0 w2/\∀ (I2:Nat->Value) (o8:Wr) (k16 k17:Nat) (n1:Int) (w3:Ws),x2 o8 k16 k17 n1 w3->br (decide (n1 < (k14:Int))) (idx o7 k14 n1 3 λa1=>∃ n2 o9 k18 k19 n3,rA w3 a1 3 [iI n2,vS o9 k18 k19,iI n3]/\new w3 (oC [iI 0,vS none 0 0,iI 0] 81) λk20 w4=>cG w4 (aM k20) [iI n2,vS o9 k18 k19,iI n3] λw5=>∃ (x4:lP [(69,pI)]),(∃ n4,cL w5 (aM k20) (iI n4)/\br (decide (n4 < (k10:Int) + o)) (x4 true w5) (∃ n5,cL w5 (aM k20) (iI n5)/\br (decide ((k6:Int) + (k8:Int)<=n5)) (x4 true w5) (∃ n6,cL w5 (Addr.add (aM k20) 2) (iI n6)/\br (decide (n6 < 0)) (x4 true w5) (∃ n7,cL w5 (Addr.add (aM k20) 2) (iI n7)/\∃ o10 k21 k22,cL w5 (Addr.add (aM k1) 2) (vS o10 k21 k22)/\x4 (decide ((k21:Int) < n7)) w5))))/\∀ (I3:Nat->Value) (b2:Bool) (w6:Ws),x4 b2 w6->br b2 (R (vU [vS none 0 0,vB false]) w6) (∃ o11 k23 k24,cL w6 (Addr.add (aM k20) 1) (vS o11 k23 k24)/\∃ (x5:lP [(73,aD)]),∃ (x6:lN [(73,aD)]),x5 0 w6/\∀ (I4:Nat->Value) (n8:Int) (w7:Ws),x5 n8 w7->br (decide (n8 < (k23:Int))) (idx o11 k23 n8 1 λa2=>∃ n9,cL w7 a2 (iI n9)/\br (decide (n9 < 1)) (R (vU [vS none 0 0,vB false]) w7) (br (decide ((k6:Int) + (k8:Int)<=n9)) (R (vU [vS none 0 0,vB false]) w7) (∃ o12 k25 k26,cL w7 (aM k1) (vS o12 k25 k26)/\br (decide ((k25:Int)<=n9)) (br (decide (n9 < (k10:Int) + o)) (R (vU [vS none 0 0,vB false]) w7) (aw (n8 + 1)/\x5 (n8 + 1) w7/\x6 (n8 + 1) w7 < x6 n8 w7)) (aw (n8 + 1)/\x5 (n8 + 1) w7/\x6 (n8 + 1) w7 < x6 n8 w7)))) (∃ n10,cL w7 (aM k20) (iI n10)/\rE 143 [vS o8 k16 k17,iI n10] w7 λv1 w8=>∃ b3,v1 = vB b3/\br (!b3) (∃ n11,cL w8 (aM k20) (iI n11)/\new w8 (oC [iI n11] 3) λk27 w9=>rS (jT 24 (Array.mk [vS o8 k16 k17,vS (some (aM k27)) 1 1])) w9 λv2 w10=>∃ o13 k28 k29,v2 = vS o13 k28 k29/\aw (n1 + 1)/\x2 o13 k28 k29 (n1 + 1) w10/\x3 o13 k28 k29 (n1 + 1) w10 < x3 o8 k16 k17 n1 w3) (aw (n1 + 1)/\x2 o8 k16 k17 (n1 + 1) w8/\x3 o8 k16 k17 (n1 + 1) w8 < x3 o8 k16 k17 n1 w3)))) (∀ w11,drawn w3 w11->∃ (I5:WP),I5 w11/\∃ o14 k30 k31,(∀ w12,I5 w12->cL w12 (Addr.add (aM k1) 1) (vS o14 k30 k31))/\aw ((k30:Int) - o)/\br ((k16:Int) == (k30:Int) - o) (∃ n12,(∀ w13,I5 w13->cL w13 (Addr.add (aM k1) 3) (iI n12))/\br (decide ((k10:Int) + o<=n12)) (∃ n13,(∀ w14,I5 w14->cL w14 (Addr.add (aM k1) 3) (iI n13))/\R (vU [vS o8 k16 k17,vB (decide (n13 < (k6:Int) + (k8:Int)))]) w11) (R (vU [vS o8 k16 k17,vB false]) w11)) (R (vU [vS o8 k16 k17,vB false]) w11)))):ay Tryz.prog 90 [(.agg #[(.slice a b c),(.slice d e f),(.slice g i j),(.int .i64 k),(.slice l m n)]),(.int .i64 o)] w R:=rv Tryz.func90 p9 (by kernel_rfl) h
abbrev yp:FuncId:=109
def uU:bh:={ rngs:=[],loops:=[],joins:=[],blocks:=[] }
theorem uV {a:Wr} {w:Ws} {R:Value->WP} (h:br (Option.isNone a) (R (iI 0) w) (nn a λa1=>∃ n1,World.cell? w (Addr.add a1 1) = some (iI n1)/\R (iI n1) w)):ay Tryz.prog 109 [(.pointer a)] w R:=rv Tryz.func109 uU (by kernel_rfl) h
abbrev wK:FuncId:=110
def tE:bh:={ rngs:=[],loops:=[],joins:=[],blocks:=[] }
theorem tF {a:Wr} {b c:Nat} {d:Int} {w:Ws} {R:Value->WP} (h:nz 64/\aw (Int.tdiv d 64)/\idx a b (Int.tdiv d 64) 1 λa1=>∃ n1,World.cell? w a1 = some (Value.int IntKind.u64 n1)/\nz 64/\ns (Int.tmod d 64)/\R (vB (kH BinOp.and IntKind.u64 (bw IntKind.u64 n1 (Int.tmod d 64)) 1 == 1)) w):ay Tryz.prog 110 [(.slice a b c),(.int .i64 d)] w R:=rv Tryz.func110 tE (by kernel_rfl) h
abbrev wL:FuncId:=111
def tG:bh:={ rngs:=[],loops:=[],joins:=[],blocks:=[] }
theorem tH {a:Wr} {b c:Nat} {d:Int} {w:Ws} {R:Value->WP} (h:∀ w1,drawn w w1->∃ (I1:WP),I1 w1/\nz 64/\aw (Int.tdiv d 64)/\idx a b (Int.tdiv d 64) 1 λa1=>∃ n1,(∀ w2,I1 w2->World.cell? w2 a1 = some (Value.int IntKind.u64 n1))/\nz 64/\ns (Int.tmod d 64)/\idx a b (Int.tdiv d 64) 1 λa2=>st1 w1 a2 (Value.int IntKind.u64 (kH BinOp.or IntKind.u64 n1 (LC IntKind.u64 1 (Int.tmod d 64)))) λw3=>R (vU []) w3):ay Tryz.prog 111 [(.slice a b c),(.int .i64 d)] w R:=rv Tryz.func111 tG (by kernel_rfl) h
abbrev oV:FuncId:=112
def mU:bh:={ rngs:=[],loops:=[],joins:=[],blocks:=[] }
theorem mW {a:FuncId} {b:List Value} {w:Ws} {R:Value->WP} (h:rE 165 [vS none 0 0,Value.func (Fn.func a) (Array.mk []) (Array.mk b)] w λv1 w1=>∃ o1 k1 k2,v1 = vS o1 k1 k2/\R (vS o1 k1 k2) w1):ay Tryz.prog 112 [(.func (.func a) #[] ⟨b⟩)] w R:=rv Tryz.func112 mU (by kernel_rfl) h
abbrev zR:FuncId:=113
def wM:bh:={ rngs:=[],loops:=[],joins:=[],blocks:=[] }
theorem wN {a:Wr} {w:Ws} {R:Value->WP} (h:new w (oC [vS none 0 0] 190) λk1 w1=>br (!Option.isNone a) (nn a λa1=>∃ o1 k2 k3,World.cell? w1 a1 = some (vS o1 k2 k3)/\rE 166 [vS o1 k2 k3] w1 λv1 w2=>∃ o2 k4 k5,v1 = vS o2 k4 k5/\st1 w2 (aM k1) (vS o2 k4 k5) λw3=>R (Value.func (Fn.func 167) (Array.mk []) (Array.mk [vP (some (aM k1))])) w3) (R (Value.func (Fn.func 167) (Array.mk []) (Array.mk [vP (some (aM k1))])) w1)):ay Tryz.prog 113 [(.pointer a)] w R:=rv Tryz.func113 wM (by kernel_rfl) h
abbrev mX:FuncId:=124
def lE:bh:={ rngs:=[],loops:=[(4,[(3,(.one (.int .i64)))]),(10,[(5,(.one (.int .i64)))])],joins:=[(2,[(25,(.one .bool))]),(8,[(62,(.one .bool))])],blocks:=[] }
theorem lF {a:Wr} {b c:Nat} {d:Wr} {e f:Nat} {g:Wr} {i j:Nat} {k:Int} {l:Wr} {m n:Nat} {w:Ws} {R:Value->WP} (h:new w (oC [vS a b c,vS d e f,vS g i j,iI k,vS l m n] 27) λk1 w1=>∃ (x1:lP [(25,pI)]),(∃ o1 k2 k3,cL w1 (aM k1) (vS o1 k2 k3)/\br ((k2:Int) == 0) (x1 true w1) (∃ o2 k4 k5,cL w1 (aM k1) (vS o2 k4 k5)/\idx o2 k4 0 2 λa1=>∃ s1,cL w1 a1 (Value.string s1)/\br (!ByteArray.toList s1 == ByteArray.toList (ByteArray.mk (Array.mk []))) (x1 true w1) (∃ o3 k6 k7,cL w1 (aM k1) (vS o3 k6 k7)/\idx o3 k6 0 2 λa2=>∃ n1,cL w1 (Addr.add a2 1) (iI n1)/\x1 (n1 != 0) w1)))/\∀ (I1:Nat->Value) (b1:Bool) (w2:Ws),x1 b1 w2->br b1 (R (vB false) w2) (∃ (x2:lP [(3,aD)]),∃ (x3:lN [(3,aD)]),x2 1 w2/\∀ (I2:Nat->Value) (n2:Int) (w3:Ws),x2 n2 w3->∃ o4 k8 k9,cL w3 (aM k1) (vS o4 k8 k9)/\br (decide (n2 < (k8:Int))) (∃ o5 k10 k11,cL w3 (aM k1) (vS o5 k10 k11)/\idx o5 k10 n2 2 λa3=>∃ s2,cL w3 a3 (Value.string s2)/\rE 178 [Value.string s2] w3 λv1 w4=>∃ b2,v1 = vB b2/\∃ (x4:lP [(62,pI)]),(∀ w5,drawn w4 w5->∃ (I3:WP),I3 w5/\br (!b2) (x4 true w5) (∃ o6 k12 k13,(∀ w6,I3 w6->cL w6 (aM k1) (vS o6 k12 k13))/\idx o6 k12 n2 2 λa4=>∃ n3,(∀ w7,I3 w7->cL w7 (Addr.add a4 1) (iI n3))/\br (decide (n3 < 0)) (x4 true w5) (∃ o7 k14 k15,(∀ w8,I3 w8->cL w8 (aM k1) (vS o7 k14 k15))/\idx o7 k14 n2 2 λa5=>∃ n4,(∀ w9,I3 w9->cL w9 (Addr.add a5 1) (iI n4))/\∃ o8 k16 k17,(∀ w10,I3 w10->cL w10 (Addr.add (aM k1) 2) (vS o8 k16 k17))/\x4 (decide ((k16:Int) < n4)) w5)))/\∀ (I4:Nat->Value) (b3:Bool) (w11:Ws),x4 b3 w11->br b3 (R (vB false) w11) (∃ (x5:lP [(5,aD)]),∃ (x6:lN [(5,aD)]),x5 1 w11/\∀ (I5:Nat->Value) (n5:Int) (w12:Ws),x5 n5 w12->br (decide (n5 < n2)) (∀ w13,drawn w12 w13->∃ (I6:WP),I6 w13/\∃ o9 k18 k19,(∀ w14,I6 w14->cL w14 (aM k1) (vS o9 k18 k19))/\idx o9 k18 n5 2 λa6=>∃ s3,(∀ w15,I6 w15->cL w15 a6 (Value.string s3))/\∃ o10 k20 k21,(∀ w16,I6 w16->cL w16 (aM k1) (vS o10 k20 k21))/\idx o10 k20 n2 2 λa7=>∃ s4,(∀ w17,I6 w17->cL w17 a7 (Value.string s4))/\br (ByteArray.toList s3 == ByteArray.toList s4) (R (vB false) w13) (aw (n5 + 1)/\x5 (n5 + 1) w13/\x6 (n5 + 1) w13 < x6 n5 w12)) (aw (n2 + 1)/\x2 (n2 + 1) w12/\x3 (n2 + 1) w12 < x3 n2 w3))) (R (vB true) w3))):ay Tryz.prog 124 [(.agg #[(.slice a b c),(.slice d e f),(.slice g i j),(.int .i64 k),(.slice l m n)])] w R:=rv Tryz.func124 lE (by kernel_rfl) h
abbrev mq:FuncId:=125
def kJ:bh:={ rngs:=[],loops:=[(2,[(3,(.one (.int .i64)))]),(6,[(4,(.one .bool)),(5,(.one (.int .i64)))])],joins:=[],blocks:=[] }
theorem kK {a:Wr} {b c:Nat} {d:Wr} {e f:Nat} {g:Wr} {i j:Nat} {k:Int} {l:Wr} {m n:Nat} {w:Ws} {R:Value->WP} (h:new w (oC [vS a b c,vS d e f,vS g i j,iI k,vS l m n] 27) λk1 w1=>∃ (x1:lP [(3,aD)]),∃ (x2:lN [(3,aD)]),x1 0 w1/\∀ (I1:Nat->Value) (n1:Int) (w2:Ws),x1 n1 w2->∃ o1 k2 k3,cL w2 (Addr.add (aM k1) 2) (vS o1 k2 k3)/\br (decide (n1 < (k2:Int))) (∃ (x3:lP [(4,pI),(5,aD)]),∃ (x4:lN [(4,pI),(5,aD)]),x3 false 0 w2/\∀ (I2:Nat->Value) (b1:Bool) (n2:Int) (w3:Ws),x3 b1 n2 w3->∃ o2 k4 k5,cL w3 (aM k1) (vS o2 k4 k5)/\br (decide (n2 < (k4:Int))) (br b1 (aw (n2 + 1)/\x3 true (n2 + 1) w3/\x4 true (n2 + 1) w3 < x4 b1 n2 w3) (∃ o3 k6 k7,cL w3 (aM k1) (vS o3 k6 k7)/\idx o3 k6 n2 2 λa1=>∃ n3,cL w3 (Addr.add a1 1) (iI n3)/\aw (n1 + 1)/\aw (n2 + 1)/\x3 (n3 == n1 + 1) (n2 + 1) w3/\x4 (n3 == n1 + 1) (n2 + 1) w3 < x4 b1 n2 w3)) (br (!b1) (R (vB false) w3) (∃ o4 k8 k9,cL w3 (Addr.add (aM k1) 2) (vS o4 k8 k9)/\idx o4 k8 n1 1 λa2=>∃ n4,cL w3 a2 (iI n4)/\br (decide (n4 < 1)) (R (vB false) w3) (∃ o5 k10 k11,cL w3 (Addr.add (aM k1) 2) (vS o5 k10 k11)/\idx o5 k10 n1 1 λa3=>∃ n5,cL w3 a3 (iI n5)/\br (decide (3 < n5)) (R (vB false) w3) (aw (n1 + 1)/\x1 (n1 + 1) w3/\x2 (n1 + 1) w3 < x2 n1 w2))))) (R (vB true) w2)):ay Tryz.prog 125 [(.agg #[(.slice a b c),(.slice d e f),(.slice g i j),(.int .i64 k),(.slice l m n)])] w R:=rv Tryz.func125 kJ (by kernel_rfl) h
abbrev nV:FuncId:=126
def mr:bh:={ rngs:=[],loops:=[(2,[(5,(.one (.int .i64)))]),(8,[(7,(.one (.int .i64)))])],joins:=[],blocks:=[] }
theorem mu {a:Wr} {b c:Nat} {d:Wr} {e f:Nat} {g:Wr} {i j:Nat} {k:Int} {l:Wr} {m n:Nat} {o:Int} {w:Ws} {R:Value->WP} (h:new w (oC [vS a b c,vS d e f,vS g i j,iI k,vS l m n] 27) λk1 w1=>∃ (x1:lP [(5,aD)]),∃ (x2:lN [(5,aD)]),x1 o w1/\∀ (I1:Nat->Value) (n1:Int) (w2:Ws),x1 n1 w2->∃ o1 k2 k3,cL w2 (Addr.add (aM k1) 1) (vS o1 k2 k3)/\br (decide (n1 < (k2:Int))) (∃ o2 k4 k5,cL w2 (Addr.add (aM k1) 1) (vS o2 k4 k5)/\idx o2 k4 n1 1 λa1=>∃ s1,cL w2 a1 (Value.string s1)/\rE 179 [Value.string s1] w2 λv1 w3=>∃ b1,v1 = vB b1/\br (!b1) (R (vB false) w3) (∃ (x3:lP [(7,aD)]),∃ (x4:lN [(7,aD)]),x3 o w3/\∀ (I2:Nat->Value) (n2:Int) (w4:Ws),x3 n2 w4->br (decide (n2 < n1)) (∀ w5,drawn w4 w5->∃ (I3:WP),I3 w5/\∃ o3 k6 k7,(∀ w6,I3 w6->cL w6 (Addr.add (aM k1) 1) (vS o3 k6 k7))/\idx o3 k6 n2 1 λa2=>∃ s2,(∀ w7,I3 w7->cL w7 a2 (Value.string s2))/\∃ o4 k8 k9,(∀ w8,I3 w8->cL w8 (Addr.add (aM k1) 1) (vS o4 k8 k9))/\idx o4 k8 n1 1 λa3=>∃ s3,(∀ w9,I3 w9->cL w9 a3 (Value.string s3))/\br (ByteArray.toList s2 == ByteArray.toList s3) (R (vB false) w5) (aw (n2 + 1)/\x3 (n2 + 1) w5/\x4 (n2 + 1) w5 < x4 n2 w4)) (aw (n1 + 1)/\x1 (n1 + 1) w4/\x2 (n1 + 1) w4 < x2 n1 w2))) (R (vB true) w2)):ay Tryz.prog 126 [(.agg #[(.slice a b c),(.slice d e f),(.slice g i j),(.int .i64 k),(.slice l m n)]),(.int .i64 o)] w R:=rv Tryz.func126 mr (by kernel_rfl) h
abbrev mY:FuncId:=127
def lG:bh:={ rngs:=[],loops:=[(2,[(7,(.one (.int .i64)))]),(8,[(9,(.one (.int .i64)))])],joins:=[(6,[(47,(.one .bool))])],blocks:=[] }
theorem lH {a:Wr} {b c:Nat} {d:Wr} {e f:Nat} {g:Wr} {i j:Nat} {k:Int} {l:Wr} {m n:Nat} {o p:Int} {w:Ws} {R:Value->WP} (h:new w (oC [vS a b c,vS d e f,vS g i j,iI k,vS l m n] 27) λk1 w1=>∃ (x1:lP [(7,aD)]),∃ (x2:lN [(7,aD)]),x1 o w1/\∀ (I1:Nat->Value) (n1:Int) (w2:Ws),x1 n1 w2->∃ o1 k2 k3,cL w2 (Addr.add (aM k1) 4) (vS o1 k2 k3)/\br (decide (n1 < (k2:Int))) (∃ o2 k4 k5,cL w2 (Addr.add (aM k1) 4) (vS o2 k4 k5)/\idx o2 k4 n1 3 λa1=>∃ n2 o3 k6 k7 n3,rA w2 a1 3 [iI n2,vS o3 k6 k7,iI n3]/\new w2 (oC [iI 0,vS none 0 0,iI 0] 81) λk8 w3=>cG w3 (aM k8) [iI n2,vS o3 k6 k7,iI n3] λw4=>∃ (x3:lP [(47,pI)]),(∀ w5,drawn w4 w5->∃ (I2:WP),I2 w5/\∃ n4,(∀ w6,I2 w6->cL w6 (aM k8) (iI n4))/\br (decide (n4 < p)) (x3 true w5) (∃ n5,(∀ w7,I2 w7->cL w7 (aM k8) (iI n5))/\∃ o4 k9 k10 o5 k11 k12 o6 k13 k14 n6 o7 k15 k16,(∀ w8,I2 w8->rA w8 (aM k1) 5 [vS o4 k9 k10,vS o5 k11 k12,vS o6 k13 k14,iI n6,vS o7 k15 k16])/\rE 72 [vG [vS o4 k9 k10,vS o5 k11 k12,vS o6 k13 k14,iI n6,vS o7 k15 k16]] w5 λv1 w9=>∃ n7,v1 = iI n7/\∃ (I3:WP),I3 w9/\(∀ w10,I3 w10->I2 w10)/\br (decide (n7<=n5)) (x3 true w9) (∃ n8,(∀ w11,I3 w11->cL w11 (Addr.add (aM k8) 2) (iI n8))/\br (decide (n8 < 0)) (x3 true w9) (∃ n9,(∀ w12,I3 w12->cL w12 (Addr.add (aM k8) 2) (iI n9))/\∃ o8 k17 k18,(∀ w13,I3 w13->cL w13 (Addr.add (aM k1) 2) (vS o8 k17 k18))/\x3 (decide ((k17:Int) < n9)) w9))))/\∀ (I4:Nat->Value) (b1:Bool) (w14:Ws),x3 b1 w14->br b1 (R (vB false) w14) (∃ (x4:lP [(9,aD)]),∃ (x5:lN [(9,aD)]),x4 0 w14/\∀ (I5:Nat->Value) (n10:Int) (w15:Ws),x4 n10 w15->∃ o9 k19 k20,cL w15 (Addr.add (aM k8) 1) (vS o9 k19 k20)/\br (decide (n10 < (k19:Int))) (∃ o10 k21 k22,cL w15 (Addr.add (aM k8) 1) (vS o10 k21 k22)/\idx o10 k21 n10 1 λa2=>∃ n11,cL w15 a2 (iI n11)/\br (decide (n11 < 1)) (R (vB false) w15) (∃ o11 k23 k24 o12 k25 k26 o13 k27 k28 n12 o14 k29 k30,rA w15 (aM k1) 5 [vS o11 k23 k24,vS o12 k25 k26,vS o13 k27 k28,iI n12,vS o14 k29 k30]/\rE 72 [vG [vS o11 k23 k24,vS o12 k25 k26,vS o13 k27 k28,iI n12,vS o14 k29 k30]] w15 λv2 w16=>∃ n13,v2 = iI n13/\br (decide (n13<=n11)) (R (vB false) w16) (∃ o15 k31 k32,cL w16 (aM k1) (vS o15 k31 k32)/\br (decide ((k31:Int)<=n11)) (br (decide (n11 < p)) (R (vB false) w16) (aw (n10 + 1)/\x4 (n10 + 1) w16/\x5 (n10 + 1) w16 < x5 n10 w15)) (aw (n10 + 1)/\x4 (n10 + 1) w16/\x5 (n10 + 1) w16 < x5 n10 w15)))) (aw (n1 + 1)/\x1 (n1 + 1) w15/\x2 (n1 + 1) w15 < x2 n1 w2))) (R (vB true) w2)):ay Tryz.prog 127 [(.agg #[(.slice a b c),(.slice d e f),(.slice g i j),(.int .i64 k),(.slice l m n)]),(.int .i64 o),(.int .i64 p)] w R:=rv Tryz.func127 lG (by kernel_rfl) h
abbrev qb:FuncId:=128
def nW:bh:={ rngs:=[],loops:=[(3,[(5,(.one .slice)),(6,(.one (.int .i64)))]),(7,[(7,(.one .bool)),(8,(.one (.int .i64)))])],joins:=[],blocks:=[] }
theorem nX {a:Wr} {b c:Nat} {d:Wr} {e f:Nat} {g:Wr} {i j:Nat} {k:Int} {l:Wr} {m n:Nat} {o:Int} {w:Ws} {R:Value->WP} (h:new w (oC [vS a b c,vS d e f,vS g i j,iI k,vS l m n] 27) λk1 w1=>∃ (x1:lP [(5,mL),(6,aD)]),∃ (x2:lN [(5,mL),(6,aD)]),x1 none 0 0 o w1/\∀ (I1:Nat->Value) (o1:Wr) (k2 k3:Nat) (n1:Int) (w2:Ws),x1 o1 k2 k3 n1 w2->∃ o2 k4 k5,cL w2 (Addr.add (aM k1) 4) (vS o2 k4 k5)/\br (decide (n1 < (k4:Int))) (∃ (x3:lP [(7,pI),(8,aD)]),∃ (x4:lN [(7,pI),(8,aD)]),x3 false 0 w2/\∀ (I2:Nat->Value) (b1:Bool) (n2:Int) (w3:Ws),x3 b1 n2 w3->br (decide (n2 < (k2:Int))) (∀ w4,drawn w3 w4->∃ (I3:WP),I3 w4/\br b1 (aw (n2 + 1)/\x3 true (n2 + 1) w4/\x4 true (n2 + 1) w4 < x4 b1 n2 w3) (idx o1 k2 n2 1 λa1=>∃ n3,(∀ w5,I3 w5->cL w5 a1 (iI n3))/\∃ o3 k6 k7,(∀ w6,I3 w6->cL w6 (Addr.add (aM k1) 4) (vS o3 k6 k7))/\idx o3 k6 n1 3 λa2=>∃ n4,(∀ w7,I3 w7->cL w7 a2 (iI n4))/\aw (n2 + 1)/\x3 (n3 == n4) (n2 + 1) w4/\x4 (n3 == n4) (n2 + 1) w4 < x4 b1 n2 w3)) (br (!b1) (∃ o4 k8 k9,cL w3 (Addr.add (aM k1) 4) (vS o4 k8 k9)/\idx o4 k8 n1 3 λa3=>∃ n5,cL w3 a3 (iI n5)/\new w3 (oC [iI n5] 3) λk10 w8=>rS (jT 24 (Array.mk [vS o1 k2 k3,vS (some (aM k10)) 1 1])) w8 λv1 w9=>∃ o5 k11 k12,v1 = vS o5 k11 k12/\aw (n1 + 1)/\x1 o5 k11 k12 (n1 + 1) w9/\x2 o5 k11 k12 (n1 + 1) w9 < x2 o1 k2 k3 n1 w2) (aw (n1 + 1)/\x1 o1 k2 k3 (n1 + 1) w3/\x2 o1 k2 k3 (n1 + 1) w3 < x2 o1 k2 k3 n1 w2))) (R (vS o1 k2 k3) w2)):ay Tryz.prog 128 [(.agg #[(.slice a b c),(.slice d e f),(.slice g i j),(.int .i64 k),(.slice l m n)]),(.int .i64 o)] w R:=rv Tryz.func128 nW (by kernel_rfl) h
abbrev ig:FuncId:=136
def f_:bh:={ rngs:=[],loops:=[(2,[(8,(.one (.int .i64)))])],joins:=[],blocks:=[] }
theorem ga {a:Wr} {b c:Nat} {d e:Int} {w:Ws} {R:Value->WP} (h:new w (oC [iI d,iI e] 104) λk1 w1=>∃ (x1:lP [(8,aD)]),∃ (x2:lN [(8,aD)]),x1 0 w1/\∀ (I1:Nat->Value) (n1:Int) (w2:Ws),x1 n1 w2->br (decide (n1 < (b:Int))) (∀ w3,drawn w2 w3->∃ (I2:WP),I2 w3/\∃ n2 n3,(∀ w4,I2 w4->V.rowAt w4 (aM k1) 0 2 = some [iI n2,iI n3])/\idx a b n1 2 λa1=>∃ n4 n5,(∀ w5,I2 w5->V.rowAt w5 a1 0 2 = some [iI n4,iI n5])/\∃ v1,(∀ w6,I2 w6->Sem.run Proofs.Tryz.prog (fu BinOp.eql 104 (Operand.tmp 11) (Operand.tmp 15) (vG [iI n2,iI n3]) (vG [iI n4,iI n5])) w6 = Result.ok v1 w6)/\∃ b1,v1 = vB b1/\br b1 (R (iI n1) w3) (aw (n1 + 1)/\x1 (n1 + 1) w3/\x2 (n1 + 1) w3 < x2 n1 w2)) (R (iI (-1)) w2)):ay Tryz.prog 136 [(.slice a b c),(.agg #[(.int .i64 d),(.int .i64 e)])] w R:=rv Tryz.func136 f_ (by kernel_rfl) h
abbrev Bv:FuncId:=138
def yq:bh:={ rngs:=[],loops:=[],joins:=[],blocks:=[] }
def qd (a:ByteArray) (w:Ws) (R:Value->WP):Prop :=  br (!ByteArray.toList a == ByteArray.toList (ByteArray.mk (Array.mk []))) (br (decide ((↑(ByteArray.size a):Int)<=16)) (r_ Proofs.Tryz.prog Ev 183 [Value.string a,Value.func (Fn.func 184) (Array.mk []) (Array.mk [])] w λv1 w1=>∃ n1,v1 = iI n1/\R (vB (decide (n1 < 0))) w1) (R (vB false) w)) (R (vB false) w)
theorem yr (a:ByteArray) (w:Ws) (R:Value->WP) (h:qd a w R):ay Tryz.prog 138 [(.string a)] w R:=rv Tryz.func138 yq (by kernel_rfl) h

abbrev Bw:FuncId:=139
def yu:bh:={ rngs:=[],loops:=[(3,[(9,(.one (.int .i64)))])],joins:=[],blocks:=[] }
theorem yw {a:Wr} {b c:Nat} {w:Ws} {R:Value->WP} (h:new w (Obj.map (Array.mk []) 0) λk1 w1=>∃ (x1:lP [(9,aD)]),∃ (x2:lN [(9,aD)]),x1 0 w1/\∀ (I1:Nat->Value) (n1:Int) (w2:Ws),x1 n1 w2->br (decide (n1 < (b:Int))) (idx a b n1 1 λa1=>∃ s1,cL w2 a1 (Value.string s1)/\aU Proofs.Tryz.prog (Instr.lookup 99 (Value.map (some k1)) (Value.string s1) false) w2 λv1 w3=>∃ n2,v1 = iI n2/\aw (n2 + 1)/\aU Proofs.Tryz.prog (Instr.mapUpdate 99 (Value.map (some k1)) (Value.string s1) (iI (n2 + 1))) w3 λ(x3:Unit) (w4:Ws)=>aw (n1 + 1)/\x1 (n1 + 1) w4/\x2 (n1 + 1) w4 < x2 n1 w2) (∃ v2,Sem.run Proofs.Tryz.prog (Builtin.len_ (Array.mk [99]) 3 (Array.mk [Value.map (some k1)])) w2 = Result.ok v2 w2/\∃ n3,v2 = iI n3/\R (vB (n3 == (b:Int))) w2)):ay Tryz.prog 139 [(.slice a b c)] w R:=rv Tryz.func139 yu (by kernel_rfl) h
abbrev fK:FuncId:=140
def eW:bh:={ rngs:=[],loops:=[],joins:=[],blocks:=[] }
theorem eZ {a:Wr} {b c:Nat} {d:FuncId} {e:List Value} {w:Ws} {R:Value->WP} (h:rE 185 [vS a b c,Value.func (Fn.func d) (Array.mk []) (Array.mk e)] w λv1 w1=>∃ n1,v1 = iI n1/\R (vB (decide (0<=n1))) w1):ay Tryz.prog 140 [(.slice a b c),(.func (.func d) #[] ⟨e⟩)] w R:=rv Tryz.func140 eW (by kernel_rfl) h
abbrev iw:FuncId:=141
def sg:bh:={ rngs:=[],loops:=[],joins:=[],blocks:=[] }
theorem si {a:ByteArray} {w:Ws} {R:Value->WP} (h:rE 142 [Value.string a] w λv1 w1=>∃ b1,v1 = vB b1/\R (vB !b1) w1):ay Tryz.prog 141 [(.string a)] w R:=rv Tryz.func141 sg (by kernel_rfl) h
abbrev Bx:FuncId:=142
def yx:bh:={ rngs:=[],loops:=[(2,[(7,(.one (.int .i64)))])],joins:=[],blocks:=[] }
def qe (a:ByteArray) (w:Ws) (R:Value->WP):Prop :=  ∃ (x1:lP [(7,aD)]),∃ (x2:lN [(7,aD)]),x1 0 w/\∀ (I1:Nat->Value) (n1:Int) (w1:Ws),x1 n1 w1->br (decide (n1 < (↑(ByteArray.size a):Int))) (Db n1 (ByteArray.size a)/\br ((↑(UInt8.toNat (sb a (Int.toNat n1))):Int) != 95) (br (decide (kH BinOp.or IntKind.u8 (↑(UInt8.toNat (sb a (Int.toNat n1))):Int) 32 < 97)) (br (n1 == 0) (R (vB false) w1) (br (decide ((↑(UInt8.toNat (sb a (Int.toNat n1))):Int) < 48)) (R (vB false) w1) (br (decide (57 < (↑(UInt8.toNat (sb a (Int.toNat n1))):Int))) (R (vB false) w1) (aw (n1 + 1)/\x1 (n1 + 1) w1/\x2 (n1 + 1) w1 < x2 n1 w1)))) (br (decide (122 < kH BinOp.or IntKind.u8 (↑(UInt8.toNat (sb a (Int.toNat n1))):Int) 32)) (br (n1 == 0) (R (vB false) w1) (br (decide ((↑(UInt8.toNat (sb a (Int.toNat n1))):Int) < 48)) (R (vB false) w1) (br (decide (57 < (↑(UInt8.toNat (sb a (Int.toNat n1))):Int))) (R (vB false) w1) (aw (n1 + 1)/\x1 (n1 + 1) w1/\x2 (n1 + 1) w1 < x2 n1 w1)))) (aw (n1 + 1)/\x1 (n1 + 1) w1/\x2 (n1 + 1) w1 < x2 n1 w1))) (aw (n1 + 1)/\x1 (n1 + 1) w1/\x2 (n1 + 1) w1 < x2 n1 w1)) (br (!ByteArray.toList a == ByteArray.toList (ByteArray.mk (Array.mk []))) (R (vB (decide ((↑(ByteArray.size a):Int)<=16))) w1) (R (vB false) w1))
theorem yy (a:ByteArray) (w:Ws) (R:Value->WP) (h:qe a w R):ay Tryz.prog 142 [(.string a)] w R:=rv Tryz.func142 yx (by kernel_rfl) h

abbrev kL:FuncId:=143
def jI:bh:={ rngs:=[],loops:=[],joins:=[],blocks:=[] }
theorem jJ {a:Wr} {b c:Nat} {d:Int} {w:Ws} {R:Value->WP} (h:rE 186 [vS a b c,iI d] w λv1 w1=>∃ n1,v1 = iI n1/\R (vB (decide (0<=n1))) w1):ay Tryz.prog 143 [(.slice a b c),(.int .i64 d)] w R:=rv Tryz.func143 jI (by kernel_rfl) h
abbrev yz:FuncId:=151
def uW:bh:={ rngs:=[],loops:=[],joins:=[],blocks:=[] }
theorem uX {a b:Int} {w:Ws} {R:Value->WP} (h:rE 157 [iI a] w λv1 w1=>∃ b1,v1 = vB b1/\br b1 (rE 157 [iI b] w1 λv2 w2=>∃ b2,v2 = vB b2/\br (!b2) (R (vB true) w2) (R (vB (decide (a < b))) w2)) (R (vB (decide (a < b))) w1)):ay Tryz.prog 151 [(.int .i64 a),(.int .i64 b)] w R:=rv Tryz.func151 uW (by kernel_rfl) h
abbrev wO:FuncId:=157
def tI:bh:={ rngs:=[],loops:=[],joins:=[],blocks:=[] }
theorem kM {a:Int} {w:Ws} {R:Value->WP} (h:R (vB (a != a)) w):ay Tryz.prog 157 [(.int .i64 a)] w R:=rv Tryz.func157 tI (by kernel_rfl) h
abbrev j2:FuncId:=165
def jj:bh:={ rngs:=[(2,[(7,(.one (.int .i64)))])],loops:=[],joins:=[],blocks:=[] }
theorem jk {a:Wr} {b c:Nat} {d:FuncId} {e:List Value} {w:Ws} {R:Value->WP} (h:new w (oC [vS a b c] 24) λk1 w1=>uI (Proofs.YtndaepmjkbmjmaaGreatDoor.Fn d) (∃ (x1:List (List Value)),∃ (x2:au),∃ (x3:au),∃ (I1:Nat->au),∃ (x4:au),∃ (I2:Nat->au),∃ (x5:List au),St w1 (I1 0 :: x2 :: x5)/\(∀ (x6:Hp),aG x5 x6->x3 x6)/\Sz Proofs.Tryz.prog d [] e x2 x3 x1/\(∀ (x7:List Value),x7∈x1->∃ n1,x7 = [iI n1])/\(∀ (k2:Nat) (n2:Int),List.get?Internal x1 k2 = some [iI n2]->∀ (x8:List au) (w2:Ws),OY x8 x5->St w2 (I1 k2 :: x8)->∃ (x9:au),St w2 (x9 :: x8)/\∀ (x10:List au) (w3:Ws),OY x10 x5->St w3 (x9 :: x10)->∃ o1 k3 k4,World.cell? w3 (aM k1) = some (vS o1 k3 k4)/\new w3 (oC [iI n2] 3) λk5 w4=>rS (jT 24 (Array.mk [vS o1 k3 k4,vS (some (aM k5)) 1 1])) w4 λv1 w5=>∃ o2 k6 k7,v1 = vS o2 k6 k7/\st1 w5 (aM k1) (vS o2 k6 k7) λw6=>St w6 (I1 (k2 + 1) :: x10))/\(∀ (w7:Ws),St w7 (I1 (List.length x1) :: x2 :: x5)->∃ o3 k8 k9,World.cell? w7 (aM k1) = some (vS o3 k8 k9)/\∀ (w8:Ws),hp w8 = hp w7->R (vS o3 k8 k9) w8)/\(∀ (w9:Ws),St w9 (x4 :: x2 :: x5)->∀ (w10:Ws),hp w10 = hp w9->R (vS none 0 0) w10)/\True)):ay Tryz.prog 165 [(.slice a b c),(.func (.func d) #[] ⟨e⟩)] w R:=rv Tryz.func165 jj (by kernel_rfl) h
abbrev ij:FuncId:=166
def gb:bh:={ rngs:=[],loops:=[],joins:=[],blocks:=[] }
theorem gd {a:Wr} {b c:Nat} {w:Ws} {R:Value->WP} (h:br (Option.isNone a) (R (vS none 0 0) w) (new w (oC [] 241) λk1 w1=>rS (jT 190 (Array.mk [vS (some (aM k1)) 0 0,vS a b c])) w1 λv1 w2=>∃ o1 k2 k3,v1 = vS o1 k2 k3/\R (vS o1 k2 k3) w2)):ay Tryz.prog 166 [(.slice a b c)] w R:=rv Tryz.func166 gb (by kernel_rfl) h
abbrev lZ:FuncId:=167
def jU:bh:={ rngs:=[],loops:=[(1,[(7,(.one (.int .i64)))]),(3,[(4,(.one (.int .u64)))])],joins:=[],blocks:=[] }
def jl (E:Ws->Ws->Prop) (p0yield:Nat) (c0:Addr) (w:Ws) (R:Value->Ws->Prop):Prop :=  ∃ o1 k1 k2,World.cell? w c0 = some (vS o1 k1 k2)/\∃ (x1:lP [(7,aD)]),∃ (x2:lN [(7,aD)]),x1 0 w/\∀ (I1:Nat->Value) (n1:Int) (w1:Ws),x1 n1 w1->br (decide (n1 < (↑k1:Int))) (idx o1 k1 n1 1 λa1=>∃ n2,World.cell? w1 a1 = some (Value.int IntKind.u64 n2)/\∃ (x3:lP [(4,S1.one (Cs.int IntKind.u64))]),∃ (x4:lN [(4,S1.one (Cs.int IntKind.u64))]),x3 n2 w1/\∀ (I2:Nat->Value) (n3:Int) (w2:Ws),x3 n3 w2->br (n3 != 0) (aw (64 * n1)/\r_ Proofs.Tryz.prog E 168 [Value.int IntKind.u64 n3] w2 λv1 w3=>∃ n4,v1 = iI n4/\aw (64 * n1 + n4)/\TG Proofs.Tryz.prog E p0yield [iI (64 * n1 + n4)] w3 λv2 w4=>∃ b1,v2 = vB b1/\br (!b1) (R (vT (Array.mk [])) w4) (x3 (kH BinOp.and IntKind.u64 n3 (IntKind.wrap IntKind.u64 (n3 - 1))) w4/\x4 (kH BinOp.and IntKind.u64 n3 (IntKind.wrap IntKind.u64 (n3 - 1))) w4 < x4 n3 w2)) (aw (n1 + 1)/\x1 (n1 + 1) w2/\x2 (n1 + 1) w2 < x2 n1 w1)) (R (vT (Array.mk [])) w1)
theorem oW (E:Ws->Ws->Prop) (p0yield:Nat) (c0:Addr) (hE:C8 E) (w:Ws) (R:Value->Ws->Prop) (h:jl E p0yield c0 w R):r_ Tryz.prog E 167 [(.func (.yield p0yield) #[] #[]),(.pointer (some c0))] w R :=
 O6 aL Rh mixed Tryz.func167 jU hE (by kernel_rfl) ((by kernel_rfl:Q8 Tryz.prog Ty Fn E jU Tryz.f167 [(.func (.yield p0yield) #[] #[]),(.pointer (some c0))] w R = jl E p0yield c0 w R) ▸ h)

abbrev j3:FuncId:=168
def jm:bh:={ rngs:=[],loops:=[],joins:=[],blocks:=[] }
theorem jn {a:Int} {w:Ws} {R:Value->WP} (h:br (a == 0) (R (iI 64) w) (ns 58/\idx (some (aM 0)) 64 (bw IntKind.u64 (IntKind.wrap IntKind.u64 (kH BinOp.and IntKind.u64 a (IntKind.wrap IntKind.u64 (0 - a)) * 285870213051353865)) 58) 1 λa1=>∃ n1,World.cell? w a1 = some (Value.int IntKind.u8 n1)/\aw n1/\R (iI n1) w)):ay Tryz.prog 168 [(.int .u64 a)] w R:=rv Tryz.func168 jm (by kernel_rfl) h
abbrev oX:FuncId:=178
def mZ:bh:={ rngs:=[],loops:=[(2,[(3,(.one (.int .i64)))])],joins:=[],blocks:=[] }
theorem m_ {a:ByteArray} {w:Ws} {R:Value->WP} (h:∃ (x1:lP [(3,aD)]),∃ (x2:lN [(3,aD)]),x1 0 w/\∀ (I1:Nat->Value) (n1:Int) (w1:Ws),x1 n1 w1->br (decide (n1 < (↑(ByteArray.size a):Int))) (Db n1 (ByteArray.size a)/\br (decide ((↑(UInt8.toNat (sb a (Int.toNat n1))):Int) < 32)) (R (vB false) w1) (Db n1 (ByteArray.size a)/\br (decide (126 < (↑(UInt8.toNat (sb a (Int.toNat n1))):Int))) (R (vB false) w1) (Db n1 (ByteArray.size a)/\br ((↑(UInt8.toNat (sb a (Int.toNat n1))):Int) == 39) (R (vB false) w1) (aw (n1 + 1)/\x1 (n1 + 1) w1/\x2 (n1 + 1) w1 < x2 n1 w1)))) (br (decide (1<=(↑(ByteArray.size a):Int))) (R (vB (decide ((↑(ByteArray.size a):Int)<=16))) w1) (R (vB false) w1))):ay Tryz.prog 178 [(.string a)] w R:=rv Tryz.func178 mZ (by kernel_rfl) h
abbrev oY:FuncId:=179
def nb:bh:={ rngs:=[],loops:=[(2,[(3,(.one (.int .i64)))])],joins:=[(3,[]),(5,[(4,(.one .bool))])],blocks:=[] }
theorem nf {a:ByteArray} {w:Ws} {R:Value->WP} (h:∃ (x1:lP [(3,aD)]),∃ (x2:lN [(3,aD)]),x1 0 w/\∀ (I1:Nat->Value) (n1:Int) (w1:Ws),x1 n1 w1->br (decide (n1 < (↑(ByteArray.size a):Int))) (∃ (x3:lP []),(∃ (x4:lP [(4,pI)]),(Db n1 (ByteArray.size a)/\br (decide (65<=(↑(UInt8.toNat (sb a (Int.toNat n1))):Int))) (Db n1 (ByteArray.size a)/\br (decide ((↑(UInt8.toNat (sb a (Int.toNat n1))):Int)<=90)) (x4 true w1) (Db n1 (ByteArray.size a)/\br (decide (97<=(↑(UInt8.toNat (sb a (Int.toNat n1))):Int))) (Db n1 (ByteArray.size a)/\br (decide ((↑(UInt8.toNat (sb a (Int.toNat n1))):Int)<=122)) (x4 true w1) (Db n1 (ByteArray.size a)/\x4 ((↑(UInt8.toNat (sb a (Int.toNat n1))):Int) == 95) w1)) (Db n1 (ByteArray.size a)/\x4 ((↑(UInt8.toNat (sb a (Int.toNat n1))):Int) == 95) w1))) (Db n1 (ByteArray.size a)/\br (decide (97<=(↑(UInt8.toNat (sb a (Int.toNat n1))):Int))) (Db n1 (ByteArray.size a)/\br (decide ((↑(UInt8.toNat (sb a (Int.toNat n1))):Int)<=122)) (x4 true w1) (Db n1 (ByteArray.size a)/\x4 ((↑(UInt8.toNat (sb a (Int.toNat n1))):Int) == 95) w1)) (Db n1 (ByteArray.size a)/\x4 ((↑(UInt8.toNat (sb a (Int.toNat n1))):Int) == 95) w1)))/\∀ (I2:Nat->Value) (b1:Bool) (w2:Ws),x4 b1 w2->Db n1 (ByteArray.size a)/\br (decide (48<=(↑(UInt8.toNat (sb a (Int.toNat n1))):Int))) (Db n1 (ByteArray.size a)/\br (decide ((↑(UInt8.toNat (sb a (Int.toNat n1))):Int)<=57)) (br (!b1) (br (!decide (0 < n1)) (R (vB false) w2) (x3 w2)) (x3 w2)) (br (!b1) (R (vB false) w2) (x3 w2))) (br (!b1) (R (vB false) w2) (x3 w2)))/\∀ (I3:Nat->Value) (w3:Ws),x3 w3->aw (n1 + 1)/\x1 (n1 + 1) w3/\x2 (n1 + 1) w3 < x2 n1 w1) (br (decide (1<=(↑(ByteArray.size a):Int))) (R (vB (decide ((↑(ByteArray.size a):Int)<=16))) w1) (R (vB false) w1))):ay Tryz.prog 179 [(.string a)] w R:=rv Tryz.func179 nb (by kernel_rfl) h
abbrev sj:FuncId:=183
def oZ:bh:={ rngs:=[],loops:=[],joins:=[],blocks:=[] }
theorem o_ {a:ByteArray} {b:FuncId} {c:List Value} {w:Ws} {R:Value->WP} (h:rE 233 [Value.string a,Value.func (Fn.func b) (Array.mk []) (Array.mk c),vB true] w λv1 w1=>∃ n1,v1 = iI n1/\R (iI n1) w1):ay Tryz.prog 183 [(.string a),(.func (.func b) #[] ⟨c⟩)] w R:=rv Tryz.func183 oZ (by kernel_rfl) h
abbrev iT:FuncId:=184
def tJ:bh:={ rngs:=[],loops:=[],joins:=[],blocks:=[] }
theorem tK {a:Int} {w:Ws} {R:Value->WP} (h:br (decide (a < 32)) (R (vB true) w) (br (decide (126 < a)) (R (vB true) w) (R (vB (a == 39)) w))):ay Tryz.prog 184 [(.int .i32 a)] w R:=rv Tryz.func184 tJ (by kernel_rfl) h
abbrev ik:FuncId:=185
def gf:bh:={ rngs:=[],loops:=[(2,[(8,(.one (.int .i64)))])],joins:=[],blocks:=[] }
theorem gh {a:Wr} {b c:Nat} {d:FuncId} {e:List Value} {w:Ws} {R:Value->WP} (h:∃ (x1:lP [(8,aD)]),∃ (x2:lN [(8,aD)]),x1 0 w/\∀ (I1:Nat->Value) (n1:Int) (w1:Ws),x1 n1 w1->br (decide (n1 < (b:Int))) (idx a b n1 1 λa1=>∃ s1,World.cell? w1 a1 = some (Value.string s1)/\uI (Proofs.YtndaepmjkbmjmaaGreatDoor.Fn d) (rE d (Value.string s1 :: e) w1 λv1 w2=>∃ b1,v1 = vB b1/\br b1 (R (iI n1) w2) (aw (n1 + 1)/\x1 (n1 + 1) w2/\x2 (n1 + 1) w2 < x2 n1 w1))) (R (iI (-1)) w1)):ay Tryz.prog 185 [(.slice a b c),(.func (.func d) #[] ⟨e⟩)] w R:=rv Tryz.func185 gf (by kernel_rfl) h
abbrev ng:FuncId:=186
def lI:bh:={ rngs:=[],loops:=[(2,[(8,(.one (.int .i64)))])],joins:=[],blocks:=[] }
theorem lJ {a:Wr} {b c:Nat} {d:Int} {w:Ws} {R:Value->WP} (h:∃ (x1:lP [(8,aD)]),∃ (x2:lN [(8,aD)]),x1 0 w/\∀ (I1:Nat->Value) (n1:Int) (w1:Ws),x1 n1 w1->br (decide (n1 < (b:Int))) (idx a b n1 1 λa1=>∃ n2,World.cell? w1 a1 = some (iI n2)/\br (d == n2) (R (iI n1) w1) (aw (n1 + 1)/\x1 (n1 + 1) w1/\x2 (n1 + 1) w1 < x2 n1 w1)) (R (iI (-1)) w1)):ay Tryz.prog 186 [(.slice a b c),(.int .i64 d)] w R:=rv Tryz.func186 lI (by kernel_rfl) h
abbrev iU:FuncId:=209
def iy:bh:={ rngs:=[],loops:=[],joins:=[],blocks:=[] }
theorem db {a:Wr} {b c:Nat} {d:FuncId} {e:List Value} {w:Ws} {R:Value->WP} (h:rE 245 [vS a b c,Value.func (Fn.func d) (Array.mk []) (Array.mk e)] w λv1 w1=>∃ n1,v1 = iI n1/\R (vB (decide (0<=n1))) w1):ay Tryz.prog 209 [(.slice a b c),(.func (.func d) #[] ⟨e⟩)] w R:=rv Tryz.func209 iy (by kernel_rfl) h
abbrev wP:FuncId:=213
def tL:bh:={ rngs:=[(6,[(17,(.one (.int .i64)))])],loops:=[(3,[(11,(.one (.int .i64)))])],joins:=[],blocks:=[] }
theorem tM {a b:Wr} {c d:Nat} {w:Ws} {R:Value->WP} (h:new w (oC [vP a] 118) λk1 w1=>new w1 (oC [iI 0] 3) λk2 w2=>st1 w2 (aM k2) (iI 0) λw3=>∃ (x1:lP [(11,aD)]),∃ (x2:lN [(11,aD)]),x1 0 w3/\∀ (I1:Nat->Value) (n1:Int) (w4:Ws),x1 n1 w4->br (decide (n1 < (c:Int))) (idx b c n1 1 λa1=>∃ o1,World.cell? w4 a1 = some (vP o1)/\rE 113 [vP o1] w4 λv1 w5=>∃ g1 x3,v1 = Value.func (Fn.func g1) (Array.mk []) (Array.mk x3)/\uI (Proofs.YtndaepmjkbmjmaaGreatDoor.Fn g1) (∃ (x4:List (List Value)),∃ (x5:au),∃ (x6:au),∃ (I2:Nat->au),∃ (x7:au),∃ (I3:Nat->au),∃ (x8:List au),St w5 (I2 0 :: x5 :: x8)/\(∀ (x9:Hp),aG x8 x9->x6 x9)/\Sz Proofs.Tryz.prog g1 [] x3 x5 x6 x4/\(∀ (x10:List Value),x10∈x4->∃ n2,x10 = [iI n2])/\(∀ (k3:Nat) (n3:Int),List.get?Internal x4 k3 = some [iI n3]->∀ (x11:List au) (w6:Ws),OY x11 x8->St w6 (I2 k3 :: x11)->∃ (x12:au),St w6 (x12 :: x11)/\∀ (x13:List au) (w7:Ws),OY x13 x8->St w7 (x12 :: x13)->∀ w8,drawn w7 w8->∃ (I4:WP),I4 w8/\∃ n4,(∀ w9,I4 w9->World.cell? w9 (aM k2) = some (iI n4))/\∃ o2,(∀ w10,I4 w10->World.cell? w10 (aM k1) = some (vP o2))/\new w8 (oC [iI n3] 3) λk4 w11=>I4 w11/\rE 60 [vP o2,vS (some (aM k4)) 1 1] w11 λv2 w12=>∃ n5,v2 = iI n5/\I4 w12/\aw (n4 + n5)/\st1 w12 (aM k2) (iI (n4 + n5)) λw13=>St w13 (I2 (k3 + 1) :: x13))/\(∀ (w14:Ws),St w14 (I2 (List.length x4) :: x5 :: x8)->aw (n1 + 1)/\x1 (n1 + 1) w14/\x2 (n1 + 1) w14 < x2 n1 w4)/\(∀ (w15:Ws),St w15 (x7 :: x5 :: x8)->∀ (w16:Ws),hp w16 = hp w15->R (iI 0) w16)/\True)) (∃ n6,World.cell? w4 (aM k2) = some (iI n6)/\∀ (w17:Ws),hp w17 = hp w4->R (iI n6) w17)):ay Tryz.prog 213 [(.pointer a),(.slice b c d)] w R:=rv Tryz.func213 tL (by kernel_rfl) h
abbrev nh:FuncId:=214
def lK:bh:={ rngs:=[],loops:=[],joins:=[],blocks:=[] }
theorem lL {a:Wr} {b c:Nat} {w:Ws} {R:Value->WP} (h:br (Option.isNone a) (R (vS none 0 0) w) (new w (oC [] 3) λk1 w1=>rS (jT 24 (Array.mk [vS (some (aM k1)) 0 0,vS a b c])) w1 λv1 w2=>∃ o1 k2 k3,v1 = vS o1 k2 k3/\R (vS o1 k2 k3) w2)):ay Tryz.prog 214 [(.slice a b c)] w R:=rv Tryz.func214 lK (by kernel_rfl) h
abbrev sk:FuncId:=233
def pe:bh:={ rngs:=[],loops:=[(2,[])],joins:=[],blocks:=[] }
theorem pf {a:ByteArray} {b:FuncId} {c:List Value} {d:Bool} {w:Ws} {R:Value->WP} (h:aU Proofs.Tryz.prog (Instr.range 9 (Value.string a)) w λv1 w1=>∃ o1,v1 = vP o1/\∃ (x1:lP []),∃ (x2:lN []),x1 w1/\∀ (I1:Nat->Value) (w2:Ws),x1 w2->aU Proofs.Tryz.prog (Instr.next (vP o1) true 0) w2 λv2 w3=>v2 = vU [vB false]/\R (iI (-1)) w3\/∃ n1 n2,v2 = vU [vB true,iI n1,Value.int IntKind.i32 n2]/\uI (Proofs.YtndaepmjkbmjmaaGreatDoor.Fn b) (rE b (Value.int IntKind.i32 n2 :: c) w3 λv3 w4=>∃ b1,v3 = vB b1/\br (b1 == d) (R (iI n1) w4) (x1 w4/\x2 w4 < x2 w2))):ay Tryz.prog 233 [(.string a),(.func (.func b) #[] ⟨c⟩),(.bool d)] w R:=rv Tryz.func233 pe (by kernel_rfl) h
abbrev iz:FuncId:=242
def gI:bh:={ rngs:=[],loops:=[],joins:=[],blocks:=[] }
theorem gJ {a:Wr} {b c:Nat} {d:FuncId} {e:List Value} {w:Ws} {R:Value->WP} (h:rE 258 [vS a b c,Value.func (Fn.func d) (Array.mk []) (Array.mk e)] w λv1 w1=>∃ n1,v1 = iI n1/\R (vB (decide (0<=n1))) w1):ay Tryz.prog 242 [(.slice a b c),(.func (.func d) #[] ⟨e⟩)] w R:=rv Tryz.func242 gI (by kernel_rfl) h
abbrev eF:FuncId:=245
def jo:bh:={ rngs:=[],loops:=[(2,[(8,(.one (.int .i64)))])],joins:=[],blocks:=[] }
theorem dH {a:Wr} {b c:Nat} {d:FuncId} {e:List Value} {w:Ws} {R:Value->WP} (h:∃ (x1:lP [(8,aD)]),∃ (x2:lN [(8,aD)]),x1 0 w/\∀ (I1:Nat->Value) (n1:Int) (w1:Ws),x1 n1 w1->br (decide (n1 < (b:Int))) (idx a b n1 1 λa1=>∃ n2,World.cell? w1 a1 = some (iI n2)/\uI (Proofs.YtndaepmjkbmjmaaGreatDoor.Fn d) (rE d (iI n2 :: e) w1 λv1 w2=>∃ b1,v1 = vB b1/\br b1 (R (iI n1) w2) (aw (n1 + 1)/\x1 (n1 + 1) w2/\x2 (n1 + 1) w2 < x2 n1 w1))) (R (iI (-1)) w1)):ay Tryz.prog 245 [(.slice a b c),(.func (.func d) #[] ⟨e⟩)] w R:=rv Tryz.func245 jo (by kernel_rfl) h
abbrev Du:FuncId:=247
def zS:bh:={ rngs:=[],loops:=[],joins:=[],blocks:=[] }
theorem zT {a:Wr} {b c:Nat} {d:Wr} {e f:Nat} {g:Wr} {i j:Nat} {k:Int} {l:Wr} {m n:Nat} {w:Ws} {R:Value->WP} (h:new w (oC [vS a b c,vS d e f,vS g i j,iI k,vS l m n] 27) λk1 w1=>∃ o1 k2 k3 o2 k4 k5 o3 k6 k7 n1 o4 k8 k9,rA w1 (aM k1) 5 [vS o1 k2 k3,vS o2 k4 k5,vS o3 k6 k7,iI n1,vS o4 k8 k9]/\rE 89 [vG [vS o1 k2 k3,vS o2 k4 k5,vS o3 k6 k7,iI n1,vS o4 k8 k9],iI 0] w1 λv1 w2=>∃ b1,v1 = vB b1/\br (!b1) (R (vB false) w2) (∃ o5 k10 k11 o6 k12 k13 o7 k14 k15 n2 o8 k16 k17,rA w2 (aM k1) 5 [vS o5 k10 k11,vS o6 k12 k13,vS o7 k14 k15,iI n2,vS o8 k16 k17]/\rE 90 [vG [vS o5 k10 k11,vS o6 k12 k13,vS o7 k14 k15,iI n2,vS o8 k16 k17],iI 0] w2 λv2 w3=>∃ o9 k18 k19 b2,v2 = vU [vS o9 k18 k19,vB b2]/\br b2 (rE 259 [vS o9 k18 k19] w3 λv3 w4=>∃ b3,v3 = vB b3/\R (vB b3) w4) (R (vB false) w3))):ay Tryz.prog 247 [(.agg #[(.slice a b c),(.slice d e f),(.slice g i j),(.int .i64 k),(.slice l m n)])] w R:=rv Tryz.func247 zS (by kernel_rfl) h
abbrev jq:FuncId:=258
def iL:bh:={ rngs:=[],loops:=[(2,[(8,(.one (.int .i64)))])],joins:=[],blocks:=[] }
theorem iM {a:Wr} {b c:Nat} {d:FuncId} {e:List Value} {w:Ws} {R:Value->WP} (h:∃ (x1:lP [(8,aD)]),∃ (x2:lN [(8,aD)]),x1 0 w/\∀ (I1:Nat->Value) (n1:Int) (w1:Ws),x1 n1 w1->br (decide (n1 < (b:Int))) (idx a b n1 1 λa1=>∃ o1 k1 k2,World.cell? w1 a1 = some (vS o1 k1 k2)/\uI (Proofs.YtndaepmjkbmjmaaGreatDoor.Fn d) (rE d (vS o1 k1 k2 :: e) w1 λv1 w2=>∃ b1,v1 = vB b1/\br b1 (R (iI n1) w2) (aw (n1 + 1)/\x1 (n1 + 1) w2/\x2 (n1 + 1) w2 < x2 n1 w1))) (R (iI (-1)) w1)):ay Tryz.prog 258 [(.slice a b c),(.func (.func d) #[] ⟨e⟩)] w R:=rv Tryz.func258 iL (by kernel_rfl) h
abbrev kN:FuncId:=259
def jK:bh:={ rngs:=[],loops:=[(2,[(3,(.one (.int .i64)))])],joins:=[],blocks:=[] }
theorem jL {a:Wr} {b c:Nat} {w:Ws} {R:Value->WP} (h:aw ((b:Int) - 1)/\∃ (x1:lP [(3,aD)]),∃ (x2:lN [(3,aD)]),x1 ((b:Int) - 1) w/\∀ (I1:Nat->Value) (n1:Int) (w1:Ws),x1 n1 w1->br (decide (0 < n1)) (∀ w2,drawn w1 w2->∃ (I2:WP),I2 w2/\idx a b n1 1 λa1=>∃ n2,(∀ w3,I2 w3->World.cell? w3 a1 = some (iI n2))/\aw (n1 - 1)/\idx a b (n1 - 1) 1 λa2=>∃ n3,(∀ w4,I2 w4->World.cell? w4 a2 = some (iI n3))/\rE 151 [iI n2,iI n3] w2 λv1 w5=>∃ b1,v1 = vB b1/\br b1 (R (vB false) w5) (aw (n1 - 1)/\x1 (n1 - 1) w5/\x2 (n1 - 1) w5 < x2 n1 w1)) (R (vB true) w1)):ay Tryz.prog 259 [(.slice a b c)] w R:=rv Tryz.func259 jK (by kernel_rfl) h
end Go.Proofs.YtndaepmjkbmjmaaGreatDoor
namespace Go.V
section
variable {P:Program} {w w' : Ws} {L:List au} {b:Nat} {vs:List Value}
theorem j4 {sz l c j:Nat} {a:Wr} {ad:Addr} {v:Value} {k:Ws->Prop} (h:St w (own sz a l c vs :: L)) (ha:a = some ad) (hj:j < vs.length)
  (hk:∀ w',St w' (own sz a l c (vs.set j v) :: L)->k w') (hv:aH v = true:=by rfl):st1 w (ad.add j) v k:=by
 rcases cq h with ⟨rfl,_⟩ | ⟨b,pre,cs,post,rfl,h,h1,h2,h3⟩
 ·cases ha
 ·cases ha
  rw [add_lit]
  refine bC h (by simp; omega) (λw' h'=>?_) hv
  rw [VE _ _ (by omega),Vp,List.set_append_left _ _ hj] at h'
  refine hk w' (dx h' (by simpa using h1) (by simpa using h2) h3)
theorem aB {a:Wr} {ad:Addr} {len i:Nat} {k:Addr->Prop} (ha:a = some ad) (hi:i < len) (hk:k (ad.add i)):idx a len (i:Int) 1 k :=
 ⟨ad,ha,by omega,by omega,by simpa [cR] using hk⟩
theorem e_ {sz l c:Nat} {a:Wr} (h:St w (own sz a l c vs :: L)) (hl:0 < vs.length):∃ ad,a = some ad:=by
 rcases cq h with ⟨rfl,_,_,rfl⟩ | ⟨b,pre,cs,post,rfl,_⟩
 ·simp at hl
 ·exact ⟨_,rfl⟩
theorem y7 {sz l c:Nat} {a:Wr} {ad:Addr} (h:St w (own sz a l c vs :: L)) (ha:a = some ad) {j:Nat} {v:Value} (hj:vs[j]? = some v):w.cell? (ad.add j) = some v:=by
 obtain ⟨ad',h1,h2⟩:=bX h hj
 rw [ha] at h1; cases h1; exact h2
theorem gi (h:drawn w w'):hp w' = hp w:=by unfold drawn at h; subst h; rfl
theorem St.drawn (h:St w L) (hd:V.drawn w w'):St w' L:=h.eq (gi hd)
end
def cw (ws:List Nat):List Value:=ws.map λ(n:Nat)=>Value.int .u64 (n:Int)
def mem (ws:List Nat) (k:Nat):Bool:=(ws.getD (k / 64) 0).testBit (k % 64)
structure Inv (n:Nat) (ws:List Nat) (m:Nat->Bool):Prop where
 len:ws.length = (n + 63) / 64
 le:n<=1024
 lt:∀ x∈ws,x < 2 ^ 64
 mm:∀ k,m k = mem ws k
 out:∀ k,n<=k->m k = false
def uY (p:Wr) (n:Nat) (m:Nat->Bool):au:=λh =>
 (p = none/\n = 0/\m = λ_=>false) \/
 ∃ b a c ws,p = some ⟨b,0,none⟩/\Inv n ws m/\aG [aS b [.slice a ws.length c,.int .i64 (n:Int)],own 1 a ws.length c (cw ws)] h
section
variable {w w' : Ws} {L:List au} {p:Wr} {n:Nat} {m:Nat->Bool}
theorem iV (h:St w (uY p n m :: L)):(p = none/\n = 0/\(m = λ_=>false)/\St w L) \/
  ∃ b a c ws,p = some ⟨b,0,none⟩/\Inv n ws m/\St w (aS b [.slice a ws.length c,.int .i64 (n:Int)] :: own 1 a ws.length c (cw ws) :: L):=by
 have ht:=h.tail
 obtain ⟨h1,h2,d,s1,s2,ha,hl⟩:=h
 rcases ha with ⟨e1,e2,e3⟩ | ⟨b,a,c,ws,e1,e2,e3⟩
 ·exact .inl ⟨e1,e2,e3,ht⟩
 ·exact .inr ⟨b,a,c,ws,e1,e2,St.flat.1 (show St w (aT [_,_] :: L) from ⟨h1,h2,d,s1,s2,e3,hl⟩)⟩
theorem IM {b:Nat} {a:Wr} {c:Nat} {ws:List Nat} (hi:Inv n ws m) (h:St w (aS b [.slice a ws.length c,.int .i64 (n:Int)] :: own 1 a ws.length c (cw ws) :: L)):St w (uY (some ⟨b,0,none⟩) n m :: L) :=
 (St.flat.2 (show St w ([_,_] ++ L) from h)).head λh ha=>.inr ⟨b,a,c,ws,rfl,hi,ha⟩
theorem Ma (h:St w (uY p n m :: L)) {k:Nat} (hk:n<=k):m k = false:=by
 rcases iV h with ⟨_,_,rfl,_⟩ | ⟨_,_,_,_,_,hi,_⟩
 ·rfl
 ·exact hi.out k hk
theorem O9 (h:St w (uY p n m :: L)):n<=1024:=by
 rcases iV h with ⟨_,rfl,_,_⟩ | ⟨_,_,_,_,_,hi,_⟩
 ·omega
 ·exact hi.le
end
end Go.V
namespace Go.Proofs.YtndaepmjkbmjmaaGreatDoor
section
variable {w:Ws} {L:List au} {a:Wr} {c:Nat} {ws:List Nat} {p:Wr} {n:Nat} {m:Nat->Bool}
theorem Hj {ws:List Nat} {j:Nat} (h:j < ws.length):(cw ws)[j]? = some (.int .u64 ((ws.getD j 0:Nat):Int)):=by
 simp [cw,h]
theorem y8 {ws:List Nat} (hl:∀ x∈ws,x < 2 ^ 64) (j:Nat):ws.getD j 0 < 2 ^ 64:=by
 by_cases h:j < ws.length
 ·rw [UN,UB h]; exact hl _ (List.getElem_mem h)
 ·rw [UN,UW (by omega)]; simp
theorem Mb:nz 64:=by unfold nz; decide
theorem y9 {k:Nat} (h:k < 9223372036854775807):aw (k:Int):=⟨by omega,by omega⟩
theorem Fa (h:St w (own 1 a ws.length c (cw ws) :: L)) (hlt:∀ x∈ws,x < 2 ^ 64) {k:Nat} (hk:k / 64 < ws.length) (hb:k < 4096) :
  ay Tryz.prog wK [.slice a ws.length c,.int .i64 (k:Int)] w λv w'=>v = .bool (mem ws k)/\w' = w:=by
 refine tF ?_
 obtain ⟨ad,rfl⟩:=e_ h (by simp [cw]; omega)
 have hg:=y7 h rfl (Hj hk)
 refine ⟨Mb,?_,?_⟩
 ·rw [zO]; exact y9 (by omega)
 ·rw [zO,L9]
  refine aB rfl hk ⟨_,hg,Mb,?_,?_,rfl⟩
  ·show (0:Int)<=_; omega
  ·rw [L_ (y8 hlt _) (Nat.mod_lt _ (by omega))]; rfl
theorem mem_set {ws:List Nat} {k r:Nat} (hk:k / 64 < ws.length) (j:Nat):mem (ws.set (k / 64) r) j = if j / 64 = k / 64 then r.testBit (j % 64) else mem ws j:=by
 unfold mem
 rw [UN,VC]
 split
 ·rename_i h; rw [UJ h.symm]; rfl
 ·rename_i h; rw [UE (λe=>h e.symm),UN]
theorem Ri {ws:List Nat} {i r:Nat}:(cw ws).set i (.int .u64 (r:Int)) = cw (ws.set i r):=by simp [cw]
theorem Fb (h:St w (own 1 a ws.length c (cw ws) :: L)) (hlt:∀ x∈ws,x < 2 ^ 64) {k:Nat} (hk:k / 64 < ws.length) (hb:k < 4096) :
  ay Tryz.prog wL [.slice a ws.length c,.int .i64 (k:Int)] w λv w'=>v = .tuple #[]/\∃ ws',ws'.length = ws.length/\(∀ x∈ws',x < 2 ^ 64)/\(∀ j,mem ws' j = (mem ws j || j == k))/\St w' (own 1 a ws.length c (cw ws') :: L):=by
 refine tH ?_
 intro w1 hd
 have h1:=h.drawn hd
 obtain ⟨ad,rfl⟩:=e_ h (by simp [cw]; omega)
 have hg:=λw2 (e:hp w2 = hp w)=>y7 (h.eq e) rfl (Hj hk)
 refine ⟨λw2=>hp w2 = hp w,gi hd,Mb,?_,?_⟩
 ·rw [zO]; exact y9 (by omega)
 ·rw [zO,L9]
  refine aB rfl hk ⟨_,hg,Mb,?_,aB rfl hk ?_⟩
  ·show (0:Int)<=_; omega
  ·have hm:k % 64 < 64:=Nat.mod_lt _ (by omega)
   rw [L8 hm,O8 (y8 hlt _) (Nat.pow_lt_pow_right (by omega) hm)]
   refine j4 h1 rfl (by simpa [cw] using hk) λw3 h3=>?_
   rw [Ri] at h3
   refine ⟨rfl,_,by simp,λx hx=>?_,λj=>?_,h3⟩
   ·rcases List.mem_or_eq_of_mem_set hx with hx | rfl
    ·exact hlt x hx
    ·exact Nat.or_lt_two_pow (y8 hlt _) (Nat.pow_lt_pow_right (by omega) hm)
   ·rw [mem_set hk]
    split
    ·rename_i e
     rw [Nat.testBit_or,Nat.testBit_two_pow]
     unfold mem
     rw [e]
     congr 1
     by_cases hj:j = k
     ·subst hj; simp
     ·have:¬ (k % 64 = j % 64):=by omega
      simp [hj,this]
    ·rename_i e
     have:(j == k) = false:=by simp; intro h; exact e (by rw [h])
     simp [this]
theorem Rj (h:St w (uY p n m :: L)):ay Tryz.prog yp [.pointer p] w λv w'=>v = .int .i64 (n:Int)/\w' = w:=by
 refine uV ?_
 rcases iV h with ⟨rfl,rfl,rfl,_⟩ | ⟨b,a,c,ws,rfl,hi,h⟩
 ·exact ⟨rfl,rfl⟩
 ·refine ⟨(n:Int),?_,rfl,rfl⟩
  rw [aV,h.cell]; rfl
theorem Rk (hi:Inv n ws m) {k:Nat} (hk:k < n):k / 64 < ws.length:=by rw [hi.len]; omega
end
end Go.Proofs.YtndaepmjkbmjmaaGreatDoor
namespace Go.V
def oN (h:Hp) (a:Addr):Option Value :=
 match h a.block with
 | some (.cells c _ _)=>if a.spot.isSome then none else c[a.off]?
 | _=>none
theorem ni {h h' : Hp} (s:sub h h') {a:Addr} {v:Value} (hc:oN h a = some v):oN h' a = some v:=by
 unfold oN at *
 split at hc
 ·rename_i c _ _ he; rw [s _ _ he]; exact hc
 ·cases hc
theorem j5 {w:Ws} {a:Addr} {v:Value} (hc:oN (hp w) a = some v):w.cell? a = some v:=by
 unfold oN at hc
 split at hc
 ·rename_i c _ _ he; unfold World.cell?; rw [mM he]; exact hc
 ·cases hc
def fp (a:Wr) (vs:List Value):au:=λh=>vs = []\/∃ ad,a = some ad/\∀ j v,vs[j]? = some v->oN h (ad.add j) = some v
section
variable {w w' : Ws} {L:List au} {a:Wr} {vs:List Value}
theorem Dv (h:St w (fp a vs :: L)) {j:Nat} {v:Value} (hj:vs[j]? = some v):∃ ad,a = some ad/\w.cell? (ad.add j) = some v:=by
 obtain ⟨h1,h2,d,s1,s2,ha,hl⟩:=h
 rcases ha with rfl | ⟨ad,e,hc⟩
 ·simp at hj
 ·exact ⟨ad,e,j5 (ni s1 (hc j v hj))⟩
theorem cE {sz l c:Nat} {h:Hp} (ha:own sz a l c vs h):fp a vs h:=by
 rcases ha with ⟨_,_,_,rfl⟩ | ⟨b,pre,cs,post,rfl,⟨e,he⟩,_⟩
 ·exact .inl rfl
 ·refine .inr ⟨_,rfl,λj v hj=>?_⟩
  rw [add_lit]; unfold oN; simp only [he]
  have:=(UA.1 hj).1
  simp only [Option.isSome_none,Wa,if_false,List.getElem?_toArray]
  rw [UP (by omega),Vp,UQ this]; exact hj
end
def iv (xs:List Int):List Value:=xs.map λx=>Value.int .i64 x
theorem Rl {xs:List Int} {j:Nat} {x:Int} (h:xs[j]? = some x):(iv xs)[j]? = some (.int .i64 x):=by simp [iv,h]
theorem bK {l j:Nat} (h:j < l):l - ((j:Int) + 1).toNat < l - (j:Int).toNat:=by omega
def j6 (n:Nat) (m:Nat->Bool):Nat:=((List.range n).filter m).length
theorem Hk (n:Nat) (m:Nat->Bool):j6 n m<=n:=by
 unfold j6; exact U7 (Vm _ _) (by simp)
theorem qf (n:Nat) (m:Nat->Bool):j6 (n + 1) m = j6 n m + (if m n then 1 else 0):=by
 unfold j6; rw [VX,Vi,UG]
 congr 1
 by_cases h:m n <;> simp [h]
theorem Cg {n:Nat} {m m' : Nat->Bool} (h:∀ k,k < n->m k = m' k):j6 n m = j6 n m':=by
 unfold j6; congr 1; exact VZ λk hk=>h k (by simpa using hk)
theorem IP {n:Nat} {m:Nat->Bool} {k:Nat} (hk:k < n) (hm:m k = false):j6 n (λj=>m j || j == k) = j6 n m + 1:=by
  induction n with
  | zero=>omega
  | succ n ih =>
    rw [qf,qf]
    by_cases h:k = n
    · subst h
      rw [Cg (m' := m) λj hj => by have : (j == k) = false := by simp; omega
                                   simp [this]]
      simp [hm]
    · rw [ih (by omega)]
      have:(n == k) = false:=by simp; omega
      simp only [this,Bool.or_false]; omega
def fL (n:Nat) (m:Nat->Bool) (xs:List Int):Nat->Bool:=λk=>m k || (decide (k < n) && xs.contains (k:Int))
theorem cJ {xs:List Int} {j:Nat} {x:Int} (h:xs[j]? = some x):xs.take (j + 1) = xs.take j ++ [x]:=by
 rw [UI,h]; rfl
theorem mv (l:List Int) (x y:Int):(l ++ [x]).contains y = (l.contains y || y == x):=by
 simp only [List.contains_append,List.contains_cons,List.contains_nil,Bool.or_false]
theorem Ks {n:Nat} {m:Nat->Bool} {xs:List Int} {j:Nat} {x:Nat} (h:xs[j]? = some (x:Int)) (hx:x < n):fL n m (xs.take (j + 1)) = λk=>fL n m (xs.take j) k || k == x:=by
 funext k
 simp only [fL,cJ h,mv]
 have e:((k:Int) == (x:Int)) = (k == x):=by
  rw [Vn]; simp only [beq_iff_eq]; omega
 rw [e]
 by_cases hk:k = x
 ·subst hk; simp [hx]
 ·have:(k == x) = false:=by simp [hk]
  simp [this]
theorem Ch {n:Nat} {m:Nat->Bool} {xs:List Int} {j:Nat} {x:Int} (h:xs[j]? = some x) (hx:∀ k:Nat,k < n->(k:Int) = x->fL n m (xs.take j) k = true):fL n m (xs.take (j + 1)) = fL n m (xs.take j):=by
 funext k
 have hk:=hx k
 simp only [fL,cJ h,mv] at hk ⊢
 by_cases h1:k < n
 ·by_cases h2:(k:Int) = x
  ·have:=hk h1 h2
   simp only [h1,decide_true,Bool.true_and] at this ⊢
   rw [this]
   revert this
   cases m k <;> simp
   intro h; exact .inl h
  ·have:((k:Int) == x) = false:=by simp [h2]
   simp [this]
 ·simp [h1]
theorem Fc (n:Nat) (m:Nat->Bool):fL n m [] = m:=by funext k; simp [fL]
end Go.V
namespace Go.Proofs.YtndaepmjkbmjmaaGreatDoor
section
variable {w:Ws} {L:List au} {a:Wr} {l c:Nat} {p:Wr} {n:Nat} {m:Nat->Bool} {xs:List Int}
theorem QG {D:au} (hD:∀ h,D h->fp a (iv xs) h) (h:St w (uY p n m :: D :: L)) (hl:xs.length = l) (hb:l<=4611686018427387904) :
  ay Tryz.prog pY [.pointer p,.slice a l c] w λv w'=>v = .int .i64 ((j6 n (fL n m xs):Int) - j6 n m)/\St w' (uY p n (fL n m xs) :: D :: L):=by
 refine wH ?_
 refine ⟨λn1 n2 w=>∃ j:Nat,n2 = j/\j<=l/\n1 = (j6 n (fL n m (xs.take j)):Int) - j6 n m/\St w (uY p n (fL n m (xs.take j)) :: D :: L),
  λ_ n2 _=>l - n2.toNat,⟨0,rfl,by omega,by simp [Fc],by simpa [Fc] using h⟩,?_⟩
 rintro _ n1 n2 w1 ⟨j,rfl,hj,hn1,hs⟩
 refine aa (λh0=>?_) λh0=>?_
 ·have h0:j < l:=by have:=Uz h0; omega
  obtain ⟨x,hx⟩ : ∃ x,xs[j]? = some x:=⟨xs[j],by simp [show j < xs.length by omega]⟩
  obtain ⟨ad,rfl,hc⟩:=Dv (hs.swap.head hD) (Rl hx)
  have hle:=Hk n (fL n m (xs.take j))
  have hle2:=Hk n m
  have hn:=O9 hs
  have mI:aw ((j:Int) + 1):=⟨by omega,by omega⟩
  refine aB rfl h0 ⟨x,hc,?_⟩
  have skip:(∀ k:Nat,k < n->(k:Int) = x->fL n m (xs.take j) k = true)->∀ w2,St w2 (uY p n (fL n m (xs.take j)) :: D :: L)->aw ((j:Int) + 1) /\
    (∃ j' : Nat,(j:Int) + 1 = j'/\j'<=l/\n1 = (j6 n (fL n m (xs.take j')):Int) - j6 n m/\St w2 (uY p n (fL n m (xs.take j')) :: D :: L))/\l - ((j:Int) + 1).toNat < l - (j:Int).toNat:=by
   intro hx' w2 hs2
   refine ⟨mI,⟨j + 1,by simp,by omega,?_,?_⟩,bK h0⟩
   ·rw [Ch hx hx']; exact hn1
   ·rw [Ch hx hx']; exact hs2
  refine aa (λh1=>?_) λh1=>?_
  ·have h1:=Uz h1
   obtain ⟨x,rfl⟩:=Int.eq_ofNat_of_zero_le h1
   refine (Rj hs).mono ?_
   rintro _ _ ⟨rfl,rfl⟩
   refine ⟨_,rfl,aa (λh2=>?_) λh2=>?_⟩
   ·have h2:x < n:=by have:=Uz h2; omega
    rcases iV hs with ⟨rfl,rfl,_⟩ | ⟨b,ab,cb,ws,rfl,hi,hs2⟩
    ·omega
    have hw:=Rk hi h2
    have hxb:x < 4096:=by omega
    refine ⟨ab,ws.length,cb,by rw [hs2.cell]; rfl,?_⟩
    refine (Fa hs2.swap hi.lt hw hxb).mono ?_
    rintro _ _ ⟨rfl,rfl⟩
    refine ⟨_,rfl,aa (λh3=>?_) λh3=>?_⟩
    ·refine ⟨ab,ws.length,cb,by rw [hs2.cell]; rfl,?_⟩
     refine (Fb hs2.swap hi.lt hw hxb).mono ?_
     rintro _ w3 ⟨rfl,ws',e1,e2,e3,hs3⟩
     have hfalse:fL n m (xs.take j) x = false:=by rw [hi.mm]; simpa using h3
     have hcnt:=IP h2 hfalse
     have hst:=Ks (m:=m) hx h2
     refine ⟨rfl,⟨by omega,by omega⟩,mI,⟨j + 1,by simp,by omega,?_,?_⟩,bK h0⟩
     ·rw [hst,hcnt,hn1]; omega
     ·rw [hst]
      rw [<- e1] at hs3
      refine IM ⟨e1 ▸ hi.len,hi.le,e2,λk=>?_,λk hk=>?_⟩ (by rw [e1] at hs3 ⊢; exact hs3.swap)
      ·rw [e3,hi.mm]
      ·rw [hi.out k hk]; simp; omega
    ·refine skip (λk hk he=>?_) _ hs
     have:k = x:=by omega
     subst this
     rw [hi.mm]; simpa using h3
   ·refine skip (λk hk he=>?_) _ hs
    have:=Uy h2; omega
  ·refine skip (λk hk he=>?_) _ hs
   have:=Uy h1; omega
 ·have h0:j = l:=by have:=Uy h0; omega
  subst h0
  rw [<- hl,UZ] at hs hn1
  exact ⟨by rw [hn1],hs⟩
end
end Go.Proofs.YtndaepmjkbmjmaaGreatDoor
namespace Go.V
theorem Dw (n:Nat):IntKind.u64.wrap (n:Int) = ((n % 18446744073709551616:Nat):Int):=by
 simp only [IntKind.wrap,IntKind.signed,IntKind.bits]
 simp
theorem Dx {x:Nat} (h0:x≠0) (hx:x < 2 ^ 64):IntKind.u64.wrap (0 - (x:Int)) = ((18446744073709551616 - x:Nat):Int):=by
 have:(0 - (x:Int)) % (18446744073709551616:Int) = ((18446744073709551616 - x:Nat):Int):=by omega
 simpa [IntKind.wrap,IntKind.signed,IntKind.bits] using this
theorem Mc {T:List Nat} {i k:Nat} {f:Nat->Value} (h:T.getD i 0 = k) (hi:i < T.length):(T.map f)[i]? = some (f k):=by
 rw [UN,UB hi] at h
 rw [UD,UB hi]
 simp only [Option.getD_some] at h
 rw [h]; rfl
theorem Rm {x a:Nat} (h0:x≠0) (hx:x < 2 ^ 64) (ha:x &&& (18446744073709551616 - x) = a) :
  bw .u64 (IntKind.u64.wrap (kH .and .u64 (x:Int) (IntKind.u64.wrap (0 - (x:Int))) * 285870213051353865)) 58 = ((a * 285870213051353865 % 18446744073709551616 / 2 ^ 58:Nat):Int):=by
 have e2:=zM (a:=x) (b:=18446744073709551616 - x) hx (by omega)
 rw [Dx h0 hx,e2,ha]
 have e3:=Dw (a * 285870213051353865)
 rw [Int.natCast_mul] at e3
 have e5:((285870213051353865:Nat):Int) = 285870213051353865:=rfl
 rw [e5] at e3
 rw [e3]
 exact zN (s:=58) (by omega)
end Go.V
namespace Go.Proofs.YtndaepmjkbmjmaaGreatDoor
theorem uZ {x:Nat} (hx:x < 2 ^ 64) (w:Ws) {L:List au} (h:St w (fp (some ⟨0,0,none⟩) (Lib.deBruijn64tab.map λ(k:Nat)=>Value.int .u8 (k:Int)) :: L)):ay Tryz.prog j3 [.int .u64 (x:Int)] w λv w'=>v = .int .i64 ((Lib.ctz 64 x:Nat):Int)/\w' = w:=by
 refine jn ?_
 refine aa (λh0=>?_) λh0=>?_
 ·have:x = 0:=by simpa using h0
  subst this
  exact ⟨rfl,rfl⟩
 ·have h0:x≠0:=by simpa using h0
  obtain ⟨hlow,hk⟩:=Lib.lowest_bit 64 x h0 hx
  obtain ⟨hi,htab⟩:=Lib.deBruijn64_at _ hk
  rw [Rm h0 hx hlow]
  generalize Lib.ctz 64 x = k at hk hi htab ⊢
  have e58:(2:Nat) ^ 58 = 288230376151711744:=by decide
  rw [e58]
  generalize 2 ^ k * 285870213051353865 % 18446744073709551616 / 288230376151711744 = i at hi htab ⊢
  refine ⟨show (0:Int)<=58 by decide,aB rfl hi ⟨(k:Int),?_,⟨by omega,by omega⟩,rfl,rfl⟩⟩
  have hg:=Mc (f:=λ(k:Nat)=>Value.int .u8 (k:Int)) htab hi
  obtain ⟨ad,e,hc⟩:=Dv h hg
  cases e
  exact hc
end Go.Proofs.YtndaepmjkbmjmaaGreatDoor
namespace Go.V
theorem Ci (a b:Nat) (m:Nat->Bool):j6 (a + b) m = j6 a m + j6 b (λk=>m (a + k)):=by
 unfold j6
 rw [List.range_add,Vi,UG,List.filter_map,UH]
 rfl
theorem Fe {a:Nat} {m:Nat->Bool} (h:∀ k,k < a->m k = false):j6 a m = 0:=by
 unfold j6
 rw [V5.2 λk hk=>by simp [h k (by simpa using hk)]]; rfl
theorem O_ {n:Nat} {ws:List Nat} {m:Nat->Bool} (hi:Inv n ws m):j6 (64 * ws.length) m = j6 n m:=by
 have h:64 * ws.length = n + (64 * ws.length - n):=by rw [hi.len]; omega
 rw [h,Ci,Fe (a:=64 * ws.length - n) λk _=>hi.out _ (by omega)]; omega
def GW (s:Int):Nat:=(if 1024 < if s < 0 then 0 else s then 1024 else if s < 0 then 0 else s).toNat
theorem Rn (s:Int):(if 1024 < if s < 0 then 0 else s then (1024:Int) else if s < 0 then 0 else s) = (GW s:Int):=by
 unfold GW
 split <;> split <;> omega
theorem Ro (s:Int):GW s<=1024:=by
 unfold GW; split
 ·decide
 ·split <;> omega
theorem Pa {n:Nat} (h:n<=1024):GW (n:Int) = n:=by
 unfold GW
 rw [UE (by rw [UE (by omega)]; omega),UE (by omega)]; simp
theorem jr (v:Value):∀ n,lD n [v] = List.replicate n v
 | 0=>rfl
 | n + 1=>by simp [lD,jr v n,V6]
theorem Pb (n:Nat):cw (List.replicate n 0) = List.replicate n (.int .u64 0):=by simp [cw]
theorem Md (n k:Nat):mem (List.replicate n 0) k = false:=by
 unfold mem
 rw [UN,Wf]
 split <;> simp
theorem inv_zero {n:Nat} (h:n<=1024):Inv n (List.replicate ((n + 63) / 64) 0) (λ_=>false) :=
 ⟨by simp,h,λx hx=>by rw [List.mem_replicate] at hx; rw [hx.2]; decide,λk=>(Md _ k).symm,λ_ _=>rfl⟩
end Go.V
namespace Go.Proofs.YtndaepmjkbmjmaaGreatDoor
section
variable {w:Ws} {L:List au} {a:Wr} {l c:Nat} {p:Wr} {n:Nat} {m:Nat->Bool} {xs:List Int}
theorem TK (size:Int) {D:au} (hD:∀ h,D h->fp a (iv xs) h) (h:St w (D :: L)) (hl:xs.length = l) (hb:l<=4611686018427387904) :
  ay Tryz.prog Cf [.int .i64 size,.slice a l c] w λv w'=>∃ b,v = .pointer (some ⟨b,0,none⟩)/\St w' (uY (some ⟨b,0,none⟩) (GW size) (fL (GW size) (λ_=>false) xs) :: D :: L):=by
 refine E_ _ _ _ _ w _ ?_
 unfold zP
 rw [Rn]
 have hle:=Ro size
 generalize GW size = N at *
 have e0:((N:Int) + 63) = ((N + 63:Nat):Int):=by omega
 rw [e0,zO,U9]
 refine ⟨y9 (by omega),Mb,y9 (by omega),⟨by omega,rfl,by omega⟩,?_⟩
 rw [jr]
 refine af h λb1 w1 h1=>af h1 λb2 w2 h2=>?_
 have h3:St w2 (uY (some ⟨b2,0,none⟩) N (λ_=>false) :: D :: L):=by
  refine IM (a:=some ⟨b1,0,none⟩) (c:=(N + 63) / 64) (inv_zero hle) ?_
  have hlen:(List.replicate ((N + 63) / 64) 0:List Nat).length = (N + 63) / 64:=by simp
  rw [hlen]
  refine St.swap (dR (cs:=[]) ?_ ?_ ?_ (US _))
  ·rw [U3,Pb]; exact h2.swap
  ·simp [cw]
  ·simp [cw]
 refine (QG hD h3 hl hb).mono ?_
 rintro _ w3 ⟨rfl,h4⟩
 exact ⟨_,rfl,b2,rfl,h4⟩
end
end Go.Proofs.YtndaepmjkbmjmaaGreatDoor
namespace Go.V
def SA (b:Nat) (n:Nat) (m:Nat->Bool):au:=ex λx:Wr × Nat × List Nat=>aT [pu (Inv n x.2.2 m),aS b [.slice x.1 x.2.2.length x.2.1],own 1 x.1 x.2.2.length x.2.1 (cw x.2.2)]
theorem u4 {w:Ws} {L:List au} {b n:Nat} {m:Nat->Bool}:St w (SA b n m :: L)↔∃ a c ws,Inv n ws m/\St w (aS b [.slice a ws.length c] :: own 1 a ws.length c (cw ws) :: L):=by
 unfold SA
 rw [St.ex]
 constructor
 ·rintro ⟨⟨a,c,ws⟩,h⟩
  have h:=St.pu.1 (St.flat.1 h)
  exact ⟨a,c,ws,h.1,h.2⟩
 ·rintro ⟨a,c,ws,hi,h⟩
  exact ⟨⟨a,c,ws⟩,St.flat.2 (St.pu.2 ⟨hi,h⟩)⟩
theorem Rp {ws:List Nat} (h:cw ws = []):ws = []:=by simpa [cw] using h
end Go.V
namespace Go.Proofs.YtndaepmjkbmjmaaGreatDoor
section
variable {w:Ws} {L:List au} {a:Wr} {l c:Nat} {p:Wr} {n:Nat} {m:Nat->Bool} {xs:List Int} {ws:List Nat}
theorem Pc {D:au} (hD:∀ h,D h->fp a (cw ws) h) (h:St w (D :: L)) (hb:ws.length<=1024) (hn:a = none->ws = []) :
  ay Tryz.prog ij [.slice a ws.length c] w λv w'=>∃ a' c',v = .slice a' ws.length c'/\St w' (own 1 a' ws.length c' (cw ws) :: D :: L):=by
 refine gd ?_
 cases a with
 | none =>
  have h3:=hn rfl
  subst h3
  exact ⟨none,0,rfl,az 1 h⟩
 | some ad =>
  refine af h λb w1 h1=>?_
  have h2:St w1 (own 1 (some ⟨b,0,none⟩) 0 0 [] :: D :: L):=dR (cs:=[]) h1 rfl rfl (US _)
  refine (iu aL (rfl:ah Ty _ = .slice _) rfl rfl rfl h2 (n:=ws.length) (news:=cw ws) ?_ ?_ (by omega)).mono ?_
  ·exact fx aL (rfl:ah Ty _ = .slice _) (by simp [cw]) (.inr ⟨ad,rfl,λj u hj=>by
    obtain ⟨_,e,hc⟩:=Dv (h2.swap.head hD) hj
    cases e; exact hc⟩) (λu hu=>by
    simp only [cw,UU] at hu
    obtain ⟨_,_,rfl⟩:=hu; rfl)
  ·show (0 + ws.length) * 8<=_; omega
  ·rintro _ w2 ⟨a',c',rfl,h3⟩
   rw [Vr,Ve] at h3
   exact ⟨_,_,_,rfl,a',c',by rw [Vr],h3⟩
end
end Go.Proofs.YtndaepmjkbmjmaaGreatDoor
namespace Go.V
def u5 (n:Nat) (m:Nat->Bool):List Nat:=(List.range n).filter m
theorem Cj (n:Nat) (m:Nat->Bool):(u5 n m).length = j6 n m:=rfl
theorem Me {n k:Nat} {m:Nat->Bool} (hk:k < n) (hm:m k = true):(u5 n m)[j6 k m]? = some k:=by
 have e:n = k + (n - k - 1 + 1):=by omega
 unfold u5
 rw [e,List.range_add,Vi,UP (by simp [j6])]
 have:j6 k m - (List.filter m (List.range k)).length = 0:=by simp [j6]
 rw [this,List.range_succ_eq_map,Vh,List.filter_cons]
 simp [hm]
theorem Mf {x:Nat} (h0:x≠0) (hx:x < 2 ^ 64):Lib.ctz 64 x < 64/\x.testBit (Lib.ctz 64 x) = true/\(∀ k,k < Lib.ctz 64 x->x.testBit k = false)/\∀ k,(x &&& (x - 1)).testBit k = (x.testBit k && !(k == Lib.ctz 64 x)):=by
 have e:Lib.ctz 64 x = Lib.ctzFrom 64 x:=by unfold Lib.ctz; rw [UE h0]
 obtain ⟨q,hq,hc⟩:=Lib.ctzFrom_spec 64 x (by omega) hx
 rw [e]
 generalize Lib.ctzFrom 64 x = c at *
 have hp:0 < 2 ^ c:=Nat.two_pow_pos c
 have hx1:x - 1 = 2 ^ c * (2 * q) + (2 ^ c - 1):=by
  rw [hq,Nat.mul_add,VA]; omega
 have t1:∀ k,x.testBit k = if k < c then false else (2 * q + 1).testBit (k - c):=λk=>by
  rw [hq]
  have:=Nat.testBit_two_pow_mul_add (2 * q + 1) (b:=0) (i:=c) hp k
  rw [Wo] at this
  rw [this]; simp
 have t2:∀ k,(x - 1).testBit k = if k < c then true else (2 * q).testBit (k - c):=λk=>by
  rw [hx1,Nat.testBit_two_pow_mul_add _ (by omega)]
  split
  ·rename_i h; rw [Nat.testBit_two_pow_sub_one]; simp [h]
  ·rfl
 refine ⟨hc,?_,λk hk=>?_,λk=>?_⟩
 ·rw [t1,UE (by omega)]; simp
 ·rw [t1,UJ hk]
 ·rw [Nat.testBit_and,t2,t1]
  by_cases hk:k < c
  ·simp [hk]
  ·rw [UE hk,UE hk]
   by_cases hkc:k = c
   ·subst hkc; simp
   ·have e3:k - c = (k - c - 1) + 1:=by omega
    have:(k == c) = false:=by simp [hkc]
    rw [this,e3,Nat.testBit_add_one,Nat.testBit_add_one]
    have e4:(2 * q + 1) / 2 = q:=by omega
    have e5:2 * q / 2 = q:=by omega
    rw [e4,e5]; simp
def Dy (l:List Nat):List (List Value):=l.map λ(k:Nat)=>[Value.int .i64 (k:Int)]
theorem tk {a b:Nat} {m:Nat->Bool} (h:a<=b) (hf:∀ k,a<=k->k < b->m k = false):j6 b m = j6 a m:=by
 have e:b = a + (b - a):=by omega
 rw [e,Ci,Fe (a:=b - a) λk hk=>hf _ (by omega) (by omega)]; omega
def Pd:List Value:=Lib.deBruijn64tab.map λ(k:Nat)=>Value.int .u8 (k:Int)
def dG:au:=fp (some ⟨0,0,none⟩) Pd
theorem Rq {A:au} {w:Ws} (h:A (hp w)):St w [A]:=⟨hp w,λ_=>none,λ_=>.inr rfl,sub.refl _,λ_ _ h=>(nomatch h),h,trivial⟩
end Go.V
namespace Go.Proofs.YtndaepmjkbmjmaaGreatDoor
section
variable {w:Ws} {L:List au} {b:Nat} {n:Nat} {m:Nat->Bool}
theorem Ck:Sz Tryz.prog lZ [] [.pointer (some ⟨b,0,none⟩)] (SA b n m) dG (Dy (u5 n m)):=by
 intro l E hE J Jx L w0 h0 hQ hy
 have h0' : ∃ a c ws,Inv n ws m/\St w0 (J 0 :: aS b [.slice a ws.length c] :: own 1 a ws.length c (cw ws) :: L):=by
  obtain ⟨a,c,ws,hi,h2⟩:=u4.1 h0.swap
  exact ⟨a,c,ws,hi,h2.EF⟩
 obtain ⟨a,c,ws,hi,hs0⟩:=h0'
 have back:∀ (A:au) w',St w' (A :: aS b [.slice a ws.length c] :: own 1 a ws.length c (cw ws) :: L)->St w' (A :: SA b n m :: L):=by
  intro A w' h
  exact (u4.2 ⟨a,c,ws,hi,h.perm ((List.Perm.swap _ _ _).trans (List.Perm.cons _ (List.Perm.swap _ _ _)))⟩).swap
 have tab2:∀ {A B C:au} {w'},St w' (A :: B :: C :: L)->St w' [dG]:=λ{A B C w'} h=>Rq (hQ _ (aQ (aQ (aQ h))))
 refine oW E l ⟨b,0,none⟩ hE w0 _ ?_
 refine ⟨a,ws.length,c,by rw [hs0.swap.cell]; rfl,?_⟩
 refine ⟨λn1 w=>∃ j:Nat,n1 = j/\j<=ws.length/\St w (J (j6 (64 * j) m) :: aS b [.slice a ws.length c] :: own 1 a ws.length c (cw ws) :: L),λn1 _=>ws.length - n1.toNat,
  ⟨0,rfl,by omega,by simpa [j6] using hs0⟩,?_⟩
 rintro _ n1 w1 ⟨j,rfl,hj,hs⟩
 have hlen:=hi.len
 have hn:=hi.le
 refine aa (λh1=>?_) λh1=>?_
 ·have h1:j < ws.length:=by have:=Uz h1; omega
  obtain ⟨ad,rfl⟩:=e_ hs.EF (by simp [cw]; omega)
  have hg:=y7 hs.EF rfl (Hj h1)
  refine aB rfl h1 ⟨_,hg,?_⟩
  have hw64:=y8 hi.lt j
  have hmem:∀ k,k < 64->m (64 * j + k) = (ws.getD j 0).testBit k:=λk hk=>by
   rw [hi.mm]; unfold mem
   rw [show (64 * j + k) / 64 = j by omega,show (64 * j + k) % 64 = k by omega]
  generalize ws.getD j 0 = W at hg hw64 hmem ⊢
  refine ⟨λn3 w=>∃ (r s:Nat),n3 = r/\r < 2 ^ 64/\s<=64/\(∀ k,r.testBit k = (decide (s<=k) && W.testBit k))/\St w (J (j6 (64 * j + s) m) :: aS b [.slice (some ad) ws.length c] :: own 1 (some ad) ws.length c (cw ws) :: L),λn3 _=>n3.toNat,
   ⟨W,0,rfl,hw64,by omega,by simp,by simpa using hs⟩,?_⟩
  rintro _ n3 w2 ⟨r,s,rfl,hr,hs64,hbits,hs2⟩
  refine aa (λh2=>?_) λh2=>?_
  ·have h2:r≠0:=by simpa using h2
   obtain ⟨k1,k2,k3,k4⟩:=Mf h2 hr
   have hinj:aw (64 * (j:Int)):=⟨by omega,by omega⟩
   refine ⟨hinj,?_⟩
   refine ((uZ hr w2 (tab2 hs2)).Ue hE).mono ?_
   rintro _ _ ⟨rfl,rfl⟩
   generalize Lib.ctz 64 r = k at k1 k2 k3 k4 ⊢
   refine ⟨_,rfl,⟨by omega,by omega⟩,?_⟩
   have hsk:s<=k/\W.testBit k = true:=by
    rw [hbits] at k2; simpa using k2
   have hmk:m (64 * j + k) = true:=by rw [hmem k k1]; exact hsk.2
   have hkn:64 * j + k < n:=Nat.lt_of_not_le λhle=>by rw [hi.out _ hle] at hmk; cases hmk
   have hpos:j6 (64 * j + k) m = j6 (64 * j + s) m:=tk (by omega) λq hq1 hq2=>by
    have h3:=k3 (q - 64 * j) (by omega)
    rw [hbits] at h3
    have:s<=q - 64 * j:=by omega
    have h4:=hmem (q - 64 * j) (by omega)
    rw [show 64 * j + (q - 64 * j) = q by omega] at h4
    rw [h4]; simpa [this] using h3
   have hxs:(Dy (u5 n m))[j6 (64 * j + s) m]? = some [.int .i64 ((64 * j + k:Nat):Int)]:=by
    unfold Dy
    rw [UD,<- hpos,Me hkn hmk]; rfl
   have e64:(64 * (j:Int) + (k:Int)) = ((64 * j + k:Nat):Int):=by omega
   rw [e64]
   obtain ⟨f',tmps,asg,body,y1,y2⟩:=hy _ _ hxs _ _ (λh hh=>aQ (aQ hh)) hs2
   refine ⟨f',tmps,asg,body,y1,RoundIn.mono y2 ?_⟩
   rintro e w4 ⟨v,rfl,hE4,hv⟩
   refine ⟨v,rfl,hE4,?_⟩
   have hone:j6 (64 * j + (k + 1)) m = j6 (64 * j + s) m + 1:=by
    rw [show 64 * j + (k + 1) = 64 * j + k + 1 by omega,qf,hmk,hpos]; rfl
   rcases hv with ⟨rfl,hs4⟩ | ⟨rfl,hs4⟩
   ·refine ⟨true,rfl,?_⟩
    have e1:IntKind.u64.wrap ((r:Int) - 1) = ((r - 1:Nat):Int):=by
     have:=wrap_u64 (r - 1) (by omega)
     rw [<- this]; congr 1; omega
    have e2:=zM (a:=r) (b:=r - 1) hr (by omega)
    show (∃ r' s' : Nat,_/\_)/\_
    rw [e1,e2]
    refine ⟨⟨r &&& (r - 1),k + 1,rfl,Nat.and_lt_two_pow _ (by omega),by omega,λq=>?_,?_⟩,?_⟩
    ·rw [k4,hbits]
     by_cases hq:q < k
     ·have h3:=k3 q hq
      rw [hbits] at h3
      rw [h3]
      have:¬ k + 1<=q:=by omega
      simp [this]
     ·by_cases hqk:q = k
      ·subst hqk
       have:¬ q + 1<=q:=by omega
       simp [this]
      ·have h5:(q == k) = false:=by simp [hqk]
       have h6:s<=q:=by omega
       have h7:k + 1<=q:=by omega
       simp [h5,h6,h7]
    ·rw [hone]; exact hs4
    ·show (((r &&& (r - 1):Nat):Int)).toNat < ((r:Nat):Int).toNat
     have:r &&& (r - 1)<=r - 1:=Nat.and_le_right
     simp only [U9]
     omega
   ·refine ⟨false,rfl,?_⟩
    exact .inr (back _ _ hs4)
  ·have h2:r = 0:=by simpa using h2
   subst h2
   refine ⟨⟨by omega,by omega⟩,⟨j + 1,by simp,by omega,?_⟩,bK h1⟩
   have:j6 (64 * (j + 1)) m = j6 (64 * j + s) m:=tk (by omega) λq hq1 hq2=>by
    have h3:=hbits (q - 64 * j)
    have h4:=hmem (q - 64 * j) (by omega)
    rw [show 64 * j + (q - 64 * j) = q by omega] at h4
    rw [h4]
    have:s<=q - 64 * j:=by omega
    simpa [this] using h3.symm
   rw [this]; exact hs2
 ·have h1:j = ws.length:=by have:=Uy h1; omega
  subst h1
  rw [O_ hi,<- Cj] at hs
  refine .inl ?_
  have:(Dy (u5 n m)).length = (u5 n m).length:=by simp [Dy]
  rw [this]
  exact back _ _ hs
end
end Go.Proofs.YtndaepmjkbmjmaaGreatDoor
namespace Go.V
def nj (l:List Nat):List Value:=l.map λ(k:Nat)=>Value.int .i64 (k:Int)
theorem Mg {ks:List Nat} {i k:Nat} (h:ks[i]? = some k):nj (ks.take (i + 1)) = nj (ks.take i) ++ [.int .i64 (k:Int)]:=by
 unfold nj; rw [UI,h]; simp
end Go.V
namespace Go.Proofs.YtndaepmjkbmjmaaGreatDoor
section
variable {w:Ws} {L:List au} {a:Wr} {l c:Nat} {p:Wr} {n:Nat} {m:Nat->Bool} {xs:List Int} {ws:List Nat}
theorem Ff {g:FuncId} {cap:List Value} {D Q:au} {ks:List Nat} {vs:List Value} (hg:Fn g = true) (hI:Sz Tryz.prog g [] cap D Q (Dy ks)) (hQ:∀ h,aG L h->Q h) (hb:l + ks.length<=1099511627776)
  (h:St w (own 1 a l c vs :: D :: L)) :
  ay Tryz.prog j2 [.slice a l c,.func (.func g) #[] ⟨cap⟩] w λv w'=>∃ a' c',v = .slice a' (l + ks.length) c'/\St w' (own 1 a' (l + ks.length) c' (vs ++ nj ks) :: D :: L):=by
 refine jk ?_
 refine af h λb w1 h1=>bz.2 ⟨hg,?_⟩
 refine ⟨Dy ks,D,Q,λi=>ex λy:Wr × Nat=>aT [aS b [.slice y.1 (l + i) y.2],own 1 y.1 (l + i) y.2 (vs ++ nj (ks.take i))],pu False,λ_=>pu False,L,?_,hQ,hI,?_,?_,?_,?_,trivial⟩
 ·refine St.ex.2 ⟨(a,c),St.flat.2 ?_⟩
  simpa [nj] using h1
 ·intro x hx
  simp only [Dy,UU] at hx
  obtain ⟨k,_,rfl⟩:=hx
  exact ⟨_,rfl⟩
 ·intro i x hx L' w2 _ hs
  refine ⟨_,hs,λL'' w3 _ hs3=>?_⟩
  obtain ⟨⟨a1,c1⟩,hs3⟩:=St.ex.1 hs3
  have hs3:=St.flat.1 hs3
  have hx:(Dy ks)[i]? = some [.int .i64 x]:=hx
  obtain ⟨k,hk,rfl⟩ : ∃ k,ks[i]? = some k/\x = (k:Int):=by
   unfold Dy at hx
   rw [UD] at hx
   cases hki:ks[i]? with
   | none=>rw [hki] at hx; cases hx
   | some k=>rw [hki] at hx; simp at hx; exact ⟨k,rfl,hx.symm⟩
  have hil:=(UA.1 hk).1
  refine ⟨a1,l + i,c1,by rw [hs3.cell]; rfl,?_⟩
  refine af hs3 λb2 w4 h4=>?_
  refine (iu aL (rfl:ah Ty _ = .slice _) rfl rfl rfl h4.EF (n:=1) (news:=[.int .i64 (k:Int)]) ?_ ?_ (by omega)).mono ?_
  ·refine fx aL (rfl:ah Ty _ = .slice _) rfl (.inr ⟨_,rfl,λj u hj=>?_⟩) (λu hu=>?_)
   ·rw [aV,h4.cell]; exact hj
   ·simp only [U2] at hu; subst hu; rfl
  ·show (l + i + 1) * 8<=_; omega
  ·rintro _ w5 ⟨a',c',rfl,h5⟩
   refine ⟨_,_,_,rfl,bC h5.EF (by simp) λw6 h6=>St.ex.2 ⟨(a',c'),St.flat.2 ?_⟩⟩
   rw [Mg hk,<- UK]
   have h7:St w6 (aS b [.slice a' (l + i + 1) c'] :: own 1 a' (l + i + 1) c' (vs ++ nj (ks.take i) ++ [.int .i64 (k:Int)]) :: aS b2 [.int .i64 (k:Int)] :: L''):=h6
   exact h7.perm (List.Perm.refl _) |>.EF.tail
 ·intro w2 hs
  obtain ⟨⟨a1,c1⟩,hs⟩:=St.ex.1 hs
  have hs:=St.flat.1 hs
  have e:(Dy ks).length = ks.length:=by simp [Dy]
  rw [e,UZ] at hs
  refine ⟨a1,_,c1,by rw [hs.cell]; rfl,λw3 h3=>⟨a1,c1,rfl,(hs.eq h3).tail⟩⟩
 ·intro w2 hs
  exact (St.pu.1 hs).1.elim
theorem Kt {g:FuncId} {cap:List Value} {D Q:au} {ks:List Nat} (hg:Fn g = true) (hI:Sz Tryz.prog g [] cap D Q (Dy ks)) (hQ:∀ h,aG L h->Q h) (hb:ks.length<=1099511627776) (h:St w (D :: L)) :
  ay Tryz.prog oV [.func (.func g) #[] ⟨cap⟩] w λv w'=>∃ a' c',v = .slice a' ks.length c'/\St w' (own 1 a' ks.length c' (nj ks) :: D :: L):=by
 refine mW ?_
 refine (Ff hg hI hQ (l:=0) (by omega) (az 1 h)).mono ?_
 rintro _ w' ⟨a',c',rfl,h1⟩
 rw [Vr,Ve] at h1
 exact ⟨_,_,_,rfl,a',c',by rw [Vr],h1⟩
end
end Go.Proofs.YtndaepmjkbmjmaaGreatDoor
namespace Go.V
theorem Rr (ks:List Nat):nj ks = iv (ks.map λ(k:Nat)=>(k:Int)):=by simp [nj,iv]
def Uj:List au->List au
 | []=>[]
 | _ :: L=>L
def IQ:Nat->List au->List au
 | 0,L=>L
 | n + 1,L=>IQ n (Uj L)
abbrev QH (L:List au) (n:Nat):List au:=IQ n L
theorem Cm:∀ n,IQ n [] = []
 | 0=>rfl
 | n + 1=>Cm n
def Pe (i:Nat):List Nat->Bool
 | []=>false
 | j :: l=>Nat.beq i j || Pe i l
theorem IU (i:Nat):∀ l,Pe i l = l.contains i
 | []=>rfl
 | j :: l=>by
  rw [Pe,IU i l,List.contains_cons]; congr 1; rw [Vn]; simp
def Mh (L:List au):List Nat->List au->List au
 | [],T=>T
 | i :: is,T=>sc L i :: Mh L is T
def Tu (n:Nat):List Nat->Bool
 | []=>true
 | i :: is=>Nat.blt i n && !Pe i is && Tu n is
theorem xX:∀ (n:Nat) (L:List au) (h:Hp),aG L h ->
  ∃ (f:Nat->Hp) (g:Hp),(∀ i j,i≠j->i < n->j < n->Da (f i) (f j))/\(∀ i,i < n->Da (f i) g)/\(∀ i,i < n->sub (f i) h)/\sub g h/\(∀ i,i < n->sc L i (f i))/\aG (QH L n) g
 | 0,L,h,hs=>⟨λ_=>h,h,λ_ _ _ hi=>absurd hi (by omega),λ_ hi=>absurd hi (by omega),λ_ hi=>absurd hi (by omega),sub.refl _,λ_ hi=>absurd hi (by omega),hs⟩
 | n + 1,[],h,hs=>⟨λ_ _=>none,h,λ_ _ _ _ _ _=>.inl rfl,λ_ _ _=>.inl rfl,λ_ _ _ _ h=>(nomatch h),sub.refl _,λ_ _=>trivial,by show aG (IQ n []) _; rw [Cm]; trivial⟩
 | n + 1,A :: L,h,⟨h1,h2,d,s1,s2,ha,hl⟩=>by
  obtain ⟨f,g,f1,f2,f3,f4,f5,f6⟩:=xX n L h2 hl
  refine ⟨λi=>match i with | 0=>h1 | i + 1=>f i,g,λi j hne hi hj=>?_,λi hi=>?_,λi hi=>?_,f4.trans s2,λi hi=>?_,f6⟩
  ·cases i with
   | zero=>cases j with
    | zero=>exact absurd rfl hne
    | succ j=>exact d.sub (sub.refl _) (f3 j (by omega))
   | succ i=>cases j with
    | zero=>exact (d.sub (sub.refl _) (f3 i (by omega))).symm
    | succ j=>exact f1 i j (by omega) (by omega) (by omega)
  ·cases i with
   | zero=>exact d.sub (sub.refl _) f4
   | succ i=>exact f2 i (by omega)
  ·cases i with
   | zero=>exact s1
   | succ i=>exact (f3 i (by omega)).trans s2
  ·cases i with
   | zero=>exact ha
   | succ i=>exact f5 i (by omega)
theorem zU {L T:List au} {n:Nat} {f:Nat->Hp} {g h:Hp} (f1:∀ i j,i≠j->i < n->j < n->Da (f i) (f j)) (f2:∀ i,i < n->Da (f i) g) (f3:∀ i,i < n->sub (f i) h) (f4:sub g h)
  (f5:∀ i,i < n->sc L i (f i)) (f6:aG T g):∀ is:List Nat,Tu n is = true->∃ u,sub u h/\aG (Mh L is T) u/\∀ i,i < n->i∉is->Da (f i) u
 | [],_=>⟨g,f4,f6,λi hi _=>f2 i hi⟩
 | i :: is,hok=>by
  simp only [Tu,IU,UT,VQ,Nat.blt_eq] at hok
  obtain ⟨⟨hi,hni⟩,hok⟩:=hok
  have hni:i∉is:=by simpa using hni
  obtain ⟨u,u1,u2,u3⟩:=zU f1 f2 f3 f4 f5 f6 is hok
  have d:=u3 i hi hni
  refine ⟨Lp (f i) u,yV (f3 i hi) u1,⟨f i,u,d,q9 _ _,q_ d,f5 i hi,u2⟩,λj hj hjn=>?_⟩
  simp only [UR,not_or] at hjn
  exact (yW (f1 i j (λe=>hjn.1 e.symm) hi hj) (u3 j hj hjn.2).symm).symm
theorem St.pick {w:Ws} {L:List au} (h:St w L) (n:Nat) (is:List Nat) (hok:Tu n is = true:=by rfl):St w (Mh L is (QH L n)):=by
 obtain ⟨f,g,f1,f2,f3,f4,f5,f6⟩:=xX n L _ h
 obtain ⟨u,u1,u2,_⟩:=zU f1 f2 f3 f4 f5 f6 is hok
 exact iR u2 u1
example {w:Ws} {A B C:au} {L:List au} (h:St w (A :: B :: C :: L)):St w (C :: A :: L):=h.pick 3 [2,0]
def Gr (w w' : Ws):Prop:=sub (hp w) (hp w')
theorem Gr.refl (w:Ws):Gr w w:=sub.refl _
theorem Gr.trans {a b c:Ws} (h:Gr a b) (k:Gr b c):Gr a c:=sub.trans h k
theorem Gr.of_eq {w w' : Ws} (h:hp w' = hp w):Gr w w':=by unfold Gr; rw [h]; exact sub.refl _
theorem St.gr {w w' : Ws} {L:List au} (h:St w L) (g:Gr w w'):St w' L:=iR h g
abbrev all (w:Ws):List au:=[has (hp w)]
theorem bY {h0 h:Hp} (s:sub h0 h):aG [has h0] h:=⟨h0,λ_=>none,λ_=>.inr rfl,s,λ_ _ h=>(nomatch h),sub.refl _,trivial⟩
theorem St.here {w:Ws} {h0:Hp} (s:sub h0 (hp w)):St w [V.has h0]:=bY s
theorem St.all (w:Ws):St w (V.all w):=bY (sub.refl _)
theorem xY {L M N:List au} (hm:∀ h,aG M h->aG N h):∀ {h:Hp},aG (L ++ M) h->aG (L ++ N) h:=by
 induction L with
 | nil=>exact λh=>hm _ h
 | cons A L ih=>exact λ⟨h1,h2,d,s1,s2,ha,hl⟩=>⟨h1,h2,d,s1,s2,ha,ih hl⟩
theorem Ku {L:List au} {h0:Hp} (hl:aG L h0):∀ h,aG [has h0] h->aG L h:=λh hh=>iR hl (kC hh)
theorem St.on {w' : Ws} {N L:List au} {h0:Hp} (h:St w' (N ++ [V.has h0])) (hl:aG L h0):St w' (N ++ L):=xY (Ku hl) h
theorem St.u6 {w' : Ws} {A:au} {L:List au} {h0:Hp} (h:St w' [A,V.has h0]) (hl:aG L h0):St w' (A :: L):=St.on (N:=[A]) h hl
theorem St.IV {w' : Ws} {A B:au} {L:List au} {h0:Hp} (h:St w' [A,B,V.has h0]) (hl:aG L h0):St w' (A :: B :: L):=St.on (N:=[A,B]) h hl
theorem St.gone {w' : Ws} {N:List au} {h0:Hp} (h:St w' (N ++ [V.has h0])):sub h0 (hp w'):=by
 induction N with
 | nil=>exact kC h
 | cons A N ih=>exact ih h.tail
theorem St.aR {w' : Ws} {A:au} {h0:Hp} (h:St w' [A,V.has h0]):sub h0 (hp w'):=St.gone (N:=[A]) h
theorem St.freeze {w:Ws} {A:au} {L:List au} (h:St w (A :: L)):∃ h0,aG L h0/\sub h0 (hp w)/\St w [A,V.has h0]:=by
 obtain ⟨h1,h2,d,s1,s2,ha,hl⟩:=h
 exact ⟨h2,hl,s2,h1,h2,d,s1,s2,ha,bY (sub.refl _)⟩
theorem St.first {w:Ws} {A:au} {L:List au} (h:St w (A :: L)):∃ h1,sub h1 (hp w)/\A h1:=by
 obtain ⟨h1,h2,d,s1,s2,ha,hl⟩:=h
 exact ⟨h1,s1,ha⟩

def av (h:Hp) (a:Addr) (vs:List Value):Prop:=∀ j v,vs[j]? = some v->oN h (a.add j) = some v
theorem av.mono {h h' : Hp} {a:Addr} {vs:List Value} (s:sub h h') (r:av h a vs):av h' a vs:=λj v hj=>ni s (r j v hj)
theorem av.cell {w:Ws} {h:Hp} {a:Addr} {vs:List Value} (r:av h a vs) (s:sub h (hp w)) {j:Nat} {v:Value} (hj:vs[j]? = some v):w.cell? (a.add j) = some v:=j5 (ni s (r j v hj))
theorem av.cell0 {w:Ws} {h:Hp} {a:Addr} {v:Value} {vs:List Value} (r:av h a (v :: vs)) (s:sub h (hp w)):w.cell? a = some v:=by
 have:=r.cell s (j:=0) (v:=v) rfl
 simpa [Addr.add] using this
theorem av.drop {h:Hp} {a:Addr} {us vs:List Value} (r:av h a (us ++ vs)):av h (a.add us.length) vs:=λj v hj=>by
 rw [add_add]; exact r _ v (by rw [UP (by omega),Vp]; exact hj)
theorem av.take {h:Hp} {a:Addr} {us vs:List Value} (r:av h a (us ++ vs)):av h a us:=λj v hj =>
 r j v (by rw [UQ (UA.1 hj).1]; exact hj)
theorem Cn {w:Ws} {h:Hp} {a:Addr} (s:sub h (hp w)):∀ (vs:List Value) (i:Nat),av h (a.add i) vs->rowAt w a i vs.length = some vs
 | [],i,_=>rfl
 | v :: vs,i,r=>by
  have h1:w.cell? (a.add i) = some v:=r.cell0 s
  have h2:av h (a.add (i + 1)) vs:=by
   rw [<- add_add]; exact av.drop (us:=[v]) r
  simp only [Vc,rowAt,h1,Cn s vs (i + 1) h2]
theorem av.at {w:Ws} {h:Hp} {a:Addr} {vs:List Value} {n:Nat} (r:av h a vs) (s:sub h (hp w)) (hn:vs.length = n):rowAt w a 0 n = some vs:=by
 subst hn; exact Cn s vs 0 (by simpa [Addr.add] using r)
theorem u7 {b:Nat} {vs:List Value} {h:Hp} (hc:aS b vs h):av h ⟨b,0,none⟩ vs:=λj v hj=>by
 obtain ⟨e,he⟩:=hc
 rw [aV]; unfold oN; simp only [he]; simpa using hj
class nQ (α : Type) where
 n:Nat
 rd:Hp->α->List Value->Prop
 mono:∀ {h h' : Hp} {x:α} {vs:List Value},sub h h'->rd h x vs->rd h' x vs
 len:∀ {h:Hp} {x:α} {vs:List Value},rd h x vs->vs.length = n
abbrev rd {α : Type} [nQ α] (h:Hp) (x:α) (vs:List Value):Prop:=nQ.rd h x vs
def aX {α : Type} [nQ α] (h:Hp) (xs:List α) (a:Wr) (l:Nat):Prop :=
 xs.length = l/\∀ i x,xs[i]? = some x->∃ ad vs,a = some ad/\av h (ad.add (cR i (nQ.n α))) vs/\rd h x vs
section
variable {α : Type} [nQ α] {h h' : Hp} {w:Ws} {xs:List α} {a:Wr} {l:Nat}
theorem aX.mono (s:sub h h') (r:aX h xs a l):aX h' xs a l :=
 ⟨r.1,λi x hx=>by obtain ⟨ad,vs,h1,h2,h3⟩:=r.2 i x hx; exact ⟨ad,vs,h1,h2.mono s,nQ.mono s h3⟩⟩
theorem aX.nil:aX h ([] : List α) a 0:=⟨rfl,λi x hx=>by simp at hx⟩
theorem aX.get (r:aX h xs a l) {i:Nat} (hi:i < l):∃ x ad vs,xs[i]? = some x/\a = some ad/\av h (ad.add (cR i (nQ.n α))) vs/\rd h x vs:=by
 have hl:i < xs.length:=by rw [r.1]; exact hi
 obtain ⟨ad,vs,h1,h2,h3⟩:=r.2 i xs[i] (UB hl)
 exact ⟨xs[i],ad,vs,UB hl,h1,h2,h3⟩
theorem aX.drop {k m:Nat} (r:aX h xs a l) (hk:k<=l) (hm:l<=m):aX h (xs.drop k) (eJ a k m (nQ.n α)) (l - k):=by
 refine ⟨by rw [VU,r.1],λi x hx=>?_⟩
 rw [Vb] at hx
 have hlt:=(UA.1 hx).1
 obtain ⟨ad,vs,rfl,h2,h3⟩:=r.2 _ x hx
 have hr:=r.1
 refine ⟨ad.add (cR k (nQ.n α)),vs,?_,?_,h3⟩
 ·unfold eJ; rw [UE (by omega)]; rfl
 ·rw [add_add,aF,aF,<- Nat.add_mul,<- aF]; exact h2
theorem aX.take {k:Nat} (r:aX h xs a l) (hk:k<=l):aX h (xs.take k) a k:=by
 refine ⟨by rw [U0,r.1]; omega,λi x hx=>?_⟩
 rw [VK] at hx
 split at hx
 ·exact r.2 i x hx
 ·cases hx
class qg (α : Type) extends nQ α where
 val:α->Value
 one:∀ {h:Hp} {x:α} {vs:List Value},rd h x vs↔vs = [val x]
 n1:n = 1
end
section
variable {α : Type} [qg α] {h h' : Hp} {w:Ws} {xs:List α} {a:Wr} {l:Nat}
theorem aX.at (r:aX h xs a l) {i:Nat} {x:α} (hx:xs[i]? = some x):∃ ad,a = some ad/\∀ w,sub h (hp w)->w.cell? (ad.add i) = some (qg.val x):=by
 obtain ⟨ad,vs,h1,h2,h3⟩:=r.2 i x hx
 have:=qg.one.1 h3
 subst this
 refine ⟨ad,h1,λw s=>?_⟩
 have:=h2.cell0 s
 rw [aF,qg.n1,VA] at this
 exact this
theorem aX.dM (r:aX h xs a l) {i:Nat} (hi:i < l):∃ x ad,xs[i]? = some x/\a = some ad/\∀ w,sub h (hp w)->w.cell? (ad.add i) = some (qg.val x):=by
 have hl:i < xs.length:=by rw [r.1]; exact hi
 obtain ⟨ad,h1,h2⟩:=r.at (UB hl)
 exact ⟨_,ad,UB hl,h1,h2⟩
theorem dN (hl:xs.length = l) (hr:fp a (xs.map qg.val) h):aX h xs a l:=by
 refine ⟨hl,λi x hx=>?_⟩
 rcases hr with hn | ⟨ad,rfl,hc⟩
 ·have:xs = []:=by simpa using hn
  subst this; simp at hx
 ·refine ⟨ad,[qg.val x],rfl,λj v hj=>?_,qg.one.2 rfl⟩
  cases j with
  | zero =>
   simp only [We,Option.some.injEq] at hj
   subst hj
   rw [aF,qg.n1,VA]
   have:=hc i (qg.val x) (by rw [UD,hx]; rfl)
   simpa [add_add] using this
  | succ j=>simp at hj
theorem aX.row (r:aX h xs a l):fp a (xs.map qg.val) h:=by
 cases xs with
 | nil=>exact .inl rfl
 | cons x0 xs' =>
  obtain ⟨ad,vs,rfl,_⟩:=r.2 0 x0 rfl
  refine .inr ⟨ad,rfl,λj v hj=>?_⟩
  rw [UD] at hj
  cases hx:(x0 :: xs')[j]? with
  | none=>rw [hx] at hj; cases hj
  | some x =>
   rw [hx] at hj; cases hj
   obtain ⟨ad',vs,e,h2,h3⟩:=r.2 j x hx
   cases e
   have:=qg.one.1 h3
   subst this
   have:=h2 0 _ rfl
   rw [aF,qg.n1,VA] at this
   simpa [add_add] using this
end
instance:qg Int:={ n:=1,rd:=λ_ x vs=>vs = [.int .i64 x],mono:=λ_ h=>h,len:=λh=>by rw [h]; rfl,val:=λx=>.int .i64 x,one:=Iff.rfl,n1:=rfl }
instance:qg Bool:={ n:=1,rd:=λ_ x vs=>vs = [.bool x],mono:=λ_ h=>h,len:=λh=>by rw [h]; rfl,val:=λx=>.bool x,one:=Iff.rfl,n1:=rfl }
instance:qg ByteArray:={ n:=1,rd:=λ_ x vs=>vs = [.string x],mono:=λ_ h=>h,len:=λh=>by rw [h]; rfl,val:=λx=>.string x,one:=Iff.rfl,n1:=rfl }
instance {α : Type} [nQ α] : nQ (List α) :=
 { n:=1,rd:=λh xs vs=>∃ a l c,vs = [.slice a l c]/\l<=c/\aX h xs a l,mono:=λs ⟨a,l,c,h1,h3,h2⟩=>⟨a,l,c,h1,h3,h2.mono s⟩,len:=λ⟨_,_,_,h,_⟩=>by rw [h]; rfl }
def anyI:Int->Prop:=λz=>-9223372036854775808<=z/\z<=9223372036854775807
def bv (bs:List Bool):List Value:=bs.map λb=>Value.bool b
theorem dO {h:Hp} {xs:List Int} {a:Wr} {l:Nat} (hl:xs.length = l) (hr:fp a (iv xs) h):aX h xs a l:=dN hl hr
theorem Hl {h:Hp} {xs:List Bool} {a:Wr} {l:Nat} (hl:xs.length = l) (hr:fp a (bv xs) h):aX h xs a l:=dN hl hr
theorem aX.iv {h:Hp} {xs:List Int} {a:Wr} {l:Nat} (r:aX h xs a l):fp a (V.iv xs) h:=r.row
theorem iW (xs:List Int):(iv xs).length = xs.length:=by simp [iv]
theorem Hm (xs:List Bool):(bv xs).length = xs.length:=by simp [bv]
theorem Mi {w w' : Ws} (h:hp w' = hp w):sub (hp w) (hp w'):=Gr.of_eq h
def cj (bs:List Bool):Nat->Bool:=λk=>bs.getD k false
def mb (bs:List Bool):List Nat:=u5 bs.length (cj bs)
def fG (bs:List Bool):List Int:=(mb bs).map λ(k:Nat)=>(k:Int)
def bn (bs:List Bool):Nat:=j6 bs.length (cj bs)
def Dz (n:Nat) (m:Nat->Bool):List Bool:=(List.range n).map m
def dm (bs:List Bool) (xs:List Int):List Bool:=Dz bs.length (fL bs.length (cj bs) xs)
def hasB (bs:List Bool) (k:Int):Bool:=decide (0<=k) && cj bs k.toNat
def Bz (size:Int) (xs:List Int):List Bool:=dm (List.replicate (GW size) false) xs
def cr (bs:List Bool) (vss:List (List Bool)):List Bool:=vss.foldl (λb v=>dm b (fG v)) bs
theorem u9 (n:Nat) (m:Nat->Bool):(Dz n m).length = n:=by simp [Dz]
theorem bF (bs:List Bool) (xs:List Int):(dm bs xs).length = bs.length:=u9 _ _
theorem Pf (size:Int) (xs:List Int):(Bz size xs).length = GW size:=by simp [Bz,bF]
theorem u_ {bs:List Bool} {k:Nat} (h:bs.length<=k):cj bs k = false:=by
 unfold cj; rw [UN,UW h]; rfl
theorem IW {bs:List Bool} {k:Nat} {b:Bool} (h:bs[k]? = some b):cj bs k = b:=by
 unfold cj; rw [UN,h]; rfl
theorem IX {n:Nat} {m:Nat->Bool} (hm:∀ k,n<=k->m k = false):cj (Dz n m) = m:=by
 funext k
 by_cases h:k < n
 ·exact IW (by simp [Dz,h])
 ·rw [u_ (by rw [u9]; omega),hm k (by omega)]
theorem IY (bs:List Bool):Dz bs.length (cj bs) = bs:=by
 apply Vq
 intro k
 by_cases h:k < bs.length
 ·simp [Dz,h,cj]
 ·rw [UW (by rw [u9]; omega),UW (by omega)]
theorem va {cs bs:List Bool} (hl:cs.length = bs.length) (h:∀ k,cj cs k = cj bs k):cs = bs:=by
 rw [<- IY cs,<- IY bs,hl]; congr 1; funext k; exact h k
theorem gE (bs:List Bool) (xs:List Int):cj (dm bs xs) = fL bs.length (cj bs) xs :=
 IX λk hk=>by simp [fL,u_ hk]; omega
theorem vb (n k:Nat):cj (List.replicate n false) k = false:=by
 unfold cj; rw [UN,Wf]; split <;> rfl
theorem jd (bs:List Bool):bn bs<=bs.length:=Hk _ _
theorem y_ (bs:List Bool):(fG bs).length = bn bs:=by rw [fG,UH]; rfl
theorem Rs {bs:List Bool} {k:Nat}:k∈mb bs↔cj bs k = true:=by
 simp only [mb,u5,Vo,U8]
 refine ⟨λh=>h.2,λh=>⟨Nat.lt_of_not_le λhl=>?_,h⟩⟩
 rw [u_ hl] at h; cases h
theorem Pg {bs:List Bool} {x:Int}:x∈fG bs↔hasB bs x = true:=by
 simp only [fG,UU,Rs,hasB,UT,UO]
 constructor
 ·rintro ⟨k,h,rfl⟩; exact ⟨by omega,h⟩
 ·rintro ⟨h1,h2⟩; exact ⟨_,h2,by omega⟩
theorem DA {bs:List Bool} {k:Nat}:(fG bs).contains (k:Int) = cj bs k:=by
 rw [Vn,V1,Pg]
 simp [hasB]
theorem Rt (bs:List Bool):iv (fG bs) = nj (mb bs):=by rw [fG,Rr]
theorem fa (bs vs:List Bool) (k:Nat):cj (dm bs (fG vs)) k = (cj bs k || (decide (k < bs.length) && cj vs k)):=by
 rw [gE,fL,DA]
theorem tN (vss:List (List Bool)):∀ bs,(cr bs vss).length = bs.length:=by
 induction vss with
 | nil=>exact λ_=>rfl
 | cons v l ih=>exact λbs=>(ih _).trans (bF _ _)
theorem Kv (vss:List (List Bool)):∀ (bs:List Bool) (k:Nat),cj (cr bs vss) k = (cj bs k || (decide (k < bs.length) && vss.any λv=>cj v k)):=by
 induction vss with
 | nil=>intro bs k; simp [cr]
 | cons v l ih =>
  intro bs k
  show cj (cr (dm bs (fG v)) l) k = _
  rw [ih,bF,fa,List.any_cons]
  cases cj bs k <;> cases decide (k < bs.length) <;> simp
theorem Fg {vss:List (List Bool)} {bs v:List Bool} {j:Nat} (h:vss[j]? = some v):cr bs (vss.take (j + 1)) = dm (cr bs (vss.take j)) (fG v):=by
 unfold cr; rw [UI,h,List.foldl_append]; rfl
theorem Kw {bs:List Bool} {xs:List Int} {j:Nat} {x:Int} (h:xs[j]? = some x):dm (dm bs (xs.take j)) [x] = dm bs (xs.take (j + 1)):=by
 refine va (by simp [bF]) λk=>?_
 rw [gE,gE,gE]
 simp only [fL,bF,cJ h,mv,List.contains_cons,List.contains_nil,Bool.or_false]
 cases cj bs k <;> cases decide (k < bs.length) <;> simp
theorem Mj {n:Nat} {m m' : Nat->Bool} (h:∀ k,m k = true->m' k = true):j6 n m<=j6 n m':=by
 unfold j6
 rw [<- List.countP_eq_length_filter,<- List.countP_eq_length_filter]
 exact List.countP_mono_left λk _=>h k
theorem nk (bs:List Bool) (xs:List Int):bn bs<=bn (dm bs xs):=by
 unfold bn; rw [bF,gE]
 exact Mj λk h=>by simp [fL,h]
def dY (p:Wr) (bs:List Bool):au:=uY p bs.length (cj bs)
def nm (h:Hp) (p:Wr) (bs:List Bool):Prop :=
 (p = none/\bs = [])\/∃ b a c ws,p = some ⟨b,0,none⟩/\Inv bs.length ws (cj bs)/\av h ⟨b,0,none⟩ [.slice a (List.length ws) c,.int .i64 (bs.length:Int)]/\fp a (cw ws) h
theorem fp.mono {h h' : Hp} {a:Wr} {vs:List Value} (s:sub h h') (r:fp a vs h):fp a vs h':=by
 rcases r with r | ⟨ad,e,hc⟩
 ·exact .inl r
 ·exact .inr ⟨ad,e,λj v hj=>ni s (hc j v hj)⟩
theorem nm.mono {h h' : Hp} {p:Wr} {bs:List Bool} (s:sub h h') (r:nm h p bs):nm h' p bs:=by
 rcases r with r | ⟨b,a,c,ws,h1,h2,h3,h4⟩
 ·exact .inl r
 ·exact .inr ⟨b,a,c,ws,h1,h2,h3.mono s,h4.mono s⟩
theorem DB {h:Hp} {p:Wr} {bs:List Bool} (ho:dY p bs h):nm h p bs:=by
 rcases ho with ⟨h1,h2,_⟩ | ⟨b,a,c,ws,h1,h2,h3⟩
 ·exact .inl ⟨h1,UL h2⟩
 ·obtain ⟨g1,g2,d,s1,s2,ha,g3,g4,d',s3,s4,hb,_⟩:=h3
  exact .inr ⟨b,a,c,ws,h1,h2,(u7 ha).mono s1,(cE hb).mono (s3.trans s2)⟩
theorem St.nm {w:Ws} {L:List au} {p:Wr} {bs:List Bool} (h:St w (dY p bs :: L)):nm (hp w) p bs:=by
 obtain ⟨h1,s,ha⟩:=h.first
 exact (DB ha).mono s
theorem nm.le {h:Hp} {p:Wr} {bs:List Bool} (r:V.nm h p bs):bs.length<=1024:=by
 rcases r with ⟨_,rfl⟩ | ⟨b,a,c,ws,_,h2,_⟩
 ·simp
 ·exact h2.le
theorem Ml {w:Ws} {L:List au} {p:Wr} {n:Nat} {m:Nat->Bool} (h:St w (uY p n m :: L)):St w (dY p (Dz n m) :: L):=by
 unfold dY; rw [u9,IX λk hk=>Ma h hk]; exact h
instance:qg (Wr):={ n:=1,rd:=λ_ x vs=>vs = [.pointer x],mono:=λ_ h=>h,len:=λh=>by rw [h]; rfl,val:=λx=>.pointer x,one:=Iff.rfl,n1:=rfl }
end Go.V
namespace Go.Proofs.YtndaepmjkbmjmaaGreatDoor
section
variable {w:Ws} {L:List au} {a:Wr} {l c:Nat} {p q:Wr} {bs cs:List Bool} {xs:List Int} {ws:List Nat}
theorem Mm (h:St w (dY p bs :: L)) (hx:∀ h,aG L h->aX h xs a l) (hb:l<=4611686018427387904) :
  ay Tryz.prog pY [.pointer p,.slice a l c] w λv w'=>v = .int .i64 ((bn (dm bs xs):Int) - bn bs)/\St w' (dY p (dm bs xs) :: L):=by
 obtain ⟨h0,hl,hs,h1⟩:=h.freeze
 have hx:=hx h0 hl
 refine (QG (D:=has h0) (L:=[]) (λh hh=>hx.iv.mono hh) h1 hx.1 hb).mono ?_
 rintro _ w' ⟨rfl,h2⟩
 refine ⟨?_,?_⟩
 ·simp only [bn,bF,gE]
 ·have h2:=Ml h2
  exact h2.u6 hl
theorem Ru (size:Int) (hx:aX (hp w) xs a l) (hb:l<=4611686018427387904) :
  ay Tryz.prog Cf [.int .i64 size,.slice a l c] w λv w'=>∃ b,v = .pointer (some ⟨b,0,none⟩)/\St w' (dY (some ⟨b,0,none⟩) (Bz size xs) :: all w):=by
 refine (TK size (D:=has (hp w)) (L:=[]) (λh hh=>hx.iv.mono hh) (St.all w) hx.1 hb).mono ?_
 rintro _ w' ⟨b,rfl,h2⟩
 refine ⟨b,rfl,?_⟩
 have h2:=Ml h2
 have e:Dz (GW size) (fL (GW size) (λ_=>false) xs) = Bz size xs:=by
  unfold Bz dm
  rw [V8]
  congr 2
  funext k; exact (vb _ k).symm
 rw [e] at h2
 exact h2
theorem QI (h:nm (hp w) p bs):ay Tryz.prog zR [.pointer p] w λv w'=>∃ b,v = .func (.func lZ) #[] #[.pointer (some ⟨b,0,none⟩)]/\St w' (SA b bs.length (cj bs) :: all w):=by
 refine wN ?_
 refine af (St.all w) λb w1 h1=>?_
 rcases h with ⟨rfl,rfl⟩ | ⟨b2,a,c,ws,rfl,hi,h2,hr⟩
 ·refine ⟨b,rfl,u4.2 ⟨none,0,[],inv_zero (UM _),?_⟩⟩
  exact (az 1 h1).swap
 ·have hl:ws.length<=1024:=by rw [hi.len]; have:=hi.le; omega
  refine ⟨a,ws.length,c,h2.cell0 h1.aR,?_⟩
  refine (Pc (D:=has (hp w)) (λh hh=>hr.mono hh) h1.swap hl (λe=>?_)).mono ?_
  ·subst e
   rcases hr with hr | ⟨_,hr,_⟩
   ·exact Rp hr
   ·cases hr
  rintro _ w2 ⟨a',c',rfl,h3⟩
  refine ⟨_,_,_,rfl,?_⟩
  refine bC h3.EF (by simp) λw3 h4=>?_
  exact ⟨b,rfl,u4.2 ⟨a',c',ws,hi,h4⟩⟩
theorem Co (h:nm (hp w) p bs) (ht:dG (hp w)):ay Tryz.prog tC [.pointer p] w λv w'=>∃ a' c',v = .slice a' (bn bs) c'/\St w' (own 1 a' (bn bs) c' (iv (fG bs)) :: all w):=by
 refine p8 ?_
 have hn:=h.le
 have hc:=jd bs
 refine (QI h).mono ?_
 rintro _ w1 ⟨b,rfl,h1⟩
 refine ⟨_,_,rfl,?_⟩
 refine (Kt (rfl:Fn _ = true) Ck (λh hh=>fp.mono (kC hh) ht) (by rw [Cj]; show bn bs<=_; omega) h1).mono ?_
 rintro _ w2 ⟨a',c',rfl,h3⟩
 refine ⟨_,_,_,rfl,a',c',rfl,?_⟩
 rw [Rt]
 exact h3.swap.tail
theorem DC (h:St w (own 1 a l c (iv xs) :: L)):aX (hp w) xs a l:=by
 have hl:=ir h
 obtain ⟨h1,s,ha⟩:=h.first
 exact (dO (by simpa [iv] using hl) (cE ha)).mono s
end
end Go.Proofs.YtndaepmjkbmjmaaGreatDoor
namespace Go.V
theorem rj {bs cs:List Bool} (h:∀ k,cj cs k = true->cj bs k = true):dm bs (fG cs) = bs:=by
 refine va (bF _ _) λk=>?_
 rw [fa]
 cases hk:cj cs k
 ·simp
 ·simp [h k hk]
theorem BA (bs:List Bool) (vss:List (List Bool)) (k:Nat) (h:cj bs k = true):cj (cr bs vss) k = true:=by
 rw [Kv,h]; rfl
theorem Hn (vss:List (List Bool)):∀ bs,bn bs<=bn (cr bs vss):=by
 induction vss with
 | nil=>exact λ_=>US _
 | cons v l ih=>exact λbs=>U7 (nk bs (fG v)) (ih _)
theorem IZ {ks:List Nat} {i:Nat} {us:List Value} (h:(Dy ks)[i]? = some us):∃ k,ks[i]? = some k/\us = [.int .i64 (k:Int)]:=by
 unfold Dy at h
 rw [UD] at h
 cases hk:ks[i]? with
 | none=>rw [hk] at h; cases h
 | some k=>rw [hk] at h; cases h; exact ⟨k,rfl,rfl⟩
theorem Ph (ks:List Nat):(Dy ks).length = ks.length:=by simp [Dy]
theorem Pj {bs:List Bool} {i k:Nat} (h:(mb bs)[i]? = some k):(fG bs)[i]? = some (k:Int):=by simp [fG,h]
theorem qh {L:List au} {A:au}:∀ {h:Hp},A∈L->aG L h->∃ h1,sub h1 h/\A h1:=by
 induction L with
 | nil=>intro h hm; simp at hm
 | cons B L ih =>
  rintro h hm ⟨h1,h2,d,s1,s2,ha,hl⟩
  rcases UR.1 hm with rfl | hm
  ·exact ⟨h1,s1,ha⟩
  ·obtain ⟨h3,s3,h4⟩:=ih hm hl
   exact ⟨h3,s3.trans s2,h4⟩
end Go.V
namespace Go.Proofs.YtndaepmjkbmjmaaGreatDoor
section
variable {w:Ws} {L:List au} {a:Wr} {l c:Nat} {p q:Wr} {bs cs:List Bool} {xs:List Int} {os:List (Wr)} {vss:List (List Bool)}
theorem I0 (h:St w (dY p bs :: L)) (hx:∀ h,aG L h->aX h os a l) (hv:vss.length = os.length) (ho:∀ h,aG L h->∀ (i:Nat) q v,os[i]? = some q->vss[i]? = some v->nm h q v\/(q = p/\v = bs))
  (ht:∀ h,aG L h->dG h) (hb:l<=4611686018427387904) :
  ay Tryz.prog wP [.pointer p,.slice a l c] w λv w'=>v = .int .i64 ((bn (cr bs vss):Int) - bn bs)/\St w' (dY p (cr bs vss) :: L):=by
 obtain ⟨h0,hl,_,h1⟩:=h.freeze
 have hx:=hx h0 hl
 have ho:=ho h0 hl
 have ht:dG h0:=ht h0 hl
 have hn:=h.nm.le
 have done:∀ w',St w' (dY p (cr bs vss) :: [has h0])->St w' (dY p (cr bs vss) :: L):=λw' h=>h.u6 hl
 clear h hl
 refine tM ?_
 refine af h1 λb1 w1 h1=>af h1 λb2 w2 h1=>bC h1 (by simp) λw3 h1=>?_
 have cb:∀ j,bn (cr bs (vss.take j))<=1024:=λj=>by
  have:=jd (cr bs (vss.take j)); rw [tN] at this; omega
 refine ⟨λn1 w=>∃ j:Nat,n1 = j/\j<=l/\St w [aS b2 [.int .i64 ((bn (cr bs (vss.take j)):Int) - bn bs)],aS b1 [.pointer p],dY p (cr bs (vss.take j)),has h0],λn1 _=>l - n1.toNat,
  ⟨0,rfl,by omega,?_⟩,?_⟩
 ·show St w3 [aS b2 [.int .i64 ((bn bs:Int) - bn bs)],_,_,_]
  rw [Int.sub_self]; exact h1
 rintro _ n1 w4 ⟨j,rfl,hj,hs⟩
 refine aa (λhlt=>?_) λhlt=>?_
 ·have hlt:j < l:=by have:=Uz hlt; omega
  obtain ⟨q,ad,hq,rfl,hc⟩:=hx.dM hlt
  have hs0:sub h0 (hp w4):=(hs.pick 4 [3]).has
  refine aB rfl hlt ⟨q,hc _ hs0,?_⟩
  obtain ⟨v,hvj⟩ : ∃ v,vss[j]? = some v:=⟨vss[j]'(by rw [hv,hx.1]; omega),UB _⟩
  have hU:=Fg (bs:=bs) hvj
  have hlenU:(cr bs (vss.take j)).length = bs.length:=tN _ _
  have cbj:=cb j
  have cbj1:=cb (j + 1)
  have c0:=Hn (vss.take j) bs
  have c1:=nk (cr bs (vss.take j)) (fG v)
  rw [<- hU] at c1
  obtain ⟨v',hr',he'⟩ : ∃ v',nm (hp w4) q v'/\dm (cr bs (vss.take j)) (fG v') = cr bs (vss.take (j + 1)):=by
   rcases ho j q v hq hvj with hr | ⟨rfl,rfl⟩
   ·exact ⟨v,hr.mono hs0,hU.symm⟩
   ·refine ⟨cr v (vss.take j),(hs.pick 4 [2]).nm,?_⟩
    rw [hU,rj λ_ h=>h,rj λk hk=>BA _ _ _ hk]
  rw [<- he'] at c1 cbj1
  generalize hU0:cr bs (vss.take j) = U at *
  refine (QI hr').mono ?_
  rintro _ w5 ⟨b3,rfl,h5⟩
  have h6:=h5.u6 hs
  refine ⟨_,_,rfl,bz.2 ⟨rfl,?_⟩⟩
  refine ⟨Dy (mb v'),SA b3 v'.length (cj v'),dG,λi=>aT [aS b2 [.int .i64 ((bn (dm U ((fG v').take i)):Int) - bn bs)],aS b1 [.pointer p],dY p (dm U ((fG v').take i))],pu False,λ_=>pu False,[has h0],?_,(λh hh=>fp.mono (kC hh) ht),Ck,?_,?_,?_,?_,trivial⟩
  ·have h7:=h6.pick 5 [1,2,3,0,4]
   have e:dm U [] = U:=va (bF _ _) λk=>by rw [gE]; simp [fL]
   show St w5 [aT [aS b2 [.int .i64 ((bn (dm U []):Int) - bn bs)],_,dY p (dm U [])],_,_]
   rw [e]
   exact (St.flat.2 (show St w5 ([_,_,_] ++ [_,_]) from h7))
  ·intro x hx
   obtain ⟨i,hi,rfl⟩:=List.mem_iff_getElem.1 hx
   obtain ⟨k,_,e⟩:=IZ (UB hi)
   exact ⟨_,e⟩
  ·intro i x hx L' w6 _ hs6
   obtain ⟨k,hk,e⟩:=IZ hx
   cases e
   refine ⟨_,hs6,λL'' w7 _ hs7 w8 hd=>?_⟩
   have hs8:=St.flat.1 (hs7.drawn hd)
   refine ⟨λw=>w.cell? ⟨b2,0,none⟩ = some (.int .i64 ((bn (dm U ((fG v').take i)):Int) - bn bs))/\w.cell? ⟨b1,0,none⟩ = some (.pointer p),⟨hs8.cell 0,hs8.swap.cell 0⟩,_,λw h=>h.1,_,λw h=>h.2,?_⟩
   refine af hs8 λb4 w9 h9=>⟨⟨h9.swap.cell 0,h9.EF.cell 0⟩,?_⟩
   refine (Mm (xs:=[(k:Int)]) (l:=1) (h9.pick 4 [3,0,1,2]) (λh hh=>?_) (by omega)).mono ?_
   ·obtain ⟨h1,_,_,s1,_,⟨e,he⟩,_⟩:=hh
    exact (dO (xs:=[(k:Int)]) rfl (.inr ⟨_,rfl,u7 ⟨e,he⟩⟩)).mono s1
   ·rintro _ w10 ⟨rfl,h10⟩
    rw [Kw (Pj hk)] at h10 ⊢
    have k1:=nk U ((fG v').take i)
    have k2:=jd (dm U ((fG v').take i))
    have k3:=jd (dm U ((fG v').take (i + 1)))
    rw [bF] at k2 k3
    refine ⟨_,rfl,⟨(h10.pick 4 [2]).cell 0,(h10.pick 4 [3]).cell 0⟩,⟨by omega,by omega⟩,?_⟩
    refine bC (h10.pick 4 [2,3,0]) (by simp) λw11 h11=>St.flat.2 ?_
    have e:((bn (dm U ((fG v').take i)):Int) - bn bs + ((bn (dm U ((fG v').take (i + 1))):Int) - bn (dm U ((fG v').take i)))) = (bn (dm U ((fG v').take (i + 1))):Int) - bn bs:=by omega
    rw [e] at h11
    exact h11
  ·intro w6 h6
   refine ⟨⟨by omega,by omega⟩,⟨j + 1,by simp,by omega,?_⟩,bK hlt⟩
   have e:(fG v').take (Dy (mb v')).length = fG v':=UX (by rw [Ph,y_]; exact US _)
   dsimp only at h6
   rw [e,he'] at h6
   exact (show St w6 [_,_,_,_,_] from St.flat.1 h6).pick 5 [0,1,2,4]
  ·intro w6 h6
   exact (St.pu.1 h6).1.elim
 ·have hlt:j = l:=by have:=Uy hlt; omega
  subst hlt
  rw [<- hx.1,<- hv,UZ] at hs
  refine ⟨_,hs.cell 0,λw5 h5=>⟨rfl,done _ ?_⟩⟩
  exact (hs.eq h5).pick 4 [2,3]
end
end Go.Proofs.YtndaepmjkbmjmaaGreatDoor
namespace Go.V
theorem ak {a:Wr} {ad:Addr} {len i sz:Nat} {k:Addr->Prop} (ha:a = some ad) (hi:i < len) (hk:k (ad.add (cR i sz))):idx a len (i:Int) sz k :=
 ⟨ad,ha,by omega,by omega,by simpa using hk⟩
section
variable {P:Program} {w w' : Ws} {L:List au} {b:Nat} {us vs:List Value} {e e' : TypeId} {A B C D:au}
theorem aW {Ty:TypeId->Option cB} (hT:di P Ty) {t tx ty:TypeId} {i:cB} {z:Value} (hk:ah Ty t = .slice e) (hkx:ah Ty tx = .slice e') (hi:Ty e = some i) (hz:i.zero = some z) (hzs:(cellsOf z).length = i.size)
  {a:Wr} {l c:Nat} (h:St w (aS b vs :: own i.size a l c us :: L)) (hv:vs.length = i.size) (h1:∀ u∈vs,aH u = true) (hb:(l + 1) * i.bytes<=140737488355328) (h63:l < 9223372036854775807) :
  aU P (Builtin.append_ (Array.mk [t,tx]) ty (Array.mk [.slice a l c,.slice (some ⟨b,0,none⟩) 1 1])) w λv w'=>∃ a' c',v = .slice a' (l + 1) c'/\St w' (own i.size a' (l + 1) c' (us ++ vs) :: aS b vs :: L):=by
 refine iu hT hk hi hz hzs h.swap (n:=1) (news:=vs) ?_ hb (by omega)
 refine fx hT hkx (by omega) (.inr ⟨_,rfl,λj u hj=>?_⟩) h1
 rw [aV,h.cell]; exact hj
end
theorem St.row {w:Ws} {L:List au} {b:Nat} {vs:List Value} (h:St w (aS b vs :: L)):av (hp w) ⟨b,0,none⟩ vs:=by
 obtain ⟨h1,s,ha⟩:=h.first
 exact (u7 ha).mono s
theorem fb {c:Bool} {a b:Prop} (h:c = true) (ha:a):br c a b:=by subst h; exact ha
theorem dZ {c:Bool} {a b:Prop} (h:c = false) (hb:b):br c a b:=by subst h; exact hb
theorem dV {L:List au}:∀ {h:Hp} (i:Nat),i < L.length->aG L h->∃ h1,sub h1 h/\sc L i h1:=by
 induction L with
 | nil=>intro h i hi; simp at hi
 | cons A L ih =>
  rintro h i hi ⟨h1,h2,d,s1,s2,ha,hl⟩
  cases i with
  | zero=>exact ⟨h1,s1,ha⟩
  | succ i =>
   obtain ⟨h3,s3,h4⟩:=ih i (by simpa using hi) hl
   exact ⟨h3,s3.trans s2,h4⟩
def zV:List au->Nat
 | []=>0
 | _ :: L=>zV L + 1
theorem j7:∀ L,zV L = L.length
 | []=>rfl
 | _ :: L=>by simp [zV,j7 L]
theorem bj {L:List au} {h h0:Hp} (i:Nat) (hl:aG L h) (e:sc L i = has h0:=by rfl) (hi:Nat.blt i (zV L) = true:=by rfl):sub h0 h:=by
 obtain ⟨h1,s,ha⟩:=dV i (by simpa [j7] using hi) hl
 rw [e] at ha
 exact sub.trans ha s
theorem St.l {w:Ws} {L:List au} (h:St w L):aG L (hp w):=h
section
variable {A B C:List Bool} {N:Nat} (hA:A.length = N) (hB:B.length = N) (hC:C.length = N)
include hA hB hC
end
theorem Ho {M:List au}:∀ {i:Nat} {A:au},M[i]? = some A->M.Perm (A :: M.eraseIdx i):=by
 induction M with
 | nil=>intro i A h; simp at h
 | cons B M ih =>
  intro i A h
  cases i with
  | zero=>simp at h; subst h; exact List.Perm.refl _
  | succ i=>exact (List.Perm.cons B (ih (by simpa using h))).trans (List.Perm.swap _ _ _)
theorem Mn {M:List au} {B:au}:∀ {i:Nat} {A:au},M[i]? = some A->(M.set i B).Perm (B :: M.eraseIdx i):=by
 induction M with
 | nil=>intro i A h; simp at h
 | cons C M ih =>
  intro i A h
  cases i with
  | zero=>exact List.Perm.refl _
  | succ i=>exact (List.Perm.cons C (ih (A:=A) (by simpa using h))).trans (List.Perm.swap _ _ _)
section
variable {w:Ws} {L M:List au} {A B:au} {i:Nat}
theorem St.out (h:St w (aT M :: L)) (hi:M[i]? = some A):St w (A :: aT (M.eraseIdx i) :: L):=by
 have h1:St w (M.eraseIdx i ++ A :: L):=(St.flat.1 h).perm (((Ho hi).append_right L).trans Vt.symm)
 exact (St.flat.2 h1).swap
theorem St.back (h:St w (B :: aT (M.eraseIdx i) :: L)) (hi:M[i]? = some A):St w (aT (M.set i B) :: L):=by
 have h1:=St.flat.1 h.swap
 exact St.flat.2 (h1.perm (Vt.trans ((Mn hi).symm.append_right L)))
theorem St.snoc (h:St w (A :: aT M :: L)):St w (aT (M ++ [A]) :: L):=by
 have h1:=St.flat.1 h.swap
 exact St.flat.2 (by rw [UK]; exact h1)
end
theorem Pk {α β : Type} (f:α->β->au) {ps:List α} {vs:List β} {i:Nat} {p:α} {v' : β} (hp:ps[i]? = some p):(List.zipWith f ps vs).set i (f p v') = List.zipWith f ps (vs.set i v'):=by
 apply Vq
 intro k
 rw [VC,List.getElem?_zipWith,List.getElem?_zipWith,VC,List.length_zipWith]
 by_cases hk:i = k
 ·subst hk
  rw [UJ rfl,UJ rfl,hp]
  have:=(UA.1 hp).1
  by_cases hl:i < vs.length
  ·simp [hl]; omega
  ·simp [hl]; omega
 ·rw [UE hk,UE hk]
def bk (p:Nat):Wr:=some ⟨p,0,none⟩
def pv (os:List (Wr)):List Value:=os.map λo=>Value.pointer o
def iO (ps:List Nat) (vss:List (List Bool)):List au:=List.zipWith (λp v=>dY (bk p) v) ps vss
theorem TL {L:List au} {h:Hp} {ps:List Nat} {vss:List (List Bool)} {k m p:Nat} {v:List Bool} (i:Nat) (hl:aG L h) (hp:ps[k]? = some p) (hv:vss[k]? = some v) (hk:k≠m) (e:sc L i = aT ((iO ps vss).eraseIdx m):=by rfl) (hi:Nat.blt i (zV L) = true:=by rfl):nm h (bk p) v:=by
 obtain ⟨h1,s,ha⟩:=dV i (by simpa [j7] using hi) hl
 rw [e] at ha
 obtain ⟨h2,s2,hb⟩:=qh (A:=dY (bk p) v) (List.mem_eraseIdx_iff_getElem?.2 ⟨k,hk,by unfold iO; rw [List.getElem?_zipWith,hp,hv]⟩) ha
 exact (DB hb).mono (s2.trans s)
theorem Rv {L:List au} {h:Hp} {a:Wr} {l c:Nat} {os:List (Wr)} (i:Nat) (hl:aG L h) (e:sc L i = own 1 a l c (pv os):=by rfl) (hi:Nat.blt i (zV L) = true:=by rfl):os.length = l->aX h os a l:=λhx=>by
 obtain ⟨h1,s,ha⟩:=dV i (by simpa [j7] using hi) hl
 rw [e] at ha
 exact (dN hx (cE ha)).mono s
theorem ag {L:List au} {h:Hp} {b:Nat} {vs:List Value} (i:Nat) (hl:aG L h) (e:sc L i = aS b vs:=by rfl) (hi:Nat.blt i (zV L) = true:=by rfl):av h ⟨b,0,none⟩ vs:=by
 obtain ⟨h1,s,ha⟩:=dV i (by simpa [j7] using hi) hl
 rw [e] at ha
 exact (u7 ha).mono s
open MapKept
class MVal (κ : Type) where
 val:κ->Value
 inj:∀ a b:κ,val a = val b->a = b
class vc (κ : Type) [DecidableEq κ] extends MVal κ where
 kd:TypeDesc
 now:∀ a b:κ,Instr.sameNow kd (val a) (val b) = some (decide (a = b))
 key:∀ a,IsKey kd (val a)
 bits:∀ a,Instr.sameBits 10000 (val a) (val a) = true
instance:vc Int:={ kd:=.int .i64,val:=λx=>.int .i64 x,inj:=λa b h=>by injection h,now:=λa b=>by simp [Instr.sameNow]; rfl,key:=λ_=>rfl,bits:=λa=>by simp [Instr.sameBits] }
instance:vc ByteArray:={ kd:=.string,val:=λx=>.string x,inj:=λa b h=>by injection h,now:=λa b=>by simp only [Instr.sameNow,Option.some.injEq]; rw [Vn,UO]; exact bytes_beq a b,key:=λ_=>trivial,bits:=λa=>by simp only [Instr.sameBits]; exact (bytes_beq a a).2 rfl }
section
variable {κ : Type} [DecidableEq κ] {P:Program} {w:Ws} {L:List au}
def assoc (k:κ):List (κ × Value)->Option Value
 | []=>none
 | (a,v) :: m=>if k = a then some v else assoc k m
def bA (k:κ) (v:Value):List (κ × Value)->List (κ × Value)
 | []=>[(k,v)]
 | (a,u) :: m=>if k = a then (k,v) :: m else (a,u) :: bA k v m
theorem dy (k a:κ) (v:Value):∀ m,assoc a (bA k v m) = if a = k then some v else assoc a m
 | []=>by simp [bA,assoc]
 | (b,u) :: m=>by
  unfold bA
  by_cases h:k = b
  ·subst h
   by_cases ha:a = k
   ·simp [assoc,ha]
   ·simp [assoc,ha]
  ·rw [UE h]
   by_cases hab:a = b
   ·subst hab
    simp [assoc,Ne.symm h]
   ·simp [assoc,hab,dy k a v m]
theorem zW (k:κ) (v:Value):∀ m,(bA k v m).length = if (assoc k m).isSome then m.length else m.length + 1
 | []=>rfl
 | (b,u) :: m=>by
  unfold bA assoc
  by_cases h:k = b
  ·simp [h]
  ·simp only [UE h,Vc,zW k v m]
   split <;> rfl
variable [MVal κ]
structure tp (es:Array MapEntry) (clock:Nat) (m:List (κ × Value)):Prop where
 eq:es.toList.map (λe=>(e.key,e.val)) = m.map λx=>(MVal.val x.1,x.2)
 nd:(es.toList.map (·.born)).Nodup
 lt:∀ e∈es.toList,e.born < clock
def mapA (b:Nat) (m:List (κ × Value)):au:=λh=>∃ es clock,h b = some (.map es clock)/\tp es clock m
theorem je {b:Nat} {m:List (κ × Value)}:St w (mapA b m :: L)↔∃ es clock,tp es clock m/\St w (blk b (.map es clock) :: L) :=
 ⟨λ⟨h1,h2,d,s1,s2,⟨es,cl,ha,he⟩,hl⟩=>⟨es,cl,he,h1,h2,d,s1,s2,ha,hl⟩,λ⟨es,cl,he,h1,h2,d,s1,s2,ha,hl⟩=>⟨h1,h2,d,s1,s2,⟨es,cl,ha,he⟩,hl⟩⟩
theorem dz {b:Nat} (h:St w (blk b (.map #[] 0) :: L)):St w (mapA b ([] : List (κ × Value)) :: L):=je.2 ⟨_,_,⟨rfl,by simp,by simp⟩,h⟩
structure SP (k:κ) (m:List (κ × Value)) (r:Option (Nat × Value)):Prop where
 eq:(r.map (·.2)) = assoc k m
 at' : ∀ j v,r = some (j,v)->j < m.length/\(m[j]?).map (·.1) = some k/\∀ u,bA k u m = m.set j (k,u)
 no:r = none->∀ u,bA k u m = m ++ [(k,u)]
structure qi (P:Program) (kt:TypeId) (κ : Type) [DecidableEq κ] [MVal κ] : Prop where
 check:∀ (w:Ws) (em:Bool) (k:κ),(Instr.checkKey em 10000 kt (MVal.val k)).run P w = .ok () w
 find:∀ (w:Ws) (k:κ) (es:List MapEntry) (m:List (κ × Value)),es.map (λe=>(e.key,e.val)) = m.map (λx=>(MVal.val x.1,x.2))->∃ r,(Instr.findKey kt (MVal.val k) es).run P w = .ok r w/\SP k m r
 bits:∀ k:κ,Instr.sameBits 10000 (MVal.val k) (MVal.val k) = true
end
section
variable {κ : Type} [DecidableEq κ] {P:Program} {w:Ws} {L:List au}
theorem zX [vc κ] (k:κ):∀ (es:List MapEntry) (m:List (κ × Value)) (i:Nat),es.map (λe=>(e.key,e.val)) = m.map (λx=>(MVal.val x.1,x.2)) ->
  ∃ r,Instr.findNow (vc.kd κ) (MVal.val k) es i = some r/\(r.map (·.2)) = assoc k m/\(∀ j v,r = some (j,v)->i<=j/\j < i + m.length/\(m[j - i]?).map (·.1) = some k/\∀ u,bA k u m = m.set (j - i) (k,u))/\(r = none->∀ u,bA k u m = m ++ [(k,u)])
 | [],[],i,_=>⟨none,rfl,rfl,λj v h=>(by cases h),λ_ u=>rfl⟩
 | [],_ :: _,i,h=>by simp at h
 | _ :: _,[],i,h=>by simp at h
 | e :: es,(a,v) :: m,i,h=>by
  simp only [Vh,List.cons.injEq,Prod.mk.injEq] at h
  obtain ⟨⟨h1,h2⟩,h3⟩:=h
  unfold Instr.findNow
  rw [h1,vc.now]
  by_cases hk:k = a
  ·subst hk
   refine ⟨some (i,e.val),by simp,by simp [assoc,h2],λj u hj=>?_,λhn=>by cases hn⟩
   cases hj
   simp [bA]
  ·obtain ⟨r,q1,q2,q3,q4⟩:=zX k es m (i + 1) h3
   refine ⟨r,by simp [hk,q1],by simp [assoc,hk,q2],λj u hj=>?_,λhn u=>by simp [bA,hk,q4 hn u]⟩
   obtain ⟨p1,p2,p3,p4⟩:=q3 j u hj
   have e1:j - i = (j - (i + 1)) + 1:=by omega
   refine ⟨by omega,by simp; omega,by rw [e1]; simpa using p3,λu=>by rw [e1]; simp [bA,hk,p4 u]⟩
theorem qi.zY [vc κ] {kt:TypeId} (hkt:P.underlying kt = some (vc.kd κ)):qi P kt κ where
 check:=λw em k=>run_checkKey (P:=P) (w:=w) hkt (vc.key k) em 9999
 find:=λw k es m he=>by
  obtain ⟨r,q1,q2,q3,q4⟩:=zX k es m 0 he
  refine ⟨r,run_findKey (P:=P) (w:=w) hkt q1,q2,λj v hj=>?_,q4⟩
  obtain ⟨_,p2,p3,p4⟩:=q3 j v hj
  rw [Nat.sub_zero] at p3 p4
  exact ⟨by omega,p3,p4⟩
 bits:=vc.bits
variable [MVal κ]
variable {Ty:TypeId->Option cB}
theorem vd {d:TypeDesc} {k e:TypeId} (h:Kd.map k e = dQ d):d = .map k e:=by cases d <;> simp [dQ] at h; obtain ⟨rfl,rfl⟩:=h; rfl
theorem l5 (hT:di P Ty) {t kt et:TypeId} {i:cB} {z:Value} (hk:ah Ty t = .map kt et) (hkt:qi P kt κ) (hi:Ty et = some i) (hz:i.zero = some z) {b:Nat} {m:List (κ × Value)} (h:St w (mapA b m :: L)) (k:κ) :
  aU P (Instr.lookup t (.map (some b)) (MVal.val k) false) w λv w'=>v = (assoc k m).getD z/\w' = w:=by
 obtain ⟨d,hd,hd'⟩:=cD hT hk (by simp)
 rw [vd hd'] at hd
 obtain ⟨es,cl,⟨he,_,_⟩,h⟩:=je.1 h
 obtain ⟨r,hf,q2,_,_⟩:=hkt.find w k es.toList m he
 obtain ⟨info,d2,ha⟩:=mP hT hi
 have hzz:(zeroValue et).run P w = .ok z w:=ji ha.inf (by rw [<- ha.zero,hz])
 refine ⟨_,w,?_,Ev.refl w,rfl,rfl⟩
 have hg:=h.get
 have hc:=λe=>hkt.check w e k
 unfold Instr.lookup
 simp only [Sem.run_bind,aK hd,Result.andThen_ok,run_getObj_map w b es cl hg,Sem.run_pure,hc,hf]
 rw [<- q2]
 cases r with
 | none=>simp [hzz]
 | some x=>simp
theorem l7 (hT:di P Ty) {t kt et:TypeId} (hk:ah Ty t = .map kt et) (hkt:qi P kt κ) {b:Nat} {m:List (κ × Value)} (h:St w (mapA b m :: L)) (k:κ) (v:Value) :
  aU P (Instr.mapUpdate t (.map (some b)) (MVal.val k) v) w λ_ w'=>St w' (mapA b (bA k v m) :: L):=by
 obtain ⟨d,hd,hd'⟩:=cD hT hk (by simp)
 rw [vd hd'] at hd
 obtain ⟨es,cl,⟨he,hnd,hlt⟩,h⟩:=je.1 h
 obtain ⟨r,hf,q2,q3,q4⟩:=hkt.find w k es.toList m he
 have hg:=h.get
 have hc:=λe=>hkt.check w e k
 have hlen:es.size = m.length:=by have:=congrArg List.length he; simpa using this
 have ev:∀ o:Array MapEntry × Nat,Ev w { w with heap:=w.heap.setIfInBounds b (.map o.1 o.2) }:=λo=>by
  refine ⟨rfl,rfl,rfl,by simp,?_,?_⟩ <;>
  ·intro x d hx
   rw [VJ]; exact hx
   intro e; subst e; rw [hg] at hx; cases hx
 cases r with
 | none =>
  refine ⟨(),_,?_,ev (es.push { key:=MVal.val k,val:=v,born:=cl },cl + 1),je.2 ⟨_,_,?_,h.setObj _⟩⟩
  ·unfold Instr.mapUpdate
   simp only [Sem.run_bind,aK hd,Result.andThen_ok,run_getObj_map w b es cl hg,hc,hf]
   exact run_setObj_map _ hg
  ·refine ⟨by rw [q4 rfl v]; simp [he],?_,?_⟩
   ·rw [Array.toList_push,U1,Vg]
    refine ⟨hnd,by simp,λa ha b hb e=>?_⟩
    obtain ⟨x,hx,rfl⟩:=UU.1 ha
    have:=hlt x hx
    simp at hb; omega
   ·intro e he'
    rw [Array.toList_push,UF,U2] at he'
    rcases he' with he' | rfl
    ·have:=hlt e he'; omega
    ·exact Nat.lt_succ_self _
 | some x =>
  obtain ⟨j,u⟩:=x
  obtain ⟨p2,p3,p4⟩:=q3 j u rfl
  have hj:j < es.size:=by omega
  have hkey:((es[j]?).map (·.key)).getD (MVal.val k) = MVal.val k:=by
   have h1:=congrArg (λl=>l[j]?) he
   simp only [UD] at h1
   cases hm:m[j]? with
   | none=>rw [hm] at p3; cases p3
   | some y =>
    rw [hm] at p3 h1
    simp only [VM,Option.some.injEq] at p3
    have hjl:j < es.toList.length:=by simpa using hj
    rw [UB hjl] at h1
    simp only [VM,Option.some.injEq,Prod.mk.injEq] at h1
    simp [hj]
    have:=h1.1
    rw [p3] at this
    simpa using this
  refine ⟨(),_,?_,ev (es.modify j λe=>{ e with key:=MVal.val k,val:=v },cl),je.2 ⟨_,_,?_,h.setObj _⟩⟩
  ·unfold Instr.mapUpdate
   simp only [Sem.run_bind,aK hd,Result.andThen_ok,run_getObj_map w b es cl hg,hc,hf,hkey,Instr.keyThatStays,hkt.bits,if_true,Sem.run_pure]
   exact run_setObj_map _ hg
  ·refine ⟨?_,?_,?_⟩
   rotate_left
   ·have:(es.modify j λe=>{ e with key:=MVal.val k,val:=v }).toList.map (·.born) = es.toList.map (·.born):=by
     apply Vq
     intro i
     simp only [UD,Va,Vv]
     split
     ·cases es[i]? <;> rfl
     ·rfl
    rw [this]; exact hnd
   ·intro e he'
    obtain ⟨i,hi⟩:=Vf he'
    rw [Va,Vv] at hi
    split at hi
    ·cases hx:es[i]? with
     | none=>rw [hx] at hi; cases hi
     | some x=>rw [hx] at hi; cases hi; exact hlt x (by rw [<- Va] at hx; exact UC hx)
    ·rw [<- Va] at hi; exact hlt e (UC hi)
   rw [p4 v]
   apply Vq
   intro i
   have h1:=congrArg (λl=>l[i]?) he
   simp only [UD,Va] at h1
   simp only [UD,Va,Vv,VC]
   by_cases hij:j = i
   ·subst hij
    simp [hj,p2] <;> omega
   ·simp [hij,h1]
theorem Pl (hT:di P Ty) {t kt et ty:TypeId} (hk:ah Ty t = .map kt et) {b:Nat} {m:List (κ × Value)} (h:St w (mapA b m :: L)):(Builtin.len_ #[t] ty #[.map (some b)]).run P w = .ok (.int .i64 (m.length:Int)) w:=by
 obtain ⟨d,hd,hd'⟩:=cD hT hk (by simp)
 rw [vd hd'] at hd
 obtain ⟨es,cl,⟨he,_,_⟩,h⟩:=je.1 h
 have hlen:es.size = m.length:=by have:=congrArg List.length he; simpa using this
 have hg:=h.get
 simp [Builtin.len_,run_underlying hd,run_getObj_map w b es cl hg,hlen,goInt]
end
section
variable {κ : Type} [DecidableEq κ] [vc κ] {P:Program} {w:Ws} {L:List au} {Ty:TypeId->Option cB}
theorem bU (hT:di P Ty) {t kt et:TypeId} {i:cB} {z:Value} (hk:ah Ty t = .map kt et) (hkt:P.underlying kt = some (vc.kd κ)) (hi:Ty et = some i) (hz:i.zero = some z) {b:Nat} {m:List (κ × Value)} (h:St w (mapA b m :: L)) (k:κ) :
  aU P (Instr.lookup t (.map (some b)) (MVal.val k) false) w λv w'=>v = (assoc k m).getD z/\w' = w:=l5 hT hk (qi.zY hkt) hi hz h k
theorem cN (hT:di P Ty) {t kt et:TypeId} (hk:ah Ty t = .map kt et) (hkt:P.underlying kt = some (vc.kd κ)) {b:Nat} {m:List (κ × Value)} (h:St w (mapA b m :: L)) (k:κ) (v:Value) :
  aU P (Instr.mapUpdate t (.map (some b)) (MVal.val k) v) w λ_ w'=>St w' (mapA b (bA k v m) :: L):=l7 hT hk (qi.zY hkt) h k v
end
def fM (s:ByteArray) (i:Nat):Nat:=(sb s i).toNat
theorem Rw (s:ByteArray) (i:Nat):fM s i < 256:=(sb s i).toNat_lt
theorem Rx {s:ByteArray} {i:Nat} (h:i < s.size):sb s i = s[i]'h:=by
 unfold sb
 have:i < s.data.size:=h
 rw [Array.getElem?_eq_getElem this]; rfl
theorem toList_data (s:ByteArray):s.toList = s.data.toList:=by rw [ByteArray.toList_eq]
theorem ve (x y:ByteArray):(x.toList == y.toList) = decide (x = y):=by
 rw [Vn,beq_iff_eq,UO,toList_data,toList_data]
 exact ⟨λh=>WideShapes.bytes_inj h,λh=>by rw [h]⟩
theorem Fh (x:ByteArray):(x.toList == ByteArray.toList (ByteArray.mk (Array.mk []))) = decide (x.size = 0):=by
 rw [ve,Vn,UO,UO]
 constructor
 ·rintro rfl; rfl
 ·intro h
  refine WideShapes.bytes_inj ?_
  have:x.data.toList.length = 0:=by simpa using h
  rw [UL this]
def EA (c:Nat):Bool:=decide (32<=c) && decide (c<=126) && !decide (c = 39)
def dt (s:ByteArray):Bool:=decide (1<=s.size) && decide (s.size<=16) && (List.range s.size).all λi=>EA (fM s i)
def Hq (i c:Nat):Bool:=decide (c = 95) || (decide (65<=c) && decide (c<=90)) || (decide (97<=c) && decide (c<=122)) || (decide (i≠0) && decide (48<=c) && decide (c<=57))
def de (s:ByteArray):Bool:=decide (1<=s.size) && decide (s.size<=16) && (List.range s.size).all λi=>Hq i (fM s i)
theorem rq {n:Nat} {p:Nat->Bool}:(List.range n).all p = true↔∀ i,i < n->p i = true:=by
 simp
theorem Kx (s:ByteArray) (pos:Nat) (h:pos < s.size) (hb:128<=(s[pos]'h).toNat):128<=(Utf8.decode s pos).1:=by
 have e:s.get! (pos + 0) = s[pos]'h:=by
  show s.get! pos = _
  simp [ByteArray.get!,getElem!_pos,h]
  rfl
 have hb0:128<=(s.get! (pos + 0)).toNat:=by rw [e]; exact hb
 have hx:∀ k,(s.get! (pos + k)).toNat < 256:=λk=>(s.get! (pos + k)).toNat_lt
 have h0:=hx 0; have h1:=hx 1; have h2:=hx 2; have h3:=hx 3
 simp only [Utf8.decode]
 repeat' split
 all_goals simp_all [Utf8.runeError]
 all_goals omega
theorem wrap_u8 (n:Nat) (h:n < 256):IntKind.u8.wrap (n:Int) = n:=by
 have:(n:Int) % (256:Int) = n:=Int.emod_eq_of_lt (by omega) (by omega)
 simp [IntKind.wrap,IntKind.signed,IntKind.bits,this]
theorem Mo {a b:Nat} (ha:a < 256) (hb:b < 256):kH .or .u8 (a:Int) (b:Int) = ((a ||| b:Nat):Int):=by
 show IntKind.u8.wrap (((BitVec.ofInt 8 (a:Int)) ||| (BitVec.ofInt 8 (b:Int))).toNat:Int) = _
 have e:∀ n:Nat,BitVec.ofInt 8 (n:Int) = BitVec.ofNat 8 n:=λn=>by apply BitVec.eq_of_toNat_eq; simp
 rw [e,e,BitVec.toNat_or,BitVec.toNat_ofNat,BitVec.toNat_ofNat,Nat.mod_eq_of_lt ha,Nat.mod_eq_of_lt hb]
 exact wrap_u8 _ (Nat.or_lt_two_pow (n:=8) ha hb)
theorem TM:∀ c:Fin 256,(decide (97<=(c.val ||| 32)) && decide ((c.val ||| 32)<=122)) = ((decide (65<=c.val) && decide (c.val<=90)) || (decide (97<=c.val) && decide (c.val<=122))):=by decide +kernel
instance instRepList1 {α : Type} [nQ α] : nQ (List α):=inferInstance
def I_ (xs:List Int):Prop:=∀ i x y,xs[i]? = some x->xs[i + 1]? = some y->x<=y
end Go.V
namespace Go.Proofs.YtndaepmjkbmjmaaGreatDoor
section
variable {w:Ws} {L:List au} {a:Wr} {l c:Nat} {s:ByteArray} {ss:List ByteArray} {xs:List Int}
theorem Ky (r:Int):ay Tryz.prog iT [.int .i32 r] w λv w'=>v = .bool (decide (r < 32) || decide (126 < r) || (r == 39))/\w' = w:=by
 refine tK ?_
 refine aa (λh=>⟨by rw [h]; rfl,rfl⟩) λh=>aa (λh2=>⟨by rw [h,h2]; rfl,rfl⟩) λh2=>⟨by rw [h,h2]; rfl,rfl⟩
theorem Fi (hs:s.size<=4611686018427387904):ay Tryz.prog sj [.string s,.func (.func iT) #[] #[]] w λv w'=>(∃ n:Int,v = .int .i64 n/\(decide (n < 0) = (List.range s.size).all λi=>EA (fM s i)))/\Gr w w':=by
 refine o_ ?_
 have key:ay Tryz.prog sk [.string s,.func (.func iT) #[] #[],.bool true] w λv w'=>(∃ n:Int,v = .int .i64 n/\(decide (n < 0) = (List.range s.size).all λi=>EA (fM s i)))/\Gr w w':=by
  refine pf ?_
  have h0:=St.all w
  refine ⟨_,_,run_range_string w 9 s Tryz.underlying9,Ev.push _ _,_,rfl,?_⟩
  have h1:=h0.push (.stringIter s 0)
  generalize w.heap.size = b at h1
  refine ⟨λw'=>∃ p,p<=s.size/\(∀ i,i < p->EA (fM s i) = true)/\St w' (blk b (.stringIter s p) :: all w),λw'=>s.size - w'.iterPos b,⟨0,by omega,λi hi=>by omega,h1⟩,?_⟩
  rintro _ w2 ⟨p,hp,hall,h2⟩
  have hk:=h2.get
  by_cases hlt:p < s.size
  ·have hev:Ev w2 (w2.iterAt b s (p + (Utf8.decode s p).2)):=by
    refine ⟨rfl,rfl,rfl,by simp [World.iterAt],?_,?_⟩ <;>
    ·intro x d hx
     simp only [World.iterAt]
     rw [VJ]; exact hx
     intro e; subst e; rw [hk] at hx; cases hx
   refine ⟨_,_,Lib.run_next_any_at w2 b s p _ hk hlt,hev,.inr ⟨_,_,rfl,bz.2 ⟨rfl,(Ky _).mono ?_⟩⟩⟩
   have h3:St (w2.iterAt b s (p + (Utf8.decode s p).2)) (blk b (.stringIter s (p + (Utf8.decode s p).2)) :: all w):=h2.setObj _
   rintro _ _ ⟨rfl,rfl⟩
   refine ⟨_,rfl,?_⟩
   have hget:fM s p = (s[p]'hlt).toNat:=by unfold fM; rw [Rx hlt]
   refine aa (λh4=>?_) λh4=>?_
   ·refine ⟨⟨_,rfl,?_⟩,h3.tail.has⟩
    have:EA (fM s p) = false:=by
     by_cases h5:(s[p]'hlt).toNat < 128
     ·rw [decode_ascii s p hlt h5] at h4
      unfold EA
      rw [hget]
      simp at h4 ⊢
      omega
     ·unfold EA; rw [hget]; simp; omega
    have e1:(List.range s.size).all (λi=>EA (fM s i)) = false:=by
     rw [List.all_eq_false]; exact ⟨p,by simpa using hlt,by simp [this]⟩
    rw [e1]; simp
   ·have h5:(s[p]'hlt).toNat < 128:=by
     refine Nat.lt_of_not_le λh5=>?_
     have:=Kx s p hlt h5
     simp at h4; omega
    rw [decode_ascii s p hlt h5] at h3 h4 ⊢
    have hok:EA (fM s p) = true:=by
     unfold EA; rw [hget]; simp at h4 ⊢; omega
    refine ⟨⟨p + 1,hlt,λi hi=>?_,h3⟩,?_⟩
    ·by_cases e:i = p
     ·rw [e]; exact hok
     ·exact hall i (by omega)
    ·have e1:World.iterPos w2 b = p:=by simp [World.iterPos,hk]
     have e2:World.iterPos (w2.iterAt b s (p + 1)) b = p + 1:=by simp [World.iterPos,h3.get]
     show s.size - World.iterPos (w2.iterAt b s (p + 1)) b < s.size - World.iterPos w2 b
     rw [e1,e2]; omega
  ·refine ⟨_,_,Lib.run_next_end_at w2 b s p _ hk hlt,Ev.refl _,.inl ⟨rfl,⟨_,rfl,?_⟩,h2.tail.has⟩⟩
   have:(List.range s.size).all (λi=>EA (fM s i)) = true:=rq.2 λi hi=>hall i (by omega)
   rw [this]; rfl
 refine key.mono ?_
 rintro _ w' ⟨⟨n,rfl,hn⟩,hg⟩
 exact ⟨n,rfl,⟨n,rfl,hn⟩,hg⟩
theorem Mp (hs:s.size<=4611686018427387904):ay Tryz.prog Bv [.string s] w λv w'=>v = .bool (dt s)/\Gr w w':=by
 refine yr _ w _ ?_
 unfold qd
 rw [Fh]
 unfold dt
 refine aa (λh=>?_) λh=>?_
 ·have h:1<=s.size:=by simp only [VQ,Vl] at h; omega
  refine aa (λh2=>?_) λh2=>?_
  ·have h2:s.size<=16:=by have:=Uz h2; omega
   refine (Fi hs).mono ?_
   rintro _ w' ⟨⟨n,rfl,hn⟩,hg⟩
   exact ⟨n,rfl,by rw [hn]; simp [h,h2],hg⟩
  ·have h2:¬ s.size<=16:=by have:=Uy h2; omega
   exact ⟨by simp [h2],Gr.refl _⟩
 ·have h:¬ 1<=s.size:=by simp only [Bool.not_eq_false',UO] at h; omega
  exact ⟨by simp [h],Gr.refl _⟩
theorem Mq (hs:s.size<=4611686018427387904):ay Tryz.prog Bx [.string s] w λv w'=>v = .bool (de s)/\w' = w:=by
 refine yy _ w _ ?_
 unfold qe
 rw [Fh]
 refine ⟨λn w'=>∃ j:Nat,n = j/\j<=s.size/\(∀ i,i < j->Hq i (fM s i) = true)/\w' = w,λn _=>s.size - n.toNat,⟨0,rfl,by omega,λi hi=>by omega,rfl⟩,?_⟩
 rintro _ n w1 ⟨j,rfl,hj,hall,rfl⟩
 refine aa (λh=>?_) λh=>?_
 ·have h:j < s.size:=by have:=Uz h; omega
  refine ⟨⟨by omega,by omega⟩,?_⟩
  rw [U9]
  have hlt:=Rw s j
  have hor:=TM ⟨fM s j,hlt⟩
  have e8:kH .or .u8 ((sb s j).toNat:Int) 32 = ((fM s j ||| 32:Nat):Int):=Mo (b:=32) hlt (by omega)
  rw [e8]
  show br (((fM s j:Nat):Int) != 95) _ _
  have stp:Hq j (fM s j) = true->aw ((j:Int) + 1)/\(∃ j' : Nat,(j:Int) + 1 = j'/\j'<=s.size/\(∀ i,i < j'->Hq i (fM s i) = true)/\w1 = w1)/\s.size - ((j:Int) + 1).toNat < s.size - (j:Int).toNat:=λhok=>by
   refine ⟨⟨by omega,by omega⟩,⟨j + 1,by simp,by omega,λi hi=>?_,rfl⟩,bK h⟩
   by_cases e:i = j
   ·rw [e]; exact hok
   ·exact hall i (by omega)
  have bad:Hq j (fM s j) = false->Value.bool false = Value.bool (de s)/\w1 = w1:=λhno=>by
   refine ⟨?_,rfl⟩
   have:(List.range s.size).all (λi=>Hq i (fM s i)) = false:=by
    rw [List.all_eq_false]; exact ⟨j,by simpa using h,by simp [hno]⟩
   unfold de; rw [this]; simp
  have okd:(fM s j = 95\/(97<=(fM s j ||| 32)/\(fM s j ||| 32)<=122)\/(j≠0/\48<=fM s j/\fM s j<=57))↔Hq j (fM s j) = true:=by
   have hor' : (97<=(fM s j ||| 32)/\(fM s j ||| 32)<=122)↔((65<=fM s j/\fM s j<=90)\/(97<=fM s j/\fM s j<=122)):=by
    have:=congrArg (· = true) hor
    simpa using this
   rw [hor']
   unfold Hq
   simp only [VH,UT,UO]
   omega
  generalize fM s j ||| 32 = d at *
  have yes:(fM s j = 95\/(97<=d/\d<=122)\/(j≠0/\48<=fM s j/\fM s j<=57))->_:=λhh=>stp (okd.1 hh)
  have no:¬ (fM s j = 95\/(97<=d/\d<=122)\/(j≠0/\48<=fM s j/\fM s j<=57))->_:=λhh=>bad (by cases hq:Hq j (fM s j); rfl; exact absurd (okd.2 hq) hh)
  clear okd hor e8 stp bad
  refine aa (λh1=>?_) λh1=>?_
  ·have h1:fM s j≠95:=by simp at h1; omega
   refine aa (λh2=>?_) λh2=>?_
   ·have h2:d < 97:=by have:=Uz h2; omega
    refine aa (λh3=>no (by simp at h3; omega)) λh3=>aa (λh4=>no (by have:((fM s j:Nat):Int) < 48:=Uz h4; omega)) λh4=>aa (λh5=>no (by have:57 < ((fM s j:Nat):Int):=Uz h5; omega)) λh5=>yes (.inr (.inr ?_))
    have h4:¬ ((fM s j:Nat):Int) < 48:=Uy h4
    have h5:¬ 57 < ((fM s j:Nat):Int):=Uy h5
    simp at h3; omega
   ·have h2:97<=d:=by have:=Uy h2; omega
    refine aa (λh6=>?_) λh6=>yes (.inr (.inl ⟨h2,by have:=Uy h6; omega⟩))
    have h6:122 < d:=by have:=Uz h6; omega
    refine aa (λh3=>no (by simp at h3; omega)) λh3=>aa (λh4=>no (by have:((fM s j:Nat):Int) < 48:=Uz h4; omega)) λh4=>aa (λh5=>no (by have:57 < ((fM s j:Nat):Int):=Uz h5; omega)) λh5=>yes (.inr (.inr ?_))
    have h4:¬ ((fM s j:Nat):Int) < 48:=Uy h4
    have h5:¬ 57 < ((fM s j:Nat):Int):=Uy h5
    simp at h3; omega
  ·exact yes (.inl (by simp at h1; omega))
 ·have h:j = s.size:=by have:=Uy h; omega
  subst h
  have hall':=rq.2 hall
  unfold de
  rw [hall']
  refine aa (λh=>?_) λh=>?_
  ·have h:1<=s.size:=by simp only [VQ,Vl] at h; omega
   refine ⟨?_,rfl⟩
   have e:decide ((s.size:Int)<=16) = decide (s.size<=16):=by rw [Vn]; simp only [UO]; omega
   rw [e]; simp [h]
  ·have h:¬ 1<=s.size:=by simp only [Bool.not_eq_false',UO] at h; omega
   exact ⟨by simp [h],rfl⟩
theorem Hr (hx:aX (hp w) xs a l) (hb:l<=4611686018427387904) (x:Int):ay Tryz.prog kL [.slice a l c,.int .i64 x] w λv w'=>v = .bool (decide (x∈xs))/\w' = w:=by
 refine jJ ?_
 have key:ay Tryz.prog ng [.slice a l c,.int .i64 x] w λv w'=>(∃ n:Int,v = .int .i64 n/\decide (0<=n) = decide (x∈xs))/\w' = w:=by
  refine lJ ?_
  have hl:=hx.1
  refine ⟨λn w'=>∃ j:Nat,n = j/\j<=l/\x∉xs.take j/\w' = w,λn _=>l - n.toNat,⟨0,rfl,by omega,by simp,rfl⟩,?_⟩
  rintro _ n w1 ⟨j,rfl,hj,hni,rfl⟩
  refine aa (λh=>?_) λh=>?_
  ·have h:j < l:=by have:=Uz h; omega
   obtain ⟨y,ad,hy1,rfl,hy2⟩:=hx.dM h
   refine aB rfl h ⟨y,hy2 _ (sub.refl _),aa (λh2=>?_) λh2=>?_⟩
   ·have h2:x = y:=by simpa using h2
    subst h2
    exact ⟨⟨_,rfl,by rw [U4 (UC hy1)]; simp⟩,rfl⟩
   ·have h2:x≠y:=by simpa using h2
    refine ⟨⟨by omega,by omega⟩,⟨j + 1,by simp,by omega,?_,rfl⟩,bK h⟩
    rw [cJ hy1,UF]
    simp [hni,h2]
  ·have h:j = l:=by have:=Uy h; omega
   subst h
   rw [<- hl,UZ] at hni
   exact ⟨⟨_,rfl,by rw [U5 hni]; rfl⟩,rfl⟩
 refine key.mono ?_
 rintro _ _ ⟨⟨n,rfl,hn⟩,rfl⟩
 exact ⟨n,rfl,by rw [hn],rfl⟩
theorem Pm (x:Int):ay Tryz.prog wO [.int .i64 x] w λv w'=>v = .bool false/\w' = w:=kM ⟨by simp,rfl⟩
theorem Ry (x y:Int):ay Tryz.prog yz [.int .i64 x,.int .i64 y] w λv w'=>v = .bool (decide (x < y))/\w' = w:=by
 refine uX ((Pm x).mono ?_)
 rintro _ _ ⟨rfl,rfl⟩
 exact ⟨_,rfl,dZ rfl ⟨rfl,rfl⟩⟩
theorem Hs (hx:aX (hp w) xs a l) (hb:l<=4611686018427387904):ay Tryz.prog kN [.slice a l c] w λv w'=>(∃ r:Bool,v = .bool r/\(r = true↔I_ xs))/\hp w' = hp w:=by
 refine jL ?_
 have hl:=hx.1
 refine ⟨⟨by omega,by omega⟩,λn w'=>∃ j:Nat,n = (l:Int) - 1 - j/\j<=l/\(∀ i x y,l - 1 - j<=i->xs[i]? = some x->xs[i + 1]? = some y->x<=y)/\hp w' = hp w,λn _=>n.toNat,⟨0,by omega,by omega,?_,rfl⟩,?_⟩
 ·intro i x y hi h1 h2
  have:=(UA.1 h2).1; omega
 rintro _ n w1 ⟨j,rfl,hj,hall,hw⟩
 refine aa (λh=>?_) λh=>?_
 ·have h:=Uz h
  have hj2:j + 1 < l:=by omega
  intro w2 hd
  have hw2:=(gi hd).trans hw
  have e1:((l:Int) - 1 - j) = ((l - 1 - j:Nat):Int):=by omega
  have e2:(((l - 1 - j:Nat):Int) - 1) = ((l - 2 - j:Nat):Int):=by omega
  rw [e1,e2]
  obtain ⟨x,ad,hx1,rfl,hx2⟩:=hx.dM (by omega:l - 1 - j < l)
  obtain ⟨y,ad2,hy1,e3,hy2⟩:=hx.dM (by omega:l - 2 - j < l)
  cases e3
  refine ⟨λw'=>hp w' = hp w,hw2,aB rfl (by omega) ⟨x,λw3 h3=>hx2 _ (Mi h3),⟨by omega,by omega⟩,aB rfl (by omega) ⟨y,λw3 h3=>hy2 _ (Mi h3),(Ry x y).mono ?_⟩⟩⟩
  rintro _ _ ⟨rfl,rfl⟩
  refine ⟨_,rfl,aa (λh5=>?_) λh5=>?_⟩
  ·have h5:=Uz h5
   refine ⟨⟨false,rfl,by simp; intro hs; have:=hs (l - 2 - j) y x hy1 (by rw [show l - 2 - j + 1 = l - 1 - j by omega]; exact hx1); omega⟩,hw2⟩
  ·have h5:=Uy h5
   refine ⟨⟨by omega,by omega⟩,⟨j + 1,by omega,by omega,λi x' y' hi h1 h2=>?_,hw2⟩,by dsimp only; omega⟩
   by_cases e:i = l - 2 - j
   ·subst e
    rw [hy1] at h1
    rw [show l - 2 - j + 1 = l - 1 - j by omega,hx1] at h2
    cases h1; cases h2; omega
   ·exact hall i x' y' (by omega) h1 h2
 ·have h:=Uy h
  exact ⟨⟨true,rfl,by simp; exact λi x y h1 h2=>hall i x y (by have:=(UA.1 h2).1; omega) h1 h2⟩,hw⟩
theorem Ht (hs:s.size<=4611686018427387904):ay Tryz.prog iw [.string s] w λv w'=>v = .bool (!de s)/\w' = w:=by
 refine si ((Mq hs).mono ?_)
 rintro _ _ ⟨rfl,rfl⟩
 exact ⟨_,rfl,rfl,rfl⟩
theorem yA (hx:aX (hp w) ss a l) (hb:l<=4611686018427387904) (hs:∀ s∈ss,s.size<=4611686018427387904):ay Tryz.prog fK [.slice a l c,.func (.func iw) #[] #[]] w λv w'=>v = .bool (!ss.all de)/\w' = w:=by
 refine eZ ?_
 have key:ay Tryz.prog ik [.slice a l c,.func (.func iw) #[] #[]] w λv w'=>(∃ n:Int,v = .int .i64 n/\decide (0<=n) = !ss.all de)/\w' = w:=by
  refine gh ?_
  have hl:=hx.1
  refine ⟨λn w'=>∃ j:Nat,n = j/\j<=l/\(ss.take j).all de = true/\w' = w,λn _=>l - n.toNat,⟨0,rfl,by omega,rfl,rfl⟩,?_⟩
  rintro _ n w1 ⟨j,rfl,hj,hni,rfl⟩
  refine aa (λh=>?_) λh=>?_
  ·have h:j < l:=by have:=Uz h; omega
   obtain ⟨y,ad,hy1,rfl,hy2⟩:=hx.dM h
   refine aB rfl h ⟨y,hy2 _ (sub.refl _),bz.2 ⟨rfl,(Ht (hs y (UC hy1))).mono ?_⟩⟩
   rintro _ _ ⟨rfl,rfl⟩
   refine ⟨_,rfl,aa (λh2=>?_) λh2=>?_⟩
   ·have:ss.all de = false:=by rw [List.all_eq_false]; exact ⟨y,UC hy1,by simpa using h2⟩
    exact ⟨⟨_,rfl,by rw [this]; simp⟩,rfl⟩
   ·refine ⟨⟨by omega,by omega⟩,⟨j + 1,by simp,by omega,?_,rfl⟩,bK h⟩
    rw [UI,hy1,Wh,hni]
    simpa using h2
  ·have h:j = l:=by have:=Uy h; omega
   subst h
   rw [<- hl,UZ] at hni
   exact ⟨⟨_,rfl,by rw [hni]; rfl⟩,rfl⟩
 refine key.mono ?_
 rintro _ _ ⟨⟨n,rfl,hn⟩,rfl⟩
 exact ⟨n,rfl,by rw [hn],rfl⟩
theorem tO {l:List ByteArray} {x:ByteArray}:(l ++ [x]).Nodup↔l.Nodup/\x∉l:=by
 rw [Vg]
 constructor
 ·rintro ⟨h1,_,h3⟩; exact ⟨h1,λh=>h3 x h x (by simp) rfl⟩
 ·rintro ⟨h1,h2⟩; exact ⟨h1,by simp,λa ha b hb e=>by simp at hb; subst hb; subst e; exact h2 ha⟩
theorem Fj (hx:aX (hp w) ss a l) (hb:l<=4611686018427387904):ay Tryz.prog Bw [.slice a l c] w λv w'=>v = .bool (decide ss.Nodup)/\Gr w w':=by
 refine yw ?_
 have hl:=hx.1
 refine lY (St.all w) λb w1 h=>?_
 have h:=dz (κ:=ByteArray) h
 refine ⟨λn w'=>∃ (j:Nat) (m:List (ByteArray × Value)),n = j/\j<=l/\(∀ s,(assoc s m).isSome = true↔s∈ss.take j)/\(∀ s v,assoc s m = some v->∃ k:Nat,v = .int .i64 (k:Int)/\k<=j)/\m.length<=j/\(m.length = j↔(ss.take j).Nodup)/\St w' (mapA b m :: all w),λn _=>l - n.toNat,
  ⟨0,[],rfl,by omega,by simp [assoc],λs v h=>by simp [assoc] at h,by simp,by simp,h⟩,?_⟩
 clear h
 rintro _ n w2 ⟨j,m,rfl,hj,hm1,hm2,hm3,hm4,h⟩
 refine aa (λhlt=>?_) λhlt=>?_
 ·have hlt:j < l:=by have:=Uz hlt; omega
  obtain ⟨s,ad,hs1,rfl,hs2⟩:=hx.dM hlt
  refine aB rfl hlt ⟨s,hs2 _ h.aR,(bU (κ:=ByteArray) aL (rfl:ah Ty _ = .map _ _) Tryz.underlying9 rfl rfl h s).mono ?_⟩
  rintro _ _ ⟨rfl,rfl⟩
  obtain ⟨k,hk,hkj⟩ : ∃ k:Nat,(assoc s m).getD (.int .i64 0) = .int .i64 (k:Int)/\k<=j:=by
   cases ha:assoc s m with
   | none=>exact ⟨0,rfl,by omega⟩
   | some v=>obtain ⟨k,rfl,hk⟩:=hm2 s v ha; exact ⟨k,rfl,hk⟩
  refine ⟨_,hk,⟨by omega,by omega⟩,(cN (κ:=ByteArray) aL (rfl:ah Ty _ = .map _ _) Tryz.underlying9 h s _).mono ?_⟩
  rintro _ w4 h
  have et:ss.take (j + 1) = ss.take j ++ [s]:=by rw [UI,hs1]; rfl
  refine ⟨⟨by omega,by omega⟩,⟨j + 1,_,by simp,by omega,λs'=>?_,λs' v hv=>?_,?_,?_,h⟩,bK hlt⟩
  ·rw [dy,et,UF,<- hm1]
   by_cases e:s' = s <;> simp [e]
  ·rw [dy] at hv
   split at hv
   ·cases hv; exact ⟨k + 1,by simp,by omega⟩
   ·obtain ⟨k',rfl,hk'⟩:=hm2 s' v hv; exact ⟨k',rfl,by omega⟩
  ·rw [zW]; split <;> omega
  ·rw [zW,et,tO,<- hm4,<- hm1]
   by_cases e:(assoc s m).isSome = true
   ·simp [e]; omega
   ·simp [e]
 ·have hlt:j = l:=by have:=Uy hlt; omega
  subst hlt
  refine ⟨_,Pl aL (rfl:ah Ty _ = .map _ _) h,_,rfl,?_,h.aR⟩
  rw [<- hl,UZ] at hm4
  congr 1
  rw [Vn,UO,<- hm4,hl]
  simp only [beq_iff_eq]; omega
end
abbrev cT:TypeId:=3
abbrev bp:=@Tryz.underlying3
abbrev Mr:TypeId:=5
abbrev Kz:=@Tryz.underlying5
abbrev np:TypeId:=9
abbrev kO:=@Tryz.underlying9
abbrev Ms:TypeId:=24
abbrev jM:TypeId:=38
abbrev BB:TypeId:=51
abbrev gj:TypeId:=62
abbrev qj:=@Tryz.eqGuardType62
abbrev zZ:=@Tryz.stoodInHeld62
abbrev fe:TypeId:=83
abbrev DD:=@Tryz.eqGuardType83
abbrev DE:=@Tryz.stoodInHeld83
abbrev qk:TypeId:=95
abbrev yB:=@Tryz.stoodInHeld95
abbrev yC:TypeId:=99
abbrev bt:TypeId:=104
abbrev vf:=@Tryz.eqGuardType104
abbrev DF:=@Tryz.stoodInHeld104
abbrev DG:=@Tryz.isAgg104
abbrev DH:=@Tryz.sizeOf104
abbrev mw:TypeId:=118
abbrev j8:TypeId:=184
abbrev BC:=@Tryz.eqGuardType184
abbrev BD:=@Tryz.stoodInHeld184
abbrev Hu:TypeId:=201
abbrev Fk:=@Tryz.underlying201
abbrev DI:TypeId:=226
abbrev nq:FuncId:=53
abbrev fy:FuncId:=96
abbrev dA:FuncId:=97
abbrev yD:=@Tryz.func97
abbrev z6:FuncId:=98
abbrev sr:FuncId:=99
abbrev vg:FuncId:=157
abbrev iN:=@Tryz.func230
end Go.Proofs.YtndaepmjkbmjmaaGreatDoor
namespace Go.V
structure h_ where
 name:ByteArray
 level:Int
structure aO where
 left:Int
 right:List Int
 level:Int
structure ae where
 terms:List h_
 nons:List ByteArray
 levels:List Int
 start:Int
 prods:List aO
instance:nQ h_:={ n:=2,rd:=λ_ t vs=>vs = [.string t.name,.int .i64 t.level],mono:=λ_ h=>h,len:=λh=>by rw [h]; rfl }
instance:nQ aO:={ n:=3,rd:=λh p vs=>∃ a l c,vs = [.int .i64 p.left,.slice a l c,.int .i64 p.level]/\l<=c/\aX h p.right a l,mono:=λs ⟨a,l,c,h1,h2,h3⟩=>⟨a,l,c,h1,h2,h3.mono s⟩,len:=λ⟨_,_,_,h,_⟩=>by rw [h]; rfl }
structure GA where
 ta:Wr
 tl:Nat
 tc:Nat
 na:Wr
 nl:Nat
 nc:Nat
 la:Wr
 ll:Nat
 lc:Nat
 s:Int
 pa:Wr
 pl:Nat
 pc:Nat
def GA.cells (x:GA):List Value:=[.slice x.ta x.tl x.tc,.slice x.na x.nl x.nc,.slice x.la x.ll x.lc,.int .i64 x.s,.slice x.pa x.pl x.pc]
structure gR (h:Hp) (g:ae) (x:GA):Prop where
 t:aX h g.terms x.ta x.tl
 n:aX h g.nons x.na x.nl
 l:aX h g.levels x.la x.ll
 s:x.s = g.start
 p:aX h g.prods x.pa x.pl
 tc:x.tl<=x.tc
 nc:x.nl<=x.nc
 lc:x.ll<=x.lc
 pc:x.pl<=x.pc
theorem gR.mono {h h' : Hp} {g:ae} {x:GA} (s:sub h h') (r:gR h g x):gR h' g x:=⟨r.t.mono s,r.n.mono s,r.l.mono s,r.s,r.p.mono s,r.tc,r.nc,r.lc,r.pc⟩
instance:nQ ae:={ n:=5,rd:=λh g vs=>∃ x:GA,vs = x.cells/\gR h g x,mono:=λs ⟨x,h1,h2⟩=>⟨x,h1,h2.mono s⟩,len:=λ⟨_,h,_⟩=>by rw [h]; rfl }
def iK (g:ae):Prop:=g.terms.length<=17592186044416/\g.nons.length<=17592186044416/\g.levels.length<=17592186044416/\g.prods.length * 40<=140737488351232/\(∀ t∈g.terms,t.name.size<=140737488351232/\anyI t.level)/\(∀ s∈g.nons,s.size<=140737488351232)/\(∀ p∈g.prods,p.right.length<=17592186043904)
theorem ql {L:List au} {b:Nat}:∀ (vs us:List Value) (i:Nat) {w:Ws},i + vs.length<=us.length->St w (aS b us :: L)->St (bW w ⟨b,0,none⟩ i vs) (aS b (us.take i ++ vs ++ us.drop (i + vs.length)) :: L)
 | [],us,i,w,_,h=>by simpa [bW] using h
 | v :: vs,us,i,w,hl,h=>by
  have h1:=h.Rf i v
  have h2:=ql vs (us.set i v) (i + 1) (by simp at hl ⊢; omega) h1
  simp only [Vc] at hl
  have e:(us.set i v).take (i + 1) ++ vs ++ (us.set i v).drop (i + 1 + vs.length) = us.take i ++ v :: vs ++ us.drop (i + (vs.length + 1)):=by
   rw [List.drop_set_of_lt (by omega),List.take_set,UI,VE _ _ (by simp; omega)]
   have:us[i]? = some (us[i]'(by omega)):=UB _
   rw [this]
   have e2:i - (us.take i).length = 0:=by simp; omega
   rw [e2]
   simp
   congr 1; omega
  rw [e] at h2
  simp only [bW,aV,Vc]
  exact h2
theorem tP {w:Ws} {L:List au} {b:Nat} {us:List Value} (h:St w (aS b us :: L)):∀ (vs:List Value) (i:Nat),i + vs.length<=us.length->(∀ v∈vs,aH v = true)->jh w ⟨b,0,none⟩ i vs
 | [],i,_,_=>trivial
 | v :: vs,i,hl,h1=>by
  simp only [Vc] at hl
  refine ⟨h1 v (by simp),⟨us[i]'(by omega),?_⟩,?_,tP h vs (i + 1) (by omega) λu hu=>h1 u (by simp [hu])⟩
  ·rw [aV,h.cell]; exact UB _
  ·rw [aV]; exact h.frozen i none
theorem aI {w:Ws} {L:List au} {b:Nat} {us vs:List Value} {k:Ws->Prop} (h:St w (aS b us :: L)) (hl:us.length = vs.length) (h1:∀ v∈vs,aH v = true) (hk:∀ w',St w' (aS b vs :: L)->k w'):cG w ⟨b,0,none⟩ vs k:=by
 refine ⟨tP h vs 0 (by omega) h1,λw' hw=>?_⟩
 subst hw
 have h2:=ql vs us 0 (by omega) h
 refine hk _ ?_
 have e:us.take 0 ++ vs ++ us.drop (0 + vs.length) = vs:=by rw [List.take_zero,Ve,VS (by omega),U3]
 rwa [e] at h2
theorem cO {a:Wr} {len cap lo sz:Nat} {k:Wr->Nat->Nat->Prop} (h1:lo<=len) (h2:len<=cap) (hk:k (eJ a lo cap sz) (len - lo) (cap - lo)):lV a len cap (some (lo:Int)) none none sz k :=
 ⟨.inl rfl,.inl rfl,⟨by show (0:Int)<=(lo:Int); omega,by show (lo:Int)<=(len:Int); omega⟩,by simpa using hk⟩
def qm (g:ae) (added:Nat):Prop:=g.terms[0]? = some ⟨.empty,0⟩/\added < g.nons.length/\g.terms.length<=65/\g.nons.length<=64 + added/\g.terms.length - 1 + (g.nons.length - added)<=64 /\
 (∀ t∈g.terms.drop 1,dt t.name = true/\0<=t.level/\t.level<=g.levels.length)/\(∀ (i:Nat) v,g.levels[i]? = some v->1<=v/\v<=3/\∃ t∈g.terms.drop 1,t.level = (i:Int) + 1) /\
 ((g.terms.drop 1).map h_.name).Nodup/\(g.nons.drop added).Nodup/\∀ s∈g.nons.drop added,de s = true
end Go.V
namespace Go.Proofs.YtndaepmjkbmjmaaGreatDoor
section
variable {w:Ws} {L:List au} {g:ae} {x:GA}
theorem Pn (w:Ws) (xo yo:Operand) (s e:ByteArray) (n m:Int):Sem.run Tryz.prog (fu .neq fe xo yo (.agg #[.string s,.int .i64 n]) (.agg #[.string e,.int .i64 m])) w = .ok (.bool (!(decide (s = e) && (n == m)))) w:=by
 unfold fu
 rw [Sem.run_bind,run_eqGuard_agg w _ _ _ _ _ _ DD]
 simp only [Result.andThen_ok]
 have ht:Tryz.prog.underlying fe = some (.struct (Tryz.prog.fieldsOf fe)):=by kernel_rfl
 have hi:Tryz.prog.underlying cT = some (.int .i64):=bp
 have hs:Tryz.prog.underlying np = some .string:=kO
 have hf : (Tryz.prog.fieldsOf fe).toList = [{ name := "Name", type := np, offset := 0, embedded := false, tag := "", pkgPath := "", byteOffset := 0 }, { name := "Level", type := cT, offset := 1, embedded := false, tag := "", pkgPath := "", byteOffset := 16 }] := by kernel_rfl
 have p0:∀ (v u:Value) (w:Ws),(part np #[v,u] 0).run Tryz.prog w = .ok v w:=λv u w=>by simp [part,dw hs,dQ,Kd.isAgg]
 have p1:∀ (v u:Value) (w:Ws),(part cT #[v,u] 1).run Tryz.prog w = .ok u w:=λv u w=>by simp [part,dw hi,dQ,Kd.isAgg]
 have eqS:∀ d w,(Op.equalIn (d + 1) np (.string s) (.string e)).run Tryz.prog w = .ok (s.toList == e.toList) w:=λd w=>run_equalIn_string w d _ _ _ hs
 have eqI:∀ d w,(Op.equalIn (d + 1) cT (.int .i64 n) (.int .i64 m)).run Tryz.prog w = .ok (n == m) w:=λd w=>run_equalIn_int w d _ _ _ _ _ hi
 have key:(Op.equalIn (9998 + 1 + 1) fe (.agg #[.string s,.int .i64 n]) (.agg #[.string e,.int .i64 m])).run Tryz.prog w = .ok (decide (s = e) && (n == m)) w:=by
  rw [run_equalIn_agg w (9998 + 1) fe _ _ ht DE,hf]
  unfold Op.eqFields
  simp only [ne_eq,String.reduceEq,not_false_eq_true,if_true,Sem.run_bind,p0,Result.andThen_ok,eqS,ve]
  cases hq:decide (s = e)
  ·simp
  ·unfold Op.eqFields
   simp only [ne_eq,String.reduceEq,not_false_eq_true,if_true,Sem.run_bind,p1,Result.andThen_ok,eqI,Bool.not_true,Wa,if_false]
   cases hn:(n == m)
   ·simp
   ·unfold Op.eqFields; simp
 rw [run_neq_struct]
 show ((Op.equalIn (9998 + 1 + 1) fe (.agg #[.string s,.int .i64 n]) (.agg #[.string e,.int .i64 m])).run Tryz.prog w).andThen _ = _
 rw [key]
 rfl
end
end Go.Proofs.YtndaepmjkbmjmaaGreatDoor
namespace Go.V
theorem Po {w:Ws} {L:List au} {a:Wr} {l c:Nat} {ss:List ByteArray} (h:St w (own 1 a l c (ss.map λs=>Value.string s) :: L)):aX (hp w) ss a l:=by
 have hl:=ir h
 obtain ⟨h1,s,ha⟩:=h.first
 exact (dN (by simpa using hl) (cE ha)).mono s
end Go.V
namespace Go.Proofs.YtndaepmjkbmjmaaGreatDoor
section
variable {w:Ws} {L:List au} {g:ae} {x:GA}
theorem Cp (hg:gR (hp w) g x) (hb:iK g) (added:Nat) (ha:added<=1) :
  ay Tryz.prog zQ [.agg ⟨x.cells⟩,.int .i64 (added:Int)] w λv w'=>(∃ r:Bool,v = .bool r/\(r = true↔qm g added))/\Gr w w':=by
 refine wJ ?_
 refine af (St.all w) λk1 w1 h=>?_
 have gw:Gr w w1:=h.aR
 have hg:=hg.mono gw
 have rb:av (hp w1) ⟨k1,0,none⟩ x.cells:=h.row
 obtain ⟨b1,b2,b3,b4,b5,b6,b7⟩:=hb
 have tl:=hg.t.1
 have nl:=hg.n.1
 have ll:=hg.l.1
 have hfin:∀ w',sub (hp w1) (hp w')->Gr w w':=λw' h=>gw.trans h
 have h:=St.all w1
 unfold V.all at h
 have c0:=λ(w' : Ws) (s:sub (hp w1) (hp w'))=>rb.cell0 (v:=.slice x.ta x.tl x.tc) s
 have c1:=λ(w' : Ws) (s:sub (hp w1) (hp w'))=>rb.cell s (j:=1) (v:=.slice x.na x.nl x.nc) rfl
 have c2:=λ(w' : Ws) (s:sub (hp w1) (hp w'))=>rb.cell s (j:=2) (v:=.slice x.la x.ll x.lc) rfl
 generalize hp w1 = H at *
 have s1:sub H (hp w1):=h.has
 have pre:Prop:=True
 refine ⟨λb w'=>(b = false↔(g.terms[0]? = some ⟨.empty,0⟩/\added < g.nons.length/\g.terms.length<=65/\g.nons.length<=64 + added/\g.terms.length - 1 + (g.nons.length - added)<=64))/\w' = w1,?_,?_⟩
 ·refine ⟨_,_,_,c0 _ s1,aa (λh1=>⟨?_,rfl⟩) λh1=>?_⟩
  ·have:g.terms = []:=UL (by simp at h1; omega)
   simp [this]
  have h1:0 < x.tl:=by simp at h1; omega
  obtain ⟨t0,ad,vs,ht1,hta,ht2,ht3⟩:=hg.t.get h1
  have ht3:vs = [.string t0.name,.int .i64 t0.level]:=ht3
  subst ht3
  have ht2:av H ad [.string t0.name,.int .i64 t0.level]:=by simpa [aF,Addr.add] using ht2
  have e0:(g.terms[0]? = some ⟨.empty,0⟩)↔(t0.name = .empty/\t0.level = 0):=by
   rw [ht1]
   constructor
   ·intro e; cases e; exact ⟨rfl,rfl⟩
   ·rintro ⟨e1,e2⟩; cases t0; simp_all
  rw [e0]
  refine ⟨_,_,_,c0 _ s1,⟨ad,hta,by omega,by omega,?_⟩⟩
  have ez:ad.add (cR (Int.toNat 0) 2) = ad:=by simp [aF,Addr.add]
  rw [ez]
  refine ⟨_,_,ht2.at s1 rfl,_,Pn _ _ _ _ _ _ _,_,rfl,aa (λh2=>⟨?_,rfl⟩) λh2=>?_⟩
  ·simp only [VQ,Bool.and_eq_false_iff,Vl,Wi] at h2
   have:¬ (t0.name = .empty/\t0.level = 0):=λe=>h2.elim (λh=>h e.1) (λh=>h e.2)
   simp [this]
  have h2:t0.name = ByteArray.mk (Array.mk [])/\t0.level = 0:=by simpa using h2
  have h2:t0.name = .empty/\t0.level = 0:=h2
  refine ⟨_,_,_,c1 _ s1,aa (λh3=>⟨?_,rfl⟩) λh3=>?_⟩
  ·have:=Uz h3
   simp; omega
  have h3:=Uy h3
  refine ⟨_,_,_,c0 _ s1,aa (λh4=>⟨?_,rfl⟩) λh4=>?_⟩
  ·have:=Uz h4
   simp; omega
  have h4:=Uy h4
  refine ⟨_,_,_,c1 _ s1,⟨by omega,by omega⟩,aa (λh5=>⟨?_,rfl⟩) λh5=>?_⟩
  ·have:=Uz h5
   simp; omega
  have h5:=Uy h5
  refine ⟨_,_,_,c0 _ s1,⟨by omega,by omega⟩,_,_,_,c1 _ s1,⟨by omega,by omega⟩,⟨by omega,by omega⟩,?_,rfl⟩
  rw [Vl]
  simp only [h2,true_and,and_true]
  omega
 rintro _ b _ ⟨hpre,rfl⟩
 refine aa (λhbt=>?_) λhbf=>?_
 ·subst hbt
  refine ⟨⟨false,rfl,?_⟩,hfin _ s1⟩
  constructor
  ·intro h; cases h
  ·rintro ⟨p1,p2,p3,p4,p5,_⟩
   have:=hpre.2 ⟨p1,p2,p3,p4,p5⟩
   cases this
 obtain ⟨p1,p2,p3,p4,p5⟩:=hpre.1 hbf
 have hT:1<=x.tl:=by
  have:=(UA.1 p1).1; omega
 refine lY h λk16 w3 h=>?_
 have h:=dz (κ:=Int) h
 refine ⟨_,_,_,c0 _ h.aR,cO (lo:=1) hT hg.tc ?_⟩
 have hts:=hg.t.drop hT hg.tc
 have htl:(g.terms.drop 1).length = x.tl - 1:=hts.1
 -- the terminals
 refine ⟨λo l' c' n w'=>∃ (j:Nat) (m:List (Int × Value)),n = j/\j<=x.tl - 1/\j = l'/\(∀ t∈(g.terms.drop 1).take j,dt t.name = true/\0<=t.level/\t.level<=g.levels.length)/\(∀ n:Int,assoc n m = if ∃ t∈(g.terms.drop 1).take j,t.level = n then some (.int .i64 1) else none) /\
   St w' [own 1 o j c' (((g.terms.drop 1).take j).map λt=>Value.string t.name),mapA k16 m,has H],λ_ _ _ n _=>x.tl - 1 - n.toNat,⟨0,[],rfl,by omega,rfl,by simp,by simp [assoc],az 1 h⟩,?_⟩
 clear h
 rintro _ o10 _ k22 n2 w4 ⟨j,m,rfl,hj,rfl,hok,hm,h⟩
 have s4:sub H (hp w4):=bj 2 h.l
 refine aa (λhlt=>?_) λhlt=>?_
 ·have hlt:j < x.tl - 1:=by have:=Uz hlt; omega
  obtain ⟨t,ad,vs,ht1,hta,ht2,ht3⟩:=hts.get hlt
  have ht3:vs = [.string t.name,.int .i64 t.level]:=ht3
  subst ht3
  have htm:t∈g.terms.drop 1:=UC ht1
  have htg:t∈g.terms:=VR htm
  obtain ⟨q1,q2⟩:=b5 t htg
  have et:(g.terms.drop 1).take (j + 1) = (g.terms.drop 1).take j ++ [t]:=by rw [UI,ht1]; rfl
  refine ⟨ad,hta,by omega,by omega,?_⟩
  rw [U9]
  refine ⟨_,_,ht2.at s4 rfl,af h λk23 w5 h=>aI h rfl (by simp [aH]) λw6 h=>?_⟩
  refine ⟨λb w'=>(b = false↔(dt t.name = true/\0<=t.level/\t.level<=g.levels.length))/\St w' [aS k23 [.string t.name,.int .i64 t.level],own 1 o10 j k22 (((g.terms.drop 1).take j).map λt=>Value.string t.name),mapA k16 m,has H],?_,?_⟩
  ·refine ⟨_,h.cell 0,(Mp (by omega)).mono ?_⟩
   rintro _ w7 ⟨rfl,hg7⟩
   have h:=h.gr hg7
   refine ⟨_,rfl,aa (λh1=>⟨?_,h⟩) λh1=>?_⟩
   ·have h1:dt t.name = false:=by simpa using h1
    simp [h1]
   have h1:dt t.name = true:=by simpa using h1
   have cl:w7.cell? ((⟨k23,0,none⟩ : Addr).add 1) = some (.int .i64 t.level):=h.row.cell (sub.refl _) rfl
   refine ⟨_,cl,aa (λh2=>⟨?_,h⟩) λh2=>?_⟩
   ·have h2:=Uz h2
    simp [h1]; omega
   have h2:=Uy h2
   refine ⟨_,cl,_,_,_,c2 _ (bj 3 h.l),?_,h⟩
   rw [Vl]
   simp only [h1,true_and]
   omega
  ·clear h
   rintro _ b4 w8 ⟨hb4,h⟩
   refine aa (λhbt=>?_) λhbf=>?_
   ·subst hbt
    refine ⟨⟨false,rfl,?_⟩,hfin _ (bj 3 h.l)⟩
    constructor
    ·intro h; cases h
    ·rintro ⟨_,_,_,_,_,p6,_⟩
     have:=hb4.2 (p6 t htm)
     cases this
   have hokt:=hb4.1 hbf
   refine ⟨_,h.cell 0,af h λk26 w9 h=>?_⟩
   refine (aW aL (rfl:ah Ty _ = .slice _) (rfl:ah Ty _ = .slice _) rfl rfl rfl (h.pick 5 [0,2,1,3,4]) rfl (by simp [aH]) (by show (j + 1) * 16<=_; omega) (by omega)).mono ?_
   rintro _ w10 ⟨a',c',rfl,h⟩
   have h:=h.pick 5 [3,0,2,4]
   refine ⟨_,_,_,rfl,_,(ag (b:=k23) (vs:=[.string t.name,.int .i64 t.level]) 2 h.l).cell (sub.refl _) (j:=1) rfl,?_⟩
   refine (cN (κ:=Int) aL (rfl:ah Ty _ = .map _ _) bp h t.level (.int .i64 1)).mono ?_
   rintro _ w11 h
   refine ⟨⟨by omega,by omega⟩,⟨j + 1,bA t.level (.int .i64 1) m,by simp,by omega,rfl,λt' ht'=>?_,λn=>?_,?_⟩,by dsimp only; omega⟩
   ·rw [et,UF] at ht'
    rcases ht' with ht' | ht'
    ·exact hok t' ht'
    ·simp at ht'; subst ht'; exact hokt
   ·rw [dy,hm,et]
    by_cases e:n = t.level
    ·subst e
     rw [UJ rfl,UJ ⟨t,by simp,rfl⟩]
    ·rw [UE e]
     have:(∃ t'∈(g.terms.drop 1).take j ++ [t],t'.level = n)↔∃ t'∈(g.terms.drop 1).take j,t'.level = n:=by
      constructor
      ·rintro ⟨t',h1,h2⟩
       rcases UF.1 h1 with h1 | h1
       ·exact ⟨t',h1,h2⟩
       ·simp at h1; subst h1; exact absurd h2.symm e
      ·rintro ⟨t',h1,h2⟩; exact ⟨t',UF.2 (.inl h1),h2⟩
     simp only [this]
   ·have e:(((g.terms.drop 1).take j).map λt=>Value.string t.name) ++ [.string t.name] = ((g.terms.drop 1).take (j + 1)).map λt=>Value.string t.name:=by rw [et]; simp
    rw [<- e]
    exact h.pick 4 [1,0,3]
 have hlt:j = x.tl - 1:=by have:=Uy hlt; omega
 subst hlt
 rw [UX (by omega)] at hok hm h
 refine ⟨_,_,_,c2 _ s4,λn w'=>∃ i:Nat,n = i/\i<=x.ll/\(∀ (k:Nat) v,k < i->g.levels[k]? = some v->1<=v/\v<=3/\∃ t∈g.terms.drop 1,t.level = (k:Int) + 1)/\St w' [own 1 o10 (x.tl - 1) k22 ((g.terms.drop 1).map λt=>Value.string t.name),mapA k16 m,has H],λn _=>x.ll - n.toNat,⟨0,rfl,by omega,λk v hk=>by omega,h⟩,?_⟩
 clear h s4
 rintro _ n7 w12 ⟨i,rfl,hi,hlv,h⟩
 have s12:sub H (hp w12):=bj 2 h.l
 have bad:∀ {v:Int},g.levels[i]? = some v->¬ (1<=v/\v<=3/\∃ t∈g.terms.drop 1,t.level = (i:Int) + 1)->(∃ r:Bool,Value.bool false = .bool r/\(r = true↔qm g added))/\Gr w w12:=λ{v} hv hn=>by
  refine ⟨⟨false,rfl,?_⟩,hfin _ s12⟩
  constructor
  ·intro h; cases h
  ·rintro ⟨_,_,_,_,_,_,p7,_⟩
   exact absurd (p7 i v hv) hn
 refine aa (λhlt=>?_) λhlt=>?_
 ·have hlt:i < x.ll:=by have:=Uz hlt; omega
  obtain ⟨v,ad,hv1,hva,hv2⟩:=hg.l.dM hlt
  refine ⟨ad,hva,by omega,by omega,?_⟩
  rw [U9]
  refine ⟨_,hv2 _ s12,aa (λh1=>bad hv1 (by have:=Uz h1; omega)) λh1=>aa (λh2=>bad hv1 (by have:=Uz h2; omega)) λh2=>⟨⟨by omega,by omega⟩,?_⟩⟩
  refine (bU (κ:=Int) aL (rfl:ah Ty _ = .map _ _) bp rfl rfl (h.pick 3 [1]) ((i:Int) + 1)).mono ?_
  rintro _ _ ⟨rfl,rfl⟩
  rw [hm]
  by_cases he:∃ t∈g.terms.drop 1,t.level = (i:Int) + 1
  ·rw [UJ he]
   refine ⟨_,rfl,dZ rfl ⟨⟨by omega,by omega⟩,⟨i + 1,by simp,by omega,λk v' hk hv'=>?_,h⟩,bK hlt⟩⟩
   by_cases e:k = i
   ·subst e
    rw [hv1] at hv'; cases hv'
    exact ⟨by have:=Uy h1; omega,by have:=Uy h2; omega,he⟩
   ·exact hlv k v' (by omega) hv'
  ·rw [UE he]
   exact ⟨_,rfl,fb rfl (bad hv1 (λh=>he h.2.2))⟩
 have hlt:i = x.ll:=by have:=Uy hlt; omega
 subst hlt
 have hlv' : ∀ (k:Nat) v,g.levels[k]? = some v->1<=v/\v<=3/\∃ t∈g.terms.drop 1,t.level = (k:Int) + 1:=λk v hv=>hlv k v (by have:=(UA.1 hv).1; omega) hv
 refine ⟨_,_,_,c1 _ s12,cO (lo:=added) (by omega) hg.nc ?_⟩
 have hns:=hg.n.drop (k:=added) (by omega) hg.nc
 have e1:((g.terms.drop 1).map λt=>Value.string t.name) = ((g.terms.drop 1).map h_.name).map λs=>Value.string s:=by rw [V_]; rfl
 rw [e1] at h
 have rt:aX (hp w12) ((g.terms.drop 1).map h_.name) o10 (x.tl - 1):=Po h
 refine (Fj rt (by omega)).mono ?_
 rintro _ w14 ⟨rfl,g14⟩
 have s14:sub H (hp w14):=s12.trans g14
 refine ⟨_,rfl,aa (λh1=>?_) λh1=>?_⟩
 ·have h1:=Uz h1
  refine (Fj (hns.mono s14) (by omega)).mono ?_
  rintro _ w15 ⟨rfl,g15⟩
  have s15:sub H (hp w15):=s14.trans g15
  refine ⟨_,rfl,aa (λh2=>?_) λh2=>?_⟩
  ·have h2:=Uz h2
   refine (yA (hns.mono s15) (by omega) (λs hs=>by have:=b6 s (VR hs); omega)).mono ?_
   rintro _ _ ⟨rfl,rfl⟩
   refine ⟨_,rfl,⟨_,rfl,?_⟩,hfin _ s15⟩
   rw [Bool.not_not,V3]
   exact ⟨λh3=>⟨p1,p2,p3,p4,p5,hok,hlv',h1,h2,h3⟩,λ⟨_,_,_,_,_,_,_,_,_,h3⟩=>h3⟩
  ·have h2:=Uy h2
   refine ⟨⟨false,rfl,?_⟩,hfin _ s15⟩
   exact ⟨λh=>(by cases h),λ⟨_,_,_,_,_,_,_,_,h3,_⟩=>absurd h3 h2⟩
 ·have h1:=Uy h1
  refine ⟨⟨false,rfl,?_⟩,hfin _ s14⟩
  exact ⟨λh=>(by cases h),λ⟨_,_,_,_,_,_,_,h3,_⟩=>absurd h3 h1⟩
end
end Go.Proofs.YtndaepmjkbmjmaaGreatDoor
namespace Go.V
def nr (acc:List Int) (x:Int):List Int:=if x∈acc then acc else acc ++ [x]
def cH (l:List Int):List Int:=l.foldl nr []
theorem xZ {l:List Int} {j:Nat} {x:Int} (h:l[j]? = some x):cH (l.take (j + 1)) = nr (cH (l.take j)) x:=by
 unfold cH; rw [UI,h,List.foldl_append]; rfl
theorem Mt {acc:List Int} {x y:Int}:y∈nr acc x↔y∈acc\/y = x:=by
 unfold nr; split
 ·rename_i h; exact ⟨.inl,λh'=>h'.elim id (λe=>e ▸ h)⟩
 ·simp
theorem Mu (acc:List Int) (x:Int):acc.length<=(nr acc x).length/\(nr acc x).length<=acc.length + 1:=by
 unfold nr; split <;> simp
theorem Hv {acc:List Int} (x:Int) (h:acc.Nodup):(nr acc x).Nodup:=by
 unfold nr; split
 ·exact h
 ·rename_i hn
  rw [Vg]
  exact ⟨h,by simp,λa ha b hb e=>by simp at hb; subst hb; subst e; exact hn ha⟩
theorem z7 (l:List Int):∀ acc,acc.Nodup->(l.foldl nr acc).Nodup/\(∀ y,y∈l.foldl nr acc↔y∈acc\/y∈l)/\(l.foldl nr acc).length<=acc.length + l.length:=by
 induction l with
 | nil=>intro acc h; exact ⟨h,by simp,by simp⟩
 | cons x l ih =>
  intro acc h
  obtain ⟨h1,h2,h3⟩:=ih _ (Hv x h)
  refine ⟨h1,λy=>?_,?_⟩
  ·show y∈l.foldl nr (nr acc x)↔_
   rw [h2,Mt,UR,or_assoc]
  ·show (l.foldl nr (nr acc x)).length<=_
   have:=(Mu acc x).2
   simp only [Vc]; omega
theorem Hw {l:List Int} {y:Int}:y∈cH l↔y∈l:=by
 have:=(z7 l [] (by simp)).2.1 y
 simpa [cH] using this
theorem tQ (l:List Int):(cH l).length<=l.length:=by
 have:=(z7 l [] (by simp)).2.2
 simpa [cH] using this
def ae.T (g:ae):Nat:=g.terms.length
def ae.N (g:ae):Nat:=g.nons.length
def fH (g:ae) (added:Nat) (s:Int):Prop:=1<=s/\s < g.T + g.N/\¬ ((g.T:Int)<=s/\s < g.T + added)
def my (g:ae) (added:Nat) (p:aO):Prop:=((g.T:Int) + added<=p.left/\p.left < g.T + g.N/\0<=p.level/\p.level<=g.levels.length)/\∀ s∈p.right,fH g added s
def gK (g:ae) (added:Nat):List Int:=cH ((g.prods.drop added).map aO.left)
def wQ (g:ae) (added:Nat):Prop:=added < g.prods.length/\g.prods.length<=96 + added/\(∀ p∈g.prods.drop added,my g added p) /\
 ((gK g added).length:Int) = (g.N:Int) - added/\(g.T:Int) + added<=g.start/\g.start < g.T + g.N
def Mv (g:ae):Prop:=qm g 0/\wQ g 0/\I_ (gK g 0)
def aq (g:ae):Prop:=g.nons[0]? = some .empty/\qm g 1/\wQ g 1/\∃ p,g.prods[0]? = some p/\p.left = (g.T:Int)/\p.right = [g.start]/\p.level = 0
end Go.V
namespace Go.Proofs.YtndaepmjkbmjmaaGreatDoor
section
variable {w:Ws} {L:List au} {g:ae} {x:GA}
theorem tq (hg:gR (hp w) g x) (hb:iK g) (added:Nat) (ha:added<=1) :
  ay Tryz.prog tD [.agg ⟨x.cells⟩,.int .i64 (added:Int)] w λv w'=>∃ (a:Wr) (l c:Nat) (xs:List Int) (r:Bool),v = .tuple #[.slice a l c,.bool r]/\(r = true↔wQ g added)/\(r = true->xs = gK g added)/\St w' (own 1 a l c (iv xs) :: all w):=by
 refine p_ ?_
 refine af (St.all w) λk1 w1 h=>?_
 have gw:Gr w w1:=h.aR
 have hg:=hg.mono gw
 have rb:av (hp w1) ⟨k1,0,none⟩ x.cells:=h.row
 obtain ⟨b1,b2,b3,b4,b5,b6,b7⟩:=hb
 have tl:=hg.t.1
 have nl:=hg.n.1
 have ll:=hg.l.1
 have pl:=hg.p.1
 have hfin:∀ w' (A:au),St w' [A,has (hp w1)]->St w' [A,has (hp w)]:=λw' A h=>h.u6 (bY gw)
 have h:=St.all w1
 unfold V.all at h
 have c0:=λ(w' : Ws) (s:sub (hp w1) (hp w'))=>rb.cell0 (v:=.slice x.ta x.tl x.tc) s
 have c1:=λ(w' : Ws) (s:sub (hp w1) (hp w'))=>rb.cell s (j:=1) (v:=.slice x.na x.nl x.nc) rfl
 have c2:=λ(w' : Ws) (s:sub (hp w1) (hp w'))=>rb.cell s (j:=2) (v:=.slice x.la x.ll x.lc) rfl
 have c3:=λ(w' : Ws) (s:sub (hp w1) (hp w'))=>rb.cell s (j:=3) (v:=.int .i64 x.s) rfl
 have c4:=λ(w' : Ws) (s:sub (hp w1) (hp w'))=>rb.cell s (j:=4) (v:=.slice x.pa x.pl x.pc) rfl
 unfold V.all
 generalize hp w1 = H at *
 have s1:sub H (hp w1):=h.has
 have hT:g.T = x.tl:=tl
 have hN:g.N = x.nl:=nl
 have no:∀ w',sub H (hp w')->¬ wQ g added->∃ (a:Wr) (l c:Nat) (xs:List Int) (r:Bool),Value.tuple (Array.mk [.slice none 0 0,.bool false]) = .tuple #[.slice a l c,.bool r]/\(r = true↔wQ g added)/\(r = true->xs = gK g added)/\St w' [own 1 a l c (iv xs),has (hp w)]:=λw' s hn =>
  ⟨none,0,0,[],false,rfl,⟨λh=>(by cases h),λh=>absurd h hn⟩,λh=>(by cases h),hfin _ _ (az 1 (bY s))⟩
 refine ⟨λb w'=>(b = false↔(added < g.prods.length/\g.prods.length<=96 + added))/\w' = w1,?_,?_⟩
 ·refine ⟨_,_,_,c4 _ s1,aa (λh1=>⟨?_,rfl⟩) λh1=>?_⟩
  ·have:=Uz h1
   simp; omega
  have h1:=Uy h1
  refine ⟨_,_,_,c4 _ s1,⟨by omega,by omega⟩,?_,rfl⟩
  rw [Vl]; omega
 rintro _ b _ ⟨hpre,rfl⟩
 refine aa (λhbt=>?_) λhbf=>?_
 ·subst hbt
  refine no _ s1 ?_
  rintro ⟨p1,p2,_⟩
  have:=hpre.2 ⟨p1,p2⟩; cases this
 obtain ⟨p1,p2⟩:=hpre.1 hbf
 refine ⟨_,_,_,c0 _ s1,_,_,_,c1 _ s1,⟨by omega,by omega⟩,_,_,_,c0 _ s1,⟨by omega,by omega⟩,_,_,_,c4 _ s1,cO (lo:=added) (by omega) hg.pc ?_⟩
 have hps:=hg.p.drop (k:=added) (by omega) hg.pc
 have hpsl:=hps.1
 refine ⟨λo l' c' n w'=>∃ j:Nat,n = j/\j<=x.pl - added/\(cH (((g.prods.drop added).map aO.left).take j)).length = l'/\(∀ p∈(g.prods.drop added).take j,my g added p) /\
   St w' [own 1 o l' c' (iv (cH (((g.prods.drop added).map aO.left).take j))),has H],λ_ _ _ n _=>x.pl - added - n.toNat,⟨0,rfl,by omega,rfl,by simp,az 1 h⟩,?_⟩
 clear h
 rintro _ o8 _ k17 n1 w3 ⟨j,rfl,hj,rfl,hok,h⟩
 have s3:sub H (hp w3):=bj 1 h.l
 have hll:(cH (((g.prods.drop added).map aO.left).take j)).length<=j:=U7 (tQ _) (by simp; omega)
 refine aa (λhlt=>?_) λhlt=>?_
 ·have hlt:j < x.pl - added:=by have:=Uz hlt; omega
  obtain ⟨p,ad,vs,hp1,hpa,hp2,ra,rl,rc,rfl,hrc,hp3⟩:=hps.get hlt
  have hpm:p∈g.prods.drop added:=UC hp1
  have hlp:((g.prods.drop added).map aO.left)[j]? = some p.left:=by rw [UD,hp1]; rfl
  have rl1:=hp3.1
  have b7':=b7 p (VR hpm)
  refine ⟨ad,hpa,by omega,by omega,?_⟩
  rw [U9]
  refine ⟨_,_,_,_,_,hp2.at s3 rfl,af h λk20 w4 h=>aI h rfl (by simp [aH]) λw5 h=>?_⟩
  have hbox:∀ w',sub (hp w5) (hp w')->av (hp w') ⟨k20,0,none⟩ [.int .i64 p.left,.slice ra rl rc,.int .i64 p.level]:=λw' s=>h.row.mono s
  have s5:sub H (hp w5):=bj 2 h.l
  have d0:=λ(w' : Ws) (s:sub (hp w5) (hp w'))=>(hbox w' s).cell0 (v:=.int .i64 p.left) (sub.refl _)
  have d1:=λ(w' : Ws) (s:sub (hp w5) (hp w'))=>(hbox w' s).cell (sub.refl _) (j:=1) (v:=.slice ra rl rc) rfl
  have d2:=λ(w' : Ws) (s:sub (hp w5) (hp w'))=>(hbox w' s).cell (sub.refl _) (j:=2) (v:=.int .i64 p.level) rfl
  refine ⟨λb w'=>(b = false↔((g.T:Int) + added<=p.left/\p.left < g.T + g.N/\0<=p.level/\p.level<=g.levels.length))/\w' = w5,?_,?_⟩
  ·refine ⟨_,d0 _ (sub.refl _),aa (λh1=>⟨?_,rfl⟩) λh1=>?_⟩
   ·have:=Uz h1
    simp; omega
   have h1:=Uy h1
   refine ⟨_,d0 _ (sub.refl _),aa (λh2=>⟨?_,rfl⟩) λh2=>?_⟩
   ·have:=Uz h2
    simp; omega
   have h2:=Uy h2
   refine ⟨_,d2 _ (sub.refl _),aa (λh3=>⟨?_,rfl⟩) λh3=>?_⟩
   ·have:=Uz h3
    simp; omega
   have h3:=Uy h3
   refine ⟨_,d2 _ (sub.refl _),_,_,_,c2 _ s5,?_,rfl⟩
   rw [Vl]; omega
  rintro _ b2 w6 ⟨hb2,rfl⟩
  refine aa (λhbt=>?_) λhbf=>?_
  ·subst hbt
   refine no _ s5 ?_
   rintro ⟨_,_,p3,_⟩
   have:=hb2.2 (p3 p hpm).1; cases this
  have hpok:=hb2.1 hbf
  refine ⟨_,_,_,d1 _ (sub.refl _),λn w'=>∃ i:Nat,n = i/\i<=rl/\(∀ (k:Nat) s,k < i->p.right[k]? = some s->fH g added s)/\w' = w6,λn _=>rl - n.toNat,⟨0,rfl,by omega,λk s hk=>by omega,rfl⟩,?_⟩
  rintro _ n8 w7 ⟨i,rfl,hi,hsy,rfl⟩
  refine aa (λhlt2=>?_) λhlt2=>?_
  ·have hlt2:i < rl:=by have:=Uz hlt2; omega
   obtain ⟨s,ad2,hs1,rfl,hs2⟩:=hp3.dM hlt2
   have bad:¬ fH g added s->_:=λhn=>no w7 s5 (λhq=>hn ((hq.2.2.1 p hpm).2 s (UC hs1)))
   have good:fH g added s->aw ((i:Int) + 1)/\(∃ i' : Nat,(i:Int) + 1 = i'/\i'<=rl/\(∀ (k:Nat) s,k < i'->p.right[k]? = some s->fH g added s)/\w7 = w7)/\rl - ((i:Int) + 1).toNat < rl - (i:Int).toNat:=λhgd=>by
    refine ⟨⟨by omega,by omega⟩,⟨i + 1,by simp,by omega,λk s' hk hs'=>?_,rfl⟩,bK hlt2⟩
    by_cases e:k = i
    ·subst e; rw [hs1] at hs'; cases hs'; exact hgd
    ·exact hsy k s' (by omega) hs'
   refine aB rfl hlt2 ⟨s,hs2 _ s5,aa (λh1=>bad ?_) λh1=>aa (λh2=>bad ?_) λh2=>⟨_,_,_,c0 _ s5,aa (λh3=>aa (λh4=>bad ?_) λh4=>good ?_) λh3=>good ?_⟩⟩
   ·have:=Uz h1; unfold fH; omega
   ·have:=Uz h2; unfold fH; omega
   ·have h3:=Uz h3; have h4:=Uz h4; unfold fH; omega
   ·have h1:=Uy h1; have h2:=Uy h2; have h3:=Uz h3; have h4:=Uy h4; unfold fH; omega
   ·have h1:=Uy h1; have h2:=Uy h2; have h3:=Uy h3; unfold fH; omega
  have hlt2:i = rl:=by have:=Uy hlt2; omega
  subst hlt2
  have hpok2:my g added p:=⟨hpok,λs hs=>by
   obtain ⟨k,hk,e⟩:=List.mem_iff_getElem.1 hs
   exact hsy k s (by omega) (by rw [<- e]; exact UB hk)⟩
  have hok2:∀ q∈(g.prods.drop added).take (j + 1),my g added q:=λq hq=>by
   rw [UI,hp1] at hq
   rcases UF.1 hq with hq | hq
   ·exact hok q hq
   ·simp at hq; subst hq; exact hpok2
  have et:=xZ hlp
  refine ⟨_,d0 _ (sub.refl _),(Hr (DC (h.pick 3 [1])) (by omega) p.left).mono ?_⟩
  rintro _ _ ⟨rfl,rfl⟩
  refine ⟨_,rfl,aa (λh1=>?_) λh1=>?_⟩
  ·have h1:p.left∉cH (((g.prods.drop added).map aO.left).take j):=by simpa using h1
   refine ⟨_,d0 _ (sub.refl _),af h λk27 w9 h=>?_⟩
   refine (aW aL (rfl:ah Ty _ = .slice _) (rfl:ah Ty _ = .slice _) rfl rfl rfl (h.pick 4 [0,2,3]) rfl (by simp [aH]) (by show (_ + 1) * 8<=_; omega) (by omega)).mono ?_
   rintro _ w10 ⟨a',c',rfl,h⟩
   have e2:cH (((g.prods.drop added).map aO.left).take (j + 1)) = cH (((g.prods.drop added).map aO.left).take j) ++ [p.left]:=by rw [et]; unfold nr; rw [UE h1]
   refine ⟨_,_,_,rfl,⟨by omega,by omega⟩,⟨j + 1,by simp,by omega,by rw [e2]; simp,hok2,?_⟩,by dsimp only; omega⟩
   rw [e2]
   have e3:∀ l:List Int,iv (l ++ [p.left]) = iv l ++ [.int .i64 p.left]:=λl=>by simp [iv]
   rw [e3]
   exact h.pick 3 [0,2]
  ·have h1:p.left∈cH (((g.prods.drop added).map aO.left).take j):=by simpa using h1
   have e2:cH (((g.prods.drop added).map aO.left).take (j + 1)) = cH (((g.prods.drop added).map aO.left).take j):=by rw [et]; unfold nr; rw [UJ h1]
   refine ⟨⟨by omega,by omega⟩,⟨j + 1,by simp,by omega,by rw [e2],hok2,?_⟩,by dsimp only; omega⟩
   rw [e2]
   exact h.pick 3 [1,2]
 have hlt:j = x.pl - added:=by have:=Uy hlt; omega
 subst hlt
 have el:((g.prods.drop added).map aO.left).take (x.pl - added) = (g.prods.drop added).map aO.left:=UX (by simp; omega)
 rw [el] at h hll ⊢
 rw [UX (by omega)] at hok
 intro w11 hd
 have h:=h.drawn hd
 have s11:sub H (hp w11):=bj 1 h.l
 refine ⟨λw'=>sub H (hp w'),s11,_,_,_,λw' s=>c1 _ s,⟨by omega,by omega⟩,aa (λh1=>?_) λh1=>?_⟩
 ·have h1:((gK g added).length:Int) = (x.nl:Int) - added:=by simpa [gK] using h1
  refine ⟨_,λw' s=>c3 _ s,aa (λh2=>?_) λh2=>?_⟩
  ·have h2:=Uz h2
   refine ⟨_,λw' s=>c3 _ s,_,_,_,_,_,rfl,?_,λ_=>rfl,hfin _ _ h⟩
   rw [UO]
   have hs:=hg.s
   constructor
   ·intro h3; exact ⟨p1,p2,hok,by rw [hN]; exact h1,by omega,by omega⟩
   ·rintro ⟨_,_,_,_,_,q⟩; omega
  ·have h2:=Uy h2
   have hs:=hg.s
   exact ⟨_,_,_,_,false,rfl,⟨λh=>(by cases h),λ⟨_,_,_,_,q,_⟩=>absurd (by omega:(g.T:Int) + added<=g.start->False) (by omega)⟩,λh=>(by cases h),hfin _ _ h⟩
 ·have h1:¬ ((gK g added).length:Int) = (x.nl:Int) - added:=by simpa [gK] using h1
  exact ⟨_,_,_,_,false,rfl,⟨λh=>(by cases h),λ⟨_,_,_,q,_⟩=>absurd (by rw [<- hN]; exact q) h1⟩,λh=>(by cases h),hfin _ _ h⟩
theorem Pp (hg:gR (hp w) g x) (hb:iK g):ay Tryz.prog Du [.agg ⟨x.cells⟩] w λv w'=>(∃ r:Bool,v = .bool r/\(r = true↔Mv g))/\Gr w w':=by
 refine zT ?_
 refine af (St.all w) λk1 w1 h=>?_
 have gw:Gr w w1:=h.aR
 have hg:=hg.mono gw
 have rb:av (hp w1) ⟨k1,0,none⟩ x.cells:=h.row
 refine ⟨_,_,_,_,_,_,_,_,_,_,_,_,_,rb.at (sub.refl _) rfl,(Cp (x:=x) hg hb 0 (by omega)).mono ?_⟩
 rintro _ w2 ⟨⟨r,rfl,hr⟩,g2⟩
 refine ⟨_,rfl,aa (λh1=>?_) λh1=>?_⟩
 ·have h1:r = false:=by simpa using h1
  subst h1
  exact ⟨⟨false,rfl,⟨λh=>(by cases h),λh=>absurd (hr.2 h.1) (by simp)⟩⟩,gw.trans g2⟩
 have h1:r = true:=by simpa using h1
 have hsy:=hr.1 h1
 refine ⟨_,_,_,_,_,_,_,_,_,_,_,_,_,(rb.mono g2).at (sub.refl _) rfl,(tq (x:=x) (hg.mono g2) hb 0 (by omega)).mono ?_⟩
 rintro _ w3 ⟨a,l,c,xs,r2,rfl,hr2,hxs,h3⟩
 have g3:Gr w w3:=(gw.trans g2).trans h3.aR
 refine ⟨_,_,_,_,rfl,aa (λh4=>?_) λh4=>?_⟩
 ·have hxs:=hxs h4
  have hlen:=ir h3
  have hp2:=hr2.1 h4
  have hl2:=tQ ((g.prods.drop 0).map aO.left)
  rw [iW,hxs] at hlen
  have hl3:(gK g 0).length<=96:=by
   have:=hp2.2.1
   simp only [UH,VU] at hl2
   unfold gK; omega
  refine (Hs (DC h3) (by omega)).mono ?_
  rintro _ w4 ⟨⟨r3,rfl,hr3⟩,hw4⟩
  refine ⟨_,rfl,⟨r3,rfl,?_⟩,g3.trans (Gr.of_eq hw4)⟩
  rw [hr3,hxs]
  exact ⟨λh=>⟨hsy,hp2,h⟩,λh=>h.2.2⟩
 ·subst h4
  exact ⟨⟨false,rfl,⟨λh=>(by cases h),λh=>absurd (hr2.2 h.2.1) (by simp)⟩⟩,g3⟩
end
end Go.Proofs.YtndaepmjkbmjmaaGreatDoor
namespace Go.V
structure GB (H:Hp) (k:Nat) (x:GA):Prop where
 c0:∀ {w:Ws},sub H (hp w)->w.cell? ⟨k,0,none⟩ = some (.slice x.ta x.tl x.tc)
 c1:∀ {w:Ws},sub H (hp w)->w.cell? ((⟨k,0,none⟩ : Addr).add 1) = some (.slice x.na x.nl x.nc)
 c2:∀ {w:Ws},sub H (hp w)->w.cell? ((⟨k,0,none⟩ : Addr).add 2) = some (.slice x.la x.ll x.lc)
 c3:∀ {w:Ws},sub H (hp w)->w.cell? ((⟨k,0,none⟩ : Addr).add 3) = some (.int .i64 x.s)
 c4:∀ {w:Ws},sub H (hp w)->w.cell? ((⟨k,0,none⟩ : Addr).add 4) = some (.slice x.pa x.pl x.pc)
 row:∀ {w:Ws},sub H (hp w)->rowAt w ⟨k,0,none⟩ 0 5 = some x.cells
theorem Ja {H:Hp} {k:Nat} {x:GA} (r:av H ⟨k,0,none⟩ x.cells):GB H k x :=
 ⟨λs=>r.cell0 s,λs=>r.cell s (j:=1) rfl,λs=>r.cell s (j:=2) rfl,λs=>r.cell s (j:=3) rfl,λs=>r.cell s (j:=4) rfl,λs=>r.at s rfl⟩
theorem cQ {w:Ws} {g:ae} {x:GA} {e:TypeId} {k:Nat->Ws->Prop} (hg:gR (hp w) g x) (hk:∀ k1 w1,Gr w w1->gR (hp w1) g x->GB (hp w1) k1 x->k k1 w1):new w (.cells (Array.mk x.cells) e) k :=
 af (St.all w) λk1 w1 h=>hk k1 w1 h.aR (hg.mono h.aR) (Ja h.row)
theorem gk {a:Wr} {len sz:Nat} {k:Addr->Prop} {ad:Addr} (ha:a = some ad) (hi:0 < len) (hk:k ad):idx a len 0 sz k :=
 ⟨ad,ha,by omega,by omega,by simpa [aF,Addr.add] using hk⟩
theorem Fl:∀ {l m:List Int},l.Nodup->(∀ x∈l,x∈m)->l.length<=m.length
 | [],m,_,_=>UM _
 | a :: l,m,h,hs=>by
  rw [Vy] at h
  have ham:=hs a (by simp)
  have:=Fl (l:=l) (m:=m.erase a) h.2 λx hx=>(List.mem_erase_of_ne (λe=>h.1 (by subst e; exact hx))).2 (hs x (by simp [hx]))
  rw [List.length_erase_of_mem ham] at this
  have:=List.length_pos_of_mem ham
  simp only [Vc]; omega
def z8 (g:ae):Prop:=g.terms[0]? = some ⟨.empty,0⟩/\(∀ t∈g.terms.drop 1,dt t.name = true/\0<=t.level/\t.level<=g.levels.length)/\((g.terms.drop 1).map h_.name).Nodup
def vh (g:ae):Prop:=∀ (i:Nat) v,g.levels[i]? = some v->1<=v/\v<=3/\∃ t∈g.terms,t.level = (i:Int) + 1
def Fm (g:ae) (added:Nat):Prop:=(g.nons.drop added).Nodup/\∀ s∈g.nons.drop added,de s = true
theorem nY {g:ae} {added:Nat} (h:qm g added):g.levels.length<=64:=by
 obtain ⟨_,_,h3,_,_,_,h7,_⟩:=h
 have:=Fl (l:=(List.range g.levels.length).map λ(k:Nat)=>(k:Int) + 1) (m:=(g.terms.drop 1).map h_.level) (by
  rw [Vz,Vx]
  exact List.Pairwise.imp (λh e=>h (by omega)) List.nodup_range) (λx hx=>by
  obtain ⟨k,hk,rfl⟩:=UU.1 hx
  rw [U8] at hk
  obtain ⟨_,_,t,ht,e⟩:=h7 k _ (UB hk)
  exact UU.2 ⟨t,ht,e⟩)
 simp at this; omega
theorem vi {g:ae} {added:Nat}:qm g added↔added < g.nons.length/\g.terms.length<=65/\g.nons.length<=64 + added/\g.levels.length<=64/\g.terms.length - 1 + (g.nons.length - added)<=64/\z8 g/\vh g/\Fm g added:=by
 constructor
 ·intro h
  have hl:=nY h
  obtain ⟨h1,h2,h3,h4,h5,h6,h7,h8,h9,h10⟩:=h
  exact ⟨h2,h3,h4,hl,h5,⟨h1,h6,h8⟩,λi v hv=>by obtain ⟨a,b,t,ht,e⟩:=h7 i v hv; exact ⟨a,b,t,VR ht,e⟩,h9,h10⟩
 ·rintro ⟨h2,h3,h4,hl,h5,⟨h1,h6,h8⟩,h7,h9,h10⟩
  refine ⟨h1,h2,h3,h4,h5,h6,λi v hv=>?_,h8,h9,h10⟩
  obtain ⟨a,b,t,ht,e⟩:=h7 i v hv
  refine ⟨a,b,t,?_,e⟩
  cases hg:g.terms with
  | nil=>rw [hg] at ht; cases ht
  | cons t0 ts =>
   rw [hg] at ht h1
   cases h1
   rcases UR.1 ht with rfl | ht
   ·exact absurd e (by show (0:Int)≠_; omega)
   ·exact ht
end Go.V
namespace Go.Proofs.YtndaepmjkbmjmaaGreatDoor
section
variable {w:Ws} {L:List au} {g:ae} {x:GA} {s:ByteArray}
theorem Mw (hs:s.size<=4611686018427387904):ay Tryz.prog oX [.string s] w λv w'=>v = .bool (dt s)/\w' = w:=by
 refine m_ ?_
 refine ⟨λn w'=>∃ j:Nat,n = j/\j<=s.size/\(∀ i,i < j->EA (fM s i) = true)/\w' = w,λn _=>s.size - n.toNat,⟨0,rfl,by omega,λi hi=>by omega,rfl⟩,?_⟩
 rintro _ n w1 ⟨j,rfl,hj,hall,rfl⟩
 refine aa (λh=>?_) λh=>?_
 ·have h:j < s.size:=by have:=Uz h; omega
  have hin:Db (j:Int) s.size:=⟨by omega,by omega⟩
  have bad:EA (fM s j) = false->Value.bool false = Value.bool (dt s)/\w1 = w1:=λhno=>by
   refine ⟨?_,rfl⟩
   have:(List.range s.size).all (λi=>EA (fM s i)) = false:=by
    rw [List.all_eq_false]; exact ⟨j,by simpa using h,by simp [hno]⟩
   unfold dt; rw [this]; simp
  rw [U9]
  refine ⟨hin,aa (λh1=>bad ?_) λh1=>⟨hin,aa (λh2=>bad ?_) λh2=>⟨hin,aa (λh3=>bad ?_) λh3=>?_⟩⟩⟩
  ·have h1:((fM s j:Nat):Int) < 32:=Uz h1
   unfold EA; simp; omega
  ·have h2:126 < ((fM s j:Nat):Int):=Uz h2
   unfold EA; simp; omega
  ·have h3:((fM s j:Nat):Int) = 39:=eq_of_beq h3
   unfold EA; simp; omega
  ·have h1:¬ ((fM s j:Nat):Int) < 32:=Uy h1
   have h2:¬ 126 < ((fM s j:Nat):Int):=Uy h2
   have h3:¬ ((fM s j:Nat):Int) = 39:=Wi.1 h3
   refine ⟨⟨by omega,by omega⟩,⟨j + 1,by simp,by omega,λi hi=>?_,rfl⟩,bK h⟩
   by_cases e:i = j
   ·subst e; unfold EA; simp; omega
   ·exact hall i (by omega)
 ·have h:j = s.size:=by have:=Uy h; omega
  subst h
  have hall':=rq.2 hall
  unfold dt
  rw [hall']
  refine aa (λh=>⟨?_,rfl⟩) λh=>⟨?_,rfl⟩
  ·have h:1<=s.size:=by have:=Uz h; omega
   have e:decide ((s.size:Int)<=16) = decide (s.size<=16):=by rw [Vn]; simp only [UO]; omega
   rw [e]; simp [h]
  ·have h:¬ 1<=s.size:=by have:=Uy h; omega
   simp [h]
theorem Hx (hg:gR (hp w) g x) (hb:iK g):ay Tryz.prog mX [.agg ⟨x.cells⟩] w λv w'=>(∃ r:Bool,v = .bool r/\(r = true↔z8 g))/\Gr w w':=by
 refine lF ?_
 refine cQ hg λk1 w1 gw hg B=>?_
 obtain ⟨b1,b2,b3,b4,b5,b6,b7⟩:=hb
 have tl:=hg.t.1
 have ll:=hg.l.1
 have no:∀ {w'},Gr w1 w'->¬ z8 g->(∃ r:Bool,Value.bool false = .bool r/\(r = true↔z8 g))/\Gr w w':=λ{w'} gg hn=>⟨⟨false,rfl,⟨λh=>(by cases h),λh=>absurd h hn⟩⟩,gw.trans gg⟩
 have at' : ∀ {i:Nat},i < x.tl->∃ t ad,g.terms[i]? = some t/\x.ta = some ad/\(∀ w',Gr w1 w'->w'.cell? (ad.add (cR i 2)) = some (.string t.name))/\(∀ w',Gr w1 w'->w'.cell? ((ad.add (cR i 2)).add 1) = some (.int .i64 t.level)):=λ{i} hi=>by
  obtain ⟨t,ad,vs,h1,h2,h3,h4⟩:=hg.t.get hi
  have h4:vs = [.string t.name,.int .i64 t.level]:=h4
  subst h4
  exact ⟨t,ad,h1,h2,λw' s=>h3.cell0 s,λw' s=>h3.cell s (j:=1) rfl⟩
 refine ⟨λb w'=>(b = false↔g.terms[0]? = some ⟨.empty,0⟩)/\w' = w1,?_,?_⟩
 ·refine ⟨_,_,_,B.c0 (sub.refl _),aa (λh1=>⟨?_,rfl⟩) λh1=>?_⟩
  ·have:g.terms = []:=UL (by simp at h1; omega)
   simp [this]
  have h1:0 < x.tl:=by simp at h1; omega
  obtain ⟨t0,ad,ht1,hta,q1,q2⟩:=at' h1
  have q1:w1.cell? ad = some (.string t0.name):=by simpa [aF,Addr.add] using q1 w1 (Gr.refl _)
  have q2:w1.cell? (ad.add 1) = some (.int .i64 t0.level):=by
   have:=q2 w1 (Gr.refl _)
   rw [add_add] at this
   simpa [aF] using this
  refine ⟨_,_,_,B.c0 (sub.refl _),gk hta h1 ⟨_,q1,aa (λh2=>⟨?_,rfl⟩) λh2=>?_⟩⟩
  ·rw [ve] at h2
   have h2:t0.name≠ByteArray.mk (Array.mk []):=by simpa using h2
   rw [ht1]
   simp only [reduceCtorEq,false_iff]
   intro e; cases e; exact h2 rfl
  ·rw [ve] at h2
   have h2:t0.name = ByteArray.mk (Array.mk []):=by simpa using h2
   refine ⟨_,_,_,B.c0 (sub.refl _),gk hta h1 ⟨_,q2,?_,rfl⟩⟩
   rw [ht1]
   constructor
   ·intro e
    have:t0.level = 0:=by simpa using e
    cases t0; simp_all; rfl
   ·intro e; cases e; rfl
 rintro _ b w2 ⟨hpre,rfl⟩
 refine aa (λhbt=>?_) λhbf=>?_
 ·subst hbt
  exact no (Gr.refl _) λh=>by have:=hpre.2 h.1; cases this
 have p1:=hpre.1 hbf
 have hT:1<=x.tl:=by have:=(UA.1 p1).1; omega
 refine ⟨λn w'=>∃ j:Nat,n = (j:Int) + 1/\j + 1<=x.tl/\(∀ t∈(g.terms.drop 1).take j,dt t.name = true/\0<=t.level/\t.level<=g.levels.length)/\(((g.terms.drop 1).take j).map h_.name).Nodup/\Gr w2 w',λn _=>x.tl - n.toNat,⟨0,rfl,by omega,by simp,by simp,Gr.refl _⟩,?_⟩
 rintro _ n w3 ⟨j,rfl,hj,hok,hnd,g3⟩
 refine ⟨_,_,_,B.c0 g3,aa (λhlt=>?_) λhlt=>?_⟩
 ·have hlt:j + 1 < x.tl:=by have:=Uz hlt; omega
  obtain ⟨t,ad,ht1,hta,q1,q2⟩:=at' hlt
  have ht1' : (g.terms.drop 1)[j]? = some t:=by rw [Vb,Nat.add_comm]; exact ht1
  have htm:=UC ht1'
  obtain ⟨u1,u2⟩:=b5 t (VR htm)
  have et:(g.terms.drop 1).take (j + 1) = (g.terms.drop 1).take j ++ [t]:=by rw [UI,ht1']; rfl
  have ej:((j:Int) + 1) = ((j + 1:Nat):Int):=by omega
  rw [ej]
  refine ⟨_,_,_,B.c0 g3,ak hta hlt ⟨_,q1 _ g3,(Mw (by omega)).mono ?_⟩⟩
  rintro _ w4 ⟨rfl,rfl⟩
  refine ⟨_,rfl,λb w'=>(b = false↔(dt t.name = true/\0<=t.level/\t.level<=g.levels.length))/\Gr w2 w',?_,?_⟩
  ·intro w5 hd
   have g5:Gr w2 w5:=g3.trans (Gr.of_eq (gi hd))
   refine ⟨λw'=>Gr w2 w',g5,aa (λh1=>⟨?_,g5⟩) λh1=>?_⟩
   ·have h1:dt t.name = false:=by simpa using h1
    simp [h1]
   have h1:dt t.name = true:=by simpa using h1
   refine ⟨_,_,_,λw' s=>B.c0 s,ak hta hlt ⟨_,λw' s=>q2 _ s,aa (λh2=>⟨?_,g5⟩) λh2=>?_⟩⟩
   ·have h2:=Uz h2
    simp [h1]; omega
   have h2:=Uy h2
   refine ⟨_,_,_,λw' s=>B.c0 s,ak hta hlt ⟨_,λw' s=>q2 _ s,_,_,_,λw' s=>B.c2 s,?_,g5⟩⟩
   rw [Vl]
   simp only [h1,true_and]; omega
  rintro _ b3 w11 ⟨hb3,g11⟩
  refine aa (λhbt=>?_) λhbf=>?_
  ·subst hbt
   exact no g11 λh=>by have:=hb3.2 (h.2.1 t htm); cases this
  have hokt:=hb3.1 hbf
  refine ⟨λn w'=>∃ k:Nat,n = (k:Int) + 1/\k<=j/\(∀ u∈(g.terms.drop 1).take k,u.name≠t.name)/\Gr w2 w',λn _=>x.tl - n.toNat,⟨0,rfl,by omega,by simp,g11⟩,?_⟩
  rintro _ n5 w12 ⟨k,rfl,hk,hne,g12⟩
  refine aa (λhlt2=>?_) λhlt2=>?_
  ·have hlt2:k < j:=by have:=Uz hlt2; omega
   obtain ⟨u,ad',hu1,hua,r1,_⟩:=at' (by omega:k + 1 < x.tl)
   rw [hta] at hua; cases hua
   have hu1' : (g.terms.drop 1)[k]? = some u:=by rw [Vb,Nat.add_comm]; exact hu1
   have ek:((k:Int) + 1) = ((k + 1:Nat):Int):=by omega
   intro w13 hd
   have g13:Gr w2 w13:=g12.trans (Gr.of_eq (gi hd))
   rw [ek]
   refine ⟨λw'=>Gr w2 w',g13,_,_,_,λw' s=>B.c0 s,ak hta (by omega) ⟨_,λw' s=>r1 _ s,_,_,_,λw' s=>B.c0 s,ak hta hlt ⟨_,λw' s=>q1 _ s,?_⟩⟩⟩
   rw [ve]
   refine aa (λh=>?_) λh=>?_
   ·have h:=Uz h
    refine no g13 λhp=>?_
    have hnn:=hp.2.2
    have e1:((g.terms.drop 1).map h_.name)[k]? = some t.name:=by rw [UD,hu1',<- h]; rfl
    have e2:((g.terms.drop 1).map h_.name)[j]? = some t.name:=by rw [UD,ht1']; rfl
    have:=(List.getElem?_inj (UA.1 e1).1 hnn).1 (e1.trans e2.symm)
    omega
   ·have h:=Uy h
    refine ⟨⟨by omega,by omega⟩,⟨k + 1,by simp,by omega,λu' hu'=>?_,g13⟩,by dsimp only; omega⟩
    rw [UI,hu1'] at hu'
    rcases UF.1 hu' with hu' | hu'
    ·exact hne u' hu'
    ·simp at hu'; subst hu'; exact h
  ·have hlt2:k = j:=by have:=Uy hlt2; omega
   subst hlt2
   refine ⟨⟨by omega,by omega⟩,⟨k + 1,by simp,by omega,λt' ht'=>?_,?_,g12⟩,by dsimp only; omega⟩
   ·rw [et] at ht'
    rcases UF.1 ht' with ht' | ht'
    ·exact hok t' ht'
    ·simp at ht'; subst ht'; exact hokt
   ·rw [et,U1]
    exact tO.2 ⟨hnd,λhm=>by obtain ⟨u,hu,e⟩:=UU.1 hm; exact hne u hu e⟩
 ·have hlt:j + 1 = x.tl:=by have:=Uy hlt; omega
  rw [UX (by simp; omega)] at hok hnd
  exact ⟨⟨true,rfl,⟨λ_=>⟨p1,hok,hnd⟩,λ_=>rfl⟩⟩,gw.trans g3⟩
end
end Go.Proofs.YtndaepmjkbmjmaaGreatDoor
namespace Go.V
def Cq (g:ae) (added:Nat):Prop:=qm g added/\wQ g added
theorem Hy {l:List Int} (h:0 < l.length):0 < (cH l).length:=by
 obtain ⟨x,hx⟩:=List.exists_mem_of_length_pos h
 exact List.length_pos_of_mem (Hw.2 hx)
def Fo (g:ae) (added:Nat):Prop:=g.nons.length<=64 + added/\g.terms.length<=65/\g.prods.length<=96 + added/\added < g.prods.length/\g.levels.length<=64
theorem Fp {g:ae} {added:Nat}:Cq g added↔Fo g added/\(g.terms.length:Int) - 1 + g.nons.length - added<=64/\z8 g/\vh g/\Fm g added/\(∀ p∈g.prods.drop added,my g added p)/\((gK g added).length:Int) = (g.N:Int) - added/\(g.T:Int) + added<=g.start/\g.start < g.T + g.N:=by
 unfold Cq
 rw [vi]
 constructor
 ·rintro ⟨⟨h1,h2,h3,h4,h5,h6,h7,h8⟩,p1,p2,p3,p4,p5,p6⟩
  exact ⟨⟨h3,h2,p2,p1,h4⟩,by omega,h6,h7,h8,p3,p4,p5,p6⟩
 ·rintro ⟨⟨h3,h2,p2,p1,h4⟩,h5,h6,h7,h8,p3,p4,p5,p6⟩
  have hpos:0 < (gK g added).length:=Hy (by simp; omega)
  have hN:g.N = g.nons.length:=rfl
  have hT:1<=g.terms.length:=by have:=(UA.1 h6.1).1; omega
  exact ⟨⟨by omega,h2,h3,h4,by omega,h6,h7,h8⟩,p1,p2,p3,p4,p5,p6⟩
end Go.V
namespace Go.Proofs.YtndaepmjkbmjmaaGreatDoor
section
variable {w:Ws} {L:List au} {g:ae} {x:GA} {s:ByteArray}
def Rz (c:Nat):Bool:=decide (c = 95) || (decide (65<=c) && decide (c<=90)) || (decide (97<=c) && decide (c<=122))
theorem Fq {i c:Nat}:Hq i c = (Rz c || (decide (i≠0) && decide (48<=c) && decide (c<=57))):=rfl
theorem Mx (hs:s.size<=4611686018427387904):ay Tryz.prog oY [.string s] w λv w'=>v = .bool (de s)/\w' = w:=by
 refine nf ?_
 refine ⟨λn w'=>∃ j:Nat,n = j/\j<=s.size/\(∀ i,i < j->Hq i (fM s i) = true)/\w' = w,λn _=>s.size - n.toNat,⟨0,rfl,by omega,λi hi=>by omega,rfl⟩,?_⟩
 rintro _ n w1 ⟨j,rfl,hj,hall,rfl⟩
 refine aa (λh=>?_) λh=>?_
 ·have h:j < s.size:=by have:=Uz h; omega
  have hin:Db (j:Int) s.size:=⟨by omega,by omega⟩
  have hc:((sb s j).toNat:Int) = (fM s j:Nat):=rfl
  rw [U9,hc]
  refine ⟨λw'=>Hq j (fM s j) = true/\w' = w1,⟨λb w'=>b = Rz (fM s j)/\w' = w1,⟨hin,?_⟩,?_⟩,?_⟩
  ·generalize fM s j = c
   have h95:((c:Int) == 95) = decide (c = 95):=by rw [Vn]; simp only [beq_iff_eq,UO]; omega
   unfold Rz
   rw [h95]
   refine aa (λh1=>⟨hin,aa (λh2=>⟨?_,rfl⟩) λh2=>⟨hin,aa (λh3=>⟨hin,aa (λh4=>⟨?_,rfl⟩) λh4=>⟨hin,?_,rfl⟩⟩) λh3=>⟨hin,?_,rfl⟩⟩⟩) λh1=>⟨hin,aa (λh3=>⟨hin,aa (λh4=>⟨?_,rfl⟩) λh4=>⟨hin,?_,rfl⟩⟩) λh3=>⟨hin,?_,rfl⟩⟩
   all_goals
    rw [Vn]
    simp only [VH,UT,UO,Vl,true_iff] at *
    omega
  ·rintro _ b w2 ⟨hb,rfl⟩
   rw [Fq,<- hb]
   have bad:Hq j (fM s j) = false->Value.bool false = Value.bool (de s)/\w2 = w2:=λhno=>by
    refine ⟨?_,rfl⟩
    have:(List.range s.size).all (λi=>Hq i (fM s i)) = false:=by
     rw [List.all_eq_false]; exact ⟨j,by simpa using h,by simp [hno]⟩
    unfold de; rw [this]; simp
   rw [Fq,<- hb] at bad
   generalize fM s j = c at bad
   refine ⟨hin,aa (λh1=>⟨hin,aa (λh2=>aa (λh3=>aa (λh4=>bad ?_) λh4=>⟨?_,rfl⟩) λh3=>⟨?_,rfl⟩) λh2=>aa (λh3=>bad ?_) λh3=>⟨?_,rfl⟩⟩) λh1=>aa (λh3=>bad ?_) λh3=>⟨?_,rfl⟩⟩
   all_goals cases b
   all_goals first | (cases h3; done) | simp
   all_goals
    simp only [VQ,Bool.not_eq_false',UO,Vl] at *
    omega
  ·rintro _ w2 ⟨hok,rfl⟩
   refine ⟨⟨by omega,by omega⟩,⟨j + 1,by simp,by omega,λi hi=>?_,rfl⟩,by dsimp only; omega⟩
   by_cases e:i = j
   ·subst e; exact hok
   ·exact hall i (by omega)
 ·have h:j = s.size:=by have:=Uy h; omega
  have hall' : (List.range s.size).all (λi=>Hq i (fM s i)) = true:=rq.2 (by rw [<- h]; exact hall)
  unfold de
  rw [hall']
  refine aa (λh=>?_) λh=>?_
  ·have h:1<=s.size:=by have:=Uz h; omega
   refine ⟨?_,rfl⟩
   have e:decide ((s.size:Int)<=16) = decide (s.size<=16):=by rw [Vn]; simp only [UO]; omega
   rw [e]; simp [h]
  ·have h:¬ 1<=s.size:=by have:=Uy h; omega
   exact ⟨by simp [h],rfl⟩
theorem Fs (hg:gR (hp w) g x) (hb:iK g):ay Tryz.prog mq [.agg ⟨x.cells⟩] w λv w'=>(∃ r:Bool,v = .bool r/\(r = true↔vh g))/\Gr w w':=by
 refine kK ?_
 refine cQ hg λk1 w1 gw hg B=>?_
 obtain ⟨b1,b2,b3,b4,b5,b6,b7⟩:=hb
 have tl:=hg.t.1
 have ll:=hg.l.1
 have no:∀ {w'},Gr w1 w'->¬ vh g->(∃ r:Bool,Value.bool false = .bool r/\(r = true↔vh g))/\Gr w w':=λ{w'} gg hn=>⟨⟨false,rfl,⟨λh=>(by cases h),λh=>absurd h hn⟩⟩,gw.trans gg⟩
 refine ⟨λn w'=>∃ i:Nat,n = i/\i<=x.ll/\(∀ (k:Nat) v,k < i->g.levels[k]? = some v->1<=v/\v<=3/\∃ t∈g.terms,t.level = (k:Int) + 1)/\w' = w1,λn _=>x.ll - n.toNat,⟨0,rfl,by omega,λk v hk=>by omega,rfl⟩,?_⟩
 rintro _ n1 w2 ⟨i,rfl,hi,hok,rfl⟩
 refine ⟨_,_,_,B.c2 (sub.refl _),aa (λhlt=>?_) λhlt=>?_⟩
 ·have hlt:i < x.ll:=by have:=Uz hlt; omega
  obtain ⟨v,ad,hv1,hva,hv2⟩:=hg.l.dM hlt
  refine ⟨λb n w'=>∃ k:Nat,n = k/\k<=x.tl/\(b = true↔∃ t∈g.terms.take k,t.level = (i:Int) + 1)/\w' = w2,λb n _=>x.tl - n.toNat,⟨0,rfl,by omega,by simp,rfl⟩,?_⟩
  rintro _ b n2 w3 ⟨k,rfl,hk,hbk,rfl⟩
  refine ⟨_,_,_,B.c0 (sub.refl _),aa (λhlt2=>?_) λhlt2=>?_⟩
  ·have hlt2:k < x.tl:=by have:=Uz hlt2; omega
   obtain ⟨t,ad2,vs,ht1,hta,ht2,ht3⟩:=hg.t.get hlt2
   have ht3:vs = [.string t.name,.int .i64 t.level]:=ht3
   subst ht3
   have et:g.terms.take (k + 1) = g.terms.take k ++ [t]:=by rw [UI,ht1]; rfl
   refine aa (λh1=>?_) λh1=>?_
   ·subst h1
    refine ⟨⟨by omega,by omega⟩,⟨k + 1,by simp,by omega,?_,rfl⟩,bK hlt2⟩
    obtain ⟨t',h1,h2⟩:=hbk.1 rfl
    exact ⟨λ_=>⟨t',by rw [et]; exact UF.2 (.inl h1),h2⟩,λ_=>rfl⟩
   ·subst h1
    refine ⟨_,_,_,B.c0 (sub.refl _),ak hta hlt2 ⟨_,ht2.cell (sub.refl _) (j:=1) rfl,⟨by omega,by omega⟩,⟨by omega,by omega⟩,⟨k + 1,by simp,by omega,?_,rfl⟩,bK hlt2⟩⟩
    rw [et]
    constructor
    ·intro h; exact ⟨t,by simp,by simpa using h⟩
    ·rintro ⟨t',h1,h2⟩
     rcases UF.1 h1 with h1 | h1
     ·have:=hbk.2 ⟨t',h1,h2⟩; cases this
     ·simp at h1; subst h1; simpa using h2
  ·have hlt2:k = x.tl:=by have:=Uy hlt2; omega
   rw [UX (by omega)] at hbk
   refine aa (λh1=>no (Gr.refl _) λhp=>?_) λh1=>?_
   ·have:=hbk.2 (hp i v hv1).2.2
    rw [this] at h1; cases h1
   have h1:b = true:=by simpa using h1
   refine ⟨_,_,_,B.c2 (sub.refl _),aB hva hlt ⟨_,hv2 _ (sub.refl _),aa (λh2=>no (Gr.refl _) λhp=>?_) λh2=>⟨_,_,_,B.c2 (sub.refl _),aB hva hlt ⟨_,hv2 _ (sub.refl _),aa (λh3=>no (Gr.refl _) λhp=>?_) λh3=>?_⟩⟩⟩⟩
   ·have:=Uz h2; have:=(hp i v hv1).1; omega
   ·have:=Uz h3; have:=(hp i v hv1).2.1; omega
   ·have h2:=Uy h2
    have h3:=Uy h3
    refine ⟨⟨by omega,by omega⟩,⟨i + 1,by simp,by omega,λk' v' hk' hv'=>?_,rfl⟩,bK hlt⟩
    by_cases e:k' = i
    ·subst e; rw [hv1] at hv'; cases hv'; exact ⟨by omega,by omega,hbk.1 h1⟩
    ·exact hok k' v' (by omega) hv'
 ·have hlt:i = x.ll:=by have:=Uy hlt; omega
  subst hlt
  exact ⟨⟨true,rfl,⟨λ_ i v hv=>hok i v (by have:=(UA.1 hv).1; omega) hv,λ_=>rfl⟩⟩,gw⟩
theorem KA (hg:gR (hp w) g x) (hb:iK g) (added:Nat):ay Tryz.prog nV [.agg ⟨x.cells⟩,.int .i64 (added:Int)] w λv w'=>(∃ r:Bool,v = .bool r/\(r = true↔Fm g added))/\Gr w w':=by
 refine mu ?_
 refine cQ hg λk1 w1 gw hg B=>?_
 obtain ⟨b1,b2,b3,b4,b5,b6,b7⟩:=hb
 have nl:=hg.n.1
 have no:∀ {w'},Gr w1 w'->¬ Fm g added->(∃ r:Bool,Value.bool false = .bool r/\(r = true↔Fm g added))/\Gr w w':=λ{w'} gg hn=>⟨⟨false,rfl,⟨λh=>(by cases h),λh=>absurd h hn⟩⟩,gw.trans gg⟩
 refine ⟨λn w'=>∃ i:Nat,n = ((added + i:Nat):Int)/\(added + i<=x.nl\/i = 0)/\((g.nons.drop added).take i).Nodup/\(∀ s∈(g.nons.drop added).take i,de s = true)/\Gr w1 w',λn _=>x.nl - n.toNat,⟨0,rfl,.inr rfl,by simp,by simp,Gr.refl _⟩,?_⟩
 rintro _ n1 w2 ⟨i,rfl,hi,hnd,hok,g2⟩
 refine ⟨_,_,_,B.c1 g2,aa (λhlt=>?_) λhlt=>?_⟩
 ·have hlt:added + i < x.nl:=by have:=Uz hlt; omega
  obtain ⟨s,ad,hs1,hsa,hs2⟩:=hg.n.dM hlt
  have hs1' : (g.nons.drop added)[i]? = some s:=by rw [Vb]; exact hs1
  have hsm:=UC hs1'
  have et:(g.nons.drop added).take (i + 1) = (g.nons.drop added).take i ++ [s]:=by rw [UI,hs1']; rfl
  refine ⟨_,_,_,B.c1 g2,aB hsa hlt ⟨_,hs2 _ g2,(Mx (by have:=b6 s (VR hsm); omega)).mono ?_⟩⟩
  rintro _ w2 ⟨rfl,rfl⟩
  refine ⟨_,rfl,aa (λh1=>no g2 λhp=>?_) λh1=>?_⟩
  ·rw [hp.2 s hsm] at h1; cases h1
  have h1:de s = true:=by simpa using h1
  refine ⟨λn w'=>∃ k:Nat,n = ((added + k:Nat):Int)/\k<=i/\(∀ u∈(g.nons.drop added).take k,u≠s)/\Gr w1 w',λn _=>x.nl - n.toNat,⟨0,rfl,by omega,by simp,g2⟩,?_⟩
  rintro _ n2 w4 ⟨k,rfl,hk,hne,g4⟩
  refine aa (λhlt2=>?_) λhlt2=>?_
  ·have hlt2:k < i:=by have:=Uz hlt2; omega
   obtain ⟨u,ad',hu1,hua,hu2⟩:=hg.n.dM (by omega:added + k < x.nl)
   rw [hsa] at hua; cases hua
   have hu1' : (g.nons.drop added)[k]? = some u:=by rw [Vb]; exact hu1
   intro w5 hd
   have g5:Gr w1 w5:=g4.trans (Gr.of_eq (gi hd))
   refine ⟨λw'=>Gr w1 w',g5,_,_,_,λw' s=>B.c1 s,aB hsa (by omega) ⟨_,λw' s=>hu2 _ s,_,_,_,λw' s=>B.c1 s,aB hsa hlt ⟨_,λw' s=>hs2 _ s,?_⟩⟩⟩
   rw [ve]
   refine aa (λh=>no g5 λhp=>?_) λh=>?_
   ·have h:=Uz h
    subst h
    have:=(List.getElem?_inj (UA.1 hu1').1 hp.1).1 (hu1'.trans hs1'.symm)
    omega
   ·have h:=Uy h
    refine ⟨⟨by omega,by omega⟩,⟨k + 1,by omega,by omega,λu' hu'=>?_,g5⟩,by dsimp only; omega⟩
    rw [UI,hu1'] at hu'
    rcases UF.1 hu' with hu' | hu'
    ·exact hne u' hu'
    ·simp at hu'; subst hu'; exact h
  ·have hlt2:k = i:=by have:=Uy hlt2; omega
   subst hlt2
   refine ⟨⟨by omega,by omega⟩,⟨k + 1,by omega,by omega,?_,λt' ht'=>?_,g4⟩,by dsimp only; omega⟩
   ·rw [et]; exact tO.2 ⟨hnd,λhm=>hne s hm rfl⟩
   ·rw [et] at ht'
    rcases UF.1 ht' with ht' | ht'
    ·exact hok t' ht'
    ·simp at ht'; subst ht'; exact h1
 ·have hlt:=Uy hlt
  rw [UX (by simp; omega)] at hok hnd
  exact ⟨⟨true,rfl,⟨λ_=>⟨hnd,hok⟩,λ_=>rfl⟩⟩,gw.trans g2⟩
theorem wR (hg:gR (hp w) g x) (hb:iK g):ay Tryz.prog nU [.agg ⟨x.cells⟩] w λv w'=>v = .int .i64 ((g.T:Int) + g.N)/\Gr w w':=by
 refine mo ?_
 refine cQ hg λk1 w1 gw hg B=>?_
 have tl:=hg.t.1
 have nl:=hg.n.1
 obtain ⟨b1,b2,b3,b4,b5,b6,b7⟩:=hb
 exact ⟨_,_,_,B.c0 (sub.refl _),_,_,_,B.c1 (sub.refl _),⟨by omega,by omega⟩,by unfold ae.T ae.N; rw [tl,nl],gw⟩
theorem Hz (hg:gR (hp w) g x) (hb:iK g) (added:Nat):ay Tryz.prog mY [.agg ⟨x.cells⟩,.int .i64 (added:Int),.int .i64 ((g.T:Int) + added)] w λv w'=>(∃ r:Bool,v = .bool r/\(r = true↔∀ p∈g.prods.drop added,my g added p))/\Gr w w':=by
 refine lH ?_
 refine cQ hg λk1 w1 gw hg B=>?_
 have hb':=hb
 obtain ⟨b1,b2,b3,b4,b5,b6,b7⟩:=hb
 have tl:g.T = x.tl:=hg.t.1
 have nl:g.N = x.nl:=hg.n.1
 have ll:=hg.l.1
 have pl:=hg.p.1
 have no:∀ {w'},Gr w1 w'->¬ (∀ p∈g.prods.drop added,my g added p)->(∃ r:Bool,Value.bool false = .bool r/\(r = true↔∀ p∈g.prods.drop added,my g added p))/\Gr w w':=λ{w'} gg hn=>⟨⟨false,rfl,⟨λh=>(by cases h),λh=>absurd h hn⟩⟩,gw.trans gg⟩
 refine ⟨λn w'=>∃ j:Nat,n = ((added + j:Nat):Int)/\(added + j<=x.pl\/j = 0)/\(∀ p∈(g.prods.drop added).take j,my g added p)/\Gr w1 w',λn _=>x.pl - n.toNat,⟨0,rfl,.inr rfl,by simp,Gr.refl _⟩,?_⟩
 rintro _ n1 w2 ⟨j,rfl,hj,hok,g2⟩
 refine ⟨_,_,_,B.c4 g2,aa (λhlt=>?_) λhlt=>?_⟩
 ·have hlt:added + j < x.pl:=by have:=Uz hlt; omega
  obtain ⟨p,ad,vs,hp1,hpa,hp2,ra,rl,rc,rfl,hrc,hp3⟩:=hg.p.get hlt
  have hp1' : (g.prods.drop added)[j]? = some p:=by rw [Vb]; exact hp1
  have hpm:=UC hp1'
  have rl1:=hp3.1
  have b7':=b7 p (VR hpm)
  refine ⟨_,_,_,B.c4 g2,ak hpa hlt ⟨_,_,_,_,_,hp2.at g2 rfl,af (St.all w2) λk8 w3 h=>aI h rfl (by simp [aH]) λw4 h=>?_⟩⟩
  have g4:Gr w1 w4:=g2.trans h.aR
  have hbox:av (hp w4) ⟨k8,0,none⟩ [.int .i64 p.left,.slice ra rl rc,.int .i64 p.level]:=h.row
  have d0:=λ(w' : Ws) (s:Gr w4 w')=>hbox.cell0 s
  have d1:=λ(w' : Ws) (s:Gr w4 w')=>hbox.cell s (j:=1) (v:=.slice ra rl rc) rfl
  have d2:=λ(w' : Ws) (s:Gr w4 w')=>hbox.cell s (j:=2) (v:=.int .i64 p.level) rfl
  refine ⟨λb w'=>(b = false↔((g.T:Int) + added<=p.left/\p.left < g.T + g.N/\0<=p.level/\p.level<=g.levels.length))/\Gr w4 w',?_,?_⟩
  ·intro w5 hd
   have g5:Gr w4 w5:=Gr.of_eq (gi hd)
   refine ⟨λw'=>Gr w4 w',g5,_,λw' s=>d0 _ s,aa (λh1=>⟨?_,g5⟩) λh1=>?_⟩
   ·have:=Uz h1
    simp; omega
   have h1:=Uy h1
   refine ⟨_,λw' s=>d0 _ s,_,_,_,_,_,_,_,_,_,_,_,_,_,λw' s=>B.row (g4.trans s),(wR (x:=x) (hg.mono (g4.trans g5)) hb').mono ?_⟩
   rintro _ w9 ⟨rfl,g9⟩
   have g9:Gr w4 w9:=g5.trans g9
   refine ⟨_,rfl,λw'=>Gr w4 w',g9,λ_ h=>h,aa (λh2=>⟨?_,g9⟩) λh2=>?_⟩
   ·have:=Uz h2
    simp; omega
   have h2:=Uy h2
   refine ⟨_,λw' s=>d2 _ s,aa (λh3=>⟨?_,g9⟩) λh3=>?_⟩
   ·have:=Uz h3
    simp; omega
   have h3:=Uy h3
   refine ⟨_,λw' s=>d2 _ s,_,_,_,λw' s=>B.c2 (g4.trans s),?_,g9⟩
   rw [Vl]; omega
  rintro _ b2 w13 ⟨hb2,g13⟩
  refine aa (λhbt=>?_) λhbf=>?_
  ·subst hbt
   exact no (g4.trans g13) λh=>by have:=hb2.2 (h p hpm).1; cases this
  have hpok:=hb2.1 hbf
  refine ⟨λn w'=>∃ i:Nat,n = i/\i<=rl/\(∀ (k:Nat) s,k < i->p.right[k]? = some s->fH g added s)/\Gr w4 w',λn _=>rl - n.toNat,⟨0,rfl,by omega,λk s hk=>by omega,g13⟩,?_⟩
  rintro _ n8 w14 ⟨i,rfl,hi,hsy,g14⟩
  refine ⟨_,_,_,d1 _ g14,aa (λhlt2=>?_) λhlt2=>?_⟩
  ·have hlt2:i < rl:=by have:=Uz hlt2; omega
   obtain ⟨s,ad2,hs1,hsa,hs2⟩:=hp3.dM hlt2
   have bad:∀ {w'},Gr w4 w'->¬ fH g added s->_:=λ{w'} gg hn=>no (g4.trans gg) (λhq=>hn ((hq p hpm).2 s (UC hs1)))
   have good:∀ {w'},Gr w4 w'->fH g added s->aw ((i:Int) + 1)/\(∃ i' : Nat,(i:Int) + 1 = i'/\i'<=rl/\(∀ (k:Nat) s,k < i'->p.right[k]? = some s->fH g added s)/\Gr w4 w')/\rl - ((i:Int) + 1).toNat < rl - (i:Int).toNat:=λ{w'} gg hgd=>by
    refine ⟨⟨by omega,by omega⟩,⟨i + 1,by simp,by omega,λk s' hk hs'=>?_,gg⟩,bK hlt2⟩
    by_cases e:k = i
    ·subst e; rw [hs1] at hs'; cases hs'; exact hgd
    ·exact hsy k s' (by omega) hs'
   refine ⟨_,_,_,d1 _ g14,aB hsa hlt2 ⟨s,hs2 _ (g4.trans g14),aa (λh1=>bad g14 ?_) λh1=>?_⟩⟩
   ·have:=Uz h1; unfold fH; omega
   refine ⟨_,_,_,_,_,_,_,_,_,_,_,_,_,B.row (g4.trans g14),(wR (x:=x) (hg.mono (g4.trans g14)) hb').mono ?_⟩
   rintro _ w15 ⟨rfl,g15⟩
   have g15:Gr w4 w15:=g14.trans g15
   refine ⟨_,rfl,aa (λh2=>bad g15 ?_) λh2=>⟨_,_,_,B.c0 (g4.trans g15),aa (λh3=>aa (λh4=>bad g15 ?_) λh4=>good g15 ?_) λh3=>good g15 ?_⟩⟩
   ·have:=Uz h2; unfold fH; omega
   ·have h3:=Uz h3; have h4:=Uz h4; unfold fH; omega
   ·have h1:=Uy h1; have h2:=Uy h2; have h3:=Uz h3; have h4:=Uy h4; unfold fH; omega
   ·have h1:=Uy h1; have h2:=Uy h2; have h3:=Uy h3; unfold fH; omega
  have hlt2:i = rl:=by have:=Uy hlt2; omega
  subst hlt2
  refine ⟨⟨by omega,by omega⟩,⟨j + 1,by omega,by omega,λq hq=>?_,g4.trans g14⟩,by dsimp only; omega⟩
  rw [UI,hp1'] at hq
  rcases UF.1 hq with hq | hq
  ·exact hok q hq
  ·simp at hq; subst hq
   exact ⟨hpok,λs hs=>by
    obtain ⟨k,hk,e⟩:=List.mem_iff_getElem.1 hs
    exact hsy k s (by omega) (by rw [<- e]; exact UB hk)⟩
 ·have hlt:=Uy hlt
  rw [UX (by simp; omega)] at hok
  exact ⟨⟨true,rfl,⟨λ_=>hok,λ_=>rfl⟩⟩,gw.trans g2⟩
theorem Pq (hg:gR (hp w) g x) (hb:iK g) (added:Nat):ay Tryz.prog qb [.agg ⟨x.cells⟩,.int .i64 (added:Int)] w λv w'=>∃ a c,v = .slice a (gK g added).length c/\St w' (own 1 a (gK g added).length c (iv (gK g added)) :: all w):=by
 refine nX ?_
 refine cQ hg λk1 w1 gw hg B=>?_
 obtain ⟨b1,b2,b3,b4,b5,b6,b7⟩:=hb
 have pl:=hg.p.1
 have hfin:∀ {w' : Ws} {A:au},St w' (A :: all w1)->St w' (A :: all w):=λh=>h.u6 (bY gw)
 refine ⟨λo l' c' n w'=>∃ j:Nat,n = ((added + j:Nat):Int)/\(added + j<=x.pl\/j = 0)/\(cH (((g.prods.drop added).map aO.left).take j)).length = l' /\
   St w' (own 1 o l' c' (iv (cH (((g.prods.drop added).map aO.left).take j))) :: all w1),λ_ _ _ n _=>x.pl - n.toNat,⟨0,rfl,.inr rfl,rfl,az 1 (St.all w1)⟩,?_⟩
 rintro _ o1 _ c1 n1 w2 ⟨j,rfl,hj,rfl,h⟩
 have g2:Gr w1 w2:=h.aR
 have hll:(cH (((g.prods.drop added).map aO.left).take j)).length<=j:=U7 (tQ _) (by simp; omega)
 refine ⟨_,_,_,B.c4 g2,aa (λhlt=>?_) λhlt=>?_⟩
 ·have hlt:added + j < x.pl:=by have:=Uz hlt; omega
  obtain ⟨p,ad,vs,hp1,hpa,hp2,ra,rl,rc,rfl,hrc,hp3⟩:=hg.p.get hlt
  have hp1' : (g.prods.drop added)[j]? = some p:=by rw [Vb]; exact hp1
  have hlp:((g.prods.drop added).map aO.left)[j]? = some p.left:=by rw [UD,hp1']; rfl
  have et:=xZ hlp
  generalize hLJ:cH (((g.prods.drop added).map aO.left).take j) = LJ at *
  refine ⟨λb n w'=>∃ k:Nat,n = k/\k<=LJ.length/\(b = true↔p.left∈LJ.take k)/\St w' (own 1 o1 LJ.length c1 (iv LJ) :: all w1),λb n _=>LJ.length - n.toNat,⟨0,rfl,by omega,by simp,h⟩,?_⟩
  clear h g2
  rintro _ b n2 w3 ⟨k,rfl,hk,hbk,h⟩
  refine aa (λhlt2=>?_) λhlt2=>?_
  ·have hlt2:k < LJ.length:=by have:=Uz hlt2; omega
   intro w4 hd
   have h:=h.drawn hd
   have g4:Gr w1 w4:=h.aR
   obtain ⟨y,ad2,hy1,rfl,hy2⟩:=(DC h).dM hlt2
   have ey:LJ.take (k + 1) = LJ.take k ++ [y]:=cJ hy1
   refine ⟨λw'=>Gr w4 w',Gr.refl _,aa (λh1=>?_) λh1=>?_⟩
   ·subst h1
    exact ⟨⟨by omega,by omega⟩,⟨k + 1,by simp,by omega,⟨λ_=>by rw [ey]; exact UF.2 (.inl (hbk.1 rfl)),λ_=>rfl⟩,h⟩,bK hlt2⟩
   ·subst h1
    refine aB rfl hlt2 ⟨y,λw' s=>hy2 _ s,_,_,_,λw' s=>B.c4 (g4.trans s),ak hpa hlt ⟨_,λw' s=>hp2.cell0 (g4.trans s),⟨by omega,by omega⟩,⟨k + 1,by simp,by omega,?_,h⟩,bK hlt2⟩⟩
    rw [ey,UF]
    have:p.left∉LJ.take k:=λhm=>by have:=hbk.2 hm; cases this
    simp only [this,false_or,U2,beq_iff_eq]
    exact eq_comm
  ·have hlt2:k = LJ.length:=by have:=Uy hlt2; omega
   subst hlt2
   rw [UZ] at hbk
   refine aa (λh1=>?_) λh1=>?_
   ·have h1:p.left∉LJ:=λhm=>by rw [hbk.2 hm] at h1; cases h1
    refine ⟨_,_,_,B.c4 h.aR,ak hpa hlt ⟨_,hp2.cell0 h.aR,af h λk10 w8 h=>?_⟩⟩
    refine (aW aL (rfl:ah Ty _ = .slice _) (rfl:ah Ty _ = .slice _) rfl rfl rfl h rfl (by simp [aH]) (by show (_ + 1) * 8<=_; omega) (by omega)).mono ?_
    rintro _ w10 ⟨a',c',rfl,h⟩
    have e2:cH (((g.prods.drop added).map aO.left).take (j + 1)) = LJ ++ [p.left]:=by rw [et]; unfold nr; rw [UE h1]
    refine ⟨_,_,_,rfl,⟨by omega,by omega⟩,⟨j + 1,by omega,by omega,by rw [e2]; simp,?_⟩,by dsimp only; omega⟩
    rw [e2]
    have e3:∀ l:List Int,iv (l ++ [p.left]) = iv l ++ [.int .i64 p.left]:=λl=>by simp [iv]
    rw [e3]
    exact h.pick 3 [0,2]
   ·have h1:p.left∈LJ:=hbk.1 (by simpa using h1)
    have e2:cH (((g.prods.drop added).map aO.left).take (j + 1)) = LJ:=by rw [et]; unfold nr; rw [UJ h1]
    refine ⟨⟨by omega,by omega⟩,⟨j + 1,by omega,by omega,by rw [e2],?_⟩,by dsimp only; omega⟩
    rw [e2]; exact h
 ·have hlt:=Uy hlt
  have el:((g.prods.drop added).map aO.left).take j = (g.prods.drop added).map aO.left:=UX (by simp; omega)
  rw [el] at h ⊢
  exact ⟨o1,c1,rfl,hfin h⟩
end
end Go.Proofs.YtndaepmjkbmjmaaGreatDoor
namespace Go.V
theorem Gr.drawn {w w' : Ws} (h:V.drawn w w'):Gr w w':=Gr.of_eq (gi h)
theorem HA {g:ae}:aq g↔(2<=g.nons.length/\g.nons[0]? = some .empty/\2<=g.prods.length/\∃ p,g.prods[0]? = some p/\p.left = (g.T:Int)/\p.right = [g.start]/\p.level = 0)/\Cq g 1:=by
 unfold aq Cq
 constructor
 ·rintro ⟨h1,h2,h3,h4⟩
  have:=(vi.1 h2).1
  have:=(Fp.1 ⟨h2,h3⟩).1.2.2.2.1
  exact ⟨⟨by omega,h1,by omega,h4⟩,h2,h3⟩
 ·rintro ⟨⟨_,h1,_,h4⟩,h2,h3⟩
  exact ⟨h1,h2,h3,h4⟩
end Go.V
namespace Go.Proofs.YtndaepmjkbmjmaaGreatDoor
section
variable {w:Ws} {L:List au} {g:ae} {x:GA} {s:ByteArray}
theorem RA (hg:gR (hp w) g x) (hb:iK g) (added:Nat) (ha:added<=1):ay Tryz.prog sf [.agg ⟨x.cells⟩,.int .i64 (added:Int)] w λv w'=>(∃ r:Bool,v = .bool r/\(r = true↔Cq g added))/\Gr w w':=by
 refine oU ?_
 refine cQ hg λk1 w1 gw hg B=>?_
 have hb':=hb
 obtain ⟨b1,b2,b3,b4,b5,b6,b7⟩:=hb
 have tl:=hg.t.1
 have nl:=hg.n.1
 have ll:=hg.l.1
 have pl:=hg.p.1
 have hT:g.T = x.tl:=tl
 have hN:g.N = x.nl:=nl
 have hst:=hg.s
 rw [Fp]
 unfold Fo
 rw [hT,hN,tl,nl,ll,pl]
 generalize hP:(_/\_:Prop) = P
 have no:∀ {w'},Gr w1 w'->¬ P->(∃ r:Bool,Value.bool false = .bool r/\(r = true↔P))/\Gr w w':=λ{w'} gg hn=>⟨⟨false,rfl,⟨λh=>(by cases h),λh=>absurd h hn⟩⟩,gw.trans gg⟩
 refine ⟨λb w'=>(b = false↔(x.nl<=64 + added/\x.tl<=65/\x.pl<=96 + added/\added < x.pl/\x.ll<=64))/\w' = w1,?_,?_⟩
 ·refine ⟨_,_,_,B.c1 (sub.refl _),⟨by omega,by omega⟩,aa (λh1=>⟨?_,rfl⟩) λh1=>⟨_,_,_,B.c0 (sub.refl _),aa (λh2=>⟨?_,rfl⟩) λh2=>⟨_,_,_,B.c4 (sub.refl _),⟨by omega,by omega⟩,aa (λh3=>⟨?_,rfl⟩) λh3=>⟨_,_,_,B.c4 (sub.refl _),⟨by omega,by omega⟩,aa (λh4=>⟨?_,rfl⟩) λh4=>⟨_,_,_,B.c2 (sub.refl _),?_,rfl⟩⟩⟩⟩⟩
  all_goals simp only [UO,Vl,Bool.true_eq_false,false_iff] at *
  all_goals omega
 rintro _ b w2 ⟨hb0,rfl⟩
 refine aa (λh1=>no (Gr.refl _) λhp=>?_) λh1=>?_
 ·rw [<- hP] at hp
  have:=hb0.2 hp.1
  rw [h1] at this; cases this
 obtain ⟨z1,z2,z3,z4,z5⟩:=hb0.1 h1
 refine ⟨_,_,_,B.c0 (sub.refl _),⟨by omega,by omega⟩,_,_,_,B.c1 (sub.refl _),⟨by omega,by omega⟩,⟨by omega,by omega⟩,aa (λh2=>no (Gr.refl _) λhp=>?_) λh2=>?_⟩
 ·rw [<- hP] at hp
  have:=Uz h2; have:=hp.2.1; omega
 have h2:=Uy h2
 refine ⟨_,_,_,_,_,_,_,_,_,_,_,_,_,B.row (sub.refl _),(Hx (x:=x) hg hb').mono ?_⟩
 rintro _ w3 ⟨⟨r1,rfl,e1⟩,g3⟩
 refine ⟨_,rfl,aa (λh3=>no g3 λhp=>?_) λh3=>?_⟩
 ·rw [<- hP] at hp
  have:=e1.2 hp.2.2.1; rw [this] at h3; cases h3
 have h3:r1 = true:=by simpa using h3
 have e1:=e1.1 h3
 refine ⟨_,_,_,_,_,_,_,_,_,_,_,_,_,B.row g3,(Fs (x:=x) (hg.mono g3) hb').mono ?_⟩
 rintro _ w4 ⟨⟨r2,rfl,e2⟩,g4⟩
 have g4:Gr w2 w4:=g3.trans g4
 refine ⟨_,rfl,_,_,_,_,_,_,_,_,_,_,_,_,_,B.row g4,(KA (x:=x) (hg.mono g4) hb' added).mono ?_⟩
 rintro _ w5 ⟨⟨r3,rfl,e3⟩,g5⟩
 have g5:Gr w2 w5:=g4.trans g5
 have hpf:=Hz (x:=x) (hg.mono g5) hb' added
 rw [hT] at hpf
 refine ⟨_,rfl,_,_,_,_,_,_,_,_,_,_,_,_,_,B.row g5,_,_,_,B.c0 g5,⟨by omega,by omega⟩,hpf.mono ?_⟩
 rintro _ w6 ⟨⟨r4,rfl,e4⟩,g6⟩
 have g6:Gr w2 w6:=g5.trans g6
 refine ⟨_,rfl,_,_,_,_,_,_,_,_,_,_,_,_,_,B.row g6,(Pq (x:=x) (hg.mono g6) hb' added).mono ?_⟩
 rintro _ w7 ⟨a,c,rfl,h7⟩
 have g7:Gr w2 w7:=g6.trans h7.aR
 refine ⟨_,_,_,rfl,λw8 hd=>⟨λw'=>Gr w2 w',g7.trans (Gr.drawn hd),?_⟩⟩
 have g8:Gr w2 w8:=g7.trans (Gr.drawn hd)
 refine aa (λi1=>aa (λi2=>aa (λi3=>⟨_,_,_,λw' s=>B.c1 s,⟨by omega,by omega⟩,aa (λi4=>⟨_,λw' s=>B.c3 s,_,_,_,λw' s=>B.c0 s,⟨by omega,by omega⟩,aa (λi5=>⟨_,λw' s=>B.c3 s,_,_,_,_,_,_,_,_,_,_,_,_,_,λw' s=>B.row s,(wR (x:=x) (hg.mono g8) hb').mono ?_⟩) λi5=>no g8 λhp=>?_⟩) λi4=>no g8 λhp=>?_⟩) λi3=>no g8 λhp=>?_) λi2=>no g8 λhp=>?_) λi1=>no g8 λhp=>?_
 ·rintro _ w9 ⟨rfl,g9⟩
  have g9:Gr w2 w9:=g8.trans g9
  refine ⟨_,rfl,g9,⟨_,rfl,?_⟩,gw.trans g9⟩
  rw [<- hP,hT,hN,UO,<- hst]
  have i4:=eq_of_beq i4
  have i5:=Uz i5
  exact ⟨λh=>⟨⟨z1,z2,z3,z4,z5⟩,by omega,e1,e2.1 i1,e3.1 i2,e4.1 i3,i4,i5,h⟩,λh=>h.2.2.2.2.2.2.2.2⟩
 ·rw [<- hP,<- hst] at hp
  have:=Uy i5; have:=hp.2.2.2.2.2.2.2.1; omega
 ·rw [<- hP] at hp
  have:=hp.2.2.2.2.2.2.1
  simp only [Wi,ne_eq] at i4
  omega
 ·rw [<- hP] at hp
  rw [e4.2 hp.2.2.2.2.2.1] at i3; cases i3
 ·rw [<- hP] at hp
  rw [e3.2 hp.2.2.2.2.1] at i2; cases i2
 ·rw [<- hP] at hp
  rw [e2.2 hp.2.2.2.1] at i1; cases i1
end
end Go.Proofs.YtndaepmjkbmjmaaGreatDoor
namespace Go.V
def l8 (g:ae):Prop:=Mv g\/aq g
theorem RB (ad:Addr) (n:Nat):ad.add (cR 0 n) = ad:=by simp [aF,Addr.add]
end Go.V
namespace Go.Proofs.YtndaepmjkbmjmaaGreatDoor
section
variable {w:Ws} {L:List au} {g:ae} {x:GA} {s:ByteArray}
theorem z_ (hg:gR (hp w) g x) (hb:iK g):ay Tryz.prog oR [.agg ⟨x.cells⟩] w λv w'=>(∃ r:Bool,v = .bool r/\(r = true↔aq g))/\Gr w w':=by
  refine mT ?_
  refine cQ hg λk1 w1 gw hg B=>?_
  have tl:=hg.t.1
  have nl:=hg.n.1
  have pl:=hg.p.1
  have hT:g.T = x.tl:=tl
  have hst:=hg.s
  rw [HA]
  generalize hP:(_/\_:Prop) = P
  have no:∀ {w'},Gr w1 w'->¬ P->(∃ r:Bool,Value.bool false = .bool r/\(r = true↔P))/\Gr w w':=λ{w'} gg hn=>⟨⟨false,rfl,⟨λh=>(by cases h),λh=>absurd h hn⟩⟩,gw.trans gg⟩
  refine ⟨λb w'=>(b = false↔(2<=g.nons.length/\g.nons[0]? = some .empty/\2<=g.prods.length))/\w' = w1,?_,?_⟩
  · refine ⟨_,_,_,B.c1 (sub.refl _),aa (λh1=>⟨?_,rfl⟩) λh1=>?_⟩
    · have:=Uz h1; simp; omega
    have h1:=Uy h1
    obtain ⟨s,ad,hs1,hsa,hs2⟩:=hg.n.dM (i:=0) (by omega)
    refine ⟨_,_,_,B.c1 (sub.refl _),gk hsa (by omega) ⟨s,hs2 _ (sub.refl _),?_⟩⟩
    rw [ve]
    change br (!decide (s = .empty)) _ _
    refine aa (λh2=>⟨?_,rfl⟩) λh2=>⟨_,_,_,B.c4 (sub.refl _),?_,rfl⟩
    · have h2:s≠.empty:=by simpa using h2
      rw [hs1]; simp [h2]
    · have h2:s = .empty:=by simpa using h2
      rw [hs1,Vl]; simp [h2]; omega
  rintro _ b w2 ⟨hb0,rfl⟩
  refine aa (λh1=>no (Gr.refl _) λhp=>?_) λh1=>?_
  · rw [<- hP] at hp
    have:=hb0.2 ⟨hp.1.1,hp.1.2.1,hp.1.2.2.1⟩
    rw [h1] at this; cases this
  obtain ⟨z1,z2,z3⟩:=hb0.1 h1
  obtain ⟨p,ad,vs,hp1,hpa,hp2,a,l,c,rfl,hlc,hp3⟩:=hg.p.get (i:=0) (by omega)
  rw [RB] at hp2
  refine ⟨_,_,_,B.c4 (sub.refl _),gk hpa (by omega) ⟨_,_,_,_,_,hp2.at (sub.refl _) rfl,af (St.all w2) λk w3 h3=>aI h3 rfl (by intro v hv; simp at hv; rcases hv with rfl | rfl | rfl <;> rfl) λw4 h4=>?_⟩⟩
  intro w5 hd
  have h5:=h4.drawn hd
  have g5:Gr w2 w5:=h5.aR
  have rb:=h5.row
  have pr:=hp3.mono g5
  have hP' : P↔((p.left = (x.tl:Int)/\l = 1/\p.right = [g.start]/\p.level = 0)/\Cq g 1):=by
    rw [<- hP]
    constructor
    · rintro ⟨⟨_,_,_,q,hq,q1,q2,q3⟩,hf⟩
      rw [hp1] at hq; cases hq
      exact ⟨⟨by omega,by rw [<- hp3.1,q2]; rfl,q2,q3⟩,hf⟩
    · rintro ⟨⟨q1,_,q2,q3⟩,hf⟩
      exact ⟨⟨z1,z2,z3,p,hp1,by omega,q2,q3⟩,hf⟩
  refine ⟨λw'=>sub (hp w5) (hp w'),sub.refl _,_,λw' s=>rb.cell0 s,_,_,_,λw' s=>B.c0 (sub.trans g5 s),aa (λh6=>no g5 λhp=>?_) λh6=>⟨_,_,_,λw' s=>rb.cell s (j:=1) rfl,aa (λh7=>no g5 λhp=>?_) λh7=>?_⟩⟩
  · have:=(hP'.1 hp).1.1
    simp only [bne_iff_ne,ne_eq] at h6; omega
  · have:=(hP'.1 hp).1.2.1
    simp only [bne_iff_ne,ne_eq] at h7; omega
  have h6:p.left = (x.tl:Int):=by simpa using h6
  have h7 : l = 1 := by have h7 : (l : Int) = 1 := by simpa using h7
                        omega
  obtain ⟨y,ad2,hy1,hya,hy2⟩:=pr.dM (i:=0) (by omega)
  have hr:p.right = [y]:=by
    have hl:=pr.1
    match hq:p.right,hl,hy1 with
    | [z],_,hy1=>simp at hy1; rw [hy1]
    | [],hl,_=>simp at hl; omega
    | _ :: _ :: _,hl,_=>simp at hl; omega
  refine ⟨_,_,_,λw' s=>rb.cell s (j:=1) rfl,gk hya (by omega) ⟨y,λw' s=>hy2 _ s,_,λw' s=>B.c3 (sub.trans g5 s),aa (λh8=>no g5 λhp=>?_) λh8=>⟨_,λw' s=>rb.cell s (j:=2) rfl,aa (λh9=>no g5 λhp=>?_) λh9=>?_⟩⟩⟩
  · have:=(hP'.1 hp).1.2.2.1
    rw [hr] at this
    simp only [bne_iff_ne,ne_eq] at h8
    simp at this; omega
  · have:=(hP'.1 hp).1.2.2.2
    simp only [bne_iff_ne,ne_eq] at h9; omega
  have h8:y = x.s:=by simpa using h8
  have h9:p.level = 0:=by simpa using h9
  refine ⟨_,_,_,_,_,_,_,_,_,_,_,_,_,B.row g5,(RA (x:=x) (hg.mono g5) hb 1 (by omega)).mono ?_⟩
  rintro _ w6 ⟨⟨r,rfl,e⟩,g6⟩
  refine ⟨_,rfl,⟨r,rfl,?_⟩,gw.trans (g5.trans g6)⟩
  rw [hP',e]
  exact ⟨λh=>⟨⟨h6,h7,by rw [hr,h8,hst],h9⟩,h⟩,λh=>h.2⟩
theorem vj (hg:gR (hp w) g x) (hb:iK g):ay Tryz.prog Bu [.agg ⟨x.cells⟩] w λv w'=>(∃ r:Bool,v = .bool r/\(r = true↔aq g))/\Gr w w':=by
 refine yn ?_
 refine cQ hg λk1 w1 gw hg B=>?_
 have tl:=hg.t.1
 have nl:=hg.n.1
 have pl:=hg.p.1
 have hT:g.T = x.tl:=tl
 have hst:=hg.s
 have no:∀ {w'},Gr w1 w'->¬ aq g->(∃ r:Bool,Value.bool false = .bool r/\(r = true↔aq g))/\Gr w w':=λ{w'} gg hn=>⟨⟨false,rfl,⟨λh=>(by cases h),λh=>absurd h hn⟩⟩,gw.trans gg⟩
 refine ⟨λb w'=>(b = false↔(g.nons[0]? = some .empty/\qm g 1))/\Gr w1 w',?_,?_⟩
 ·refine ⟨_,_,_,B.c1 (sub.refl _),aa (λh1=>⟨?_,Gr.refl _⟩) λh1=>?_⟩
  ·have h1:x.nl = 0:=by have:=eq_of_beq h1; omega
   have:g.nons[0]? = none:=UW (by omega)
   rw [this]; simp
  have h1:x.nl≠0:=λh=>by rw [h] at h1; simp at h1
  obtain ⟨s,ad,hs1,hsa,hs2⟩:=hg.n.dM (i:=0) (by omega)
  refine ⟨_,_,_,B.c1 (sub.refl _),gk hsa (by omega) ⟨s,hs2 _ (sub.refl _),?_⟩⟩
  rw [ve]
  change br (!decide (s = .empty)) _ _
  refine aa (λh2=>⟨?_,Gr.refl _⟩) λh2=>⟨_,_,_,_,_,_,_,_,_,_,_,_,_,B.row (sub.refl _),(Cp (x:=x) hg hb 1 (by omega)).mono ?_⟩
  ·have h2:s≠.empty:=by simpa using h2
   rw [hs1]; simp [h2]
  ·have h2:s = .empty:=by simpa using h2
   rintro _ w2 ⟨⟨r,rfl,e⟩,g2⟩
   refine ⟨_,rfl,?_,g2⟩
   rw [hs1,<- e]; simp [h2]
 rintro _ b w2 ⟨hb0,g2⟩
 refine aa (λh1=>no g2 λhp=>?_) λh1=>?_
 ·have:=hb0.2 ⟨hp.1,hp.2.1⟩
  rw [h1] at this; cases this
 obtain ⟨z1,z2⟩:=hb0.1 h1
 refine ⟨_,_,_,_,_,_,_,_,_,_,_,_,_,B.row g2,(tq (x:=x) (hg.mono g2) hb 1 (by omega)).mono ?_⟩
 rintro _ w3 ⟨a3,l3,c3,xs,r2,rfl,hr2,hxs,h3⟩
 have g3:Gr w1 w3:=g2.trans h3.aR
 refine ⟨_,_,_,_,rfl,_,_,_,B.c4 g3,λw5 hd=>?_⟩
 have g5:Gr w1 w5:=g3.trans (Gr.drawn hd)
 refine ⟨λw'=>sub (hp w5) (hp w'),sub.refl _,aa (λh4=>?_) λh4=>no g5 λhp=>?_⟩
 rotate_left
 ·rw [hr2.2 hp.2.2.1] at h4; cases h4
 have hpr:=hr2.1 h4
 have hpl:0 < x.pl:=by have:=hpr.1; omega
 obtain ⟨p,ad,vs,hp1,hpa,hp2,a,l,c,rfl,hlc,hp3⟩:=hg.p.get (i:=0) hpl
 rw [RB] at hp2
 have pr:=hp3.mono g5
 have rb:=hp2.mono g5
 have hP' : aq g↔(p.left = (x.tl:Int)/\l = 1/\p.right = [g.start]/\p.level = 0):=by
  unfold aq
  constructor
  ·rintro ⟨_,_,_,q,hq,q1,q2,q3⟩
   rw [hp1] at hq; cases hq
   exact ⟨by omega,by rw [<- hp3.1,q2]; rfl,q2,q3⟩
  ·rintro ⟨q1,_,q2,q3⟩
   exact ⟨z1,z2,hpr,p,hp1,by omega,q2,q3⟩
 refine gk hpa hpl ⟨_,λw' s=>rb.cell0 s,_,_,_,λw' s=>B.c0 (sub.trans g5 s),aa (λh6=>?_) λh6=>no g5 λhp=>?_⟩
 rotate_left
 ·have:=(hP'.1 hp).1
  simp only [Wi,ne_eq] at h6; omega
 have h6:=eq_of_beq h6
 refine gk hpa hpl ⟨_,_,_,λw' s=>rb.cell s (j:=1) rfl,aa (λh7=>?_) λh7=>no g5 λhp=>?_⟩
 rotate_left
 ·have:=(hP'.1 hp).2.1
  simp only [Wi,ne_eq] at h7; omega
 have h7:l = 1:=by have:=eq_of_beq h7; omega
 obtain ⟨y,ad2,hy1,hya,hy2⟩:=pr.dM (i:=0) (by omega)
 have hr:p.right = [y]:=by
  have hl:=pr.1
  match hq:p.right,hl,hy1 with
  | [z],_,hy1=>simp at hy1; rw [hy1]
  | [],hl,_=>simp at hl; omega
  | _ :: _ :: _,hl,_=>simp at hl; omega
 refine gk hpa hpl ⟨_,_,_,λw' s=>rb.cell s (j:=1) rfl,gk hya (by omega) ⟨y,λw' s=>hy2 _ s,_,λw' s=>B.c3 (sub.trans g5 s),aa (λh8=>?_) λh8=>no g5 λhp=>?_⟩⟩
 rotate_left
 ·have:=(hP'.1 hp).2.2.1
  rw [hr] at this
  simp only [Wi,ne_eq] at h8
  simp at this; omega
 have h8:=eq_of_beq h8
 refine gk hpa hpl ⟨_,λw' s=>rb.cell s (j:=2) rfl,⟨_,rfl,?_⟩,gw.trans g5⟩
 rw [hP',beq_iff_eq]
 exact ⟨λh=>⟨h6,h7,by rw [hr,h8,hst],h⟩,λh=>h.2.2.2⟩
end
end Go.Proofs.YtndaepmjkbmjmaaGreatDoor
