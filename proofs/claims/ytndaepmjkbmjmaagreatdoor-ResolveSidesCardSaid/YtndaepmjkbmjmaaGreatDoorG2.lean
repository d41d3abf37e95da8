/- Texts of this claim, one behind the other. -/
import Derived.Test.YtndaepmjkbmjmaaGreatDoorG1
import Derived.Lib.TrailingZeros
import Derived.Laws.IdiomCopy
import Derived.MapKept
import Derived.Laws.RangeAny
import Derived.Laws.Strings
import Derived.Lib.OthersKept
import Derived.Laws.StructEq
set_option linter.unusedVariables false
set_option linter.unusedSectionVars false
set_option maxRecDepth 100000
set_option maxHeartbeats 16000000
namespace Go.V
end Go.V
namespace Go.Proofs.YtndaepmjkbmjmaaGreatDoor
end Go.Proofs.YtndaepmjkbmjmaaGreatDoor
open Go.V Go.Proofs.YtndaepmjkbmjmaaGreatDoor
namespace Go.Proofs.YtndaepmjkbmjmaaGreatDoor
abbrev sy:FuncId:=14
def oW:bh:={ rngs:=[],loops:=[(6,[(4,(.one (.int .i64)))])],joins:=[],blocks:=[] }
theorem oX {a:WA} {b c:Nat} {d:WA} {e f:Nat} {g:WA} {i j:Nat} {k:Int} {l:WA} {m n:Nat} {w:WB} {R:Value->WP} (h:new w (oC [vS a b c,vS d e f,vS g i j,iI k,vS l m n] 27) λk1 w1=>new w1 (oC [vS none 0 0,vS none 0 0,vS none 0 0,iI 0,vS none 0 0] 27) λk2 w2=>∃ n1,cL w2 (Addr.add (aM k1) 3) (iI n1)/\new w2 (oC [vS none 0 0,vS none 0 0,vS none 0 0,iI 0,vS none 0 0] 27) λk3 w3=>cH w3 (aM k3) [vS none 0 0,vS none 0 0,vS none 0 0,iI n1,vS none 0 0] λw4=>∃ o1 k4 k5,cL w4 (aM k3) (vS o1 k4 k5)/\∃ o2 k6 k7,cL w4 (aM k1) (vS o2 k6 k7)/\rS (jW 22 (Array.mk [vS o1 k4 k5,vS o2 k6 k7])) w4 λv1 w5=>∃ o3 k8 k9,v1 = vS o3 k8 k9/\st1 w5 (aM k3) (vS o3 k8 k9) λw6=>∃ o4 k10 k11,cL w6 (Addr.add (aM k3) 1) (vS o4 k10 k11)/\∃ o5 k12 k13,cL w6 (Addr.add (aM k1) 1) (vS o5 k12 k13)/\rS (jW 23 (Array.mk [vS o4 k10 k11,vS o5 k12 k13])) w6 λv2 w7=>∃ o6 k14 k15,v2 = vS o6 k14 k15/\st1 w7 (Addr.add (aM k3) 1) (vS o6 k14 k15) λw8=>∃ o7 k16 k17,cL w8 (Addr.add (aM k3) 2) (vS o7 k16 k17)/\∃ o8 k18 k19,cL w8 (Addr.add (aM k1) 2) (vS o8 k18 k19)/\rS (jW 24 (Array.mk [vS o7 k16 k17,vS o8 k18 k19])) w8 λv3 w9=>∃ o9 k20 k21,v3 = vS o9 k20 k21/\st1 w9 (Addr.add (aM k3) 2) (vS o9 k20 k21) λw10=>∃ (x1:lP [(4,aD)]),∃ (x2:lN [(4,aD)]),x1 0 w10/\∀ (I1:Nat->Value) (n2:Int) (w11:WB),x1 n2 w11->∃ o10 k22 k23,cL w11 (Addr.add (aM k1) 4) (vS o10 k22 k23)/\br (decide (n2 < (k22:Int))) (∀ w12,drawn w11 w12->∃ (I2:WP),I2 w12/\∃ o11 k24 k25,(∀ w13,I2 w13->cL w13 (Addr.add (aM k1) 4) (vS o11 k24 k25))/\idx o11 k24 n2 3 λa1=>∃ n3,(∀ w14,I2 w14->cL w14 a1 (iI n3))/\∃ o12 k26 k27,(∀ w15,I2 w15->cL w15 (Addr.add (aM k1) 4) (vS o12 k26 k27))/\idx o12 k26 n2 3 λa2=>∃ n4,(∀ w16,I2 w16->cL w16 (Addr.add a2 2) (iI n4))/\new w12 (oC [iI 0,vS none 0 0,iI 0] 81) λk28 w17=>I2 w17/\cH w17 (aM k28) [iI n3,vS none 0 0,iI n4] λw18=>∀ w19,drawn w18 w19->∃ (I3:WP),I3 w19/\∃ o13 k29 k30,(∀ w20,I3 w20->cL w20 (Addr.add (aM k28) 1) (vS o13 k29 k30))/\∃ o14 k31 k32,(∀ w21,I3 w21->cL w21 (Addr.add (aM k1) 4) (vS o14 k31 k32))/\idx o14 k31 n2 3 λa3=>∃ o15 k33 k34,(∀ w22,I3 w22->cL w22 (Addr.add a3 1) (vS o15 k33 k34))/\rS (jW 24 (Array.mk [vS o13 k29 k30,vS o15 k33 k34])) w19 λv4 w23=>∃ o16 k35 k36,v4 = vS o16 k35 k36/\I3 w23/\st1 w23 (Addr.add (aM k28) 1) (vS o16 k35 k36) λw24=>∃ o17 k37 k38,cL w24 (Addr.add (aM k3) 4) (vS o17 k37 k38)/\∃ n5 o18 k39 k40 n6,rA w24 (aM k28) 3 [iI n5,vS o18 k39 k40,iI n6]/\new w24 (oC [iI n5,vS o18 k39 k40,iI n6] 81) λk41 w25=>rS (jW 25 (Array.mk [vS o17 k37 k38,vS (some (aM k41)) 1 1])) w25 λv5 w26=>∃ o19 k42 k43,v5 = vS o19 k42 k43/\st1 w26 (Addr.add (aM k3) 4) (vS o19 k42 k43) λw27=>aw (n2 + 1)/\x1 (n2 + 1) w27/\x2 (n2 + 1) w27 < x2 n2 w11) (∃ o20 k44 k45 o21 k46 k47 o22 k48 k49 n7 o23 k50 k51,rA w11 (aM k3) 5 [vS o20 k44 k45,vS o21 k46 k47,vS o22 k48 k49,iI n7,vS o23 k50 k51]/\cH w11 (aM k2) [vS o20 k44 k45,vS o21 k46 k47,vS o22 k48 k49,iI n7,vS o23 k50 k51] λw28=>∃ o24 k52 k53 o25 k54 k55 o26 k56 k57 n8 o27 k58 k59,rA w28 (aM k2) 5 [vS o24 k52 k53,vS o25 k54 k55,vS o26 k56 k57,iI n8,vS o27 k58 k59]/\R (vG [vS o24 k52 k53,vS o25 k54 k55,vS o26 k56 k57,iI n8,vS o27 k58 k59]) w28)):ay Tryz.prog 14 [(.agg #[(.slice a b c),(.slice d e f),(.slice g i j),(.int .i64 k),(.slice l m n)])] w R:=rv Tryz.func14 oW (by kernel_rfl) h
abbrev oY:FuncId:=39
def mW:bh:={ rngs:=[],loops:=[],joins:=[(2,[(20,(.one .bool))])],blocks:=[] }
theorem mX {a:WA} {b c:Nat} {d:WA} {e f:Nat} {g:WA} {i j:Nat} {k:Int} {l:WA} {m n:Nat} {w:WB} {R:Value->WP} (h:new w (oC [vS a b c,vS d e f,vS g i j,iI k,vS l m n] 27) λk1 w1=>∃ (x1:lP [(20,oV)]),(∃ o1 k2 k3,cL w1 (Addr.add (aM k1) 1) (vS o1 k2 k3)/\br (decide ((k2:Int) < 2)) (x1 true w1) (∃ o2 k4 k5,cL w1 (Addr.add (aM k1) 1) (vS o2 k4 k5)/\idx o2 k4 0 1 λa1=>∃ s1,cL w1 a1 (Value.string s1)/\br (!ByteArray.toList s1 == ByteArray.toList (ByteArray.mk (Array.mk []))) (x1 true w1) (∃ o3 k6 k7,cL w1 (Addr.add (aM k1) 4) (vS o3 k6 k7)/\x1 (decide ((k6:Int) < 2)) w1)))/\∀ (I1:Nat->Value) (b1:Bool) (w2:WB),x1 b1 w2->br b1 (R (vB false) w2) (∃ o4 k8 k9,cL w2 (Addr.add (aM k1) 4) (vS o4 k8 k9)/\idx o4 k8 0 3 λa2=>∃ n1 o5 k10 k11 n2,rA w2 a2 3 [iI n1,vS o5 k10 k11,iI n2]/\new w2 (oC [iI 0,vS none 0 0,iI 0] 81) λk12 w3=>cH w3 (aM k12) [iI n1,vS o5 k10 k11,iI n2] λw4=>∀ w5,drawn w4 w5->∃ (I2:WP),I2 w5/\∃ n3,(∀ w6,I2 w6->cL w6 (aM k12) (iI n3))/\∃ o6 k13 k14,(∀ w7,I2 w7->cL w7 (aM k1) (vS o6 k13 k14))/\br (n3 != (k13:Int)) (R (vB false) w5) (∃ o7 k15 k16,(∀ w8,I2 w8->cL w8 (Addr.add (aM k12) 1) (vS o7 k15 k16))/\br ((k15:Int) != 1) (R (vB false) w5) (∃ o8 k17 k18,(∀ w9,I2 w9->cL w9 (Addr.add (aM k12) 1) (vS o8 k17 k18))/\idx o8 k17 0 1 λa3=>∃ n4,(∀ w10,I2 w10->cL w10 a3 (iI n4))/\∃ n5,(∀ w11,I2 w11->cL w11 (Addr.add (aM k1) 3) (iI n5))/\br (n4 != n5) (R (vB false) w5) (∃ n6,(∀ w12,I2 w12->cL w12 (Addr.add (aM k12) 2) (iI n6))/\br (n6 != 0) (R (vB false) w5) (∃ o9 k19 k20 o10 k21 k22 o11 k23 k24 n7 o12 k25 k26,rA w5 (aM k1) 5 [vS o9 k19 k20,vS o10 k21 k22,vS o11 k23 k24,iI n7,vS o12 k25 k26]/\rE 75 [vG [vS o9 k19 k20,vS o10 k21 k22,vS o11 k23 k24,iI n7,vS o12 k25 k26],iI 1] w5 λv1 w13=>∃ b2,v1 = vB b2/\R (vB b2) w13)))))):ay Tryz.prog 39 [(.agg #[(.slice a b c),(.slice d e f),(.slice g i j),(.int .i64 k),(.slice l m n)])] w R:=rv Tryz.func39 mW (by kernel_rfl) h
abbrev BD:FuncId:=49
def yx:bh:={ rngs:=[],loops:=[],joins:=[(2,[(21,(.one .bool))])],blocks:=[] }
theorem yy {a:WA} {b c:Nat} {d:WA} {e f:Nat} {g:WA} {i j:Nat} {k:Int} {l:WA} {m n:Nat} {w:WB} {R:Value->WP} (h:new w (oC [vS a b c,vS d e f,vS g i j,iI k,vS l m n] 27) λk1 w1=>∃ (x1:lP [(21,oV)]),(∃ o1 k2 k3,cL w1 (Addr.add (aM k1) 1) (vS o1 k2 k3)/\br ((k2:Int) == 0) (x1 true w1) (∃ o2 k4 k5,cL w1 (Addr.add (aM k1) 1) (vS o2 k4 k5)/\idx o2 k4 0 1 λa1=>∃ s1,cL w1 a1 (Value.string s1)/\br (!ByteArray.toList s1 == ByteArray.toList (ByteArray.mk (Array.mk []))) (x1 true w1) (∃ o3 k6 k7 o4 k8 k9 o5 k10 k11 n1 o6 k12 k13,rA w1 (aM k1) 5 [vS o3 k6 k7,vS o4 k8 k9,vS o5 k10 k11,iI n1,vS o6 k12 k13]/\rE 89 [vG [vS o3 k6 k7,vS o4 k8 k9,vS o5 k10 k11,iI n1,vS o6 k12 k13],iI 1] w1 λv1 w2=>∃ b1,v1 = vB b1/\x1 (!b1) w2)))/\∀ (I1:Nat->Value) (b2:Bool) (w3:WB),x1 b2 w3->br b2 (R (vB false) w3) (∃ o7 k14 k15 o8 k16 k17 o9 k18 k19 n2 o10 k20 k21,rA w3 (aM k1) 5 [vS o7 k14 k15,vS o8 k16 k17,vS o9 k18 k19,iI n2,vS o10 k20 k21]/\rE 90 [vG [vS o7 k14 k15,vS o8 k16 k17,vS o9 k18 k19,iI n2,vS o10 k20 k21],iI 1] w3 λv2 w4=>∃ o11 k22 k23 b3,v2 = vU [vS o11 k22 k23,vB b3]/\∃ o12 k24 k25,cL w4 (Addr.add (aM k1) 4) (vS o12 k24 k25)/\∀ w5,drawn w4 w5->∃ (I2:WP),I2 w5/\br b3 (idx o12 k24 0 3 λa2=>∃ n3,(∀ w6,I2 w6->cL w6 a2 (iI n3))/\∃ o13 k26 k27,(∀ w7,I2 w7->cL w7 (aM k1) (vS o13 k26 k27))/\br (n3 == (k26:Int)) (idx o12 k24 0 3 λa3=>∃ o14 k28 k29,(∀ w8,I2 w8->cL w8 (Addr.add a3 1) (vS o14 k28 k29))/\br ((k28:Int) == 1) (idx o12 k24 0 3 λa4=>∃ o15 k30 k31,(∀ w9,I2 w9->cL w9 (Addr.add a4 1) (vS o15 k30 k31))/\idx o15 k30 0 1 λa5=>∃ n4,(∀ w10,I2 w10->cL w10 a5 (iI n4))/\∃ n5,(∀ w11,I2 w11->cL w11 (Addr.add (aM k1) 3) (iI n5))/\br (n4 == n5) (idx o12 k24 0 3 λa6=>∃ n6,(∀ w12,I2 w12->cL w12 (Addr.add a6 2) (iI n6))/\R (vB (n6 == 0)) w5) (R (vB false) w5)) (R (vB false) w5)) (R (vB false) w5)) (R (vB false) w5))):ay Tryz.prog 49 [(.agg #[(.slice a b c),(.slice d e f),(.slice g i j),(.int .i64 k),(.slice l m n)])] w R:=rv Tryz.func49 yx (by kernel_rfl) h
abbrev Co:FuncId:=59
def Fi:bh:={ rngs:=[],loops:=[],joins:=[],blocks:=[] }
def zX (a:Int) (b:WA) (c d:Nat) (w:WB) (R:Value->WP):Prop :=  aw ((if 1024 < if a < 0 then 0 else a then 1024 else if a < 0 then 0 else a) + 63)/\nz 64/\aw (Int.tdiv ((if 1024 < if a < 0 then 0 else a then 1024 else if a < 0 then 0 else a) + 63) 64)/\Dk (Int.tdiv ((if 1024 < if a < 0 then 0 else a then 1024 else if a < 0 then 0 else a) + 63) 64) (Int.tdiv ((if 1024 < if a < 0 then 0 else a then 1024 else if a < 0 then 0 else a) + 63) 64) 8/\new w (Obj.cells (Array.mk (lG (Int.toNat (Int.tdiv ((if 1024 < if a < 0 then 0 else a then 1024 else if a < 0 then 0 else a) + 63) 64)) [Value.int IntKind.u64 0])) 241) λk1 w1=>new w1 (oC [vS (some (aM k1)) (Int.toNat (Int.tdiv ((if 1024 < if a < 0 then 0 else a then 1024 else if a < 0 then 0 else a) + 63) 64)) (Int.toNat (Int.tdiv ((if 1024 < if a < 0 then 0 else a then 1024 else if a < 0 then 0 else a) + 63) 64)),iI (if 1024 < if a < 0 then 0 else a then 1024 else if a < 0 then 0 else a)] 192) λk2 w2=>sr Proofs.Tryz.prog Ev 60 [vP (some (aM k2)),vS b c d] w2 λv1 w3=>∃ n1,v1 = iI n1/\R (vP (some (aM k2))) w3
theorem Fj (a:Int) (b:WA) (c d:Nat) (w:WB) (R:Value->WP) (h:zX a b c d w R):ay Tryz.prog 59 [(.int .i64 a),(.slice b c d)] w R:=rv Tryz.func59 Fi (by kernel_rfl) h

abbrev qe:FuncId:=60
def wN:bh:={ rngs:=[],loops:=[(3,[(5,(.one (.int .i64))),(10,(.one (.int .i64)))])],joins:=[],blocks:=[] }
theorem wO {a b:WA} {c d:Nat} {w:WB} {R:Value->WP} (h:∃ (x1:lP [(5,aD),(10,aD)]),∃ (x2:lN [(5,aD),(10,aD)]),x1 0 0 w/\∀ (I1:Nat->Value) (n1 n2:Int) (w1:WB),x1 n1 n2 w1->br (decide (n2 < (c:Int))) (idx b c n2 1 λa1=>∃ n3,World.cell? w1 a1 = some (iI n3)/\br (decide (0<=n3)) (rE 109 [vP a] w1 λv1 w2=>∃ n4,v1 = iI n4/\br (decide (n3 < n4)) (nn a λa2=>∃ o1 k1 k2,World.cell? w2 a2 = some (vS o1 k1 k2)/\rE 110 [vS o1 k1 k2,iI n3] w2 λv2 w3=>∃ b1,v2 = vB b1/\br (!b1) (nn a λa3=>∃ o2 k3 k4,World.cell? w3 a3 = some (vS o2 k3 k4)/\rE 111 [vS o2 k3 k4,iI n3] w3 λv3 w4=>v3 = vU []/\aw (n1 + 1)/\aw (n2 + 1)/\x1 (n1 + 1) (n2 + 1) w4/\x2 (n1 + 1) (n2 + 1) w4 < x2 n1 n2 w1) (aw (n2 + 1)/\x1 n1 (n2 + 1) w3/\x2 n1 (n2 + 1) w3 < x2 n1 n2 w1)) (aw (n2 + 1)/\x1 n1 (n2 + 1) w2/\x2 n1 (n2 + 1) w2 < x2 n1 n2 w1)) (aw (n2 + 1)/\x1 n1 (n2 + 1) w1/\x2 n1 (n2 + 1) w1 < x2 n1 n2 w1)) (R (iI n1) w1)):ay Tryz.prog 60 [(.pointer a),(.slice b c d)] w R:=rv Tryz.func60 wN (by kernel_rfl) h
abbrev tL:FuncId:=61
def qf:bh:={ rngs:=[],loops:=[],joins:=[],blocks:=[] }
theorem qg {a:WA} {w:WB} {R:Value->WP} (h:rE 113 [vP a] w λv1 w1=>∃ g1 x1,v1 = Value.func (Fn.func g1) (Array.mk []) (Array.mk x1)/\rE 112 [Value.func (Fn.func g1) (Array.mk []) (Array.mk x1)] w1 λv2 w2=>∃ o1 k1 k2,v2 = vS o1 k1 k2/\R (vS o1 k1 k2) w2):ay Tryz.prog 61 [(.pointer a)] w R:=rv Tryz.func61 qf (by kernel_rfl) h
abbrev nZ:FuncId:=72
def mr:bh:={ rngs:=[],loops:=[],joins:=[],blocks:=[] }
theorem mu {a:WA} {b c:Nat} {d:WA} {e f:Nat} {g:WA} {i j:Nat} {k:Int} {l:WA} {m n:Nat} {w:WB} {R:Value->WP} (h:new w (oC [vS a b c,vS d e f,vS g i j,iI k,vS l m n] 27) λk1 w1=>∃ o1 k2 k3,cL w1 (aM k1) (vS o1 k2 k3)/\∃ o2 k4 k5,cL w1 (Addr.add (aM k1) 1) (vS o2 k4 k5)/\aw ((k2:Int) + (k4:Int))/\R (iI ((k2:Int) + (k4:Int))) w1):ay Tryz.prog 72 [(.agg #[(.slice a b c),(.slice d e f),(.slice g i j),(.int .i64 k),(.slice l m n)])] w R:=rv Tryz.func72 mr (by kernel_rfl) h
abbrev sA:FuncId:=75
def oZ:bh:={ rngs:=[],loops:=[],joins:=[(2,[(43,(.one .bool))])],blocks:=[] }
theorem o_ {a:WA} {b c:Nat} {d:WA} {e f:Nat} {g:WA} {i j:Nat} {k:Int} {l:WA} {m n:Nat} {o:Int} {w:WB} {R:Value->WP} (h:new w (oC [vS a b c,vS d e f,vS g i j,iI k,vS l m n] 27) λk1 w1=>∃ (x1:lP [(43,oV)]),(∃ o1 k2 k3,cL w1 (Addr.add (aM k1) 1) (vS o1 k2 k3)/\aw (64 + o)/\br (decide (64 + o < (k2:Int))) (x1 true w1) (∃ o2 k4 k5,cL w1 (aM k1) (vS o2 k4 k5)/\br (decide (65 < (k4:Int))) (x1 true w1) (∃ o3 k6 k7,cL w1 (Addr.add (aM k1) 4) (vS o3 k6 k7)/\aw (96 + o)/\br (decide (96 + o < (k6:Int))) (x1 true w1) (∃ o4 k8 k9,cL w1 (Addr.add (aM k1) 4) (vS o4 k8 k9)/\aw (1 + o)/\br (decide ((k8:Int) < 1 + o)) (x1 true w1) (∃ o5 k10 k11,cL w1 (Addr.add (aM k1) 2) (vS o5 k10 k11)/\x1 (decide (64 < (k10:Int))) w1)))))/\∀ (I1:Nat->Value) (b1:Bool) (w2:WB),x1 b1 w2->br b1 (R (vB false) w2) (∃ o6 k12 k13,cL w2 (aM k1) (vS o6 k12 k13)/\aw ((k12:Int) - 1)/\∃ o7 k14 k15,cL w2 (Addr.add (aM k1) 1) (vS o7 k14 k15)/\aw ((k12:Int) - 1 + (k14:Int))/\aw ((k12:Int) - 1 + (k14:Int) - o)/\br (decide (64 < (k12:Int) - 1 + (k14:Int) - o)) (R (vB false) w2) (∃ o8 k16 k17 o9 k18 k19 o10 k20 k21 n1 o11 k22 k23,rA w2 (aM k1) 5 [vS o8 k16 k17,vS o9 k18 k19,vS o10 k20 k21,iI n1,vS o11 k22 k23]/\rE 124 [vG [vS o8 k16 k17,vS o9 k18 k19,vS o10 k20 k21,iI n1,vS o11 k22 k23]] w2 λv1 w3=>∃ b2,v1 = vB b2/\br (!b2) (R (vB false) w3) (∃ o12 k24 k25 o13 k26 k27 o14 k28 k29 n2 o15 k30 k31,rA w3 (aM k1) 5 [vS o12 k24 k25,vS o13 k26 k27,vS o14 k28 k29,iI n2,vS o15 k30 k31]/\rE 125 [vG [vS o12 k24 k25,vS o13 k26 k27,vS o14 k28 k29,iI n2,vS o15 k30 k31]] w3 λv2 w4=>∃ b3,v2 = vB b3/\∃ o16 k32 k33 o17 k34 k35 o18 k36 k37 n3 o19 k38 k39,rA w4 (aM k1) 5 [vS o16 k32 k33,vS o17 k34 k35,vS o18 k36 k37,iI n3,vS o19 k38 k39]/\rE 126 [vG [vS o16 k32 k33,vS o17 k34 k35,vS o18 k36 k37,iI n3,vS o19 k38 k39],iI o] w4 λv3 w5=>∃ b4,v3 = vB b4/\∃ o20 k40 k41 o21 k42 k43 o22 k44 k45 n4 o23 k46 k47,rA w5 (aM k1) 5 [vS o20 k40 k41,vS o21 k42 k43,vS o22 k44 k45,iI n4,vS o23 k46 k47]/\∃ o24 k48 k49,cL w5 (aM k1) (vS o24 k48 k49)/\aw ((k48:Int) + o)/\rE 127 [vG [vS o20 k40 k41,vS o21 k42 k43,vS o22 k44 k45,iI n4,vS o23 k46 k47],iI o,iI ((k48:Int) + o)] w5 λv4 w6=>∃ b5,v4 = vB b5/\∃ o25 k50 k51 o26 k52 k53 o27 k54 k55 n5 o28 k56 k57,rA w6 (aM k1) 5 [vS o25 k50 k51,vS o26 k52 k53,vS o27 k54 k55,iI n5,vS o28 k56 k57]/\rE 128 [vG [vS o25 k50 k51,vS o26 k52 k53,vS o27 k54 k55,iI n5,vS o28 k56 k57],iI o] w6 λv5 w7=>∃ o29 k58 k59,v5 = vS o29 k58 k59/\∀ w8,drawn w7 w8->∃ (I2:WP),I2 w8/\br b3 (br b4 (br b5 (∃ o30 k60 k61,(∀ w9,I2 w9->cL w9 (Addr.add (aM k1) 1) (vS o30 k60 k61))/\aw ((k60:Int) - o)/\br ((k58:Int) == (k60:Int) - o) (∃ n6,(∀ w10,I2 w10->cL w10 (Addr.add (aM k1) 3) (iI n6))/\∃ o31 k62 k63,(∀ w11,I2 w11->cL w11 (aM k1) (vS o31 k62 k63))/\aw ((k62:Int) + o)/\br (decide ((k62:Int) + o<=n6)) (∃ n7,(∀ w12,I2 w12->cL w12 (Addr.add (aM k1) 3) (iI n7))/\∃ o32 k64 k65 o33 k66 k67 o34 k68 k69 n8 o35 k70 k71,(∀ w13,I2 w13->rA w13 (aM k1) 5 [vS o32 k64 k65,vS o33 k66 k67,vS o34 k68 k69,iI n8,vS o35 k70 k71])/\rE 72 [vG [vS o32 k64 k65,vS o33 k66 k67,vS o34 k68 k69,iI n8,vS o35 k70 k71]] w8 λv6 w14=>∃ n9,v6 = iI n9/\I2 w14/\R (vB (decide (n7 < n9))) w14) (R (vB false) w8)) (R (vB false) w8)) (R (vB false) w8)) (R (vB false) w8)) (R (vB false) w8))))):ay Tryz.prog 75 [(.agg #[(.slice a b c),(.slice d e f),(.slice g i j),(.int .i64 k),(.slice l m n)]),(.int .i64 o)] w R:=rv Tryz.func75 oZ (by kernel_rfl) h
abbrev fJ:FuncId:=86
def eV:bh:={ rngs:=[],loops:=[],joins:=[],blocks:=[] }
theorem eW {a:WA} {b c:Nat} {d e:Int} {w:WB} {R:Value->WP} (h:new w (oC [iI d,iI e] 104) λk1 w1=>∃ n1 n2,V.rowAt w1 (aM k1) 0 2 = some [iI n1,iI n2]/\rE 136 [vS a b c,vG [iI n1,iI n2]] w1 λv1 w2=>∃ n3,v1 = iI n3/\R (vB (decide (0<=n3))) w2):ay Tryz.prog 86 [(.slice a b c),(.agg #[(.int .i64 d),(.int .i64 e)])] w R:=rv Tryz.func86 eV (by kernel_rfl) h
abbrev zY:FuncId:=89
def wP:bh:={ rngs:=[],loops:=[(6,[(5,(.one .slice)),(63,(.one (.int .i64)))]),(14,[(96,(.one (.int .i64)))])],joins:=[(2,[(57,(.one .bool))]),(9,[(83,(.one .bool))])],blocks:=[] }
theorem wQ {a:WA} {b c:Nat} {d:WA} {e f:Nat} {g:WA} {i j:Nat} {k:Int} {l:WA} {m n:Nat} {o:Int} {w:WB} {R:Value->WP} (h:new w (oC [vS a b c,vS d e f,vS g i j,iI k,vS l m n] 27) λk1 w1=>∃ (x1:lP [(57,oV)]),(∃ o1 k2 k3,cL w1 (aM k1) (vS o1 k2 k3)/\br ((k2:Int) == 0) (x1 true w1) (∃ o2 k4 k5,cL w1 (aM k1) (vS o2 k4 k5)/\idx o2 k4 0 2 λa1=>∃ s1 n1,rA w1 a1 2 [Value.string s1,iI n1]/\∃ v1,Sem.run Proofs.Tryz.prog (fu BinOp.neq 83 (Operand.tmp 20) (Operand.tmp 21) (vG [Value.string s1,iI n1]) (vG [Value.string (ByteArray.mk (Array.mk [])),iI 0])) w1 = Result.ok v1 w1/\∃ b1,v1 = vB b1/\br b1 (x1 true w1) (∃ o3 k6 k7,cL w1 (Addr.add (aM k1) 1) (vS o3 k6 k7)/\br (decide ((k6:Int)<=o)) (x1 true w1) (∃ o4 k8 k9,cL w1 (aM k1) (vS o4 k8 k9)/\br (decide (65 < (k8:Int))) (x1 true w1) (∃ o5 k10 k11,cL w1 (Addr.add (aM k1) 1) (vS o5 k10 k11)/\aw (64 + o)/\br (decide (64 + o < (k10:Int))) (x1 true w1) (∃ o6 k12 k13,cL w1 (aM k1) (vS o6 k12 k13)/\aw ((k12:Int) - 1)/\∃ o7 k14 k15,cL w1 (Addr.add (aM k1) 1) (vS o7 k14 k15)/\aw ((k12:Int) - 1 + (k14:Int))/\aw ((k12:Int) - 1 + (k14:Int) - o)/\x1 (decide (64 < (k12:Int) - 1 + (k14:Int) - o)) w1))))))/\∀ (I1:Nat->Value) (b2:Bool) (w2:WB),x1 b2 w2->br b2 (R (vB false) w2) (new w2 (Obj.map (Array.mk []) 0) λk16 w3=>∃ o8 k17 k18,cL w3 (aM k1) (vS o8 k17 k18)/\lY o8 k17 k18 (some 1) none none 2 λ(o9:WA) (k19 k20:Nat)=>∃ (x2:lP [(5,mP),(63,aD)]),∃ (x3:lN [(5,mP),(63,aD)]),x2 none 0 0 0 w3/\∀ (I2:Nat->Value) (o10:WA) (k21 k22:Nat) (n2:Int) (w4:WB),x2 o10 k21 k22 n2 w4->br (decide (n2 < (k19:Int))) (idx o9 k19 n2 2 λa2=>∃ s2 n3,rA w4 a2 2 [Value.string s2,iI n3]/\new w4 (oC [Value.string (ByteArray.mk (Array.mk [])),iI 0] 83) λk23 w5=>cH w5 (aM k23) [Value.string s2,iI n3] λw6=>∃ (x4:lP [(83,oV)]),(∃ s3,cL w6 (aM k23) (Value.string s3)/\rE 138 [Value.string s3] w6 λv2 w7=>∃ b3,v2 = vB b3/\br (!b3) (x4 true w7) (∃ n4,cL w7 (Addr.add (aM k23) 1) (iI n4)/\br (decide (n4 < 0)) (x4 true w7) (∃ n5,cL w7 (Addr.add (aM k23) 1) (iI n5)/\∃ o11 k24 k25,cL w7 (Addr.add (aM k1) 2) (vS o11 k24 k25)/\x4 (decide ((k24:Int) < n5)) w7)))/\∀ (I3:Nat->Value) (b4:Bool) (w8:WB),x4 b4 w8->br b4 (R (vB false) w8) (∃ s4,cL w8 (aM k23) (Value.string s4)/\new w8 (oC [Value.string s4] 9) λk26 w9=>rS (jW 23 (Array.mk [vS o10 k21 k22,vS (some (aM k26)) 1 1])) w9 λv3 w10=>∃ o12 k27 k28,v3 = vS o12 k27 k28/\∃ n6,cL w10 (Addr.add (aM k23) 1) (iI n6)/\aU Proofs.Tryz.prog (Instr.mapUpdate 226 (Value.map (some k16)) (iI n6) (iI 1)) w10 λ(x5:Unit) (w11:WB)=>aw (n2 + 1)/\x2 o12 k27 k28 (n2 + 1) w11/\x3 o12 k27 k28 (n2 + 1) w11 < x3 o10 k21 k22 n2 w4)) (∃ o13 k29 k30,cL w4 (Addr.add (aM k1) 2) (vS o13 k29 k30)/\∃ (x6:lP [(96,aD)]),∃ (x7:lN [(96,aD)]),x6 0 w4/\∀ (I4:Nat->Value) (n7:Int) (w12:WB),x6 n7 w12->br (decide (n7 < (k29:Int))) (idx o13 k29 n7 1 λa3=>∃ n8,cL w12 a3 (iI n8)/\br (decide (n8 < 1)) (R (vB false) w12) (br (decide (3 < n8)) (R (vB false) w12) (aw (n7 + 1)/\aU Proofs.Tryz.prog (Instr.lookup 226 (Value.map (some k16)) (iI (n7 + 1)) false) w12 λv4 w13=>∃ n9,v4 = iI n9/\br (n9 == 0) (R (vB false) w13) (aw (n7 + 1)/\x6 (n7 + 1) w13/\x7 (n7 + 1) w13 < x7 n7 w12)))) (∃ o14 k31 k32,cL w12 (Addr.add (aM k1) 1) (vS o14 k31 k32)/\lY o14 k31 k32 (some o) none none 1 λ(o15:WA) (k33 k34:Nat)=>rE 139 [vS o10 k21 k22] w12 λv5 w14=>∃ b5,v5 = vB b5/\br b5 (rE 139 [vS o15 k33 k34] w14 λv6 w15=>∃ b6,v6 = vB b6/\br b6 (rE 140 [vS o15 k33 k34,Value.func (Fn.func 141) (Array.mk []) (Array.mk [])] w15 λv7 w16=>∃ b7,v7 = vB b7/\R (vB !b7) w16) (R (vB false) w15)) (R (vB false) w14))))):ay Tryz.prog 89 [(.agg #[(.slice a b c),(.slice d e f),(.slice g i j),(.int .i64 k),(.slice l m n)]),(.int .i64 o)] w R:=rv Tryz.func89 wP (by kernel_rfl) h
abbrev tM:FuncId:=90
def qh:bh:={ rngs:=[],loops:=[(7,[(8,(.one .slice)),(43,(.one (.int .i64)))]),(12,[(73,(.one (.int .i64)))])],joins:=[(2,[(25,(.one .bool))]),(10,[(69,(.one .bool))])],blocks:=[] }
theorem qi {a:WA} {b c:Nat} {d:WA} {e f:Nat} {g:WA} {i j:Nat} {k:Int} {l:WA} {m n:Nat} {o:Int} {w:WB} {R:Value->WP} (h:new w (oC [vS a b c,vS d e f,vS g i j,iI k,vS l m n] 27) λk1 w1=>∃ (x1:lP [(25,oV)]),(∃ o1 k2 k3,cL w1 (Addr.add (aM k1) 4) (vS o1 k2 k3)/\br (decide ((k2:Int)<=o)) (x1 true w1) (∃ o2 k4 k5,cL w1 (Addr.add (aM k1) 4) (vS o2 k4 k5)/\aw (96 + o)/\x1 (decide (96 + o < (k4:Int))) w1))/\∀ (I1:Nat->Value) (b1:Bool) (w2:WB),x1 b1 w2->br b1 (R (vU [vS none 0 0,vB false]) w2) (∃ o3 k6 k7,cL w2 (aM k1) (vS o3 k6 k7)/\∃ o4 k8 k9,cL w2 (Addr.add (aM k1) 1) (vS o4 k8 k9)/\aw ((k6:Int) + (k8:Int))/\∃ o5 k10 k11,cL w2 (aM k1) (vS o5 k10 k11)/\aw ((k10:Int) + o)/\∃ o6 k12 k13,cL w2 (Addr.add (aM k1) 4) (vS o6 k12 k13)/\lY o6 k12 k13 (some o) none none 3 λ(o7:WA) (k14 k15:Nat)=>∃ (x2:lP [(8,mP),(43,aD)]),∃ (x3:lN [(8,mP),(43,aD)]),x2 none 0 0 0 w2/\∀ (I2:Nat->Value) (o8:WA) (k16 k17:Nat) (n1:Int) (w3:WB),x2 o8 k16 k17 n1 w3->br (decide (n1 < (k14:Int))) (idx o7 k14 n1 3 λa1=>∃ n2 o9 k18 k19 n3,rA w3 a1 3 [iI n2,vS o9 k18 k19,iI n3]/\new w3 (oC [iI 0,vS none 0 0,iI 0] 81) λk20 w4=>cH w4 (aM k20) [iI n2,vS o9 k18 k19,iI n3] λw5=>∃ (x4:lP [(69,oV)]),(∃ n4,cL w5 (aM k20) (iI n4)/\br (decide (n4 < (k10:Int) + o)) (x4 true w5) (∃ n5,cL w5 (aM k20) (iI n5)/\br (decide ((k6:Int) + (k8:Int)<=n5)) (x4 true w5) (∃ n6,cL w5 (Addr.add (aM k20) 2) (iI n6)/\br (decide (n6 < 0)) (x4 true w5) (∃ n7,cL w5 (Addr.add (aM k20) 2) (iI n7)/\∃ o10 k21 k22,cL w5 (Addr.add (aM k1) 2) (vS o10 k21 k22)/\x4 (decide ((k21:Int) < n7)) w5))))/\∀ (I3:Nat->Value) (b2:Bool) (w6:WB),x4 b2 w6->br b2 (R (vU [vS none 0 0,vB false]) w6) (∃ o11 k23 k24,cL w6 (Addr.add (aM k20) 1) (vS o11 k23 k24)/\∃ (x5:lP [(73,aD)]),∃ (x6:lN [(73,aD)]),x5 0 w6/\∀ (I4:Nat->Value) (n8:Int) (w7:WB),x5 n8 w7->br (decide (n8 < (k23:Int))) (idx o11 k23 n8 1 λa2=>∃ n9,cL w7 a2 (iI n9)/\br (decide (n9 < 1)) (R (vU [vS none 0 0,vB false]) w7) (br (decide ((k6:Int) + (k8:Int)<=n9)) (R (vU [vS none 0 0,vB false]) w7) (∃ o12 k25 k26,cL w7 (aM k1) (vS o12 k25 k26)/\br (decide ((k25:Int)<=n9)) (br (decide (n9 < (k10:Int) + o)) (R (vU [vS none 0 0,vB false]) w7) (aw (n8 + 1)/\x5 (n8 + 1) w7/\x6 (n8 + 1) w7 < x6 n8 w7)) (aw (n8 + 1)/\x5 (n8 + 1) w7/\x6 (n8 + 1) w7 < x6 n8 w7)))) (∃ n10,cL w7 (aM k20) (iI n10)/\rE 143 [vS o8 k16 k17,iI n10] w7 λv1 w8=>∃ b3,v1 = vB b3/\br (!b3) (∃ n11,cL w8 (aM k20) (iI n11)/\new w8 (oC [iI n11] 3) λk27 w9=>rS (jW 24 (Array.mk [vS o8 k16 k17,vS (some (aM k27)) 1 1])) w9 λv2 w10=>∃ o13 k28 k29,v2 = vS o13 k28 k29/\aw (n1 + 1)/\x2 o13 k28 k29 (n1 + 1) w10/\x3 o13 k28 k29 (n1 + 1) w10 < x3 o8 k16 k17 n1 w3) (aw (n1 + 1)/\x2 o8 k16 k17 (n1 + 1) w8/\x3 o8 k16 k17 (n1 + 1) w8 < x3 o8 k16 k17 n1 w3)))) (∀ w11,drawn w3 w11->∃ (I5:WP),I5 w11/\∃ o14 k30 k31,(∀ w12,I5 w12->cL w12 (Addr.add (aM k1) 1) (vS o14 k30 k31))/\aw ((k30:Int) - o)/\br ((k16:Int) == (k30:Int) - o) (∃ n12,(∀ w13,I5 w13->cL w13 (Addr.add (aM k1) 3) (iI n12))/\br (decide ((k10:Int) + o<=n12)) (∃ n13,(∀ w14,I5 w14->cL w14 (Addr.add (aM k1) 3) (iI n13))/\R (vU [vS o8 k16 k17,vB (decide (n13 < (k6:Int) + (k8:Int)))]) w11) (R (vU [vS o8 k16 k17,vB false]) w11)) (R (vU [vS o8 k16 k17,vB false]) w11)))):ay Tryz.prog 90 [(.agg #[(.slice a b c),(.slice d e f),(.slice g i j),(.int .i64 k),(.slice l m n)]),(.int .i64 o)] w R:=rv Tryz.func90 qh (by kernel_rfl) h
abbrev yz:FuncId:=109
def u7:bh:={ rngs:=[],loops:=[],joins:=[],blocks:=[] }
theorem u9 {a:WA} {w:WB} {R:Value->WP} (h:br (Option.isNone a) (R (iI 0) w) (nn a λa1=>∃ n1,World.cell? w (Addr.add a1 1) = some (iI n1)/\R (iI n1) w)):ay Tryz.prog 109 [(.pointer a)] w R:=rv Tryz.func109 u7 (by kernel_rfl) h
abbrev wR:FuncId:=110
def tN:bh:={ rngs:=[],loops:=[],joins:=[],blocks:=[] }
theorem tO {a:WA} {b c:Nat} {d:Int} {w:WB} {R:Value->WP} (h:nz 64/\aw (Int.tdiv d 64)/\idx a b (Int.tdiv d 64) 1 λa1=>∃ n1,World.cell? w a1 = some (Value.int IntKind.u64 n1)/\nz 64/\ns (Int.tmod d 64)/\R (vB (kL BinOp.and IntKind.u64 (bw IntKind.u64 n1 (Int.tmod d 64)) 1 == 1)) w):ay Tryz.prog 110 [(.slice a b c),(.int .i64 d)] w R:=rv Tryz.func110 tN (by kernel_rfl) h
abbrev wS:FuncId:=111
def tP:bh:={ rngs:=[],loops:=[],joins:=[],blocks:=[] }
theorem tQ {a:WA} {b c:Nat} {d:Int} {w:WB} {R:Value->WP} (h:∀ w1,drawn w w1->∃ (I1:WP),I1 w1/\nz 64/\aw (Int.tdiv d 64)/\idx a b (Int.tdiv d 64) 1 λa1=>∃ n1,(∀ w2,I1 w2->World.cell? w2 a1 = some (Value.int IntKind.u64 n1))/\nz 64/\ns (Int.tmod d 64)/\idx a b (Int.tdiv d 64) 1 λa2=>st1 w1 a2 (Value.int IntKind.u64 (kL BinOp.or IntKind.u64 n1 (LO IntKind.u64 1 (Int.tmod d 64)))) λw3=>R (vU []) w3):ay Tryz.prog 111 [(.slice a b c),(.int .i64 d)] w R:=rv Tryz.func111 tP (by kernel_rfl) h
abbrev pe:FuncId:=112
def mY:bh:={ rngs:=[],loops:=[],joins:=[],blocks:=[] }
theorem mZ {a:FuncId} {b:List Value} {w:WB} {R:Value->WP} (h:rE 165 [vS none 0 0,Value.func (Fn.func a) (Array.mk []) (Array.mk b)] w λv1 w1=>∃ o1 k1 k2,v1 = vS o1 k1 k2/\R (vS o1 k1 k2) w1):ay Tryz.prog 112 [(.func (.func a) #[] ⟨b⟩)] w R:=rv Tryz.func112 mY (by kernel_rfl) h
abbrev zZ:FuncId:=113
def wT:bh:={ rngs:=[],loops:=[],joins:=[],blocks:=[] }
theorem wU {a:WA} {w:WB} {R:Value->WP} (h:new w (oC [vS none 0 0] 190) λk1 w1=>br (!Option.isNone a) (nn a λa1=>∃ o1 k2 k3,World.cell? w1 a1 = some (vS o1 k2 k3)/\rE 166 [vS o1 k2 k3] w1 λv1 w2=>∃ o2 k4 k5,v1 = vS o2 k4 k5/\st1 w2 (aM k1) (vS o2 k4 k5) λw3=>R (Value.func (Fn.func 167) (Array.mk []) (Array.mk [vP (some (aM k1))])) w3) (R (Value.func (Fn.func 167) (Array.mk []) (Array.mk [vP (some (aM k1))])) w1)):ay Tryz.prog 113 [(.pointer a)] w R:=rv Tryz.func113 wT (by kernel_rfl) h
abbrev m_:FuncId:=124
def lH:bh:={ rngs:=[],loops:=[(4,[(3,(.one (.int .i64)))]),(10,[(5,(.one (.int .i64)))])],joins:=[(2,[(25,(.one .bool))]),(8,[(62,(.one .bool))])],blocks:=[] }
theorem lI {a:WA} {b c:Nat} {d:WA} {e f:Nat} {g:WA} {i j:Nat} {k:Int} {l:WA} {m n:Nat} {w:WB} {R:Value->WP} (h:new w (oC [vS a b c,vS d e f,vS g i j,iI k,vS l m n] 27) λk1 w1=>∃ (x1:lP [(25,oV)]),(∃ o1 k2 k3,cL w1 (aM k1) (vS o1 k2 k3)/\br ((k2:Int) == 0) (x1 true w1) (∃ o2 k4 k5,cL w1 (aM k1) (vS o2 k4 k5)/\idx o2 k4 0 2 λa1=>∃ s1,cL w1 a1 (Value.string s1)/\br (!ByteArray.toList s1 == ByteArray.toList (ByteArray.mk (Array.mk []))) (x1 true w1) (∃ o3 k6 k7,cL w1 (aM k1) (vS o3 k6 k7)/\idx o3 k6 0 2 λa2=>∃ n1,cL w1 (Addr.add a2 1) (iI n1)/\x1 (n1 != 0) w1)))/\∀ (I1:Nat->Value) (b1:Bool) (w2:WB),x1 b1 w2->br b1 (R (vB false) w2) (∃ (x2:lP [(3,aD)]),∃ (x3:lN [(3,aD)]),x2 1 w2/\∀ (I2:Nat->Value) (n2:Int) (w3:WB),x2 n2 w3->∃ o4 k8 k9,cL w3 (aM k1) (vS o4 k8 k9)/\br (decide (n2 < (k8:Int))) (∃ o5 k10 k11,cL w3 (aM k1) (vS o5 k10 k11)/\idx o5 k10 n2 2 λa3=>∃ s2,cL w3 a3 (Value.string s2)/\rE 178 [Value.string s2] w3 λv1 w4=>∃ b2,v1 = vB b2/\∃ (x4:lP [(62,oV)]),(∀ w5,drawn w4 w5->∃ (I3:WP),I3 w5/\br (!b2) (x4 true w5) (∃ o6 k12 k13,(∀ w6,I3 w6->cL w6 (aM k1) (vS o6 k12 k13))/\idx o6 k12 n2 2 λa4=>∃ n3,(∀ w7,I3 w7->cL w7 (Addr.add a4 1) (iI n3))/\br (decide (n3 < 0)) (x4 true w5) (∃ o7 k14 k15,(∀ w8,I3 w8->cL w8 (aM k1) (vS o7 k14 k15))/\idx o7 k14 n2 2 λa5=>∃ n4,(∀ w9,I3 w9->cL w9 (Addr.add a5 1) (iI n4))/\∃ o8 k16 k17,(∀ w10,I3 w10->cL w10 (Addr.add (aM k1) 2) (vS o8 k16 k17))/\x4 (decide ((k16:Int) < n4)) w5)))/\∀ (I4:Nat->Value) (b3:Bool) (w11:WB),x4 b3 w11->br b3 (R (vB false) w11) (∃ (x5:lP [(5,aD)]),∃ (x6:lN [(5,aD)]),x5 1 w11/\∀ (I5:Nat->Value) (n5:Int) (w12:WB),x5 n5 w12->br (decide (n5 < n2)) (∀ w13,drawn w12 w13->∃ (I6:WP),I6 w13/\∃ o9 k18 k19,(∀ w14,I6 w14->cL w14 (aM k1) (vS o9 k18 k19))/\idx o9 k18 n5 2 λa6=>∃ s3,(∀ w15,I6 w15->cL w15 a6 (Value.string s3))/\∃ o10 k20 k21,(∀ w16,I6 w16->cL w16 (aM k1) (vS o10 k20 k21))/\idx o10 k20 n2 2 λa7=>∃ s4,(∀ w17,I6 w17->cL w17 a7 (Value.string s4))/\br (ByteArray.toList s3 == ByteArray.toList s4) (R (vB false) w13) (aw (n5 + 1)/\x5 (n5 + 1) w13/\x6 (n5 + 1) w13 < x6 n5 w12)) (aw (n2 + 1)/\x2 (n2 + 1) w12/\x3 (n2 + 1) w12 < x3 n2 w3))) (R (vB true) w3))):ay Tryz.prog 124 [(.agg #[(.slice a b c),(.slice d e f),(.slice g i j),(.int .i64 k),(.slice l m n)])] w R:=rv Tryz.func124 lH (by kernel_rfl) h
abbrev mv:FuncId:=125
def kN:bh:={ rngs:=[],loops:=[(2,[(3,(.one (.int .i64)))]),(6,[(4,(.one .bool)),(5,(.one (.int .i64)))])],joins:=[],blocks:=[] }
theorem kO {a:WA} {b c:Nat} {d:WA} {e f:Nat} {g:WA} {i j:Nat} {k:Int} {l:WA} {m n:Nat} {w:WB} {R:Value->WP} (h:new w (oC [vS a b c,vS d e f,vS g i j,iI k,vS l m n] 27) λk1 w1=>∃ (x1:lP [(3,aD)]),∃ (x2:lN [(3,aD)]),x1 0 w1/\∀ (I1:Nat->Value) (n1:Int) (w2:WB),x1 n1 w2->∃ o1 k2 k3,cL w2 (Addr.add (aM k1) 2) (vS o1 k2 k3)/\br (decide (n1 < (k2:Int))) (∃ (x3:lP [(4,oV),(5,aD)]),∃ (x4:lN [(4,oV),(5,aD)]),x3 false 0 w2/\∀ (I2:Nat->Value) (b1:Bool) (n2:Int) (w3:WB),x3 b1 n2 w3->∃ o2 k4 k5,cL w3 (aM k1) (vS o2 k4 k5)/\br (decide (n2 < (k4:Int))) (br b1 (aw (n2 + 1)/\x3 true (n2 + 1) w3/\x4 true (n2 + 1) w3 < x4 b1 n2 w3) (∃ o3 k6 k7,cL w3 (aM k1) (vS o3 k6 k7)/\idx o3 k6 n2 2 λa1=>∃ n3,cL w3 (Addr.add a1 1) (iI n3)/\aw (n1 + 1)/\aw (n2 + 1)/\x3 (n3 == n1 + 1) (n2 + 1) w3/\x4 (n3 == n1 + 1) (n2 + 1) w3 < x4 b1 n2 w3)) (br (!b1) (R (vB false) w3) (∃ o4 k8 k9,cL w3 (Addr.add (aM k1) 2) (vS o4 k8 k9)/\idx o4 k8 n1 1 λa2=>∃ n4,cL w3 a2 (iI n4)/\br (decide (n4 < 1)) (R (vB false) w3) (∃ o5 k10 k11,cL w3 (Addr.add (aM k1) 2) (vS o5 k10 k11)/\idx o5 k10 n1 1 λa3=>∃ n5,cL w3 a3 (iI n5)/\br (decide (3 < n5)) (R (vB false) w3) (aw (n1 + 1)/\x1 (n1 + 1) w3/\x2 (n1 + 1) w3 < x2 n1 w2))))) (R (vB true) w2)):ay Tryz.prog 125 [(.agg #[(.slice a b c),(.slice d e f),(.slice g i j),(.int .i64 k),(.slice l m n)])] w R:=rv Tryz.func125 kN (by kernel_rfl) h
abbrev n_:FuncId:=126
def mw:bh:={ rngs:=[],loops:=[(2,[(5,(.one (.int .i64)))]),(8,[(7,(.one (.int .i64)))])],joins:=[],blocks:=[] }
theorem my {a:WA} {b c:Nat} {d:WA} {e f:Nat} {g:WA} {i j:Nat} {k:Int} {l:WA} {m n:Nat} {o:Int} {w:WB} {R:Value->WP} (h:new w (oC [vS a b c,vS d e f,vS g i j,iI k,vS l m n] 27) λk1 w1=>∃ (x1:lP [(5,aD)]),∃ (x2:lN [(5,aD)]),x1 o w1/\∀ (I1:Nat->Value) (n1:Int) (w2:WB),x1 n1 w2->∃ o1 k2 k3,cL w2 (Addr.add (aM k1) 1) (vS o1 k2 k3)/\br (decide (n1 < (k2:Int))) (∃ o2 k4 k5,cL w2 (Addr.add (aM k1) 1) (vS o2 k4 k5)/\idx o2 k4 n1 1 λa1=>∃ s1,cL w2 a1 (Value.string s1)/\rE 179 [Value.string s1] w2 λv1 w3=>∃ b1,v1 = vB b1/\br (!b1) (R (vB false) w3) (∃ (x3:lP [(7,aD)]),∃ (x4:lN [(7,aD)]),x3 o w3/\∀ (I2:Nat->Value) (n2:Int) (w4:WB),x3 n2 w4->br (decide (n2 < n1)) (∀ w5,drawn w4 w5->∃ (I3:WP),I3 w5/\∃ o3 k6 k7,(∀ w6,I3 w6->cL w6 (Addr.add (aM k1) 1) (vS o3 k6 k7))/\idx o3 k6 n2 1 λa2=>∃ s2,(∀ w7,I3 w7->cL w7 a2 (Value.string s2))/\∃ o4 k8 k9,(∀ w8,I3 w8->cL w8 (Addr.add (aM k1) 1) (vS o4 k8 k9))/\idx o4 k8 n1 1 λa3=>∃ s3,(∀ w9,I3 w9->cL w9 a3 (Value.string s3))/\br (ByteArray.toList s2 == ByteArray.toList s3) (R (vB false) w5) (aw (n2 + 1)/\x3 (n2 + 1) w5/\x4 (n2 + 1) w5 < x4 n2 w4)) (aw (n1 + 1)/\x1 (n1 + 1) w4/\x2 (n1 + 1) w4 < x2 n1 w2))) (R (vB true) w2)):ay Tryz.prog 126 [(.agg #[(.slice a b c),(.slice d e f),(.slice g i j),(.int .i64 k),(.slice l m n)]),(.int .i64 o)] w R:=rv Tryz.func126 mw (by kernel_rfl) h
abbrev nb:FuncId:=127
def lJ:bh:={ rngs:=[],loops:=[(2,[(7,(.one (.int .i64)))]),(8,[(9,(.one (.int .i64)))])],joins:=[(6,[(47,(.one .bool))])],blocks:=[] }
theorem lK {a:WA} {b c:Nat} {d:WA} {e f:Nat} {g:WA} {i j:Nat} {k:Int} {l:WA} {m n:Nat} {o p:Int} {w:WB} {R:Value->WP} (h:new w (oC [vS a b c,vS d e f,vS g i j,iI k,vS l m n] 27) λk1 w1=>∃ (x1:lP [(7,aD)]),∃ (x2:lN [(7,aD)]),x1 o w1/\∀ (I1:Nat->Value) (n1:Int) (w2:WB),x1 n1 w2->∃ o1 k2 k3,cL w2 (Addr.add (aM k1) 4) (vS o1 k2 k3)/\br (decide (n1 < (k2:Int))) (∃ o2 k4 k5,cL w2 (Addr.add (aM k1) 4) (vS o2 k4 k5)/\idx o2 k4 n1 3 λa1=>∃ n2 o3 k6 k7 n3,rA w2 a1 3 [iI n2,vS o3 k6 k7,iI n3]/\new w2 (oC [iI 0,vS none 0 0,iI 0] 81) λk8 w3=>cH w3 (aM k8) [iI n2,vS o3 k6 k7,iI n3] λw4=>∃ (x3:lP [(47,oV)]),(∀ w5,drawn w4 w5->∃ (I2:WP),I2 w5/\∃ n4,(∀ w6,I2 w6->cL w6 (aM k8) (iI n4))/\br (decide (n4 < p)) (x3 true w5) (∃ n5,(∀ w7,I2 w7->cL w7 (aM k8) (iI n5))/\∃ o4 k9 k10 o5 k11 k12 o6 k13 k14 n6 o7 k15 k16,(∀ w8,I2 w8->rA w8 (aM k1) 5 [vS o4 k9 k10,vS o5 k11 k12,vS o6 k13 k14,iI n6,vS o7 k15 k16])/\rE 72 [vG [vS o4 k9 k10,vS o5 k11 k12,vS o6 k13 k14,iI n6,vS o7 k15 k16]] w5 λv1 w9=>∃ n7,v1 = iI n7/\∃ (I3:WP),I3 w9/\(∀ w10,I3 w10->I2 w10)/\br (decide (n7<=n5)) (x3 true w9) (∃ n8,(∀ w11,I3 w11->cL w11 (Addr.add (aM k8) 2) (iI n8))/\br (decide (n8 < 0)) (x3 true w9) (∃ n9,(∀ w12,I3 w12->cL w12 (Addr.add (aM k8) 2) (iI n9))/\∃ o8 k17 k18,(∀ w13,I3 w13->cL w13 (Addr.add (aM k1) 2) (vS o8 k17 k18))/\x3 (decide ((k17:Int) < n9)) w9))))/\∀ (I4:Nat->Value) (b1:Bool) (w14:WB),x3 b1 w14->br b1 (R (vB false) w14) (∃ (x4:lP [(9,aD)]),∃ (x5:lN [(9,aD)]),x4 0 w14/\∀ (I5:Nat->Value) (n10:Int) (w15:WB),x4 n10 w15->∃ o9 k19 k20,cL w15 (Addr.add (aM k8) 1) (vS o9 k19 k20)/\br (decide (n10 < (k19:Int))) (∃ o10 k21 k22,cL w15 (Addr.add (aM k8) 1) (vS o10 k21 k22)/\idx o10 k21 n10 1 λa2=>∃ n11,cL w15 a2 (iI n11)/\br (decide (n11 < 1)) (R (vB false) w15) (∃ o11 k23 k24 o12 k25 k26 o13 k27 k28 n12 o14 k29 k30,rA w15 (aM k1) 5 [vS o11 k23 k24,vS o12 k25 k26,vS o13 k27 k28,iI n12,vS o14 k29 k30]/\rE 72 [vG [vS o11 k23 k24,vS o12 k25 k26,vS o13 k27 k28,iI n12,vS o14 k29 k30]] w15 λv2 w16=>∃ n13,v2 = iI n13/\br (decide (n13<=n11)) (R (vB false) w16) (∃ o15 k31 k32,cL w16 (aM k1) (vS o15 k31 k32)/\br (decide ((k31:Int)<=n11)) (br (decide (n11 < p)) (R (vB false) w16) (aw (n10 + 1)/\x4 (n10 + 1) w16/\x5 (n10 + 1) w16 < x5 n10 w15)) (aw (n10 + 1)/\x4 (n10 + 1) w16/\x5 (n10 + 1) w16 < x5 n10 w15)))) (aw (n1 + 1)/\x1 (n1 + 1) w15/\x2 (n1 + 1) w15 < x2 n1 w2))) (R (vB true) w2)):ay Tryz.prog 127 [(.agg #[(.slice a b c),(.slice d e f),(.slice g i j),(.int .i64 k),(.slice l m n)]),(.int .i64 o),(.int .i64 p)] w R:=rv Tryz.func127 lJ (by kernel_rfl) h
abbrev qj:FuncId:=128
def ob:bh:={ rngs:=[],loops:=[(3,[(5,(.one .slice)),(6,(.one (.int .i64)))]),(7,[(7,(.one .bool)),(8,(.one (.int .i64)))])],joins:=[],blocks:=[] }
theorem od {a:WA} {b c:Nat} {d:WA} {e f:Nat} {g:WA} {i j:Nat} {k:Int} {l:WA} {m n:Nat} {o:Int} {w:WB} {R:Value->WP} (h:new w (oC [vS a b c,vS d e f,vS g i j,iI k,vS l m n] 27) λk1 w1=>∃ (x1:lP [(5,mP),(6,aD)]),∃ (x2:lN [(5,mP),(6,aD)]),x1 none 0 0 o w1/\∀ (I1:Nat->Value) (o1:WA) (k2 k3:Nat) (n1:Int) (w2:WB),x1 o1 k2 k3 n1 w2->∃ o2 k4 k5,cL w2 (Addr.add (aM k1) 4) (vS o2 k4 k5)/\br (decide (n1 < (k4:Int))) (∃ (x3:lP [(7,oV),(8,aD)]),∃ (x4:lN [(7,oV),(8,aD)]),x3 false 0 w2/\∀ (I2:Nat->Value) (b1:Bool) (n2:Int) (w3:WB),x3 b1 n2 w3->br (decide (n2 < (k2:Int))) (∀ w4,drawn w3 w4->∃ (I3:WP),I3 w4/\br b1 (aw (n2 + 1)/\x3 true (n2 + 1) w4/\x4 true (n2 + 1) w4 < x4 b1 n2 w3) (idx o1 k2 n2 1 λa1=>∃ n3,(∀ w5,I3 w5->cL w5 a1 (iI n3))/\∃ o3 k6 k7,(∀ w6,I3 w6->cL w6 (Addr.add (aM k1) 4) (vS o3 k6 k7))/\idx o3 k6 n1 3 λa2=>∃ n4,(∀ w7,I3 w7->cL w7 a2 (iI n4))/\aw (n2 + 1)/\x3 (n3 == n4) (n2 + 1) w4/\x4 (n3 == n4) (n2 + 1) w4 < x4 b1 n2 w3)) (br (!b1) (∃ o4 k8 k9,cL w3 (Addr.add (aM k1) 4) (vS o4 k8 k9)/\idx o4 k8 n1 3 λa3=>∃ n5,cL w3 a3 (iI n5)/\new w3 (oC [iI n5] 3) λk10 w8=>rS (jW 24 (Array.mk [vS o1 k2 k3,vS (some (aM k10)) 1 1])) w8 λv1 w9=>∃ o5 k11 k12,v1 = vS o5 k11 k12/\aw (n1 + 1)/\x1 o5 k11 k12 (n1 + 1) w9/\x2 o5 k11 k12 (n1 + 1) w9 < x2 o1 k2 k3 n1 w2) (aw (n1 + 1)/\x1 o1 k2 k3 (n1 + 1) w3/\x2 o1 k2 k3 (n1 + 1) w3 < x2 o1 k2 k3 n1 w2))) (R (vS o1 k2 k3) w2)):ay Tryz.prog 128 [(.agg #[(.slice a b c),(.slice d e f),(.slice g i j),(.int .i64 k),(.slice l m n)]),(.int .i64 o)] w R:=rv Tryz.func128 ob (by kernel_rfl) h
abbrev ig:FuncId:=136
def f_:bh:={ rngs:=[],loops:=[(2,[(8,(.one (.int .i64)))])],joins:=[],blocks:=[] }
theorem ga {a:WA} {b c:Nat} {d e:Int} {w:WB} {R:Value->WP} (h:new w (oC [iI d,iI e] 104) λk1 w1=>∃ (x1:lP [(8,aD)]),∃ (x2:lN [(8,aD)]),x1 0 w1/\∀ (I1:Nat->Value) (n1:Int) (w2:WB),x1 n1 w2->br (decide (n1 < (b:Int))) (∀ w3,drawn w2 w3->∃ (I2:WP),I2 w3/\∃ n2 n3,(∀ w4,I2 w4->V.rowAt w4 (aM k1) 0 2 = some [iI n2,iI n3])/\idx a b n1 2 λa1=>∃ n4 n5,(∀ w5,I2 w5->V.rowAt w5 a1 0 2 = some [iI n4,iI n5])/\∃ v1,(∀ w6,I2 w6->Sem.run Proofs.Tryz.prog (fu BinOp.eql 104 (Operand.tmp 11) (Operand.tmp 15) (vG [iI n2,iI n3]) (vG [iI n4,iI n5])) w6 = Result.ok v1 w6)/\∃ b1,v1 = vB b1/\br b1 (R (iI n1) w3) (aw (n1 + 1)/\x1 (n1 + 1) w3/\x2 (n1 + 1) w3 < x2 n1 w2)) (R (iI (-1)) w2)):ay Tryz.prog 136 [(.slice a b c),(.agg #[(.int .i64 d),(.int .i64 e)])] w R:=rv Tryz.func136 f_ (by kernel_rfl) h
abbrev BE:FuncId:=138
def yA:bh:={ rngs:=[],loops:=[],joins:=[],blocks:=[] }
def qk (a:ByteArray) (w:WB) (R:Value->WP):Prop :=  br (!ByteArray.toList a == ByteArray.toList (ByteArray.mk (Array.mk []))) (br (decide ((↑(ByteArray.size a):Int)<=16)) (sr Proofs.Tryz.prog Ev 183 [Value.string a,Value.func (Fn.func 184) (Array.mk []) (Array.mk [])] w λv1 w1=>∃ n1,v1 = iI n1/\R (vB (decide (n1 < 0))) w1) (R (vB false) w)) (R (vB false) w)
theorem yB (a:ByteArray) (w:WB) (R:Value->WP) (h:qk a w R):ay Tryz.prog 138 [(.string a)] w R:=rv Tryz.func138 yA (by kernel_rfl) h

abbrev BF:FuncId:=139
def yC:bh:={ rngs:=[],loops:=[(3,[(9,(.one (.int .i64)))])],joins:=[],blocks:=[] }
theorem yD {a:WA} {b c:Nat} {w:WB} {R:Value->WP} (h:new w (Obj.map (Array.mk []) 0) λk1 w1=>∃ (x1:lP [(9,aD)]),∃ (x2:lN [(9,aD)]),x1 0 w1/\∀ (I1:Nat->Value) (n1:Int) (w2:WB),x1 n1 w2->br (decide (n1 < (b:Int))) (idx a b n1 1 λa1=>∃ s1,cL w2 a1 (Value.string s1)/\aU Proofs.Tryz.prog (Instr.lookup 99 (Value.map (some k1)) (Value.string s1) false) w2 λv1 w3=>∃ n2,v1 = iI n2/\aw (n2 + 1)/\aU Proofs.Tryz.prog (Instr.mapUpdate 99 (Value.map (some k1)) (Value.string s1) (iI (n2 + 1))) w3 λ(x3:Unit) (w4:WB)=>aw (n1 + 1)/\x1 (n1 + 1) w4/\x2 (n1 + 1) w4 < x2 n1 w2) (∃ v2,Sem.run Proofs.Tryz.prog (Builtin.len_ (Array.mk [99]) 3 (Array.mk [Value.map (some k1)])) w2 = Result.ok v2 w2/\∃ n3,v2 = iI n3/\R (vB (n3 == (b:Int))) w2)):ay Tryz.prog 139 [(.slice a b c)] w R:=rv Tryz.func139 yC (by kernel_rfl) h
abbrev fK:FuncId:=140
def eZ:bh:={ rngs:=[],loops:=[],joins:=[],blocks:=[] }
theorem e_ {a:WA} {b c:Nat} {d:FuncId} {e:List Value} {w:WB} {R:Value->WP} (h:rE 185 [vS a b c,Value.func (Fn.func d) (Array.mk []) (Array.mk e)] w λv1 w1=>∃ n1,v1 = iI n1/\R (vB (decide (0<=n1))) w1):ay Tryz.prog 140 [(.slice a b c),(.func (.func d) #[] ⟨e⟩)] w R:=rv Tryz.func140 eZ (by kernel_rfl) h
abbrev iy:FuncId:=141
def sB:bh:={ rngs:=[],loops:=[],joins:=[],blocks:=[] }
theorem sC {a:ByteArray} {w:WB} {R:Value->WP} (h:rE 142 [Value.string a] w λv1 w1=>∃ b1,v1 = vB b1/\R (vB !b1) w1):ay Tryz.prog 141 [(.string a)] w R:=rv Tryz.func141 sB (by kernel_rfl) h
abbrev BG:FuncId:=142
def yE:bh:={ rngs:=[],loops:=[(2,[(7,(.one (.int .i64)))])],joins:=[],blocks:=[] }
def ql (a:ByteArray) (w:WB) (R:Value->WP):Prop :=  ∃ (x1:lP [(7,aD)]),∃ (x2:lN [(7,aD)]),x1 0 w/\∀ (I1:Nat->Value) (n1:Int) (w1:WB),x1 n1 w1->br (decide (n1 < (↑(ByteArray.size a):Int))) (Dj n1 (ByteArray.size a)/\br ((↑(UInt8.toNat (sb a (Int.toNat n1))):Int) != 95) (br (decide (kL BinOp.or IntKind.u8 (↑(UInt8.toNat (sb a (Int.toNat n1))):Int) 32 < 97)) (br (n1 == 0) (R (vB false) w1) (br (decide ((↑(UInt8.toNat (sb a (Int.toNat n1))):Int) < 48)) (R (vB false) w1) (br (decide (57 < (↑(UInt8.toNat (sb a (Int.toNat n1))):Int))) (R (vB false) w1) (aw (n1 + 1)/\x1 (n1 + 1) w1/\x2 (n1 + 1) w1 < x2 n1 w1)))) (br (decide (122 < kL BinOp.or IntKind.u8 (↑(UInt8.toNat (sb a (Int.toNat n1))):Int) 32)) (br (n1 == 0) (R (vB false) w1) (br (decide ((↑(UInt8.toNat (sb a (Int.toNat n1))):Int) < 48)) (R (vB false) w1) (br (decide (57 < (↑(UInt8.toNat (sb a (Int.toNat n1))):Int))) (R (vB false) w1) (aw (n1 + 1)/\x1 (n1 + 1) w1/\x2 (n1 + 1) w1 < x2 n1 w1)))) (aw (n1 + 1)/\x1 (n1 + 1) w1/\x2 (n1 + 1) w1 < x2 n1 w1))) (aw (n1 + 1)/\x1 (n1 + 1) w1/\x2 (n1 + 1) w1 < x2 n1 w1)) (br (!ByteArray.toList a == ByteArray.toList (ByteArray.mk (Array.mk []))) (R (vB (decide ((↑(ByteArray.size a):Int)<=16))) w1) (R (vB false) w1))
theorem yF (a:ByteArray) (w:WB) (R:Value->WP) (h:ql a w R):ay Tryz.prog 142 [(.string a)] w R:=rv Tryz.func142 yE (by kernel_rfl) h

abbrev kP:FuncId:=143
def jL:bh:={ rngs:=[],loops:=[],joins:=[],blocks:=[] }
theorem jM {a:WA} {b c:Nat} {d:Int} {w:WB} {R:Value->WP} (h:rE 186 [vS a b c,iI d] w λv1 w1=>∃ n1,v1 = iI n1/\R (vB (decide (0<=n1))) w1):ay Tryz.prog 143 [(.slice a b c),(.int .i64 d)] w R:=rv Tryz.func143 jL (by kernel_rfl) h
abbrev yG:FuncId:=151
def u_:bh:={ rngs:=[],loops:=[],joins:=[],blocks:=[] }
theorem va {a b:Int} {w:WB} {R:Value->WP} (h:rE 157 [iI a] w λv1 w1=>∃ b1,v1 = vB b1/\br b1 (rE 157 [iI b] w1 λv2 w2=>∃ b2,v2 = vB b2/\br (!b2) (R (vB true) w2) (R (vB (decide (a < b))) w2)) (R (vB (decide (a < b))) w1)):ay Tryz.prog 151 [(.int .i64 a),(.int .i64 b)] w R:=rv Tryz.func151 u_ (by kernel_rfl) h
abbrev wV:FuncId:=157
def tT:bh:={ rngs:=[],loops:=[],joins:=[],blocks:=[] }
theorem kQ {a:Int} {w:WB} {R:Value->WP} (h:R (vB (a != a)) w):ay Tryz.prog 157 [(.int .i64 a)] w R:=rv Tryz.func157 tT (by kernel_rfl) h
abbrev j5:FuncId:=165
def jk:bh:={ rngs:=[(2,[(7,(.one (.int .i64)))])],loops:=[],joins:=[],blocks:=[] }
theorem jl {a:WA} {b c:Nat} {d:FuncId} {e:List Value} {w:WB} {R:Value->WP} (h:new w (oC [vS a b c] 24) λk1 w1=>uR (Proofs.YtndaepmjkbmjmaaGreatDoor.Fn d) (∃ (x1:List (List Value)),∃ (x2:au),∃ (x3:au),∃ (I1:Nat->au),∃ (x4:au),∃ (I2:Nat->au),∃ (x5:List au),St w1 (I1 0 :: x2 :: x5)/\(∀ (x6:Hp),aG x5 x6->x3 x6)/\SJ Proofs.Tryz.prog d [] e x2 x3 x1/\(∀ (x7:List Value),x7∈x1->∃ n1,x7 = [iI n1])/\(∀ (k2:Nat) (n2:Int),List.get?Internal x1 k2 = some [iI n2]->∀ (x8:List au) (w2:WB),O9 x8 x5->St w2 (I1 k2 :: x8)->∃ (x9:au),St w2 (x9 :: x8)/\∀ (x10:List au) (w3:WB),O9 x10 x5->St w3 (x9 :: x10)->∃ o1 k3 k4,World.cell? w3 (aM k1) = some (vS o1 k3 k4)/\new w3 (oC [iI n2] 3) λk5 w4=>rS (jW 24 (Array.mk [vS o1 k3 k4,vS (some (aM k5)) 1 1])) w4 λv1 w5=>∃ o2 k6 k7,v1 = vS o2 k6 k7/\st1 w5 (aM k1) (vS o2 k6 k7) λw6=>St w6 (I1 (k2 + 1) :: x10))/\(∀ (w7:WB),St w7 (I1 (List.length x1) :: x2 :: x5)->∃ o3 k8 k9,World.cell? w7 (aM k1) = some (vS o3 k8 k9)/\∀ (w8:WB),hp w8 = hp w7->R (vS o3 k8 k9) w8)/\(∀ (w9:WB),St w9 (x4 :: x2 :: x5)->∀ (w10:WB),hp w10 = hp w9->R (vS none 0 0) w10)/\True)):ay Tryz.prog 165 [(.slice a b c),(.func (.func d) #[] ⟨e⟩)] w R:=rv Tryz.func165 jk (by kernel_rfl) h
abbrev ij:FuncId:=166
def gb:bh:={ rngs:=[],loops:=[],joins:=[],blocks:=[] }
theorem gd {a:WA} {b c:Nat} {w:WB} {R:Value->WP} (h:br (Option.isNone a) (R (vS none 0 0) w) (new w (oC [] 241) λk1 w1=>rS (jW 190 (Array.mk [vS (some (aM k1)) 0 0,vS a b c])) w1 λv1 w2=>∃ o1 k2 k3,v1 = vS o1 k2 k3/\R (vS o1 k2 k3) w2)):ay Tryz.prog 166 [(.slice a b c)] w R:=rv Tryz.func166 gb (by kernel_rfl) h
abbrev l8:FuncId:=167
def jX:bh:={ rngs:=[],loops:=[(1,[(7,(.one (.int .i64)))]),(3,[(4,(.one (.int .u64)))])],joins:=[],blocks:=[] }
def jm (E:WB->WB->Prop) (p0yield:Nat) (c0:Addr) (w:WB) (R:Value->WB->Prop):Prop :=  ∃ o1 k1 k2,World.cell? w c0 = some (vS o1 k1 k2)/\∃ (x1:lP [(7,aD)]),∃ (x2:lN [(7,aD)]),x1 0 w/\∀ (I1:Nat->Value) (n1:Int) (w1:WB),x1 n1 w1->br (decide (n1 < (↑k1:Int))) (idx o1 k1 n1 1 λa1=>∃ n2,World.cell? w1 a1 = some (Value.int IntKind.u64 n2)/\∃ (x3:lP [(4,S1.one (Cs.int IntKind.u64))]),∃ (x4:lN [(4,S1.one (Cs.int IntKind.u64))]),x3 n2 w1/\∀ (I2:Nat->Value) (n3:Int) (w2:WB),x3 n3 w2->br (n3 != 0) (aw (64 * n1)/\sr Proofs.Tryz.prog E 168 [Value.int IntKind.u64 n3] w2 λv1 w3=>∃ n4,v1 = iI n4/\aw (64 * n1 + n4)/\TP Proofs.Tryz.prog E p0yield [iI (64 * n1 + n4)] w3 λv2 w4=>∃ b1,v2 = vB b1/\br (!b1) (R (vT (Array.mk [])) w4) (x3 (kL BinOp.and IntKind.u64 n3 (IntKind.wrap IntKind.u64 (n3 - 1))) w4/\x4 (kL BinOp.and IntKind.u64 n3 (IntKind.wrap IntKind.u64 (n3 - 1))) w4 < x4 n3 w2)) (aw (n1 + 1)/\x1 (n1 + 1) w2/\x2 (n1 + 1) w2 < x2 n1 w1)) (R (vT (Array.mk [])) w1)
theorem pf (E:WB->WB->Prop) (p0yield:Nat) (c0:Addr) (hE:Df E) (w:WB) (R:Value->WB->Prop) (h:jm E p0yield c0 w R):sr Tryz.prog E 167 [(.func (.yield p0yield) #[] #[]),(.pointer (some c0))] w R :=
 Pg aL Rr mixed Tryz.func167 jX hE (by kernel_rfl) ((by kernel_rfl:Rj Tryz.prog Ty Fn E jX Tryz.f167 [(.func (.yield p0yield) #[] #[]),(.pointer (some c0))] w R = jm E p0yield c0 w R) ▸ h)

abbrev j6:FuncId:=168
def jn:bh:={ rngs:=[],loops:=[],joins:=[],blocks:=[] }
theorem jo {a:Int} {w:WB} {R:Value->WP} (h:br (a == 0) (R (iI 64) w) (ns 58/\idx (some (aM 0)) 64 (bw IntKind.u64 (IntKind.wrap IntKind.u64 (kL BinOp.and IntKind.u64 a (IntKind.wrap IntKind.u64 (0 - a)) * 285870213051353865)) 58) 1 λa1=>∃ n1,World.cell? w a1 = some (Value.int IntKind.u8 n1)/\aw n1/\R (iI n1) w)):ay Tryz.prog 168 [(.int .u64 a)] w R:=rv Tryz.func168 jn (by kernel_rfl) h
abbrev pg:FuncId:=178
def nf:bh:={ rngs:=[],loops:=[(2,[(3,(.one (.int .i64)))])],joins:=[],blocks:=[] }
theorem ng {a:ByteArray} {w:WB} {R:Value->WP} (h:∃ (x1:lP [(3,aD)]),∃ (x2:lN [(3,aD)]),x1 0 w/\∀ (I1:Nat->Value) (n1:Int) (w1:WB),x1 n1 w1->br (decide (n1 < (↑(ByteArray.size a):Int))) (Dj n1 (ByteArray.size a)/\br (decide ((↑(UInt8.toNat (sb a (Int.toNat n1))):Int) < 32)) (R (vB false) w1) (Dj n1 (ByteArray.size a)/\br (decide (126 < (↑(UInt8.toNat (sb a (Int.toNat n1))):Int))) (R (vB false) w1) (Dj n1 (ByteArray.size a)/\br ((↑(UInt8.toNat (sb a (Int.toNat n1))):Int) == 39) (R (vB false) w1) (aw (n1 + 1)/\x1 (n1 + 1) w1/\x2 (n1 + 1) w1 < x2 n1 w1)))) (br (decide (1<=(↑(ByteArray.size a):Int))) (R (vB (decide ((↑(ByteArray.size a):Int)<=16))) w1) (R (vB false) w1))):ay Tryz.prog 178 [(.string a)] w R:=rv Tryz.func178 nf (by kernel_rfl) h
abbrev ph:FuncId:=179
def nh:bh:={ rngs:=[],loops:=[(2,[(3,(.one (.int .i64)))])],joins:=[(3,[]),(5,[(4,(.one .bool))])],blocks:=[] }
theorem ni {a:ByteArray} {w:WB} {R:Value->WP} (h:∃ (x1:lP [(3,aD)]),∃ (x2:lN [(3,aD)]),x1 0 w/\∀ (I1:Nat->Value) (n1:Int) (w1:WB),x1 n1 w1->br (decide (n1 < (↑(ByteArray.size a):Int))) (∃ (x3:lP []),(∃ (x4:lP [(4,oV)]),(Dj n1 (ByteArray.size a)/\br (decide (65<=(↑(UInt8.toNat (sb a (Int.toNat n1))):Int))) (Dj n1 (ByteArray.size a)/\br (decide ((↑(UInt8.toNat (sb a (Int.toNat n1))):Int)<=90)) (x4 true w1) (Dj n1 (ByteArray.size a)/\br (decide (97<=(↑(UInt8.toNat (sb a (Int.toNat n1))):Int))) (Dj n1 (ByteArray.size a)/\br (decide ((↑(UInt8.toNat (sb a (Int.toNat n1))):Int)<=122)) (x4 true w1) (Dj n1 (ByteArray.size a)/\x4 ((↑(UInt8.toNat (sb a (Int.toNat n1))):Int) == 95) w1)) (Dj n1 (ByteArray.size a)/\x4 ((↑(UInt8.toNat (sb a (Int.toNat n1))):Int) == 95) w1))) (Dj n1 (ByteArray.size a)/\br (decide (97<=(↑(UInt8.toNat (sb a (Int.toNat n1))):Int))) (Dj n1 (ByteArray.size a)/\br (decide ((↑(UInt8.toNat (sb a (Int.toNat n1))):Int)<=122)) (x4 true w1) (Dj n1 (ByteArray.size a)/\x4 ((↑(UInt8.toNat (sb a (Int.toNat n1))):Int) == 95) w1)) (Dj n1 (ByteArray.size a)/\x4 ((↑(UInt8.toNat (sb a (Int.toNat n1))):Int) == 95) w1)))/\∀ (I2:Nat->Value) (b1:Bool) (w2:WB),x4 b1 w2->Dj n1 (ByteArray.size a)/\br (decide (48<=(↑(UInt8.toNat (sb a (Int.toNat n1))):Int))) (Dj n1 (ByteArray.size a)/\br (decide ((↑(UInt8.toNat (sb a (Int.toNat n1))):Int)<=57)) (br (!b1) (br (!decide (0 < n1)) (R (vB false) w2) (x3 w2)) (x3 w2)) (br (!b1) (R (vB false) w2) (x3 w2))) (br (!b1) (R (vB false) w2) (x3 w2)))/\∀ (I3:Nat->Value) (w3:WB),x3 w3->aw (n1 + 1)/\x1 (n1 + 1) w3/\x2 (n1 + 1) w3 < x2 n1 w1) (br (decide (1<=(↑(ByteArray.size a):Int))) (R (vB (decide ((↑(ByteArray.size a):Int)<=16))) w1) (R (vB false) w1))):ay Tryz.prog 179 [(.string a)] w R:=rv Tryz.func179 nh (by kernel_rfl) h
abbrev sD:FuncId:=183
def pj:bh:={ rngs:=[],loops:=[],joins:=[],blocks:=[] }
theorem pn {a:ByteArray} {b:FuncId} {c:List Value} {w:WB} {R:Value->WP} (h:rE 233 [Value.string a,Value.func (Fn.func b) (Array.mk []) (Array.mk c),vB true] w λv1 w1=>∃ n1,v1 = iI n1/\R (iI n1) w1):ay Tryz.prog 183 [(.string a),(.func (.func b) #[] ⟨c⟩)] w R:=rv Tryz.func183 pj (by kernel_rfl) h
abbrev iT:FuncId:=184
def tU:bh:={ rngs:=[],loops:=[],joins:=[],blocks:=[] }
theorem tV {a:Int} {w:WB} {R:Value->WP} (h:br (decide (a < 32)) (R (vB true) w) (br (decide (126 < a)) (R (vB true) w) (R (vB (a == 39)) w))):ay Tryz.prog 184 [(.int .i32 a)] w R:=rv Tryz.func184 tU (by kernel_rfl) h
abbrev ik:FuncId:=185
def gf:bh:={ rngs:=[],loops:=[(2,[(8,(.one (.int .i64)))])],joins:=[],blocks:=[] }
theorem gh {a:WA} {b c:Nat} {d:FuncId} {e:List Value} {w:WB} {R:Value->WP} (h:∃ (x1:lP [(8,aD)]),∃ (x2:lN [(8,aD)]),x1 0 w/\∀ (I1:Nat->Value) (n1:Int) (w1:WB),x1 n1 w1->br (decide (n1 < (b:Int))) (idx a b n1 1 λa1=>∃ s1,World.cell? w1 a1 = some (Value.string s1)/\uR (Proofs.YtndaepmjkbmjmaaGreatDoor.Fn d) (rE d (Value.string s1 :: e) w1 λv1 w2=>∃ b1,v1 = vB b1/\br b1 (R (iI n1) w2) (aw (n1 + 1)/\x1 (n1 + 1) w2/\x2 (n1 + 1) w2 < x2 n1 w1))) (R (iI (-1)) w1)):ay Tryz.prog 185 [(.slice a b c),(.func (.func d) #[] ⟨e⟩)] w R:=rv Tryz.func185 gf (by kernel_rfl) h
abbrev nj:FuncId:=186
def lL:bh:={ rngs:=[],loops:=[(2,[(8,(.one (.int .i64)))])],joins:=[],blocks:=[] }
theorem lM {a:WA} {b c:Nat} {d:Int} {w:WB} {R:Value->WP} (h:∃ (x1:lP [(8,aD)]),∃ (x2:lN [(8,aD)]),x1 0 w/\∀ (I1:Nat->Value) (n1:Int) (w1:WB),x1 n1 w1->br (decide (n1 < (b:Int))) (idx a b n1 1 λa1=>∃ n2,World.cell? w1 a1 = some (iI n2)/\br (d == n2) (R (iI n1) w1) (aw (n1 + 1)/\x1 (n1 + 1) w1/\x2 (n1 + 1) w1 < x2 n1 w1)) (R (iI (-1)) w1)):ay Tryz.prog 186 [(.slice a b c),(.int .i64 d)] w R:=rv Tryz.func186 lL (by kernel_rfl) h
abbrev iU:FuncId:=209
def iz:bh:={ rngs:=[],loops:=[],joins:=[],blocks:=[] }
theorem db {a:WA} {b c:Nat} {d:FuncId} {e:List Value} {w:WB} {R:Value->WP} (h:rE 245 [vS a b c,Value.func (Fn.func d) (Array.mk []) (Array.mk e)] w λv1 w1=>∃ n1,v1 = iI n1/\R (vB (decide (0<=n1))) w1):ay Tryz.prog 209 [(.slice a b c),(.func (.func d) #[] ⟨e⟩)] w R:=rv Tryz.func209 iz (by kernel_rfl) h
abbrev wW:FuncId:=213
def tW:bh:={ rngs:=[(6,[(17,(.one (.int .i64)))])],loops:=[(3,[(11,(.one (.int .i64)))])],joins:=[],blocks:=[] }
theorem tX {a b:WA} {c d:Nat} {w:WB} {R:Value->WP} (h:new w (oC [vP a] 118) λk1 w1=>new w1 (oC [iI 0] 3) λk2 w2=>st1 w2 (aM k2) (iI 0) λw3=>∃ (x1:lP [(11,aD)]),∃ (x2:lN [(11,aD)]),x1 0 w3/\∀ (I1:Nat->Value) (n1:Int) (w4:WB),x1 n1 w4->br (decide (n1 < (c:Int))) (idx b c n1 1 λa1=>∃ o1,World.cell? w4 a1 = some (vP o1)/\rE 113 [vP o1] w4 λv1 w5=>∃ g1 x3,v1 = Value.func (Fn.func g1) (Array.mk []) (Array.mk x3)/\uR (Proofs.YtndaepmjkbmjmaaGreatDoor.Fn g1) (∃ (x4:List (List Value)),∃ (x5:au),∃ (x6:au),∃ (I2:Nat->au),∃ (x7:au),∃ (I3:Nat->au),∃ (x8:List au),St w5 (I2 0 :: x5 :: x8)/\(∀ (x9:Hp),aG x8 x9->x6 x9)/\SJ Proofs.Tryz.prog g1 [] x3 x5 x6 x4/\(∀ (x10:List Value),x10∈x4->∃ n2,x10 = [iI n2])/\(∀ (k3:Nat) (n3:Int),List.get?Internal x4 k3 = some [iI n3]->∀ (x11:List au) (w6:WB),O9 x11 x8->St w6 (I2 k3 :: x11)->∃ (x12:au),St w6 (x12 :: x11)/\∀ (x13:List au) (w7:WB),O9 x13 x8->St w7 (x12 :: x13)->∀ w8,drawn w7 w8->∃ (I4:WP),I4 w8/\∃ n4,(∀ w9,I4 w9->World.cell? w9 (aM k2) = some (iI n4))/\∃ o2,(∀ w10,I4 w10->World.cell? w10 (aM k1) = some (vP o2))/\new w8 (oC [iI n3] 3) λk4 w11=>I4 w11/\rE 60 [vP o2,vS (some (aM k4)) 1 1] w11 λv2 w12=>∃ n5,v2 = iI n5/\I4 w12/\aw (n4 + n5)/\st1 w12 (aM k2) (iI (n4 + n5)) λw13=>St w13 (I2 (k3 + 1) :: x13))/\(∀ (w14:WB),St w14 (I2 (List.length x4) :: x5 :: x8)->aw (n1 + 1)/\x1 (n1 + 1) w14/\x2 (n1 + 1) w14 < x2 n1 w4)/\(∀ (w15:WB),St w15 (x7 :: x5 :: x8)->∀ (w16:WB),hp w16 = hp w15->R (iI 0) w16)/\True)) (∃ n6,World.cell? w4 (aM k2) = some (iI n6)/\∀ (w17:WB),hp w17 = hp w4->R (iI n6) w17)):ay Tryz.prog 213 [(.pointer a),(.slice b c d)] w R:=rv Tryz.func213 tW (by kernel_rfl) h
abbrev nk:FuncId:=214
def lO:bh:={ rngs:=[],loops:=[],joins:=[],blocks:=[] }
theorem lQ {a:WA} {b c:Nat} {w:WB} {R:Value->WP} (h:br (Option.isNone a) (R (vS none 0 0) w) (new w (oC [] 3) λk1 w1=>rS (jW 24 (Array.mk [vS (some (aM k1)) 0 0,vS a b c])) w1 λv1 w2=>∃ o1 k2 k3,v1 = vS o1 k2 k3/\R (vS o1 k2 k3) w2)):ay Tryz.prog 214 [(.slice a b c)] w R:=rv Tryz.func214 lO (by kernel_rfl) h
abbrev sE:FuncId:=233
def po:bh:={ rngs:=[],loops:=[(2,[])],joins:=[],blocks:=[] }
theorem pq {a:ByteArray} {b:FuncId} {c:List Value} {d:Bool} {w:WB} {R:Value->WP} (h:aU Proofs.Tryz.prog (Instr.range 9 (Value.string a)) w λv1 w1=>∃ o1,v1 = vP o1/\∃ (x1:lP []),∃ (x2:lN []),x1 w1/\∀ (I1:Nat->Value) (w2:WB),x1 w2->aU Proofs.Tryz.prog (Instr.next (vP o1) true 0) w2 λv2 w3=>v2 = vU [vB false]/\R (iI (-1)) w3\/∃ n1 n2,v2 = vU [vB true,iI n1,Value.int IntKind.i32 n2]/\uR (Proofs.YtndaepmjkbmjmaaGreatDoor.Fn b) (rE b (Value.int IntKind.i32 n2 :: c) w3 λv3 w4=>∃ b1,v3 = vB b1/\br (b1 == d) (R (iI n1) w4) (x1 w4/\x2 w4 < x2 w2))):ay Tryz.prog 233 [(.string a),(.func (.func b) #[] ⟨c⟩),(.bool d)] w R:=rv Tryz.func233 po (by kernel_rfl) h
abbrev iA:FuncId:=242
def gI:bh:={ rngs:=[],loops:=[],joins:=[],blocks:=[] }
theorem gJ {a:WA} {b c:Nat} {d:FuncId} {e:List Value} {w:WB} {R:Value->WP} (h:rE 258 [vS a b c,Value.func (Fn.func d) (Array.mk []) (Array.mk e)] w λv1 w1=>∃ n1,v1 = iI n1/\R (vB (decide (0<=n1))) w1):ay Tryz.prog 242 [(.slice a b c),(.func (.func d) #[] ⟨e⟩)] w R:=rv Tryz.func242 gI (by kernel_rfl) h
abbrev eH:FuncId:=245
def jq:bh:={ rngs:=[],loops:=[(2,[(8,(.one (.int .i64)))])],joins:=[],blocks:=[] }
theorem dH {a:WA} {b c:Nat} {d:FuncId} {e:List Value} {w:WB} {R:Value->WP} (h:∃ (x1:lP [(8,aD)]),∃ (x2:lN [(8,aD)]),x1 0 w/\∀ (I1:Nat->Value) (n1:Int) (w1:WB),x1 n1 w1->br (decide (n1 < (b:Int))) (idx a b n1 1 λa1=>∃ n2,World.cell? w1 a1 = some (iI n2)/\uR (Proofs.YtndaepmjkbmjmaaGreatDoor.Fn d) (rE d (iI n2 :: e) w1 λv1 w2=>∃ b1,v1 = vB b1/\br b1 (R (iI n1) w2) (aw (n1 + 1)/\x1 (n1 + 1) w2/\x2 (n1 + 1) w2 < x2 n1 w1))) (R (iI (-1)) w1)):ay Tryz.prog 245 [(.slice a b c),(.func (.func d) #[] ⟨e⟩)] w R:=rv Tryz.func245 jq (by kernel_rfl) h
abbrev DC:FuncId:=247
def z6:bh:={ rngs:=[],loops:=[],joins:=[],blocks:=[] }
theorem z7 {a:WA} {b c:Nat} {d:WA} {e f:Nat} {g:WA} {i j:Nat} {k:Int} {l:WA} {m n:Nat} {w:WB} {R:Value->WP} (h:new w (oC [vS a b c,vS d e f,vS g i j,iI k,vS l m n] 27) λk1 w1=>∃ o1 k2 k3 o2 k4 k5 o3 k6 k7 n1 o4 k8 k9,rA w1 (aM k1) 5 [vS o1 k2 k3,vS o2 k4 k5,vS o3 k6 k7,iI n1,vS o4 k8 k9]/\rE 89 [vG [vS o1 k2 k3,vS o2 k4 k5,vS o3 k6 k7,iI n1,vS o4 k8 k9],iI 0] w1 λv1 w2=>∃ b1,v1 = vB b1/\br (!b1) (R (vB false) w2) (∃ o5 k10 k11 o6 k12 k13 o7 k14 k15 n2 o8 k16 k17,rA w2 (aM k1) 5 [vS o5 k10 k11,vS o6 k12 k13,vS o7 k14 k15,iI n2,vS o8 k16 k17]/\rE 90 [vG [vS o5 k10 k11,vS o6 k12 k13,vS o7 k14 k15,iI n2,vS o8 k16 k17],iI 0] w2 λv2 w3=>∃ o9 k18 k19 b2,v2 = vU [vS o9 k18 k19,vB b2]/\br b2 (rE 259 [vS o9 k18 k19] w3 λv3 w4=>∃ b3,v3 = vB b3/\R (vB b3) w4) (R (vB false) w3))):ay Tryz.prog 247 [(.agg #[(.slice a b c),(.slice d e f),(.slice g i j),(.int .i64 k),(.slice l m n)])] w R:=rv Tryz.func247 z6 (by kernel_rfl) h
abbrev jr:FuncId:=258
def iL:bh:={ rngs:=[],loops:=[(2,[(8,(.one (.int .i64)))])],joins:=[],blocks:=[] }
theorem iM {a:WA} {b c:Nat} {d:FuncId} {e:List Value} {w:WB} {R:Value->WP} (h:∃ (x1:lP [(8,aD)]),∃ (x2:lN [(8,aD)]),x1 0 w/\∀ (I1:Nat->Value) (n1:Int) (w1:WB),x1 n1 w1->br (decide (n1 < (b:Int))) (idx a b n1 1 λa1=>∃ o1 k1 k2,World.cell? w1 a1 = some (vS o1 k1 k2)/\uR (Proofs.YtndaepmjkbmjmaaGreatDoor.Fn d) (rE d (vS o1 k1 k2 :: e) w1 λv1 w2=>∃ b1,v1 = vB b1/\br b1 (R (iI n1) w2) (aw (n1 + 1)/\x1 (n1 + 1) w2/\x2 (n1 + 1) w2 < x2 n1 w1))) (R (iI (-1)) w1)):ay Tryz.prog 258 [(.slice a b c),(.func (.func d) #[] ⟨e⟩)] w R:=rv Tryz.func258 iL (by kernel_rfl) h
abbrev kR:FuncId:=259
def jN:bh:={ rngs:=[],loops:=[(2,[(3,(.one (.int .i64)))])],joins:=[],blocks:=[] }
theorem jO {a:WA} {b c:Nat} {w:WB} {R:Value->WP} (h:aw ((b:Int) - 1)/\∃ (x1:lP [(3,aD)]),∃ (x2:lN [(3,aD)]),x1 ((b:Int) - 1) w/\∀ (I1:Nat->Value) (n1:Int) (w1:WB),x1 n1 w1->br (decide (0 < n1)) (∀ w2,drawn w1 w2->∃ (I2:WP),I2 w2/\idx a b n1 1 λa1=>∃ n2,(∀ w3,I2 w3->World.cell? w3 a1 = some (iI n2))/\aw (n1 - 1)/\idx a b (n1 - 1) 1 λa2=>∃ n3,(∀ w4,I2 w4->World.cell? w4 a2 = some (iI n3))/\rE 151 [iI n2,iI n3] w2 λv1 w5=>∃ b1,v1 = vB b1/\br b1 (R (vB false) w5) (aw (n1 - 1)/\x1 (n1 - 1) w5/\x2 (n1 - 1) w5 < x2 n1 w1)) (R (vB true) w1)):ay Tryz.prog 259 [(.slice a b c)] w R:=rv Tryz.func259 jN (by kernel_rfl) h
end Go.Proofs.YtndaepmjkbmjmaaGreatDoor
namespace Go.V
section
variable {P:Program} {w w' : WB} {L:List au} {b:Nat} {vs:List Value}
theorem j7 {sz l c j:Nat} {a:WA} {ad:Addr} {v:Value} {k:WB->Prop} (h:St w (own sz a l c vs :: L)) (ha:a = some ad) (hj:j < vs.length)
  (hk:∀ w',St w' (own sz a l c (vs.set j v) :: L)->k w') (hv:aH v = true:=by rfl):st1 w (ad.add j) v k:=by
 rcases ct h with ⟨rfl,_⟩ | ⟨b,pre,cs,post,rfl,h,h1,h2,h3⟩
 ·cases ha
 ·cases ha
  rw [add_lit]
  refine bC h (by simp; omega) (λw' h'=>?_) hv
  rw [VN _ _ (by omega),Vy,List.set_append_left _ _ hj] at h'
  refine hk w' (dx h' (by simpa using h1) (by simpa using h2) h3)
theorem aB {a:WA} {ad:Addr} {len i:Nat} {k:Addr->Prop} (ha:a = some ad) (hi:i < len) (hk:k (ad.add i)):idx a len (i:Int) 1 k :=
 ⟨ad,ha,by omega,by omega,by simpa [cT] using hk⟩
theorem fa {sz l c:Nat} {a:WA} (h:St w (own sz a l c vs :: L)) (hl:0 < vs.length):∃ ad,a = some ad:=by
 rcases ct h with ⟨rfl,_,_,rfl⟩ | ⟨b,pre,cs,post,rfl,_⟩
 ·simp at hl
 ·exact ⟨_,rfl⟩
theorem zd {sz l c:Nat} {a:WA} {ad:Addr} (h:St w (own sz a l c vs :: L)) (ha:a = some ad) {j:Nat} {v:Value} (hj:vs[j]? = some v):w.cell? (ad.add j) = some v:=by
 obtain ⟨ad',h1,h2⟩:=bZ h hj
 rw [ha] at h1; cases h1; exact h2
theorem gi (h:drawn w w'):hp w' = hp w:=by unfold drawn at h; subst h; rfl
theorem St.drawn (h:St w L) (hd:V.drawn w w'):St w' L:=h.eq (gi hd)
end
def cw (ws:List Nat):List Value:=ws.map λ(n:Nat)=>Value.int .u64 (n:Int)
def mem (ws:List Nat) (k:Nat):Bool:=(ws.getD (k / 64) 0).testBit (k % 64)
structure Inv (n:Nat) (ws:List Nat) (m:Nat->Bool):Prop where
 len:ws.length = (n + 63) / 64
 le:n<=1024
 lt:∀ x∈ws,x < 2 ^ 64
 mm:∀ k,m k = mem ws k
 out:∀ k,n<=k->m k = false
def vb (p:WA) (n:Nat) (m:Nat->Bool):au:=λh =>
 (p = none/\n = 0/\m = λ_=>false) \/
 ∃ b a c ws,p = some ⟨b,0,none⟩/\Inv n ws m/\aG [aS b [.slice a ws.length c,.int .i64 (n:Int)],own 1 a ws.length c (cw ws)] h
section
variable {w w' : WB} {L:List au} {p:WA} {n:Nat} {m:Nat->Bool}
theorem iV (h:St w (vb p n m :: L)):(p = none/\n = 0/\(m = λ_=>false)/\St w L) \/
  ∃ b a c ws,p = some ⟨b,0,none⟩/\Inv n ws m/\St w (aS b [.slice a ws.length c,.int .i64 (n:Int)] :: own 1 a ws.length c (cw ws) :: L):=by
 have ht:=h.tail
 obtain ⟨h1,h2,d,s1,s2,ha,hl⟩:=h
 rcases ha with ⟨e1,e2,e3⟩ | ⟨b,a,c,ws,e1,e2,e3⟩
 ·exact .inl ⟨e1,e2,e3,ht⟩
 ·exact .inr ⟨b,a,c,ws,e1,e2,St.flat.1 (show St w (aT [_,_] :: L) from ⟨h1,h2,d,s1,s2,e3,hl⟩)⟩
theorem Ja {b:Nat} {a:WA} {c:Nat} {ws:List Nat} (hi:Inv n ws m) (h:St w (aS b [.slice a ws.length c,.int .i64 (n:Int)] :: own 1 a ws.length c (cw ws) :: L)):St w (vb (some ⟨b,0,none⟩) n m :: L) :=
 (St.flat.2 (show St w ([_,_] ++ L) from h)).head λh ha=>.inr ⟨b,a,c,ws,rfl,hi,ha⟩
theorem Ml (h:St w (vb p n m :: L)) {k:Nat} (hk:n<=k):m k = false:=by
 rcases iV h with ⟨_,_,rfl,_⟩ | ⟨_,_,_,_,_,hi,_⟩
 ·rfl
 ·exact hi.out k hk
theorem Pk (h:St w (vb p n m :: L)):n<=1024:=by
 rcases iV h with ⟨_,rfl,_,_⟩ | ⟨_,_,_,_,_,hi,_⟩
 ·omega
 ·exact hi.le
end
end Go.V
namespace Go.Proofs.YtndaepmjkbmjmaaGreatDoor
section
variable {w:WB} {L:List au} {a:WA} {c:Nat} {ws:List Nat} {p:WA} {n:Nat} {m:Nat->Bool}
theorem Hv {ws:List Nat} {j:Nat} (h:j < ws.length):(cw ws)[j]? = some (.int .u64 ((ws.getD j 0:Nat):Int)):=by
 simp [cw,h]
theorem ze {ws:List Nat} (hl:∀ x∈ws,x < 2 ^ 64) (j:Nat):ws.getD j 0 < 2 ^ 64:=by
 by_cases h:j < ws.length
 ·rw [UX,UK h]; exact hl _ (List.getElem_mem h)
 ·rw [UX,U5 (by omega)]; simp
theorem Mm:nz 64:=by unfold nz; decide
theorem zf {k:Nat} (h:k < 9223372036854775807):aw (k:Int):=⟨by omega,by omega⟩
theorem Fk (h:St w (own 1 a ws.length c (cw ws) :: L)) (hlt:∀ x∈ws,x < 2 ^ 64) {k:Nat} (hk:k / 64 < ws.length) (hb:k < 4096) :
  ay Tryz.prog wR [.slice a ws.length c,.int .i64 (k:Int)] w λv w'=>v = .bool (mem ws k)/\w' = w:=by
 refine tO ?_
 obtain ⟨ad,rfl⟩:=fa h (by simp [cw]; omega)
 have hg:=zd h rfl (Hv hk)
 refine ⟨Mm,?_,?_⟩
 ·rw [zW]; exact zf (by omega)
 ·rw [zW,Mi]
  refine aB rfl hk ⟨_,hg,Mm,?_,?_,rfl⟩
  ·show (0:Int)<=_; omega
  ·rw [Mj (ze hlt _) (Nat.mod_lt _ (by omega))]; rfl
theorem mem_set {ws:List Nat} {k r:Nat} (hk:k / 64 < ws.length) (j:Nat):mem (ws.set (k / 64) r) j = if j / 64 = k / 64 then r.testBit (j % 64) else mem ws j:=by
 unfold mem
 rw [UX,VL]
 split
 ·rename_i h; rw [US h.symm]; rfl
 ·rename_i h; rw [UN (λe=>h e.symm),UX]
theorem Rs {ws:List Nat} {i r:Nat}:(cw ws).set i (.int .u64 (r:Int)) = cw (ws.set i r):=by simp [cw]
theorem Fl (h:St w (own 1 a ws.length c (cw ws) :: L)) (hlt:∀ x∈ws,x < 2 ^ 64) {k:Nat} (hk:k / 64 < ws.length) (hb:k < 4096) :
  ay Tryz.prog wS [.slice a ws.length c,.int .i64 (k:Int)] w λv w'=>v = .tuple #[]/\∃ ws',ws'.length = ws.length/\(∀ x∈ws',x < 2 ^ 64)/\(∀ j,mem ws' j = (mem ws j || j == k))/\St w' (own 1 a ws.length c (cw ws') :: L):=by
 refine tQ ?_
 intro w1 hd
 have h1:=h.drawn hd
 obtain ⟨ad,rfl⟩:=fa h (by simp [cw]; omega)
 have hg:=λw2 (e:hp w2 = hp w)=>zd (h.eq e) rfl (Hv hk)
 refine ⟨λw2=>hp w2 = hp w,gi hd,Mm,?_,?_⟩
 ·rw [zW]; exact zf (by omega)
 ·rw [zW,Mi]
  refine aB rfl hk ⟨_,hg,Mm,?_,aB rfl hk ?_⟩
  ·show (0:Int)<=_; omega
  ·have hm:k % 64 < 64:=Nat.mod_lt _ (by omega)
   rw [Mh hm,Pj (ze hlt _) (Nat.pow_lt_pow_right (by omega) hm)]
   refine j7 h1 rfl (by simpa [cw] using hk) λw3 h3=>?_
   rw [Rs] at h3
   refine ⟨rfl,_,by simp,λx hx=>?_,λj=>?_,h3⟩
   ·rcases List.mem_or_eq_of_mem_set hx with hx | rfl
    ·exact hlt x hx
    ·exact Nat.or_lt_two_pow (ze hlt _) (Nat.pow_lt_pow_right (by omega) hm)
   ·rw [mem_set hk]
    split
    ·rename_i e
     rw [Nat.testBit_or,Nat.testBit_two_pow]
     unfold mem
     rw [e]
     congr 1
     by_cases hj:j = k
     ·subst hj; simp
     ·have:¬ (k % 64 = j % 64):=by omega
      simp [hj,this]
    ·rename_i e
     have:(j == k) = false:=by simp; intro h; exact e (by rw [h])
     simp [this]
theorem Rt (h:St w (vb p n m :: L)):ay Tryz.prog yz [.pointer p] w λv w'=>v = .int .i64 (n:Int)/\w' = w:=by
 refine u9 ?_
 rcases iV h with ⟨rfl,rfl,rfl,_⟩ | ⟨b,a,c,ws,rfl,hi,h⟩
 ·exact ⟨rfl,rfl⟩
 ·refine ⟨(n:Int),?_,rfl,rfl⟩
  rw [aV,h.cell]; rfl
theorem Ru (hi:Inv n ws m) {k:Nat} (hk:k < n):k / 64 < ws.length:=by rw [hi.len]; omega
end
end Go.Proofs.YtndaepmjkbmjmaaGreatDoor
namespace Go.V
def oT (h:Hp) (a:Addr):Option Value :=
 match h a.block with
 | some (.cells c _ _)=>if a.spot.isSome then none else c[a.off]?
 | _=>none
theorem nm {h h' : Hp} (s:sub h h') {a:Addr} {v:Value} (hc:oT h a = some v):oT h' a = some v:=by
 unfold oT at *
 split at hc
 ·rename_i c _ _ he; rw [s _ _ he]; exact hc
 ·cases hc
theorem j8 {w:WB} {a:Addr} {v:Value} (hc:oT (hp w) a = some v):w.cell? a = some v:=by
 unfold oT at hc
 split at hc
 ·rename_i c _ _ he; unfold World.cell?; rw [mQ he]; exact hc
 ·cases hc
def fb (a:WA) (vs:List Value):au:=λh=>vs = []\/∃ ad,a = some ad/\∀ j v,vs[j]? = some v->oT h (ad.add j) = some v
section
variable {w w' : WB} {L:List au} {a:WA} {vs:List Value}
theorem DD (h:St w (fb a vs :: L)) {j:Nat} {v:Value} (hj:vs[j]? = some v):∃ ad,a = some ad/\w.cell? (ad.add j) = some v:=by
 obtain ⟨h1,h2,d,s1,s2,ha,hl⟩:=h
 rcases ha with rfl | ⟨ad,e,hc⟩
 ·simp at hj
 ·exact ⟨ad,e,j8 (nm s1 (hc j v hj))⟩
theorem cF {sz l c:Nat} {h:Hp} (ha:own sz a l c vs h):fb a vs h:=by
 rcases ha with ⟨_,_,_,rfl⟩ | ⟨b,pre,cs,post,rfl,⟨e,he⟩,_⟩
 ·exact .inl rfl
 ·refine .inr ⟨_,rfl,λj v hj=>?_⟩
  rw [add_lit]; unfold oT; simp only [he]
  have:=(UJ.1 hj).1
  simp only [Option.isSome_none,Wj,if_false,List.getElem?_toArray]
  rw [UZ (by omega),Vy,U0 this]; exact hj
end
def iv (xs:List Int):List Value:=xs.map λx=>Value.int .i64 x
theorem Rv {xs:List Int} {j:Nat} {x:Int} (h:xs[j]? = some x):(iv xs)[j]? = some (.int .i64 x):=by simp [iv,h]
theorem bK {l j:Nat} (h:j < l):l - ((j:Int) + 1).toNat < l - (j:Int).toNat:=by omega
def j9 (n:Nat) (m:Nat->Bool):Nat:=((List.range n).filter m).length
theorem Hw (n:Nat) (m:Nat->Bool):j9 n m<=n:=by
 unfold j9; exact Vf (Vv _ _) (by simp)
theorem qm (n:Nat) (m:Nat->Bool):j9 (n + 1) m = j9 n m + (if m n then 1 else 0):=by
 unfold j9; rw [V6,Vr,UP]
 congr 1
 by_cases h:m n <;> simp [h]
theorem Cp {n:Nat} {m m' : Nat->Bool} (h:∀ k,k < n->m k = m' k):j9 n m = j9 n m':=by
 unfold j9; congr 1; exact V9 λk hk=>h k (by simpa using hk)
theorem Jb {n:Nat} {m:Nat->Bool} {k:Nat} (hk:k < n) (hm:m k = false):j9 n (λj=>m j || j == k) = j9 n m + 1:=by
  induction n with
  | zero=>omega
  | succ n ih =>
    rw [qm,qm]
    by_cases h:k = n
    · subst h
      rw [Cp (m' := m) λj hj => by have : (j == k) = false := by simp; omega
                                   simp [this]]
      simp [hm]
    · rw [ih (by omega)]
      have:(n == k) = false:=by simp; omega
      simp only [this,Bool.or_false]; omega
def fL (n:Nat) (m:Nat->Bool) (xs:List Int):Nat->Bool:=λk=>m k || (decide (k < n) && xs.contains (k:Int))
theorem cK {xs:List Int} {j:Nat} {x:Int} (h:xs[j]? = some x):xs.take (j + 1) = xs.take j ++ [x]:=by
 rw [UR,h]; rfl
theorem mz (l:List Int) (x y:Int):(l ++ [x]).contains y = (l.contains y || y == x):=by
 simp only [List.contains_append,List.contains_cons,List.contains_nil,Bool.or_false]
theorem KB {n:Nat} {m:Nat->Bool} {xs:List Int} {j:Nat} {x:Nat} (h:xs[j]? = some (x:Int)) (hx:x < n):fL n m (xs.take (j + 1)) = λk=>fL n m (xs.take j) k || k == x:=by
 funext k
 simp only [fL,cK h,mz]
 have e:((k:Int) == (x:Int)) = (k == x):=by
  rw [Vw]; simp only [beq_iff_eq]; omega
 rw [e]
 by_cases hk:k = x
 ·subst hk; simp [hx]
 ·have:(k == x) = false:=by simp [hk]
  simp [this]
theorem Cq {n:Nat} {m:Nat->Bool} {xs:List Int} {j:Nat} {x:Int} (h:xs[j]? = some x) (hx:∀ k:Nat,k < n->(k:Int) = x->fL n m (xs.take j) k = true):fL n m (xs.take (j + 1)) = fL n m (xs.take j):=by
 funext k
 have hk:=hx k
 simp only [fL,cK h,mz] at hk ⊢
 by_cases h1:k < n
 ·by_cases h2:(k:Int) = x
  ·have:=hk h1 h2
   simp only [h1,decide_true,Bool.true_and] at this ⊢
   rw [this]
   revert this
   cases m k <;> simp
   intro h; exact .inl h
  ·have:((k:Int) == x) = false:=by simp [h2]
   simp [this]
 ·simp [h1]
theorem Fm (n:Nat) (m:Nat->Bool):fL n m [] = m:=by funext k; simp [fL]
end Go.V
namespace Go.Proofs.YtndaepmjkbmjmaaGreatDoor
section
variable {w:WB} {L:List au} {a:WA} {l c:Nat} {p:WA} {n:Nat} {m:Nat->Bool} {xs:List Int}
theorem QR {D:au} (hD:∀ h,D h->fb a (iv xs) h) (h:St w (vb p n m :: D :: L)) (hl:xs.length = l) (hb:l<=4611686018427387904) :
  ay Tryz.prog qe [.pointer p,.slice a l c] w λv w'=>v = .int .i64 ((j9 n (fL n m xs):Int) - j9 n m)/\St w' (vb p n (fL n m xs) :: D :: L):=by
 refine wO ?_
 refine ⟨λn1 n2 w=>∃ j:Nat,n2 = j/\j<=l/\n1 = (j9 n (fL n m (xs.take j)):Int) - j9 n m/\St w (vb p n (fL n m (xs.take j)) :: D :: L),
  λ_ n2 _=>l - n2.toNat,⟨0,rfl,by omega,by simp [Fm],by simpa [Fm] using h⟩,?_⟩
 rintro _ n1 n2 w1 ⟨j,rfl,hj,hn1,hs⟩
 refine aa (λh0=>?_) λh0=>?_
 ·have h0:j < l:=by have:=UI h0; omega
  obtain ⟨x,hx⟩ : ∃ x,xs[j]? = some x:=⟨xs[j],by simp [show j < xs.length by omega]⟩
  obtain ⟨ad,rfl,hc⟩:=DD (hs.swap.head hD) (Rv hx)
  have hle:=Hw n (fL n m (xs.take j))
  have hle2:=Hw n m
  have hn:=Pk hs
  have mI:aw ((j:Int) + 1):=⟨by omega,by omega⟩
  refine aB rfl h0 ⟨x,hc,?_⟩
  have skip:(∀ k:Nat,k < n->(k:Int) = x->fL n m (xs.take j) k = true)->∀ w2,St w2 (vb p n (fL n m (xs.take j)) :: D :: L)->aw ((j:Int) + 1) /\
    (∃ j' : Nat,(j:Int) + 1 = j'/\j'<=l/\n1 = (j9 n (fL n m (xs.take j')):Int) - j9 n m/\St w2 (vb p n (fL n m (xs.take j')) :: D :: L))/\l - ((j:Int) + 1).toNat < l - (j:Int).toNat:=by
   intro hx' w2 hs2
   refine ⟨mI,⟨j + 1,by simp,by omega,?_,?_⟩,bK h0⟩
   ·rw [Cq hx hx']; exact hn1
   ·rw [Cq hx hx']; exact hs2
  refine aa (λh1=>?_) λh1=>?_
  ·have h1:=UI h1
   obtain ⟨x,rfl⟩:=Int.eq_ofNat_of_zero_le h1
   refine (Rt hs).mono ?_
   rintro _ _ ⟨rfl,rfl⟩
   refine ⟨_,rfl,aa (λh2=>?_) λh2=>?_⟩
   ·have h2:x < n:=by have:=UI h2; omega
    rcases iV hs with ⟨rfl,rfl,_⟩ | ⟨b,ab,cb,ws,rfl,hi,hs2⟩
    ·omega
    have hw:=Ru hi h2
    have hxb:x < 4096:=by omega
    refine ⟨ab,ws.length,cb,by rw [hs2.cell]; rfl,?_⟩
    refine (Fk hs2.swap hi.lt hw hxb).mono ?_
    rintro _ _ ⟨rfl,rfl⟩
    refine ⟨_,rfl,aa (λh3=>?_) λh3=>?_⟩
    ·refine ⟨ab,ws.length,cb,by rw [hs2.cell]; rfl,?_⟩
     refine (Fl hs2.swap hi.lt hw hxb).mono ?_
     rintro _ w3 ⟨rfl,ws',e1,e2,e3,hs3⟩
     have hfalse:fL n m (xs.take j) x = false:=by rw [hi.mm]; simpa using h3
     have hcnt:=Jb h2 hfalse
     have hst:=KB (m:=m) hx h2
     refine ⟨rfl,⟨by omega,by omega⟩,mI,⟨j + 1,by simp,by omega,?_,?_⟩,bK h0⟩
     ·rw [hst,hcnt,hn1]; omega
     ·rw [hst]
      rw [<- e1] at hs3
      refine Ja ⟨e1 ▸ hi.len,hi.le,e2,λk=>?_,λk hk=>?_⟩ (by rw [e1] at hs3 ⊢; exact hs3.swap)
      ·rw [e3,hi.mm]
      ·rw [hi.out k hk]; simp; omega
    ·refine skip (λk hk he=>?_) _ hs
     have:k = x:=by omega
     subst this
     rw [hi.mm]; simpa using h3
   ·refine skip (λk hk he=>?_) _ hs
    have:=UH h2; omega
  ·refine skip (λk hk he=>?_) _ hs
   have:=UH h1; omega
 ·have h0:j = l:=by have:=UH h0; omega
  subst h0
  rw [<- hl,U8] at hs hn1
  exact ⟨by rw [hn1],hs⟩
end
end Go.Proofs.YtndaepmjkbmjmaaGreatDoor
namespace Go.V
theorem DE (n:Nat):IntKind.u64.wrap (n:Int) = ((n % 18446744073709551616:Nat):Int):=by
 simp only [IntKind.wrap,IntKind.signed,IntKind.bits]
 simp
theorem DF {x:Nat} (h0:x≠0) (hx:x < 2 ^ 64):IntKind.u64.wrap (0 - (x:Int)) = ((18446744073709551616 - x:Nat):Int):=by
 have:(0 - (x:Int)) % (18446744073709551616:Int) = ((18446744073709551616 - x:Nat):Int):=by omega
 simpa [IntKind.wrap,IntKind.signed,IntKind.bits] using this
theorem Mn {T:List Nat} {i k:Nat} {f:Nat->Value} (h:T.getD i 0 = k) (hi:i < T.length):(T.map f)[i]? = some (f k):=by
 rw [UX,UK hi] at h
 rw [UM,UK hi]
 simp only [Option.getD_some] at h
 rw [h]; rfl
theorem Rw {x a:Nat} (h0:x≠0) (hx:x < 2 ^ 64) (ha:x &&& (18446744073709551616 - x) = a) :
  bw .u64 (IntKind.u64.wrap (kL .and .u64 (x:Int) (IntKind.u64.wrap (0 - (x:Int))) * 285870213051353865)) 58 = ((a * 285870213051353865 % 18446744073709551616 / 2 ^ 58:Nat):Int):=by
 have e2:=zU (a:=x) (b:=18446744073709551616 - x) hx (by omega)
 rw [DF h0 hx,e2,ha]
 have e3:=DE (a * 285870213051353865)
 rw [Int.natCast_mul] at e3
 have e5:((285870213051353865:Nat):Int) = 285870213051353865:=rfl
 rw [e5] at e3
 rw [e3]
 exact zV (s:=58) (by omega)
end Go.V
namespace Go.Proofs.YtndaepmjkbmjmaaGreatDoor
theorem vc {x:Nat} (hx:x < 2 ^ 64) (w:WB) {L:List au} (h:St w (fb (some ⟨0,0,none⟩) (Lib.deBruijn64tab.map λ(k:Nat)=>Value.int .u8 (k:Int)) :: L)):ay Tryz.prog j6 [.int .u64 (x:Int)] w λv w'=>v = .int .i64 ((Lib.ctz 64 x:Nat):Int)/\w' = w:=by
 refine jo ?_
 refine aa (λh0=>?_) λh0=>?_
 ·have:x = 0:=by simpa using h0
  subst this
  exact ⟨rfl,rfl⟩
 ·have h0:x≠0:=by simpa using h0
  obtain ⟨hlow,hk⟩:=Lib.lowest_bit 64 x h0 hx
  obtain ⟨hi,htab⟩:=Lib.deBruijn64_at _ hk
  rw [Rw h0 hx hlow]
  generalize Lib.ctz 64 x = k at hk hi htab ⊢
  have e58:(2:Nat) ^ 58 = 288230376151711744:=by decide
  rw [e58]
  generalize 2 ^ k * 285870213051353865 % 18446744073709551616 / 288230376151711744 = i at hi htab ⊢
  refine ⟨show (0:Int)<=58 by decide,aB rfl hi ⟨(k:Int),?_,⟨by omega,by omega⟩,rfl,rfl⟩⟩
  have hg:=Mn (f:=λ(k:Nat)=>Value.int .u8 (k:Int)) htab hi
  obtain ⟨ad,e,hc⟩:=DD h hg
  cases e
  exact hc
end Go.Proofs.YtndaepmjkbmjmaaGreatDoor
namespace Go.V
theorem Cr (a b:Nat) (m:Nat->Bool):j9 (a + b) m = j9 a m + j9 b (λk=>m (a + k)):=by
 unfold j9
 rw [List.range_add,Vr,UP,List.filter_map,UQ]
 rfl
theorem Fo {a:Nat} {m:Nat->Bool} (h:∀ k,k < a->m k = false):j9 a m = 0:=by
 unfold j9
 rw [Wd.2 λk hk=>by simp [h k (by simpa using hk)]]; rfl
theorem Pl {n:Nat} {ws:List Nat} {m:Nat->Bool} (hi:Inv n ws m):j9 (64 * ws.length) m = j9 n m:=by
 have h:64 * ws.length = n + (64 * ws.length - n):=by rw [hi.len]; omega
 rw [h,Cr,Fo (a:=64 * ws.length - n) λk _=>hi.out _ (by omega)]; omega
def G7 (s:Int):Nat:=(if 1024 < if s < 0 then 0 else s then 1024 else if s < 0 then 0 else s).toNat
theorem Rx (s:Int):(if 1024 < if s < 0 then 0 else s then (1024:Int) else if s < 0 then 0 else s) = (G7 s:Int):=by
 unfold G7
 split <;> split <;> omega
theorem Ry (s:Int):G7 s<=1024:=by
 unfold G7; split
 ·decide
 ·split <;> omega
theorem Pm {n:Nat} (h:n<=1024):G7 (n:Int) = n:=by
 unfold G7
 rw [UN (by rw [UN (by omega)]; omega),UN (by omega)]; simp
theorem js (v:Value):∀ n,lG n [v] = List.replicate n v
 | 0=>rfl
 | n + 1=>by simp [lG,js v n,We]
theorem Pn (n:Nat):cw (List.replicate n 0) = List.replicate n (.int .u64 0):=by simp [cw]
theorem Mo (n k:Nat):mem (List.replicate n 0) k = false:=by
 unfold mem
 rw [UX,Wo]
 split <;> simp
theorem inv_zero {n:Nat} (h:n<=1024):Inv n (List.replicate ((n + 63) / 64) 0) (λ_=>false) :=
 ⟨by simp,h,λx hx=>by rw [List.mem_replicate] at hx; rw [hx.2]; decide,λk=>(Mo _ k).symm,λ_ _=>rfl⟩
end Go.V
namespace Go.Proofs.YtndaepmjkbmjmaaGreatDoor
section
variable {w:WB} {L:List au} {a:WA} {l c:Nat} {p:WA} {n:Nat} {m:Nat->Bool} {xs:List Int}
theorem TT (size:Int) {D:au} (hD:∀ h,D h->fb a (iv xs) h) (h:St w (D :: L)) (hl:xs.length = l) (hb:l<=4611686018427387904) :
  ay Tryz.prog Co [.int .i64 size,.slice a l c] w λv w'=>∃ b,v = .pointer (some ⟨b,0,none⟩)/\St w' (vb (some ⟨b,0,none⟩) (G7 size) (fL (G7 size) (λ_=>false) xs) :: D :: L):=by
 refine Fj _ _ _ _ w _ ?_
 unfold zX
 rw [Rx]
 have hle:=Ry size
 generalize G7 size = N at *
 have e0:((N:Int) + 63) = ((N + 63:Nat):Int):=by omega
 rw [e0,zW,Vh]
 refine ⟨zf (by omega),Mm,zf (by omega),⟨by omega,rfl,by omega⟩,?_⟩
 rw [js]
 refine af h λb1 w1 h1=>af h1 λb2 w2 h2=>?_
 have h3:St w2 (vb (some ⟨b2,0,none⟩) N (λ_=>false) :: D :: L):=by
  refine Ja (a:=some ⟨b1,0,none⟩) (c:=(N + 63) / 64) (inv_zero hle) ?_
  have hlen:(List.replicate ((N + 63) / 64) 0:List Nat).length = (N + 63) / 64:=by simp
  rw [hlen]
  refine St.swap (dR (cs:=[]) ?_ ?_ ?_ (U2 _))
  ·rw [Vb,Pn]; exact h2.swap
  ·simp [cw]
  ·simp [cw]
 refine (QR hD h3 hl hb).mono ?_
 rintro _ w3 ⟨rfl,h4⟩
 exact ⟨_,rfl,b2,rfl,h4⟩
end
end Go.Proofs.YtndaepmjkbmjmaaGreatDoor
namespace Go.V
def SK (b:Nat) (n:Nat) (m:Nat->Bool):au:=ex λx:WA × Nat × List Nat=>aT [pu (Inv n x.2.2 m),aS b [.slice x.1 x.2.2.length x.2.1],own 1 x.1 x.2.2.length x.2.1 (cw x.2.2)]
theorem vd {w:WB} {L:List au} {b n:Nat} {m:Nat->Bool}:St w (SK b n m :: L)↔∃ a c ws,Inv n ws m/\St w (aS b [.slice a ws.length c] :: own 1 a ws.length c (cw ws) :: L):=by
 unfold SK
 rw [St.ex]
 constructor
 ·rintro ⟨⟨a,c,ws⟩,h⟩
  have h:=St.pu.1 (St.flat.1 h)
  exact ⟨a,c,ws,h.1,h.2⟩
 ·rintro ⟨a,c,ws,hi,h⟩
  exact ⟨⟨a,c,ws⟩,St.flat.2 (St.pu.2 ⟨hi,h⟩)⟩
theorem Rz {ws:List Nat} (h:cw ws = []):ws = []:=by simpa [cw] using h
end Go.V
namespace Go.Proofs.YtndaepmjkbmjmaaGreatDoor
section
variable {w:WB} {L:List au} {a:WA} {l c:Nat} {p:WA} {n:Nat} {m:Nat->Bool} {xs:List Int} {ws:List Nat}
theorem Po {D:au} (hD:∀ h,D h->fb a (cw ws) h) (h:St w (D :: L)) (hb:ws.length<=1024) (hn:a = none->ws = []) :
  ay Tryz.prog ij [.slice a ws.length c] w λv w'=>∃ a' c',v = .slice a' ws.length c'/\St w' (own 1 a' ws.length c' (cw ws) :: D :: L):=by
 refine gd ?_
 cases a with
 | none =>
  have h3:=hn rfl
  subst h3
  exact ⟨none,0,rfl,az 1 h⟩
 | some ad =>
  refine af h λb w1 h1=>?_
  have h2:St w1 (own 1 (some ⟨b,0,none⟩) 0 0 [] :: D :: L):=dR (cs:=[]) h1 rfl rfl (U2 _)
  refine (iw aL (rfl:ah Ty _ = .slice _) rfl rfl rfl h2 (n:=ws.length) (news:=cw ws) ?_ ?_ (by omega)).mono ?_
  ·exact fx aL (rfl:ah Ty _ = .slice _) (by simp [cw]) (.inr ⟨ad,rfl,λj u hj=>by
    obtain ⟨_,e,hc⟩:=DD (h2.swap.head hD) hj
    cases e; exact hc⟩) (λu hu=>by
    simp only [cw,U4] at hu
    obtain ⟨_,_,rfl⟩:=hu; rfl)
  ·show (0 + ws.length) * 8<=_; omega
  ·rintro _ w2 ⟨a',c',rfl,h3⟩
   rw [VA,Vn] at h3
   exact ⟨_,_,_,rfl,a',c',by rw [VA],h3⟩
end
end Go.Proofs.YtndaepmjkbmjmaaGreatDoor
namespace Go.V
def ve (n:Nat) (m:Nat->Bool):List Nat:=(List.range n).filter m
theorem Ct (n:Nat) (m:Nat->Bool):(ve n m).length = j9 n m:=rfl
theorem Mp {n k:Nat} {m:Nat->Bool} (hk:k < n) (hm:m k = true):(ve n m)[j9 k m]? = some k:=by
 have e:n = k + (n - k - 1 + 1):=by omega
 unfold ve
 rw [e,List.range_add,Vr,UZ (by simp [j9])]
 have:j9 k m - (List.filter m (List.range k)).length = 0:=by simp [j9]
 rw [this,List.range_succ_eq_map,Vq,List.filter_cons]
 simp [hm]
theorem Mq {x:Nat} (h0:x≠0) (hx:x < 2 ^ 64):Lib.ctz 64 x < 64/\x.testBit (Lib.ctz 64 x) = true/\(∀ k,k < Lib.ctz 64 x->x.testBit k = false)/\∀ k,(x &&& (x - 1)).testBit k = (x.testBit k && !(k == Lib.ctz 64 x)):=by
 have e:Lib.ctz 64 x = Lib.ctzFrom 64 x:=by unfold Lib.ctz; rw [UN h0]
 obtain ⟨q,hq,hc⟩:=Lib.ctzFrom_spec 64 x (by omega) hx
 rw [e]
 generalize Lib.ctzFrom 64 x = c at *
 have hp:0 < 2 ^ c:=Nat.two_pow_pos c
 have hx1:x - 1 = 2 ^ c * (2 * q) + (2 ^ c - 1):=by
  rw [hq,Nat.mul_add,VJ]; omega
 have t1:∀ k,x.testBit k = if k < c then false else (2 * q + 1).testBit (k - c):=λk=>by
  rw [hq]
  have:=Nat.testBit_two_pow_mul_add (2 * q + 1) (b:=0) (i:=c) hp k
  rw [Wx] at this
  rw [this]; simp
 have t2:∀ k,(x - 1).testBit k = if k < c then true else (2 * q).testBit (k - c):=λk=>by
  rw [hx1,Nat.testBit_two_pow_mul_add _ (by omega)]
  split
  ·rename_i h; rw [Nat.testBit_two_pow_sub_one]; simp [h]
  ·rfl
 refine ⟨hc,?_,λk hk=>?_,λk=>?_⟩
 ·rw [t1,UN (by omega)]; simp
 ·rw [t1,US hk]
 ·rw [Nat.testBit_and,t2,t1]
  by_cases hk:k < c
  ·simp [hk]
  ·rw [UN hk,UN hk]
   by_cases hkc:k = c
   ·subst hkc; simp
   ·have e3:k - c = (k - c - 1) + 1:=by omega
    have:(k == c) = false:=by simp [hkc]
    rw [this,e3,Nat.testBit_add_one,Nat.testBit_add_one]
    have e4:(2 * q + 1) / 2 = q:=by omega
    have e5:2 * q / 2 = q:=by omega
    rw [e4,e5]; simp
def DG (l:List Nat):List (List Value):=l.map λ(k:Nat)=>[Value.int .i64 (k:Int)]
theorem tD {a b:Nat} {m:Nat->Bool} (h:a<=b) (hf:∀ k,a<=k->k < b->m k = false):j9 b m = j9 a m:=by
 have e:b = a + (b - a):=by omega
 rw [e,Cr,Fo (a:=b - a) λk hk=>hf _ (by omega) (by omega)]; omega
def Pp:List Value:=Lib.deBruijn64tab.map λ(k:Nat)=>Value.int .u8 (k:Int)
def dy:au:=fb (some ⟨0,0,none⟩) Pp
theorem RA {A:au} {w:WB} (h:A (hp w)):St w [A]:=⟨hp w,λ_=>none,λ_=>.inr rfl,sub.refl _,λ_ _ h=>(nomatch h),h,trivial⟩
end Go.V
namespace Go.Proofs.YtndaepmjkbmjmaaGreatDoor
section
variable {w:WB} {L:List au} {b:Nat} {n:Nat} {m:Nat->Bool}
theorem Cu:SJ Tryz.prog l8 [] [.pointer (some ⟨b,0,none⟩)] (SK b n m) dy (DG (ve n m)):=by
 intro l E hE J Jx L w0 h0 hQ hy
 have h0' : ∃ a c ws,Inv n ws m/\St w0 (J 0 :: aS b [.slice a ws.length c] :: own 1 a ws.length c (cw ws) :: L):=by
  obtain ⟨a,c,ws,hi,h2⟩:=vd.1 h0.swap
  exact ⟨a,c,ws,hi,h2.EO⟩
 obtain ⟨a,c,ws,hi,hs0⟩:=h0'
 have back:∀ (A:au) w',St w' (A :: aS b [.slice a ws.length c] :: own 1 a ws.length c (cw ws) :: L)->St w' (A :: SK b n m :: L):=by
  intro A w' h
  exact (vd.2 ⟨a,c,ws,hi,h.perm ((List.Perm.swap _ _ _).trans (List.Perm.cons _ (List.Perm.swap _ _ _)))⟩).swap
 have tab2:∀ {A B C:au} {w'},St w' (A :: B :: C :: L)->St w' [dy]:=λ{A B C w'} h=>RA (hQ _ (aQ (aQ (aQ h))))
 refine pf E l ⟨b,0,none⟩ hE w0 _ ?_
 refine ⟨a,ws.length,c,by rw [hs0.swap.cell]; rfl,?_⟩
 refine ⟨λn1 w=>∃ j:Nat,n1 = j/\j<=ws.length/\St w (J (j9 (64 * j) m) :: aS b [.slice a ws.length c] :: own 1 a ws.length c (cw ws) :: L),λn1 _=>ws.length - n1.toNat,
  ⟨0,rfl,by omega,by simpa [j9] using hs0⟩,?_⟩
 rintro _ n1 w1 ⟨j,rfl,hj,hs⟩
 have hlen:=hi.len
 have hn:=hi.le
 refine aa (λh1=>?_) λh1=>?_
 ·have h1:j < ws.length:=by have:=UI h1; omega
  obtain ⟨ad,rfl⟩:=fa hs.EO (by simp [cw]; omega)
  have hg:=zd hs.EO rfl (Hv h1)
  refine aB rfl h1 ⟨_,hg,?_⟩
  have hw64:=ze hi.lt j
  have hmem:∀ k,k < 64->m (64 * j + k) = (ws.getD j 0).testBit k:=λk hk=>by
   rw [hi.mm]; unfold mem
   rw [show (64 * j + k) / 64 = j by omega,show (64 * j + k) % 64 = k by omega]
  generalize ws.getD j 0 = W at hg hw64 hmem ⊢
  refine ⟨λn3 w=>∃ (r s:Nat),n3 = r/\r < 2 ^ 64/\s<=64/\(∀ k,r.testBit k = (decide (s<=k) && W.testBit k))/\St w (J (j9 (64 * j + s) m) :: aS b [.slice (some ad) ws.length c] :: own 1 (some ad) ws.length c (cw ws) :: L),λn3 _=>n3.toNat,
   ⟨W,0,rfl,hw64,by omega,by simp,by simpa using hs⟩,?_⟩
  rintro _ n3 w2 ⟨r,s,rfl,hr,hs64,hbits,hs2⟩
  refine aa (λh2=>?_) λh2=>?_
  ·have h2:r≠0:=by simpa using h2
   obtain ⟨k1,k2,k3,k4⟩:=Mq h2 hr
   have hinj:aw (64 * (j:Int)):=⟨by omega,by omega⟩
   refine ⟨hinj,?_⟩
   refine ((vc hr w2 (tab2 hs2)).Un hE).mono ?_
   rintro _ _ ⟨rfl,rfl⟩
   generalize Lib.ctz 64 r = k at k1 k2 k3 k4 ⊢
   refine ⟨_,rfl,⟨by omega,by omega⟩,?_⟩
   have hsk:s<=k/\W.testBit k = true:=by
    rw [hbits] at k2; simpa using k2
   have hmk:m (64 * j + k) = true:=by rw [hmem k k1]; exact hsk.2
   have hkn:64 * j + k < n:=Nat.lt_of_not_le λhle=>by rw [hi.out _ hle] at hmk; cases hmk
   have hpos:j9 (64 * j + k) m = j9 (64 * j + s) m:=tD (by omega) λq hq1 hq2=>by
    have h3:=k3 (q - 64 * j) (by omega)
    rw [hbits] at h3
    have:s<=q - 64 * j:=by omega
    have h4:=hmem (q - 64 * j) (by omega)
    rw [show 64 * j + (q - 64 * j) = q by omega] at h4
    rw [h4]; simpa [this] using h3
   have hxs:(DG (ve n m))[j9 (64 * j + s) m]? = some [.int .i64 ((64 * j + k:Nat):Int)]:=by
    unfold DG
    rw [UM,<- hpos,Mp hkn hmk]; rfl
   have e64:(64 * (j:Int) + (k:Int)) = ((64 * j + k:Nat):Int):=by omega
   rw [e64]
   obtain ⟨f',tmps,asg,body,y1,y2⟩:=hy _ _ hxs _ _ (λh hh=>aQ (aQ hh)) hs2
   refine ⟨f',tmps,asg,body,y1,RoundIn.mono y2 ?_⟩
   rintro e w4 ⟨v,rfl,hE4,hv⟩
   refine ⟨v,rfl,hE4,?_⟩
   have hone:j9 (64 * j + (k + 1)) m = j9 (64 * j + s) m + 1:=by
    rw [show 64 * j + (k + 1) = 64 * j + k + 1 by omega,qm,hmk,hpos]; rfl
   rcases hv with ⟨rfl,hs4⟩ | ⟨rfl,hs4⟩
   ·refine ⟨true,rfl,?_⟩
    have e1:IntKind.u64.wrap ((r:Int) - 1) = ((r - 1:Nat):Int):=by
     have:=wrap_u64 (r - 1) (by omega)
     rw [<- this]; congr 1; omega
    have e2:=zU (a:=r) (b:=r - 1) hr (by omega)
    show (∃ r' s' : Nat,_/\_)/\_
    rw [e1,e2]
    refine ⟨⟨r &&& (r - 1),k + 1,rfl,Nat.and_lt_two_pow _ (by omega),by omega,λq=>?_,?_⟩,?_⟩
    ·rw [k4,hbits]
     by_cases hq:q < k
     ·have h3:=k3 q hq
      rw [hbits] at h3
      rw [h3]
      have:¬ k + 1<=q:=by omega
      simp [this]
     ·by_cases hqk:q = k
      ·subst hqk
       have:¬ q + 1<=q:=by omega
       simp [this]
      ·have h5:(q == k) = false:=by simp [hqk]
       have h6:s<=q:=by omega
       have h7:k + 1<=q:=by omega
       simp [h5,h6,h7]
    ·rw [hone]; exact hs4
    ·show (((r &&& (r - 1):Nat):Int)).toNat < ((r:Nat):Int).toNat
     have:r &&& (r - 1)<=r - 1:=Nat.and_le_right
     simp only [Vh]
     omega
   ·refine ⟨false,rfl,?_⟩
    exact .inr (back _ _ hs4)
  ·have h2:r = 0:=by simpa using h2
   subst h2
   refine ⟨⟨by omega,by omega⟩,⟨j + 1,by simp,by omega,?_⟩,bK h1⟩
   have:j9 (64 * (j + 1)) m = j9 (64 * j + s) m:=tD (by omega) λq hq1 hq2=>by
    have h3:=hbits (q - 64 * j)
    have h4:=hmem (q - 64 * j) (by omega)
    rw [show 64 * j + (q - 64 * j) = q by omega] at h4
    rw [h4]
    have:s<=q - 64 * j:=by omega
    simpa [this] using h3.symm
   rw [this]; exact hs2
 ·have h1:j = ws.length:=by have:=UH h1; omega
  subst h1
  rw [Pl hi,<- Ct] at hs
  refine .inl ?_
  have:(DG (ve n m)).length = (ve n m).length:=by simp [DG]
  rw [this]
  exact back _ _ hs
end
end Go.Proofs.YtndaepmjkbmjmaaGreatDoor
namespace Go.V
def np (l:List Nat):List Value:=l.map λ(k:Nat)=>Value.int .i64 (k:Int)
theorem Mr {ks:List Nat} {i k:Nat} (h:ks[i]? = some k):np (ks.take (i + 1)) = np (ks.take i) ++ [.int .i64 (k:Int)]:=by
 unfold np; rw [UR,h]; simp
end Go.V
namespace Go.Proofs.YtndaepmjkbmjmaaGreatDoor
section
variable {w:WB} {L:List au} {a:WA} {l c:Nat} {p:WA} {n:Nat} {m:Nat->Bool} {xs:List Int} {ws:List Nat}
theorem Fp {g:FuncId} {cap:List Value} {D Q:au} {ks:List Nat} {vs:List Value} (hg:Fn g = true) (hI:SJ Tryz.prog g [] cap D Q (DG ks)) (hQ:∀ h,aG L h->Q h) (hb:l + ks.length<=1099511627776)
  (h:St w (own 1 a l c vs :: D :: L)) :
  ay Tryz.prog j5 [.slice a l c,.func (.func g) #[] ⟨cap⟩] w λv w'=>∃ a' c',v = .slice a' (l + ks.length) c'/\St w' (own 1 a' (l + ks.length) c' (vs ++ np ks) :: D :: L):=by
 refine jl ?_
 refine af h λb w1 h1=>bz.2 ⟨hg,?_⟩
 refine ⟨DG ks,D,Q,λi=>ex λy:WA × Nat=>aT [aS b [.slice y.1 (l + i) y.2],own 1 y.1 (l + i) y.2 (vs ++ np (ks.take i))],pu False,λ_=>pu False,L,?_,hQ,hI,?_,?_,?_,?_,trivial⟩
 ·refine St.ex.2 ⟨(a,c),St.flat.2 ?_⟩
  simpa [np] using h1
 ·intro x hx
  simp only [DG,U4] at hx
  obtain ⟨k,_,rfl⟩:=hx
  exact ⟨_,rfl⟩
 ·intro i x hx L' w2 _ hs
  refine ⟨_,hs,λL'' w3 _ hs3=>?_⟩
  obtain ⟨⟨a1,c1⟩,hs3⟩:=St.ex.1 hs3
  have hs3:=St.flat.1 hs3
  have hx:(DG ks)[i]? = some [.int .i64 x]:=hx
  obtain ⟨k,hk,rfl⟩ : ∃ k,ks[i]? = some k/\x = (k:Int):=by
   unfold DG at hx
   rw [UM] at hx
   cases hki:ks[i]? with
   | none=>rw [hki] at hx; cases hx
   | some k=>rw [hki] at hx; simp at hx; exact ⟨k,rfl,hx.symm⟩
  have hil:=(UJ.1 hk).1
  refine ⟨a1,l + i,c1,by rw [hs3.cell]; rfl,?_⟩
  refine af hs3 λb2 w4 h4=>?_
  refine (iw aL (rfl:ah Ty _ = .slice _) rfl rfl rfl h4.EO (n:=1) (news:=[.int .i64 (k:Int)]) ?_ ?_ (by omega)).mono ?_
  ·refine fx aL (rfl:ah Ty _ = .slice _) rfl (.inr ⟨_,rfl,λj u hj=>?_⟩) (λu hu=>?_)
   ·rw [aV,h4.cell]; exact hj
   ·simp only [Va] at hu; subst hu; rfl
  ·show (l + i + 1) * 8<=_; omega
  ·rintro _ w5 ⟨a',c',rfl,h5⟩
   refine ⟨_,_,_,rfl,bC h5.EO (by simp) λw6 h6=>St.ex.2 ⟨(a',c'),St.flat.2 ?_⟩⟩
   rw [Mr hk,<- UT]
   have h7:St w6 (aS b [.slice a' (l + i + 1) c'] :: own 1 a' (l + i + 1) c' (vs ++ np (ks.take i) ++ [.int .i64 (k:Int)]) :: aS b2 [.int .i64 (k:Int)] :: L''):=h6
   exact h7.perm (List.Perm.refl _) |>.EO.tail
 ·intro w2 hs
  obtain ⟨⟨a1,c1⟩,hs⟩:=St.ex.1 hs
  have hs:=St.flat.1 hs
  have e:(DG ks).length = ks.length:=by simp [DG]
  rw [e,U8] at hs
  refine ⟨a1,_,c1,by rw [hs.cell]; rfl,λw3 h3=>⟨a1,c1,rfl,(hs.eq h3).tail⟩⟩
 ·intro w2 hs
  exact (St.pu.1 hs).1.elim
theorem KC {g:FuncId} {cap:List Value} {D Q:au} {ks:List Nat} (hg:Fn g = true) (hI:SJ Tryz.prog g [] cap D Q (DG ks)) (hQ:∀ h,aG L h->Q h) (hb:ks.length<=1099511627776) (h:St w (D :: L)) :
  ay Tryz.prog pe [.func (.func g) #[] ⟨cap⟩] w λv w'=>∃ a' c',v = .slice a' ks.length c'/\St w' (own 1 a' ks.length c' (np ks) :: D :: L):=by
 refine mZ ?_
 refine (Fp hg hI hQ (l:=0) (by omega) (az 1 h)).mono ?_
 rintro _ w' ⟨a',c',rfl,h1⟩
 rw [VA,Vn] at h1
 exact ⟨_,_,_,rfl,a',c',by rw [VA],h1⟩
end
end Go.Proofs.YtndaepmjkbmjmaaGreatDoor
namespace Go.V
theorem RB (ks:List Nat):np ks = iv (ks.map λ(k:Nat)=>(k:Int)):=by simp [np,iv]
def Us:List au->List au
 | []=>[]
 | _ :: L=>L
def Jc:Nat->List au->List au
 | 0,L=>L
 | n + 1,L=>Jc n (Us L)
abbrev QS (L:List au) (n:Nat):List au:=Jc n L
theorem Cv:∀ n,Jc n [] = []
 | 0=>rfl
 | n + 1=>Cv n
def Pq (i:Nat):List Nat->Bool
 | []=>false
 | j :: l=>Nat.beq i j || Pq i l
theorem Jd (i:Nat):∀ l,Pq i l = l.contains i
 | []=>rfl
 | j :: l=>by
  rw [Pq,Jd i l,List.contains_cons]; congr 1; rw [Vw]; simp
def Ms (L:List au):List Nat->List au->List au
 | [],T=>T
 | i :: is,T=>sx L i :: Ms L is T
def TE (n:Nat):List Nat->Bool
 | []=>true
 | i :: is=>Nat.blt i n && !Pq i is && TE n is
theorem yd:∀ (n:Nat) (L:List au) (h:Hp),aG L h ->
  ∃ (f:Nat->Hp) (g:Hp),(∀ i j,i≠j->i < n->j < n->Di (f i) (f j))/\(∀ i,i < n->Di (f i) g)/\(∀ i,i < n->sub (f i) h)/\sub g h/\(∀ i,i < n->sx L i (f i))/\aG (QS L n) g
 | 0,L,h,hs=>⟨λ_=>h,h,λ_ _ _ hi=>absurd hi (by omega),λ_ hi=>absurd hi (by omega),λ_ hi=>absurd hi (by omega),sub.refl _,λ_ hi=>absurd hi (by omega),hs⟩
 | n + 1,[],h,hs=>⟨λ_ _=>none,h,λ_ _ _ _ _ _=>.inl rfl,λ_ _ _=>.inl rfl,λ_ _ _ _ h=>(nomatch h),sub.refl _,λ_ _=>trivial,by show aG (Jc n []) _; rw [Cv]; trivial⟩
 | n + 1,A :: L,h,⟨h1,h2,d,s1,s2,ha,hl⟩=>by
  obtain ⟨f,g,f1,f2,f3,f4,f5,f6⟩:=yd n L h2 hl
  refine ⟨λi=>match i with | 0=>h1 | i + 1=>f i,g,λi j hne hi hj=>?_,λi hi=>?_,λi hi=>?_,f4.trans s2,λi hi=>?_,f6⟩
  ·cases i with
   | zero=>cases j with
    | zero=>exact absurd rfl hne
    | succ j=>exact d.sub (sub.refl _) (f3 j (by omega))
   | succ i=>cases j with
    | zero=>exact (d.sub (sub.refl _) (f3 i (by omega))).symm
    | succ j=>exact f1 i j (by omega) (by omega) (by omega)
  ·cases i with
   | zero=>exact d.sub (sub.refl _) f4
   | succ i=>exact f2 i (by omega)
  ·cases i with
   | zero=>exact s1
   | succ i=>exact (f3 i (by omega)).trans s2
  ·cases i with
   | zero=>exact ha
   | succ i=>exact f5 i (by omega)
theorem z8 {L T:List au} {n:Nat} {f:Nat->Hp} {g h:Hp} (f1:∀ i j,i≠j->i < n->j < n->Di (f i) (f j)) (f2:∀ i,i < n->Di (f i) g) (f3:∀ i,i < n->sub (f i) h) (f4:sub g h)
  (f5:∀ i,i < n->sx L i (f i)) (f6:aG T g):∀ is:List Nat,TE n is = true->∃ u,sub u h/\aG (Ms L is T) u/\∀ i,i < n->i∉is->Di (f i) u
 | [],_=>⟨g,f4,f6,λi hi _=>f2 i hi⟩
 | i :: is,hok=>by
  simp only [TE,Jd,U3,VZ,Nat.blt_eq] at hok
  obtain ⟨⟨hi,hni⟩,hok⟩:=hok
  have hni:i∉is:=by simpa using hni
  obtain ⟨u,u1,u2,u3⟩:=z8 f1 f2 f3 f4 f5 f6 is hok
  have d:=u3 i hi hni
  refine ⟨LB (f i) u,y8 (f3 i hi) u1,⟨f i,u,d,rH _ _,rJ d,f5 i hi,u2⟩,λj hj hjn=>?_⟩
  simp only [U1,not_or] at hjn
  exact (y9 (f1 i j (λe=>hjn.1 e.symm) hi hj) (u3 j hj hjn.2).symm).symm
theorem St.pick {w:WB} {L:List au} (h:St w L) (n:Nat) (is:List Nat) (hok:TE n is = true:=by rfl):St w (Ms L is (QS L n)):=by
 obtain ⟨f,g,f1,f2,f3,f4,f5,f6⟩:=yd n L _ h
 obtain ⟨u,u1,u2,_⟩:=z8 f1 f2 f3 f4 f5 f6 is hok
 exact iR u2 u1
example {w:WB} {A B C:au} {L:List au} (h:St w (A :: B :: C :: L)):St w (C :: A :: L):=h.pick 3 [2,0]
def Gr (w w' : WB):Prop:=sub (hp w) (hp w')
theorem Gr.refl (w:WB):Gr w w:=sub.refl _
theorem Gr.trans {a b c:WB} (h:Gr a b) (k:Gr b c):Gr a c:=sub.trans h k
theorem Gr.of_eq {w w' : WB} (h:hp w' = hp w):Gr w w':=by unfold Gr; rw [h]; exact sub.refl _
theorem St.gr {w w' : WB} {L:List au} (h:St w L) (g:Gr w w'):St w' L:=iR h g
abbrev all (w:WB):List au:=[has (hp w)]
theorem b_ {h0 h:Hp} (s:sub h0 h):aG [has h0] h:=⟨h0,λ_=>none,λ_=>.inr rfl,s,λ_ _ h=>(nomatch h),sub.refl _,trivial⟩
theorem St.here {w:WB} {h0:Hp} (s:sub h0 (hp w)):St w [V.has h0]:=b_ s
theorem St.all (w:WB):St w (V.all w):=b_ (sub.refl _)
theorem ye {L M N:List au} (hm:∀ h,aG M h->aG N h):∀ {h:Hp},aG (L ++ M) h->aG (L ++ N) h:=by
 induction L with
 | nil=>exact λh=>hm _ h
 | cons A L ih=>exact λ⟨h1,h2,d,s1,s2,ha,hl⟩=>⟨h1,h2,d,s1,s2,ha,ih hl⟩
theorem KD {L:List au} {h0:Hp} (hl:aG L h0):∀ h,aG [has h0] h->aG L h:=λh hh=>iR hl (kG hh)
theorem St.on {w' : WB} {N L:List au} {h0:Hp} (h:St w' (N ++ [V.has h0])) (hl:aG L h0):St w' (N ++ L):=ye (KD hl) h
theorem St.vf {w' : WB} {A:au} {L:List au} {h0:Hp} (h:St w' [A,V.has h0]) (hl:aG L h0):St w' (A :: L):=St.on (N:=[A]) h hl
theorem St.Je {w' : WB} {A B:au} {L:List au} {h0:Hp} (h:St w' [A,B,V.has h0]) (hl:aG L h0):St w' (A :: B :: L):=St.on (N:=[A,B]) h hl
theorem St.gone {w' : WB} {N:List au} {h0:Hp} (h:St w' (N ++ [V.has h0])):sub h0 (hp w'):=by
 induction N with
 | nil=>exact kG h
 | cons A N ih=>exact ih h.tail
theorem St.aR {w' : WB} {A:au} {h0:Hp} (h:St w' [A,V.has h0]):sub h0 (hp w'):=St.gone (N:=[A]) h
theorem St.freeze {w:WB} {A:au} {L:List au} (h:St w (A :: L)):∃ h0,aG L h0/\sub h0 (hp w)/\St w [A,V.has h0]:=by
 obtain ⟨h1,h2,d,s1,s2,ha,hl⟩:=h
 exact ⟨h2,hl,s2,h1,h2,d,s1,s2,ha,b_ (sub.refl _)⟩
theorem St.first {w:WB} {A:au} {L:List au} (h:St w (A :: L)):∃ h1,sub h1 (hp w)/\A h1:=by
 obtain ⟨h1,h2,d,s1,s2,ha,hl⟩:=h
 exact ⟨h1,s1,ha⟩

def av (h:Hp) (a:Addr) (vs:List Value):Prop:=∀ j v,vs[j]? = some v->oT h (a.add j) = some v
theorem av.mono {h h' : Hp} {a:Addr} {vs:List Value} (s:sub h h') (r:av h a vs):av h' a vs:=λj v hj=>nm s (r j v hj)
theorem av.cell {w:WB} {h:Hp} {a:Addr} {vs:List Value} (r:av h a vs) (s:sub h (hp w)) {j:Nat} {v:Value} (hj:vs[j]? = some v):w.cell? (a.add j) = some v:=j8 (nm s (r j v hj))
theorem av.cell0 {w:WB} {h:Hp} {a:Addr} {v:Value} {vs:List Value} (r:av h a (v :: vs)) (s:sub h (hp w)):w.cell? a = some v:=by
 have:=r.cell s (j:=0) (v:=v) rfl
 simpa [Addr.add] using this
theorem av.drop {h:Hp} {a:Addr} {us vs:List Value} (r:av h a (us ++ vs)):av h (a.add us.length) vs:=λj v hj=>by
 rw [add_add]; exact r _ v (by rw [UZ (by omega),Vy]; exact hj)
theorem av.take {h:Hp} {a:Addr} {us vs:List Value} (r:av h a (us ++ vs)):av h a us:=λj v hj =>
 r j v (by rw [U0 (UJ.1 hj).1]; exact hj)
theorem Cw {w:WB} {h:Hp} {a:Addr} (s:sub h (hp w)):∀ (vs:List Value) (i:Nat),av h (a.add i) vs->rowAt w a i vs.length = some vs
 | [],i,_=>rfl
 | v :: vs,i,r=>by
  have h1:w.cell? (a.add i) = some v:=r.cell0 s
  have h2:av h (a.add (i + 1)) vs:=by
   rw [<- add_add]; exact av.drop (us:=[v]) r
  simp only [Vl,rowAt,h1,Cw s vs (i + 1) h2]
theorem av.at {w:WB} {h:Hp} {a:Addr} {vs:List Value} {n:Nat} (r:av h a vs) (s:sub h (hp w)) (hn:vs.length = n):rowAt w a 0 n = some vs:=by
 subst hn; exact Cw s vs 0 (by simpa [Addr.add] using r)
theorem vg {b:Nat} {vs:List Value} {h:Hp} (hc:aS b vs h):av h ⟨b,0,none⟩ vs:=λj v hj=>by
 obtain ⟨e,he⟩:=hc
 rw [aV]; unfold oT; simp only [he]; simpa using hj
class nV (α : Type) where
 n:Nat
 rd:Hp->α->List Value->Prop
 mono:∀ {h h' : Hp} {x:α} {vs:List Value},sub h h'->rd h x vs->rd h' x vs
 len:∀ {h:Hp} {x:α} {vs:List Value},rd h x vs->vs.length = n
abbrev rd {α : Type} [nV α] (h:Hp) (x:α) (vs:List Value):Prop:=nV.rd h x vs
def aX {α : Type} [nV α] (h:Hp) (xs:List α) (a:WA) (l:Nat):Prop :=
 xs.length = l/\∀ i x,xs[i]? = some x->∃ ad vs,a = some ad/\av h (ad.add (cT i (nV.n α))) vs/\rd h x vs
section
variable {α : Type} [nV α] {h h' : Hp} {w:WB} {xs:List α} {a:WA} {l:Nat}
theorem aX.mono (s:sub h h') (r:aX h xs a l):aX h' xs a l :=
 ⟨r.1,λi x hx=>by obtain ⟨ad,vs,h1,h2,h3⟩:=r.2 i x hx; exact ⟨ad,vs,h1,h2.mono s,nV.mono s h3⟩⟩
theorem aX.nil:aX h ([] : List α) a 0:=⟨rfl,λi x hx=>by simp at hx⟩
theorem aX.get (r:aX h xs a l) {i:Nat} (hi:i < l):∃ x ad vs,xs[i]? = some x/\a = some ad/\av h (ad.add (cT i (nV.n α))) vs/\rd h x vs:=by
 have hl:i < xs.length:=by rw [r.1]; exact hi
 obtain ⟨ad,vs,h1,h2,h3⟩:=r.2 i xs[i] (UK hl)
 exact ⟨xs[i],ad,vs,UK hl,h1,h2,h3⟩
theorem aX.drop {k m:Nat} (r:aX h xs a l) (hk:k<=l) (hm:l<=m):aX h (xs.drop k) (eL a k m (nV.n α)) (l - k):=by
 refine ⟨by rw [V3,r.1],λi x hx=>?_⟩
 rw [Vk] at hx
 have hlt:=(UJ.1 hx).1
 obtain ⟨ad,vs,rfl,h2,h3⟩:=r.2 _ x hx
 have hr:=r.1
 refine ⟨ad.add (cT k (nV.n α)),vs,?_,?_,h3⟩
 ·unfold eL; rw [UN (by omega)]; rfl
 ·rw [add_add,aF,aF,<- Nat.add_mul,<- aF]; exact h2
theorem aX.take {k:Nat} (r:aX h xs a l) (hk:k<=l):aX h (xs.take k) a k:=by
 refine ⟨by rw [U9,r.1]; omega,λi x hx=>?_⟩
 rw [VT] at hx
 split at hx
 ·exact r.2 i x hx
 ·cases hx
class qo (α : Type) extends nV α where
 val:α->Value
 one:∀ {h:Hp} {x:α} {vs:List Value},rd h x vs↔vs = [val x]
 n1:n = 1
end
section
variable {α : Type} [qo α] {h h' : Hp} {w:WB} {xs:List α} {a:WA} {l:Nat}
theorem aX.at (r:aX h xs a l) {i:Nat} {x:α} (hx:xs[i]? = some x):∃ ad,a = some ad/\∀ w,sub h (hp w)->w.cell? (ad.add i) = some (qo.val x):=by
 obtain ⟨ad,vs,h1,h2,h3⟩:=r.2 i x hx
 have:=qo.one.1 h3
 subst this
 refine ⟨ad,h1,λw s=>?_⟩
 have:=h2.cell0 s
 rw [aF,qo.n1,VJ] at this
 exact this
theorem aX.dM (r:aX h xs a l) {i:Nat} (hi:i < l):∃ x ad,xs[i]? = some x/\a = some ad/\∀ w,sub h (hp w)->w.cell? (ad.add i) = some (qo.val x):=by
 have hl:i < xs.length:=by rw [r.1]; exact hi
 obtain ⟨ad,h1,h2⟩:=r.at (UK hl)
 exact ⟨_,ad,UK hl,h1,h2⟩
theorem dN (hl:xs.length = l) (hr:fb a (xs.map qo.val) h):aX h xs a l:=by
 refine ⟨hl,λi x hx=>?_⟩
 rcases hr with hn | ⟨ad,rfl,hc⟩
 ·have:xs = []:=by simpa using hn
  subst this; simp at hx
 ·refine ⟨ad,[qo.val x],rfl,λj v hj=>?_,qo.one.2 rfl⟩
  cases j with
  | zero =>
   simp only [Wn,Option.some.injEq] at hj
   subst hj
   rw [aF,qo.n1,VJ]
   have:=hc i (qo.val x) (by rw [UM,hx]; rfl)
   simpa [add_add] using this
  | succ j=>simp at hj
theorem aX.row (r:aX h xs a l):fb a (xs.map qo.val) h:=by
 cases xs with
 | nil=>exact .inl rfl
 | cons x0 xs' =>
  obtain ⟨ad,vs,rfl,_⟩:=r.2 0 x0 rfl
  refine .inr ⟨ad,rfl,λj v hj=>?_⟩
  rw [UM] at hj
  cases hx:(x0 :: xs')[j]? with
  | none=>rw [hx] at hj; cases hj
  | some x =>
   rw [hx] at hj; cases hj
   obtain ⟨ad',vs,e,h2,h3⟩:=r.2 j x hx
   cases e
   have:=qo.one.1 h3
   subst this
   have:=h2 0 _ rfl
   rw [aF,qo.n1,VJ] at this
   simpa [add_add] using this
end
instance:qo Int:={ n:=1,rd:=λ_ x vs=>vs = [.int .i64 x],mono:=λ_ h=>h,len:=λh=>by rw [h]; rfl,val:=λx=>.int .i64 x,one:=Iff.rfl,n1:=rfl }
instance:qo Bool:={ n:=1,rd:=λ_ x vs=>vs = [.bool x],mono:=λ_ h=>h,len:=λh=>by rw [h]; rfl,val:=λx=>.bool x,one:=Iff.rfl,n1:=rfl }
instance:qo ByteArray:={ n:=1,rd:=λ_ x vs=>vs = [.string x],mono:=λ_ h=>h,len:=λh=>by rw [h]; rfl,val:=λx=>.string x,one:=Iff.rfl,n1:=rfl }
instance {α : Type} [nV α] : nV (List α) :=
 { n:=1,rd:=λh xs vs=>∃ a l c,vs = [.slice a l c]/\l<=c/\aX h xs a l,mono:=λs ⟨a,l,c,h1,h3,h2⟩=>⟨a,l,c,h1,h3,h2.mono s⟩,len:=λ⟨_,_,_,h,_⟩=>by rw [h]; rfl }
def anyI:Int->Prop:=λz=>-9223372036854775808<=z/\z<=9223372036854775807
def bv (bs:List Bool):List Value:=bs.map λb=>Value.bool b
theorem dO {h:Hp} {xs:List Int} {a:WA} {l:Nat} (hl:xs.length = l) (hr:fb a (iv xs) h):aX h xs a l:=dN hl hr
theorem Hx {h:Hp} {xs:List Bool} {a:WA} {l:Nat} (hl:xs.length = l) (hr:fb a (bv xs) h):aX h xs a l:=dN hl hr
theorem aX.iv {h:Hp} {xs:List Int} {a:WA} {l:Nat} (r:aX h xs a l):fb a (V.iv xs) h:=r.row
theorem iW (xs:List Int):(iv xs).length = xs.length:=by simp [iv]
theorem Hy (xs:List Bool):(bv xs).length = xs.length:=by simp [bv]
theorem Mt {w w' : WB} (h:hp w' = hp w):sub (hp w) (hp w'):=Gr.of_eq h
def cr (bs:List Bool):Nat->Bool:=λk=>bs.getD k false
def mb (bs:List Bool):List Nat:=ve bs.length (cr bs)
def fG (bs:List Bool):List Int:=(mb bs).map λ(k:Nat)=>(k:Int)
def bn (bs:List Bool):Nat:=j9 bs.length (cr bs)
def DH (n:Nat) (m:Nat->Bool):List Bool:=(List.range n).map m
def dm (bs:List Bool) (xs:List Int):List Bool:=DH bs.length (fL bs.length (cr bs) xs)
def hasB (bs:List Bool) (k:Int):Bool:=decide (0<=k) && cr bs k.toNat
def BH (size:Int) (xs:List Int):List Bool:=dm (List.replicate (G7 size) false) xs
def cB (bs:List Bool) (vss:List (List Bool)):List Bool:=vss.foldl (λb v=>dm b (fG v)) bs
theorem vh (n:Nat) (m:Nat->Bool):(DH n m).length = n:=by simp [DH]
theorem bF (bs:List Bool) (xs:List Int):(dm bs xs).length = bs.length:=vh _ _
theorem Pr (size:Int) (xs:List Int):(BH size xs).length = G7 size:=by simp [BH,bF]
theorem vi {bs:List Bool} {k:Nat} (h:bs.length<=k):cr bs k = false:=by
 unfold cr; rw [UX,U5 h]; rfl
theorem Jf {bs:List Bool} {k:Nat} {b:Bool} (h:bs[k]? = some b):cr bs k = b:=by
 unfold cr; rw [UX,h]; rfl
theorem Jg {n:Nat} {m:Nat->Bool} (hm:∀ k,n<=k->m k = false):cr (DH n m) = m:=by
 funext k
 by_cases h:k < n
 ·exact Jf (by simp [DH,h])
 ·rw [vi (by rw [vh]; omega),hm k (by omega)]
theorem Jh (bs:List Bool):DH bs.length (cr bs) = bs:=by
 apply Vz
 intro k
 by_cases h:k < bs.length
 ·simp [DH,h,cr]
 ·rw [U5 (by rw [vh]; omega),U5 (by omega)]
theorem vj {cs bs:List Bool} (hl:cs.length = bs.length) (h:∀ k,cr cs k = cr bs k):cs = bs:=by
 rw [<- Jh cs,<- Jh bs,hl]; congr 1; funext k; exact h k
theorem gE (bs:List Bool) (xs:List Int):cr (dm bs xs) = fL bs.length (cr bs) xs :=
 Jg λk hk=>by simp [fL,vi hk]; omega
theorem vk (n k:Nat):cr (List.replicate n false) k = false:=by
 unfold cr; rw [UX,Wo]; split <;> rfl
theorem je (bs:List Bool):bn bs<=bs.length:=Hw _ _
theorem zg (bs:List Bool):(fG bs).length = bn bs:=by rw [fG,UQ]; rfl
theorem RC {bs:List Bool} {k:Nat}:k∈mb bs↔cr bs k = true:=by
 simp only [mb,ve,Vx,Vg]
 refine ⟨λh=>h.2,λh=>⟨Nat.lt_of_not_le λhl=>?_,h⟩⟩
 rw [vi hl] at h; cases h
theorem Ps {bs:List Bool} {x:Int}:x∈fG bs↔hasB bs x = true:=by
 simp only [fG,U4,RC,hasB,U3,UY]
 constructor
 ·rintro ⟨k,h,rfl⟩; exact ⟨by omega,h⟩
 ·rintro ⟨h1,h2⟩; exact ⟨_,h2,by omega⟩
theorem DI {bs:List Bool} {k:Nat}:(fG bs).contains (k:Int) = cr bs k:=by
 rw [Vw,Wa,Ps]
 simp [hasB]
theorem RD (bs:List Bool):iv (fG bs) = np (mb bs):=by rw [fG,RB]
theorem fe (bs vs:List Bool) (k:Nat):cr (dm bs (fG vs)) k = (cr bs k || (decide (k < bs.length) && cr vs k)):=by
 rw [gE,fL,DI]
theorem tY (vss:List (List Bool)):∀ bs,(cB bs vss).length = bs.length:=by
 induction vss with
 | nil=>exact λ_=>rfl
 | cons v l ih=>exact λbs=>(ih _).trans (bF _ _)
theorem KE (vss:List (List Bool)):∀ (bs:List Bool) (k:Nat),cr (cB bs vss) k = (cr bs k || (decide (k < bs.length) && vss.any λv=>cr v k)):=by
 induction vss with
 | nil=>intro bs k; simp [cB]
 | cons v l ih =>
  intro bs k
  show cr (cB (dm bs (fG v)) l) k = _
  rw [ih,bF,fe,List.any_cons]
  cases cr bs k <;> cases decide (k < bs.length) <;> simp
theorem Fq {vss:List (List Bool)} {bs v:List Bool} {j:Nat} (h:vss[j]? = some v):cB bs (vss.take (j + 1)) = dm (cB bs (vss.take j)) (fG v):=by
 unfold cB; rw [UR,h,List.foldl_append]; rfl
theorem KF {bs:List Bool} {xs:List Int} {j:Nat} {x:Int} (h:xs[j]? = some x):dm (dm bs (xs.take j)) [x] = dm bs (xs.take (j + 1)):=by
 refine vj (by simp [bF]) λk=>?_
 rw [gE,gE,gE]
 simp only [fL,bF,cK h,mz,List.contains_cons,List.contains_nil,Bool.or_false]
 cases cr bs k <;> cases decide (k < bs.length) <;> simp
theorem Mu {n:Nat} {m m' : Nat->Bool} (h:∀ k,m k = true->m' k = true):j9 n m<=j9 n m':=by
 unfold j9
 rw [<- List.countP_eq_length_filter,<- List.countP_eq_length_filter]
 exact List.countP_mono_left λk _=>h k
theorem nq (bs:List Bool) (xs:List Int):bn bs<=bn (dm bs xs):=by
 unfold bn; rw [bF,gE]
 exact Mu λk h=>by simp [fL,h]
def dY (p:WA) (bs:List Bool):au:=vb p bs.length (cr bs)
def nr (h:Hp) (p:WA) (bs:List Bool):Prop :=
 (p = none/\bs = [])\/∃ b a c ws,p = some ⟨b,0,none⟩/\Inv bs.length ws (cr bs)/\av h ⟨b,0,none⟩ [.slice a (List.length ws) c,.int .i64 (bs.length:Int)]/\fb a (cw ws) h
theorem fb.mono {h h' : Hp} {a:WA} {vs:List Value} (s:sub h h') (r:fb a vs h):fb a vs h':=by
 rcases r with r | ⟨ad,e,hc⟩
 ·exact .inl r
 ·exact .inr ⟨ad,e,λj v hj=>nm s (hc j v hj)⟩
theorem nr.mono {h h' : Hp} {p:WA} {bs:List Bool} (s:sub h h') (r:nr h p bs):nr h' p bs:=by
 rcases r with r | ⟨b,a,c,ws,h1,h2,h3,h4⟩
 ·exact .inl r
 ·exact .inr ⟨b,a,c,ws,h1,h2,h3.mono s,h4.mono s⟩
theorem DJ {h:Hp} {p:WA} {bs:List Bool} (ho:dY p bs h):nr h p bs:=by
 rcases ho with ⟨h1,h2,_⟩ | ⟨b,a,c,ws,h1,h2,h3⟩
 ·exact .inl ⟨h1,UU h2⟩
 ·obtain ⟨g1,g2,d,s1,s2,ha,g3,g4,d',s3,s4,hb,_⟩:=h3
  exact .inr ⟨b,a,c,ws,h1,h2,(vg ha).mono s1,(cF hb).mono (s3.trans s2)⟩
theorem St.nr {w:WB} {L:List au} {p:WA} {bs:List Bool} (h:St w (dY p bs :: L)):nr (hp w) p bs:=by
 obtain ⟨h1,s,ha⟩:=h.first
 exact (DJ ha).mono s
theorem nr.le {h:Hp} {p:WA} {bs:List Bool} (r:V.nr h p bs):bs.length<=1024:=by
 rcases r with ⟨_,rfl⟩ | ⟨b,a,c,ws,_,h2,_⟩
 ·simp
 ·exact h2.le
theorem Mv {w:WB} {L:List au} {p:WA} {n:Nat} {m:Nat->Bool} (h:St w (vb p n m :: L)):St w (dY p (DH n m) :: L):=by
 unfold dY; rw [vh,Jg λk hk=>Ml h hk]; exact h
instance:qo (WA):={ n:=1,rd:=λ_ x vs=>vs = [.pointer x],mono:=λ_ h=>h,len:=λh=>by rw [h]; rfl,val:=λx=>.pointer x,one:=Iff.rfl,n1:=rfl }
end Go.V
namespace Go.Proofs.YtndaepmjkbmjmaaGreatDoor
section
variable {w:WB} {L:List au} {a:WA} {l c:Nat} {p q:WA} {bs cs:List Bool} {xs:List Int} {ws:List Nat}
theorem Mw (h:St w (dY p bs :: L)) (hx:∀ h,aG L h->aX h xs a l) (hb:l<=4611686018427387904) :
  ay Tryz.prog qe [.pointer p,.slice a l c] w λv w'=>v = .int .i64 ((bn (dm bs xs):Int) - bn bs)/\St w' (dY p (dm bs xs) :: L):=by
 obtain ⟨h0,hl,hs,h1⟩:=h.freeze
 have hx:=hx h0 hl
 refine (QR (D:=has h0) (L:=[]) (λh hh=>hx.iv.mono hh) h1 hx.1 hb).mono ?_
 rintro _ w' ⟨rfl,h2⟩
 refine ⟨?_,?_⟩
 ·simp only [bn,bF,gE]
 ·have h2:=Mv h2
  exact h2.vf hl
theorem RE (size:Int) (hx:aX (hp w) xs a l) (hb:l<=4611686018427387904) :
  ay Tryz.prog Co [.int .i64 size,.slice a l c] w λv w'=>∃ b,v = .pointer (some ⟨b,0,none⟩)/\St w' (dY (some ⟨b,0,none⟩) (BH size xs) :: all w):=by
 refine (TT size (D:=has (hp w)) (L:=[]) (λh hh=>hx.iv.mono hh) (St.all w) hx.1 hb).mono ?_
 rintro _ w' ⟨b,rfl,h2⟩
 refine ⟨b,rfl,?_⟩
 have h2:=Mv h2
 have e:DH (G7 size) (fL (G7 size) (λ_=>false) xs) = BH size xs:=by
  unfold BH dm
  rw [Wg]
  congr 2
  funext k; exact (vk _ k).symm
 rw [e] at h2
 exact h2
theorem QT (h:nr (hp w) p bs):ay Tryz.prog zZ [.pointer p] w λv w'=>∃ b,v = .func (.func l8) #[] #[.pointer (some ⟨b,0,none⟩)]/\St w' (SK b bs.length (cr bs) :: all w):=by
 refine wU ?_
 refine af (St.all w) λb w1 h1=>?_
 rcases h with ⟨rfl,rfl⟩ | ⟨b2,a,c,ws,rfl,hi,h2,hr⟩
 ·refine ⟨b,rfl,vd.2 ⟨none,0,[],inv_zero (UW _),?_⟩⟩
  exact (az 1 h1).swap
 ·have hl:ws.length<=1024:=by rw [hi.len]; have:=hi.le; omega
  refine ⟨a,ws.length,c,h2.cell0 h1.aR,?_⟩
  refine (Po (D:=has (hp w)) (λh hh=>hr.mono hh) h1.swap hl (λe=>?_)).mono ?_
  ·subst e
   rcases hr with hr | ⟨_,hr,_⟩
   ·exact Rz hr
   ·cases hr
  rintro _ w2 ⟨a',c',rfl,h3⟩
  refine ⟨_,_,_,rfl,?_⟩
  refine bC h3.EO (by simp) λw3 h4=>?_
  exact ⟨b,rfl,vd.2 ⟨a',c',ws,hi,h4⟩⟩
theorem Cx (h:nr (hp w) p bs) (ht:dy (hp w)):ay Tryz.prog tL [.pointer p] w λv w'=>∃ a' c',v = .slice a' (bn bs) c'/\St w' (own 1 a' (bn bs) c' (iv (fG bs)) :: all w):=by
 refine qg ?_
 have hn:=h.le
 have hc:=je bs
 refine (QT h).mono ?_
 rintro _ w1 ⟨b,rfl,h1⟩
 refine ⟨_,_,rfl,?_⟩
 refine (KC (rfl:Fn _ = true) Cu (λh hh=>fb.mono (kG hh) ht) (by rw [Ct]; show bn bs<=_; omega) h1).mono ?_
 rintro _ w2 ⟨a',c',rfl,h3⟩
 refine ⟨_,_,_,rfl,a',c',rfl,?_⟩
 rw [RD]
 exact h3.swap.tail
theorem DK (h:St w (own 1 a l c (iv xs) :: L)):aX (hp w) xs a l:=by
 have hl:=iu h
 obtain ⟨h1,s,ha⟩:=h.first
 exact (dO (by simpa [iv] using hl) (cF ha)).mono s
end
end Go.Proofs.YtndaepmjkbmjmaaGreatDoor
namespace Go.V
theorem rP {bs cs:List Bool} (h:∀ k,cr cs k = true->cr bs k = true):dm bs (fG cs) = bs:=by
 refine vj (bF _ _) λk=>?_
 rw [fe]
 cases hk:cr cs k
 ·simp
 ·simp [h k hk]
theorem BI (bs:List Bool) (vss:List (List Bool)) (k:Nat) (h:cr bs k = true):cr (cB bs vss) k = true:=by
 rw [KE,h]; rfl
theorem Hz (vss:List (List Bool)):∀ bs,bn bs<=bn (cB bs vss):=by
 induction vss with
 | nil=>exact λ_=>U2 _
 | cons v l ih=>exact λbs=>Vf (nq bs (fG v)) (ih _)
theorem Ji {ks:List Nat} {i:Nat} {us:List Value} (h:(DG ks)[i]? = some us):∃ k,ks[i]? = some k/\us = [.int .i64 (k:Int)]:=by
 unfold DG at h
 rw [UM] at h
 cases hk:ks[i]? with
 | none=>rw [hk] at h; cases h
 | some k=>rw [hk] at h; cases h; exact ⟨k,rfl,rfl⟩
theorem Pt (ks:List Nat):(DG ks).length = ks.length:=by simp [DG]
theorem Pu {bs:List Bool} {i k:Nat} (h:(mb bs)[i]? = some k):(fG bs)[i]? = some (k:Int):=by simp [fG,h]
theorem qp {L:List au} {A:au}:∀ {h:Hp},A∈L->aG L h->∃ h1,sub h1 h/\A h1:=by
 induction L with
 | nil=>intro h hm; simp at hm
 | cons B L ih =>
  rintro h hm ⟨h1,h2,d,s1,s2,ha,hl⟩
  rcases U1.1 hm with rfl | hm
  ·exact ⟨h1,s1,ha⟩
  ·obtain ⟨h3,s3,h4⟩:=ih hm hl
   exact ⟨h3,s3.trans s2,h4⟩
end Go.V
namespace Go.Proofs.YtndaepmjkbmjmaaGreatDoor
section
variable {w:WB} {L:List au} {a:WA} {l c:Nat} {p q:WA} {bs cs:List Bool} {xs:List Int} {os:List (WA)} {vss:List (List Bool)}
theorem Jj (h:St w (dY p bs :: L)) (hx:∀ h,aG L h->aX h os a l) (hv:vss.length = os.length) (ho:∀ h,aG L h->∀ (i:Nat) q v,os[i]? = some q->vss[i]? = some v->nr h q v\/(q = p/\v = bs))
  (ht:∀ h,aG L h->dy h) (hb:l<=4611686018427387904) :
  ay Tryz.prog wW [.pointer p,.slice a l c] w λv w'=>v = .int .i64 ((bn (cB bs vss):Int) - bn bs)/\St w' (dY p (cB bs vss) :: L):=by
 obtain ⟨h0,hl,_,h1⟩:=h.freeze
 have hx:=hx h0 hl
 have ho:=ho h0 hl
 have ht:dy h0:=ht h0 hl
 have hn:=h.nr.le
 have done:∀ w',St w' (dY p (cB bs vss) :: [has h0])->St w' (dY p (cB bs vss) :: L):=λw' h=>h.vf hl
 clear h hl
 refine tX ?_
 refine af h1 λb1 w1 h1=>af h1 λb2 w2 h1=>bC h1 (by simp) λw3 h1=>?_
 have cb:∀ j,bn (cB bs (vss.take j))<=1024:=λj=>by
  have:=je (cB bs (vss.take j)); rw [tY] at this; omega
 refine ⟨λn1 w=>∃ j:Nat,n1 = j/\j<=l/\St w [aS b2 [.int .i64 ((bn (cB bs (vss.take j)):Int) - bn bs)],aS b1 [.pointer p],dY p (cB bs (vss.take j)),has h0],λn1 _=>l - n1.toNat,
  ⟨0,rfl,by omega,?_⟩,?_⟩
 ·show St w3 [aS b2 [.int .i64 ((bn bs:Int) - bn bs)],_,_,_]
  rw [Int.sub_self]; exact h1
 rintro _ n1 w4 ⟨j,rfl,hj,hs⟩
 refine aa (λhlt=>?_) λhlt=>?_
 ·have hlt:j < l:=by have:=UI hlt; omega
  obtain ⟨q,ad,hq,rfl,hc⟩:=hx.dM hlt
  have hs0:sub h0 (hp w4):=(hs.pick 4 [3]).has
  refine aB rfl hlt ⟨q,hc _ hs0,?_⟩
  obtain ⟨v,hvj⟩ : ∃ v,vss[j]? = some v:=⟨vss[j]'(by rw [hv,hx.1]; omega),UK _⟩
  have hU:=Fq (bs:=bs) hvj
  have hlenU:(cB bs (vss.take j)).length = bs.length:=tY _ _
  have cbj:=cb j
  have cbj1:=cb (j + 1)
  have c0:=Hz (vss.take j) bs
  have c1:=nq (cB bs (vss.take j)) (fG v)
  rw [<- hU] at c1
  obtain ⟨v',hr',he'⟩ : ∃ v',nr (hp w4) q v'/\dm (cB bs (vss.take j)) (fG v') = cB bs (vss.take (j + 1)):=by
   rcases ho j q v hq hvj with hr | ⟨rfl,rfl⟩
   ·exact ⟨v,hr.mono hs0,hU.symm⟩
   ·refine ⟨cB v (vss.take j),(hs.pick 4 [2]).nr,?_⟩
    rw [hU,rP λ_ h=>h,rP λk hk=>BI _ _ _ hk]
  rw [<- he'] at c1 cbj1
  generalize hU0:cB bs (vss.take j) = U at *
  refine (QT hr').mono ?_
  rintro _ w5 ⟨b3,rfl,h5⟩
  have h6:=h5.vf hs
  refine ⟨_,_,rfl,bz.2 ⟨rfl,?_⟩⟩
  refine ⟨DG (mb v'),SK b3 v'.length (cr v'),dy,λi=>aT [aS b2 [.int .i64 ((bn (dm U ((fG v').take i)):Int) - bn bs)],aS b1 [.pointer p],dY p (dm U ((fG v').take i))],pu False,λ_=>pu False,[has h0],?_,(λh hh=>fb.mono (kG hh) ht),Cu,?_,?_,?_,?_,trivial⟩
  ·have h7:=h6.pick 5 [1,2,3,0,4]
   have e:dm U [] = U:=vj (bF _ _) λk=>by rw [gE]; simp [fL]
   show St w5 [aT [aS b2 [.int .i64 ((bn (dm U []):Int) - bn bs)],_,dY p (dm U [])],_,_]
   rw [e]
   exact (St.flat.2 (show St w5 ([_,_,_] ++ [_,_]) from h7))
  ·intro x hx
   obtain ⟨i,hi,rfl⟩:=List.mem_iff_getElem.1 hx
   obtain ⟨k,_,e⟩:=Ji (UK hi)
   exact ⟨_,e⟩
  ·intro i x hx L' w6 _ hs6
   obtain ⟨k,hk,e⟩:=Ji hx
   cases e
   refine ⟨_,hs6,λL'' w7 _ hs7 w8 hd=>?_⟩
   have hs8:=St.flat.1 (hs7.drawn hd)
   refine ⟨λw=>w.cell? ⟨b2,0,none⟩ = some (.int .i64 ((bn (dm U ((fG v').take i)):Int) - bn bs))/\w.cell? ⟨b1,0,none⟩ = some (.pointer p),⟨hs8.cell 0,hs8.swap.cell 0⟩,_,λw h=>h.1,_,λw h=>h.2,?_⟩
   refine af hs8 λb4 w9 h9=>⟨⟨h9.swap.cell 0,h9.EO.cell 0⟩,?_⟩
   refine (Mw (xs:=[(k:Int)]) (l:=1) (h9.pick 4 [3,0,1,2]) (λh hh=>?_) (by omega)).mono ?_
   ·obtain ⟨h1,_,_,s1,_,⟨e,he⟩,_⟩:=hh
    exact (dO (xs:=[(k:Int)]) rfl (.inr ⟨_,rfl,vg ⟨e,he⟩⟩)).mono s1
   ·rintro _ w10 ⟨rfl,h10⟩
    rw [KF (Pu hk)] at h10 ⊢
    have k1:=nq U ((fG v').take i)
    have k2:=je (dm U ((fG v').take i))
    have k3:=je (dm U ((fG v').take (i + 1)))
    rw [bF] at k2 k3
    refine ⟨_,rfl,⟨(h10.pick 4 [2]).cell 0,(h10.pick 4 [3]).cell 0⟩,⟨by omega,by omega⟩,?_⟩
    refine bC (h10.pick 4 [2,3,0]) (by simp) λw11 h11=>St.flat.2 ?_
    have e:((bn (dm U ((fG v').take i)):Int) - bn bs + ((bn (dm U ((fG v').take (i + 1))):Int) - bn (dm U ((fG v').take i)))) = (bn (dm U ((fG v').take (i + 1))):Int) - bn bs:=by omega
    rw [e] at h11
    exact h11
  ·intro w6 h6
   refine ⟨⟨by omega,by omega⟩,⟨j + 1,by simp,by omega,?_⟩,bK hlt⟩
   have e:(fG v').take (DG (mb v')).length = fG v':=U6 (by rw [Pt,zg]; exact U2 _)
   dsimp only at h6
   rw [e,he'] at h6
   exact (show St w6 [_,_,_,_,_] from St.flat.1 h6).pick 5 [0,1,2,4]
  ·intro w6 h6
   exact (St.pu.1 h6).1.elim
 ·have hlt:j = l:=by have:=UH hlt; omega
  subst hlt
  rw [<- hx.1,<- hv,U8] at hs
  refine ⟨_,hs.cell 0,λw5 h5=>⟨rfl,done _ ?_⟩⟩
  exact (hs.eq h5).pick 4 [2,3]
end
end Go.Proofs.YtndaepmjkbmjmaaGreatDoor
namespace Go.V
theorem ak {a:WA} {ad:Addr} {len i sz:Nat} {k:Addr->Prop} (ha:a = some ad) (hi:i < len) (hk:k (ad.add (cT i sz))):idx a len (i:Int) sz k :=
 ⟨ad,ha,by omega,by omega,by simpa using hk⟩
section
variable {P:Program} {w w' : WB} {L:List au} {b:Nat} {us vs:List Value} {e e' : TypeId} {A B C D:au}
theorem aW {Ty:TypeId->Option cD} (hT:di P Ty) {t tx ty:TypeId} {i:cD} {z:Value} (hk:ah Ty t = .slice e) (hkx:ah Ty tx = .slice e') (hi:Ty e = some i) (hz:i.zero = some z) (hzs:(cellsOf z).length = i.size)
  {a:WA} {l c:Nat} (h:St w (aS b vs :: own i.size a l c us :: L)) (hv:vs.length = i.size) (h1:∀ u∈vs,aH u = true) (hb:(l + 1) * i.bytes<=140737488355328) (h63:l < 9223372036854775807) :
  aU P (Builtin.append_ (Array.mk [t,tx]) ty (Array.mk [.slice a l c,.slice (some ⟨b,0,none⟩) 1 1])) w λv w'=>∃ a' c',v = .slice a' (l + 1) c'/\St w' (own i.size a' (l + 1) c' (us ++ vs) :: aS b vs :: L):=by
 refine iw hT hk hi hz hzs h.swap (n:=1) (news:=vs) ?_ hb (by omega)
 refine fx hT hkx (by omega) (.inr ⟨_,rfl,λj u hj=>?_⟩) h1
 rw [aV,h.cell]; exact hj
end
theorem St.row {w:WB} {L:List au} {b:Nat} {vs:List Value} (h:St w (aS b vs :: L)):av (hp w) ⟨b,0,none⟩ vs:=by
 obtain ⟨h1,s,ha⟩:=h.first
 exact (vg ha).mono s
theorem dZ {c:Bool} {a b:Prop} (h:c = true) (ha:a):br c a b:=by subst h; exact ha
theorem d_ {c:Bool} {a b:Prop} (h:c = false) (hb:b):br c a b:=by subst h; exact hb
theorem dV {L:List au}:∀ {h:Hp} (i:Nat),i < L.length->aG L h->∃ h1,sub h1 h/\sx L i h1:=by
 induction L with
 | nil=>intro h i hi; simp at hi
 | cons A L ih =>
  rintro h i hi ⟨h1,h2,d,s1,s2,ha,hl⟩
  cases i with
  | zero=>exact ⟨h1,s1,ha⟩
  | succ i =>
   obtain ⟨h3,s3,h4⟩:=ih i (by simpa using hi) hl
   exact ⟨h3,s3.trans s2,h4⟩
def z_:List au->Nat
 | []=>0
 | _ :: L=>z_ L + 1
theorem j_:∀ L,z_ L = L.length
 | []=>rfl
 | _ :: L=>by simp [z_,j_ L]
theorem bj {L:List au} {h h0:Hp} (i:Nat) (hl:aG L h) (e:sx L i = has h0:=by rfl) (hi:Nat.blt i (z_ L) = true:=by rfl):sub h0 h:=by
 obtain ⟨h1,s,ha⟩:=dV i (by simpa [j_] using hi) hl
 rw [e] at ha
 exact sub.trans ha s
theorem St.l {w:WB} {L:List au} (h:St w L):aG L (hp w):=h
section
variable {A B C:List Bool} {N:Nat} (hA:A.length = N) (hB:B.length = N) (hC:C.length = N)
include hA hB hC
end
theorem HA {M:List au}:∀ {i:Nat} {A:au},M[i]? = some A->M.Perm (A :: M.eraseIdx i):=by
 induction M with
 | nil=>intro i A h; simp at h
 | cons B M ih =>
  intro i A h
  cases i with
  | zero=>simp at h; subst h; exact List.Perm.refl _
  | succ i=>exact (List.Perm.cons B (ih (by simpa using h))).trans (List.Perm.swap _ _ _)
theorem Mx {M:List au} {B:au}:∀ {i:Nat} {A:au},M[i]? = some A->(M.set i B).Perm (B :: M.eraseIdx i):=by
 induction M with
 | nil=>intro i A h; simp at h
 | cons C M ih =>
  intro i A h
  cases i with
  | zero=>exact List.Perm.refl _
  | succ i=>exact (List.Perm.cons C (ih (A:=A) (by simpa using h))).trans (List.Perm.swap _ _ _)
section
variable {w:WB} {L M:List au} {A B:au} {i:Nat}
theorem St.out (h:St w (aT M :: L)) (hi:M[i]? = some A):St w (A :: aT (M.eraseIdx i) :: L):=by
 have h1:St w (M.eraseIdx i ++ A :: L):=(St.flat.1 h).perm (((HA hi).append_right L).trans VC.symm)
 exact (St.flat.2 h1).swap
theorem St.back (h:St w (B :: aT (M.eraseIdx i) :: L)) (hi:M[i]? = some A):St w (aT (M.set i B) :: L):=by
 have h1:=St.flat.1 h.swap
 exact St.flat.2 (h1.perm (VC.trans ((Mx hi).symm.append_right L)))
theorem St.snoc (h:St w (A :: aT M :: L)):St w (aT (M ++ [A]) :: L):=by
 have h1:=St.flat.1 h.swap
 exact St.flat.2 (by rw [UT]; exact h1)
end
theorem Pv {α β : Type} (f:α->β->au) {ps:List α} {vs:List β} {i:Nat} {p:α} {v' : β} (hp:ps[i]? = some p):(List.zipWith f ps vs).set i (f p v') = List.zipWith f ps (vs.set i v'):=by
 apply Vz
 intro k
 rw [VL,List.getElem?_zipWith,List.getElem?_zipWith,VL,List.length_zipWith]
 by_cases hk:i = k
 ·subst hk
  rw [US rfl,US rfl,hp]
  have:=(UJ.1 hp).1
  by_cases hl:i < vs.length
  ·simp [hl]; omega
  ·simp [hl]; omega
 ·rw [UN hk,UN hk]
def bk (p:Nat):WA:=some ⟨p,0,none⟩
def pv (os:List (WA)):List Value:=os.map λo=>Value.pointer o
def iO (ps:List Nat) (vss:List (List Bool)):List au:=List.zipWith (λp v=>dY (bk p) v) ps vss
theorem TU {L:List au} {h:Hp} {ps:List Nat} {vss:List (List Bool)} {k m p:Nat} {v:List Bool} (i:Nat) (hl:aG L h) (hp:ps[k]? = some p) (hv:vss[k]? = some v) (hk:k≠m) (e:sx L i = aT ((iO ps vss).eraseIdx m):=by rfl) (hi:Nat.blt i (z_ L) = true:=by rfl):nr h (bk p) v:=by
 obtain ⟨h1,s,ha⟩:=dV i (by simpa [j_] using hi) hl
 rw [e] at ha
 obtain ⟨h2,s2,hb⟩:=qp (A:=dY (bk p) v) (List.mem_eraseIdx_iff_getElem?.2 ⟨k,hk,by unfold iO; rw [List.getElem?_zipWith,hp,hv]⟩) ha
 exact (DJ hb).mono (s2.trans s)
theorem RF {L:List au} {h:Hp} {a:WA} {l c:Nat} {os:List (WA)} (i:Nat) (hl:aG L h) (e:sx L i = own 1 a l c (pv os):=by rfl) (hi:Nat.blt i (z_ L) = true:=by rfl):os.length = l->aX h os a l:=λhx=>by
 obtain ⟨h1,s,ha⟩:=dV i (by simpa [j_] using hi) hl
 rw [e] at ha
 exact (dN hx (cF ha)).mono s
theorem ag {L:List au} {h:Hp} {b:Nat} {vs:List Value} (i:Nat) (hl:aG L h) (e:sx L i = aS b vs:=by rfl) (hi:Nat.blt i (z_ L) = true:=by rfl):av h ⟨b,0,none⟩ vs:=by
 obtain ⟨h1,s,ha⟩:=dV i (by simpa [j_] using hi) hl
 rw [e] at ha
 exact (vg ha).mono s
open MapKept
class MVal (κ : Type) where
 val:κ->Value
 inj:∀ a b:κ,val a = val b->a = b
class vl (κ : Type) [DecidableEq κ] extends MVal κ where
 kd:TypeDesc
 now:∀ a b:κ,Instr.sameNow kd (val a) (val b) = some (decide (a = b))
 key:∀ a,IsKey kd (val a)
 bits:∀ a,Instr.sameBits 10000 (val a) (val a) = true
instance:vl Int:={ kd:=.int .i64,val:=λx=>.int .i64 x,inj:=λa b h=>by injection h,now:=λa b=>by simp [Instr.sameNow]; rfl,key:=λ_=>rfl,bits:=λa=>by simp [Instr.sameBits] }
instance:vl ByteArray:={ kd:=.string,val:=λx=>.string x,inj:=λa b h=>by injection h,now:=λa b=>by simp only [Instr.sameNow,Option.some.injEq]; rw [Vw,UY]; exact bytes_beq a b,key:=λ_=>trivial,bits:=λa=>by simp only [Instr.sameBits]; exact (bytes_beq a a).2 rfl }
section
variable {κ : Type} [DecidableEq κ] {P:Program} {w:WB} {L:List au}
def assoc (k:κ):List (κ × Value)->Option Value
 | []=>none
 | (a,v) :: m=>if k = a then some v else assoc k m
def bA (k:κ) (v:Value):List (κ × Value)->List (κ × Value)
 | []=>[(k,v)]
 | (a,u) :: m=>if k = a then (k,v) :: m else (a,u) :: bA k v m
theorem dz (k a:κ) (v:Value):∀ m,assoc a (bA k v m) = if a = k then some v else assoc a m
 | []=>by simp [bA,assoc]
 | (b,u) :: m=>by
  unfold bA
  by_cases h:k = b
  ·subst h
   by_cases ha:a = k
   ·simp [assoc,ha]
   ·simp [assoc,ha]
  ·rw [UN h]
   by_cases hab:a = b
   ·subst hab
    simp [assoc,Ne.symm h]
   ·simp [assoc,hab,dz k a v m]
theorem Aa (k:κ) (v:Value):∀ m,(bA k v m).length = if (assoc k m).isSome then m.length else m.length + 1
 | []=>rfl
 | (b,u) :: m=>by
  unfold bA assoc
  by_cases h:k = b
  ·simp [h]
  ·simp only [UN h,Vl,Aa k v m]
   split <;> rfl
variable [MVal κ]
structure tE (es:Array MapEntry) (clock:Nat) (m:List (κ × Value)):Prop where
 eq:es.toList.map (λe=>(e.key,e.val)) = m.map λx=>(MVal.val x.1,x.2)
 nd:(es.toList.map (·.born)).Nodup
 lt:∀ e∈es.toList,e.born < clock
def mapA (b:Nat) (m:List (κ × Value)):au:=λh=>∃ es clock,h b = some (.map es clock)/\tE es clock m
theorem jf {b:Nat} {m:List (κ × Value)}:St w (mapA b m :: L)↔∃ es clock,tE es clock m/\St w (blk b (.map es clock) :: L) :=
 ⟨λ⟨h1,h2,d,s1,s2,⟨es,cl,ha,he⟩,hl⟩=>⟨es,cl,he,h1,h2,d,s1,s2,ha,hl⟩,λ⟨es,cl,he,h1,h2,d,s1,s2,ha,hl⟩=>⟨h1,h2,d,s1,s2,⟨es,cl,ha,he⟩,hl⟩⟩
theorem dA {b:Nat} (h:St w (blk b (.map #[] 0) :: L)):St w (mapA b ([] : List (κ × Value)) :: L):=jf.2 ⟨_,_,⟨rfl,by simp,by simp⟩,h⟩
structure S4 (k:κ) (m:List (κ × Value)) (r:Option (Nat × Value)):Prop where
 eq:(r.map (·.2)) = assoc k m
 at' : ∀ j v,r = some (j,v)->j < m.length/\(m[j]?).map (·.1) = some k/\∀ u,bA k u m = m.set j (k,u)
 no:r = none->∀ u,bA k u m = m ++ [(k,u)]
structure qq (P:Program) (kt:TypeId) (κ : Type) [DecidableEq κ] [MVal κ] : Prop where
 check:∀ (w:WB) (em:Bool) (k:κ),(Instr.checkKey em 10000 kt (MVal.val k)).run P w = .ok () w
 find:∀ (w:WB) (k:κ) (es:List MapEntry) (m:List (κ × Value)),es.map (λe=>(e.key,e.val)) = m.map (λx=>(MVal.val x.1,x.2))->∃ r,(Instr.findKey kt (MVal.val k) es).run P w = .ok r w/\S4 k m r
 bits:∀ k:κ,Instr.sameBits 10000 (MVal.val k) (MVal.val k) = true
end
section
variable {κ : Type} [DecidableEq κ] {P:Program} {w:WB} {L:List au}
theorem Ab [vl κ] (k:κ):∀ (es:List MapEntry) (m:List (κ × Value)) (i:Nat),es.map (λe=>(e.key,e.val)) = m.map (λx=>(MVal.val x.1,x.2)) ->
  ∃ r,Instr.findNow (vl.kd κ) (MVal.val k) es i = some r/\(r.map (·.2)) = assoc k m/\(∀ j v,r = some (j,v)->i<=j/\j < i + m.length/\(m[j - i]?).map (·.1) = some k/\∀ u,bA k u m = m.set (j - i) (k,u))/\(r = none->∀ u,bA k u m = m ++ [(k,u)])
 | [],[],i,_=>⟨none,rfl,rfl,λj v h=>(by cases h),λ_ u=>rfl⟩
 | [],_ :: _,i,h=>by simp at h
 | _ :: _,[],i,h=>by simp at h
 | e :: es,(a,v) :: m,i,h=>by
  simp only [Vq,List.cons.injEq,Prod.mk.injEq] at h
  obtain ⟨⟨h1,h2⟩,h3⟩:=h
  unfold Instr.findNow
  rw [h1,vl.now]
  by_cases hk:k = a
  ·subst hk
   refine ⟨some (i,e.val),by simp,by simp [assoc,h2],λj u hj=>?_,λhn=>by cases hn⟩
   cases hj
   simp [bA]
  ·obtain ⟨r,q1,q2,q3,q4⟩:=Ab k es m (i + 1) h3
   refine ⟨r,by simp [hk,q1],by simp [assoc,hk,q2],λj u hj=>?_,λhn u=>by simp [bA,hk,q4 hn u]⟩
   obtain ⟨p1,p2,p3,p4⟩:=q3 j u hj
   have e1:j - i = (j - (i + 1)) + 1:=by omega
   refine ⟨by omega,by simp; omega,by rw [e1]; simpa using p3,λu=>by rw [e1]; simp [bA,hk,p4 u]⟩
theorem qq.Ac [vl κ] {kt:TypeId} (hkt:P.underlying kt = some (vl.kd κ)):qq P kt κ where
 check:=λw em k=>run_checkKey (P:=P) (w:=w) hkt (vl.key k) em 9999
 find:=λw k es m he=>by
  obtain ⟨r,q1,q2,q3,q4⟩:=Ab k es m 0 he
  refine ⟨r,run_findKey (P:=P) (w:=w) hkt q1,q2,λj v hj=>?_,q4⟩
  obtain ⟨_,p2,p3,p4⟩:=q3 j v hj
  rw [Nat.sub_zero] at p3 p4
  exact ⟨by omega,p3,p4⟩
 bits:=vl.bits
variable [MVal κ]
variable {Ty:TypeId->Option cD}
theorem vm {d:TypeDesc} {k e:TypeId} (h:Kd.map k e = dQ d):d = .map k e:=by cases d <;> simp [dQ] at h; obtain ⟨rfl,rfl⟩:=h; rfl
theorem l9 (hT:di P Ty) {t kt et:TypeId} {i:cD} {z:Value} (hk:ah Ty t = .map kt et) (hkt:qq P kt κ) (hi:Ty et = some i) (hz:i.zero = some z) {b:Nat} {m:List (κ × Value)} (h:St w (mapA b m :: L)) (k:κ) :
  aU P (Instr.lookup t (.map (some b)) (MVal.val k) false) w λv w'=>v = (assoc k m).getD z/\w' = w:=by
 obtain ⟨d,hd,hd'⟩:=cE hT hk (by simp)
 rw [vm hd'] at hd
 obtain ⟨es,cl,⟨he,_,_⟩,h⟩:=jf.1 h
 obtain ⟨r,hf,q2,_,_⟩:=hkt.find w k es.toList m he
 obtain ⟨info,d2,ha⟩:=mS hT hi
 have hzz:(zeroValue et).run P w = .ok z w:=jj ha.inf (by rw [<- ha.zero,hz])
 refine ⟨_,w,?_,Ev.refl w,rfl,rfl⟩
 have hg:=h.get
 have hc:=λe=>hkt.check w e k
 unfold Instr.lookup
 simp only [Sem.run_bind,aK hd,Result.andThen_ok,run_getObj_map w b es cl hg,Sem.run_pure,hc,hf]
 rw [<- q2]
 cases r with
 | none=>simp [hzz]
 | some x=>simp
theorem l_ (hT:di P Ty) {t kt et:TypeId} (hk:ah Ty t = .map kt et) (hkt:qq P kt κ) {b:Nat} {m:List (κ × Value)} (h:St w (mapA b m :: L)) (k:κ) (v:Value) :
  aU P (Instr.mapUpdate t (.map (some b)) (MVal.val k) v) w λ_ w'=>St w' (mapA b (bA k v m) :: L):=by
 obtain ⟨d,hd,hd'⟩:=cE hT hk (by simp)
 rw [vm hd'] at hd
 obtain ⟨es,cl,⟨he,hnd,hlt⟩,h⟩:=jf.1 h
 obtain ⟨r,hf,q2,q3,q4⟩:=hkt.find w k es.toList m he
 have hg:=h.get
 have hc:=λe=>hkt.check w e k
 have hlen:es.size = m.length:=by have:=congrArg List.length he; simpa using this
 have ev:∀ o:Array MapEntry × Nat,Ev w { w with heap:=w.heap.setIfInBounds b (.map o.1 o.2) }:=λo=>by
  refine ⟨rfl,rfl,rfl,by simp,?_,?_⟩ <;>
  ·intro x d hx
   rw [VS]; exact hx
   intro e; subst e; rw [hg] at hx; cases hx
 cases r with
 | none =>
  refine ⟨(),_,?_,ev (es.push { key:=MVal.val k,val:=v,born:=cl },cl + 1),jf.2 ⟨_,_,?_,h.setObj _⟩⟩
  ·unfold Instr.mapUpdate
   simp only [Sem.run_bind,aK hd,Result.andThen_ok,run_getObj_map w b es cl hg,hc,hf]
   exact run_setObj_map _ hg
  ·refine ⟨by rw [q4 rfl v]; simp [he],?_,?_⟩
   ·rw [Array.toList_push,U_,Vp]
    refine ⟨hnd,by simp,λa ha b hb e=>?_⟩
    obtain ⟨x,hx,rfl⟩:=U4.1 ha
    have:=hlt x hx
    simp at hb; omega
   ·intro e he'
    rw [Array.toList_push,UO,Va] at he'
    rcases he' with he' | rfl
    ·have:=hlt e he'; omega
    ·exact Nat.lt_succ_self _
 | some x =>
  obtain ⟨j,u⟩:=x
  obtain ⟨p2,p3,p4⟩:=q3 j u rfl
  have hj:j < es.size:=by omega
  have hkey:((es[j]?).map (·.key)).getD (MVal.val k) = MVal.val k:=by
   have h1:=congrArg (λl=>l[j]?) he
   simp only [UM] at h1
   cases hm:m[j]? with
   | none=>rw [hm] at p3; cases p3
   | some y =>
    rw [hm] at p3 h1
    simp only [VV,Option.some.injEq] at p3
    have hjl:j < es.toList.length:=by simpa using hj
    rw [UK hjl] at h1
    simp only [VV,Option.some.injEq,Prod.mk.injEq] at h1
    simp [hj]
    have:=h1.1
    rw [p3] at this
    simpa using this
  refine ⟨(),_,?_,ev (es.modify j λe=>{ e with key:=MVal.val k,val:=v },cl),jf.2 ⟨_,_,?_,h.setObj _⟩⟩
  ·unfold Instr.mapUpdate
   simp only [Sem.run_bind,aK hd,Result.andThen_ok,run_getObj_map w b es cl hg,hc,hf,hkey,Instr.keyThatStays,hkt.bits,if_true,Sem.run_pure]
   exact run_setObj_map _ hg
  ·refine ⟨?_,?_,?_⟩
   rotate_left
   ·have:(es.modify j λe=>{ e with key:=MVal.val k,val:=v }).toList.map (·.born) = es.toList.map (·.born):=by
     apply Vz
     intro i
     simp only [UM,Vj,VE]
     split
     ·cases es[i]? <;> rfl
     ·rfl
    rw [this]; exact hnd
   ·intro e he'
    obtain ⟨i,hi⟩:=Vo he'
    rw [Vj,VE] at hi
    split at hi
    ·cases hx:es[i]? with
     | none=>rw [hx] at hi; cases hi
     | some x=>rw [hx] at hi; cases hi; exact hlt x (by rw [<- Vj] at hx; exact UL hx)
    ·rw [<- Vj] at hi; exact hlt e (UL hi)
   rw [p4 v]
   apply Vz
   intro i
   have h1:=congrArg (λl=>l[i]?) he
   simp only [UM,Vj] at h1
   simp only [UM,Vj,VE,VL]
   by_cases hij:j = i
   ·subst hij
    simp [hj,p2] <;> omega
   ·simp [hij,h1]
theorem Pw (hT:di P Ty) {t kt et ty:TypeId} (hk:ah Ty t = .map kt et) {b:Nat} {m:List (κ × Value)} (h:St w (mapA b m :: L)):(Builtin.len_ #[t] ty #[.map (some b)]).run P w = .ok (.int .i64 (m.length:Int)) w:=by
 obtain ⟨d,hd,hd'⟩:=cE hT hk (by simp)
 rw [vm hd'] at hd
 obtain ⟨es,cl,⟨he,_,_⟩,h⟩:=jf.1 h
 have hlen:es.size = m.length:=by have:=congrArg List.length he; simpa using this
 have hg:=h.get
 simp [Builtin.len_,run_underlying hd,run_getObj_map w b es cl hg,hlen,goInt]
end
section
variable {κ : Type} [DecidableEq κ] [vl κ] {P:Program} {w:WB} {L:List au} {Ty:TypeId->Option cD}
theorem bV (hT:di P Ty) {t kt et:TypeId} {i:cD} {z:Value} (hk:ah Ty t = .map kt et) (hkt:P.underlying kt = some (vl.kd κ)) (hi:Ty et = some i) (hz:i.zero = some z) {b:Nat} {m:List (κ × Value)} (h:St w (mapA b m :: L)) (k:κ) :
  aU P (Instr.lookup t (.map (some b)) (MVal.val k) false) w λv w'=>v = (assoc k m).getD z/\w' = w:=l9 hT hk (qq.Ac hkt) hi hz h k
theorem cP (hT:di P Ty) {t kt et:TypeId} (hk:ah Ty t = .map kt et) (hkt:P.underlying kt = some (vl.kd κ)) {b:Nat} {m:List (κ × Value)} (h:St w (mapA b m :: L)) (k:κ) (v:Value) :
  aU P (Instr.mapUpdate t (.map (some b)) (MVal.val k) v) w λ_ w'=>St w' (mapA b (bA k v m) :: L):=l_ hT hk (qq.Ac hkt) h k v
end
def fM (s:ByteArray) (i:Nat):Nat:=(sb s i).toNat
theorem RG (s:ByteArray) (i:Nat):fM s i < 256:=(sb s i).toNat_lt
theorem RH {s:ByteArray} {i:Nat} (h:i < s.size):sb s i = s[i]'h:=by
 unfold sb
 have:i < s.data.size:=h
 rw [Array.getElem?_eq_getElem this]; rfl
theorem toList_data (s:ByteArray):s.toList = s.data.toList:=by rw [ByteArray.toList_eq]
theorem vn (x y:ByteArray):(x.toList == y.toList) = decide (x = y):=by
 rw [Vw,beq_iff_eq,UY,toList_data,toList_data]
 exact ⟨λh=>WideShapes.bytes_inj h,λh=>by rw [h]⟩
theorem Fs (x:ByteArray):(x.toList == ByteArray.toList (ByteArray.mk (Array.mk []))) = decide (x.size = 0):=by
 rw [vn,Vw,UY,UY]
 constructor
 ·rintro rfl; rfl
 ·intro h
  refine WideShapes.bytes_inj ?_
  have:x.data.toList.length = 0:=by simpa using h
  rw [UU this]
def EJ (c:Nat):Bool:=decide (32<=c) && decide (c<=126) && !decide (c = 39)
def dt (s:ByteArray):Bool:=decide (1<=s.size) && decide (s.size<=16) && (List.range s.size).all λi=>EJ (fM s i)
def HB (i c:Nat):Bool:=decide (c = 95) || (decide (65<=c) && decide (c<=90)) || (decide (97<=c) && decide (c<=122)) || (decide (i≠0) && decide (48<=c) && decide (c<=57))
def de (s:ByteArray):Bool:=decide (1<=s.size) && decide (s.size<=16) && (List.range s.size).all λi=>HB i (fM s i)
theorem rQ {n:Nat} {p:Nat->Bool}:(List.range n).all p = true↔∀ i,i < n->p i = true:=by
 simp [V7]
theorem KG (s:ByteArray) (pos:Nat) (h:pos < s.size) (hb:128<=(s[pos]'h).toNat):128<=(Utf8.decode s pos).1:=by
 have e:s.get! (pos + 0) = s[pos]'h:=by
  show s.get! pos = _
  simp [ByteArray.get!,getElem!_pos,h]
  rfl
 have hb0:128<=(s.get! (pos + 0)).toNat:=by rw [e]; exact hb
 have hx:∀ k,(s.get! (pos + k)).toNat < 256:=λk=>(s.get! (pos + k)).toNat_lt
 have h0:=hx 0; have h1:=hx 1; have h2:=hx 2; have h3:=hx 3
 simp only [Utf8.decode]
 repeat' split
 all_goals simp_all [Utf8.runeError]
 all_goals omega
theorem wrap_u8 (n:Nat) (h:n < 256):IntKind.u8.wrap (n:Int) = n:=by
 have:(n:Int) % (256:Int) = n:=Int.emod_eq_of_lt (by omega) (by omega)
 simp [IntKind.wrap,IntKind.signed,IntKind.bits,this]
theorem My {a b:Nat} (ha:a < 256) (hb:b < 256):kL .or .u8 (a:Int) (b:Int) = ((a ||| b:Nat):Int):=by
 show IntKind.u8.wrap (((BitVec.ofInt 8 (a:Int)) ||| (BitVec.ofInt 8 (b:Int))).toNat:Int) = _
 have e:∀ n:Nat,BitVec.ofInt 8 (n:Int) = BitVec.ofNat 8 n:=λn=>by apply BitVec.eq_of_toNat_eq; simp
 rw [e,e,BitVec.toNat_or,BitVec.toNat_ofNat,BitVec.toNat_ofNat,Nat.mod_eq_of_lt ha,Nat.mod_eq_of_lt hb]
 exact wrap_u8 _ (Nat.or_lt_two_pow (n:=8) ha hb)
theorem TV:∀ c:Fin 256,(decide (97<=(c.val ||| 32)) && decide ((c.val ||| 32)<=122)) = ((decide (65<=c.val) && decide (c.val<=90)) || (decide (97<=c.val) && decide (c.val<=122))):=by decide +kernel
instance instRepList1 {α : Type} [nV α] : nV (List α):=inferInstance
def Jk (xs:List Int):Prop:=∀ i x y,xs[i]? = some x->xs[i + 1]? = some y->x<=y
end Go.V
namespace Go.Proofs.YtndaepmjkbmjmaaGreatDoor
section
variable {w:WB} {L:List au} {a:WA} {l c:Nat} {s:ByteArray} {ss:List ByteArray} {xs:List Int}
theorem KH (r:Int):ay Tryz.prog iT [.int .i32 r] w λv w'=>v = .bool (decide (r < 32) || decide (126 < r) || (r == 39))/\w' = w:=by
 refine tV ?_
 refine aa (λh=>⟨by rw [h]; rfl,rfl⟩) λh=>aa (λh2=>⟨by rw [h,h2]; rfl,rfl⟩) λh2=>⟨by rw [h,h2]; rfl,rfl⟩
theorem Ft (hs:s.size<=4611686018427387904):ay Tryz.prog sD [.string s,.func (.func iT) #[] #[]] w λv w'=>(∃ n:Int,v = .int .i64 n/\(decide (n < 0) = (List.range s.size).all λi=>EJ (fM s i)))/\Gr w w':=by
 refine pn ?_
 have key:ay Tryz.prog sE [.string s,.func (.func iT) #[] #[],.bool true] w λv w'=>(∃ n:Int,v = .int .i64 n/\(decide (n < 0) = (List.range s.size).all λi=>EJ (fM s i)))/\Gr w w':=by
  refine pq ?_
  have h0:=St.all w
  refine ⟨_,_,run_range_string w 9 s Tryz.underlying9,Ev.push _ _,_,rfl,?_⟩
  have h1:=h0.push (.stringIter s 0)
  generalize w.heap.size = b at h1
  refine ⟨λw'=>∃ p,p<=s.size/\(∀ i,i < p->EJ (fM s i) = true)/\St w' (blk b (.stringIter s p) :: all w),λw'=>s.size - w'.iterPos b,⟨0,by omega,λi hi=>by omega,h1⟩,?_⟩
  rintro _ w2 ⟨p,hp,hall,h2⟩
  have hk:=h2.get
  by_cases hlt:p < s.size
  ·have hev:Ev w2 (w2.iterAt b s (p + (Utf8.decode s p).2)):=by
    refine ⟨rfl,rfl,rfl,by simp [World.iterAt],?_,?_⟩ <;>
    ·intro x d hx
     simp only [World.iterAt]
     rw [VS]; exact hx
     intro e; subst e; rw [hk] at hx; cases hx
   refine ⟨_,_,Lib.run_next_any_at w2 b s p _ hk hlt,hev,.inr ⟨_,_,rfl,bz.2 ⟨rfl,(KH _).mono ?_⟩⟩⟩
   have h3:St (w2.iterAt b s (p + (Utf8.decode s p).2)) (blk b (.stringIter s (p + (Utf8.decode s p).2)) :: all w):=h2.setObj _
   rintro _ _ ⟨rfl,rfl⟩
   refine ⟨_,rfl,?_⟩
   have hget:fM s p = (s[p]'hlt).toNat:=by unfold fM; rw [RH hlt]
   refine aa (λh4=>?_) λh4=>?_
   ·refine ⟨⟨_,rfl,?_⟩,h3.tail.has⟩
    have:EJ (fM s p) = false:=by
     by_cases h5:(s[p]'hlt).toNat < 128
     ·rw [decode_ascii s p hlt h5] at h4
      unfold EJ
      rw [hget]
      simp at h4 ⊢
      omega
     ·unfold EJ; rw [hget]; simp; omega
    have e1:(List.range s.size).all (λi=>EJ (fM s i)) = false:=by
     rw [List.all_eq_false]; exact ⟨p,by simpa using hlt,by simp [this]⟩
    rw [e1]; simp
   ·have h5:(s[p]'hlt).toNat < 128:=by
     refine Nat.lt_of_not_le λh5=>?_
     have:=KG s p hlt h5
     simp at h4; omega
    rw [decode_ascii s p hlt h5] at h3 h4 ⊢
    have hok:EJ (fM s p) = true:=by
     unfold EJ; rw [hget]; simp at h4 ⊢; omega
    refine ⟨⟨p + 1,hlt,λi hi=>?_,h3⟩,?_⟩
    ·by_cases e:i = p
     ·rw [e]; exact hok
     ·exact hall i (by omega)
    ·have e1:World.iterPos w2 b = p:=by simp [World.iterPos,hk]
     have e2:World.iterPos (w2.iterAt b s (p + 1)) b = p + 1:=by simp [World.iterPos,h3.get]
     show s.size - World.iterPos (w2.iterAt b s (p + 1)) b < s.size - World.iterPos w2 b
     rw [e1,e2]; omega
  ·refine ⟨_,_,Lib.run_next_end_at w2 b s p _ hk hlt,Ev.refl _,.inl ⟨rfl,⟨_,rfl,?_⟩,h2.tail.has⟩⟩
   have:(List.range s.size).all (λi=>EJ (fM s i)) = true:=rQ.2 λi hi=>hall i (by omega)
   rw [this]; rfl
 refine key.mono ?_
 rintro _ w' ⟨⟨n,rfl,hn⟩,hg⟩
 exact ⟨n,rfl,⟨n,rfl,hn⟩,hg⟩
theorem Mz (hs:s.size<=4611686018427387904):ay Tryz.prog BE [.string s] w λv w'=>v = .bool (dt s)/\Gr w w':=by
 refine yB _ w _ ?_
 unfold qk
 rw [Fs]
 unfold dt
 refine aa (λh=>?_) λh=>?_
 ·have h:1<=s.size:=by simp only [VZ,Vu] at h; omega
  refine aa (λh2=>?_) λh2=>?_
  ·have h2:s.size<=16:=by have:=UI h2; omega
   refine (Ft hs).mono ?_
   rintro _ w' ⟨⟨n,rfl,hn⟩,hg⟩
   exact ⟨n,rfl,by rw [hn]; simp [h,h2],hg⟩
  ·have h2:¬ s.size<=16:=by have:=UH h2; omega
   exact ⟨by simp [h2],Gr.refl _⟩
 ·have h:¬ 1<=s.size:=by simp only [Bool.not_eq_false',UY] at h; omega
  exact ⟨by simp [h],Gr.refl _⟩
theorem MA (hs:s.size<=4611686018427387904):ay Tryz.prog BG [.string s] w λv w'=>v = .bool (de s)/\w' = w:=by
 refine yF _ w _ ?_
 unfold ql
 rw [Fs]
 refine ⟨λn w'=>∃ j:Nat,n = j/\j<=s.size/\(∀ i,i < j->HB i (fM s i) = true)/\w' = w,λn _=>s.size - n.toNat,⟨0,rfl,by omega,λi hi=>by omega,rfl⟩,?_⟩
 rintro _ n w1 ⟨j,rfl,hj,hall,rfl⟩
 refine aa (λh=>?_) λh=>?_
 ·have h:j < s.size:=by have:=UI h; omega
  refine ⟨⟨by omega,by omega⟩,?_⟩
  rw [Vh]
  have hlt:=RG s j
  have hor:=TV ⟨fM s j,hlt⟩
  have e8:kL .or .u8 ((sb s j).toNat:Int) 32 = ((fM s j ||| 32:Nat):Int):=My (b:=32) hlt (by omega)
  rw [e8]
  show br (((fM s j:Nat):Int) != 95) _ _
  have stp:HB j (fM s j) = true->aw ((j:Int) + 1)/\(∃ j' : Nat,(j:Int) + 1 = j'/\j'<=s.size/\(∀ i,i < j'->HB i (fM s i) = true)/\w1 = w1)/\s.size - ((j:Int) + 1).toNat < s.size - (j:Int).toNat:=λhok=>by
   refine ⟨⟨by omega,by omega⟩,⟨j + 1,by simp,by omega,λi hi=>?_,rfl⟩,bK h⟩
   by_cases e:i = j
   ·rw [e]; exact hok
   ·exact hall i (by omega)
  have bad:HB j (fM s j) = false->Value.bool false = Value.bool (de s)/\w1 = w1:=λhno=>by
   refine ⟨?_,rfl⟩
   have:(List.range s.size).all (λi=>HB i (fM s i)) = false:=by
    rw [List.all_eq_false]; exact ⟨j,by simpa using h,by simp [hno]⟩
   unfold de; rw [this]; simp
  have okd:(fM s j = 95\/(97<=(fM s j ||| 32)/\(fM s j ||| 32)<=122)\/(j≠0/\48<=fM s j/\fM s j<=57))↔HB j (fM s j) = true:=by
   have hor' : (97<=(fM s j ||| 32)/\(fM s j ||| 32)<=122)↔((65<=fM s j/\fM s j<=90)\/(97<=fM s j/\fM s j<=122)):=by
    have:=congrArg (· = true) hor
    simpa using this
   rw [hor']
   unfold HB
   simp only [VQ,U3,UY]
   omega
  generalize fM s j ||| 32 = d at *
  have yes:(fM s j = 95\/(97<=d/\d<=122)\/(j≠0/\48<=fM s j/\fM s j<=57))->_:=λhh=>stp (okd.1 hh)
  have no:¬ (fM s j = 95\/(97<=d/\d<=122)\/(j≠0/\48<=fM s j/\fM s j<=57))->_:=λhh=>bad (by cases hq:HB j (fM s j); rfl; exact absurd (okd.2 hq) hh)
  clear okd hor e8 stp bad
  refine aa (λh1=>?_) λh1=>?_
  ·have h1:fM s j≠95:=by simp at h1; omega
   refine aa (λh2=>?_) λh2=>?_
   ·have h2:d < 97:=by have:=UI h2; omega
    refine aa (λh3=>no (by simp at h3; omega)) λh3=>aa (λh4=>no (by have:((fM s j:Nat):Int) < 48:=UI h4; omega)) λh4=>aa (λh5=>no (by have:57 < ((fM s j:Nat):Int):=UI h5; omega)) λh5=>yes (.inr (.inr ?_))
    have h4:¬ ((fM s j:Nat):Int) < 48:=UH h4
    have h5:¬ 57 < ((fM s j:Nat):Int):=UH h5
    simp at h3; omega
   ·have h2:97<=d:=by have:=UH h2; omega
    refine aa (λh6=>?_) λh6=>yes (.inr (.inl ⟨h2,by have:=UH h6; omega⟩))
    have h6:122 < d:=by have:=UI h6; omega
    refine aa (λh3=>no (by simp at h3; omega)) λh3=>aa (λh4=>no (by have:((fM s j:Nat):Int) < 48:=UI h4; omega)) λh4=>aa (λh5=>no (by have:57 < ((fM s j:Nat):Int):=UI h5; omega)) λh5=>yes (.inr (.inr ?_))
    have h4:¬ ((fM s j:Nat):Int) < 48:=UH h4
    have h5:¬ 57 < ((fM s j:Nat):Int):=UH h5
    simp at h3; omega
  ·exact yes (.inl (by simp at h1; omega))
 ·have h:j = s.size:=by have:=UH h; omega
  subst h
  have hall':=rQ.2 hall
  unfold de
  rw [hall']
  refine aa (λh=>?_) λh=>?_
  ·have h:1<=s.size:=by simp only [VZ,Vu] at h; omega
   refine ⟨?_,rfl⟩
   have e:decide ((s.size:Int)<=16) = decide (s.size<=16):=by rw [Vw]; simp only [UY]; omega
   rw [e]; simp [h]
  ·have h:¬ 1<=s.size:=by simp only [Bool.not_eq_false',UY] at h; omega
   exact ⟨by simp [h],rfl⟩
theorem HC (hx:aX (hp w) xs a l) (hb:l<=4611686018427387904) (x:Int):ay Tryz.prog kP [.slice a l c,.int .i64 x] w λv w'=>v = .bool (decide (x∈xs))/\w' = w:=by
 refine jM ?_
 have key:ay Tryz.prog nj [.slice a l c,.int .i64 x] w λv w'=>(∃ n:Int,v = .int .i64 n/\decide (0<=n) = decide (x∈xs))/\w' = w:=by
  refine lM ?_
  have hl:=hx.1
  refine ⟨λn w'=>∃ j:Nat,n = j/\j<=l/\x∉xs.take j/\w' = w,λn _=>l - n.toNat,⟨0,rfl,by omega,by simp,rfl⟩,?_⟩
  rintro _ n w1 ⟨j,rfl,hj,hni,rfl⟩
  refine aa (λh=>?_) λh=>?_
  ·have h:j < l:=by have:=UI h; omega
   obtain ⟨y,ad,hy1,rfl,hy2⟩:=hx.dM h
   refine aB rfl h ⟨y,hy2 _ (sub.refl _),aa (λh2=>?_) λh2=>?_⟩
   ·have h2:x = y:=by simpa using h2
    subst h2
    exact ⟨⟨_,rfl,by rw [Vc (UL hy1)]; simp⟩,rfl⟩
   ·have h2:x≠y:=by simpa using h2
    refine ⟨⟨by omega,by omega⟩,⟨j + 1,by simp,by omega,?_,rfl⟩,bK h⟩
    rw [cK hy1,UO]
    simp [hni,h2]
  ·have h:j = l:=by have:=UH h; omega
   subst h
   rw [<- hl,U8] at hni
   exact ⟨⟨_,rfl,by rw [Vd hni]; rfl⟩,rfl⟩
 refine key.mono ?_
 rintro _ _ ⟨⟨n,rfl,hn⟩,rfl⟩
 exact ⟨n,rfl,by rw [hn],rfl⟩
theorem Px (x:Int):ay Tryz.prog wV [.int .i64 x] w λv w'=>v = .bool false/\w' = w:=kQ ⟨by simp,rfl⟩
theorem RI (x y:Int):ay Tryz.prog yG [.int .i64 x,.int .i64 y] w λv w'=>v = .bool (decide (x < y))/\w' = w:=by
 refine va ((Px x).mono ?_)
 rintro _ _ ⟨rfl,rfl⟩
 exact ⟨_,rfl,d_ rfl ⟨rfl,rfl⟩⟩
theorem HD (hx:aX (hp w) xs a l) (hb:l<=4611686018427387904):ay Tryz.prog kR [.slice a l c] w λv w'=>(∃ r:Bool,v = .bool r/\(r = true↔Jk xs))/\hp w' = hp w:=by
 refine jO ?_
 have hl:=hx.1
 refine ⟨⟨by omega,by omega⟩,λn w'=>∃ j:Nat,n = (l:Int) - 1 - j/\j<=l/\(∀ i x y,l - 1 - j<=i->xs[i]? = some x->xs[i + 1]? = some y->x<=y)/\hp w' = hp w,λn _=>n.toNat,⟨0,by omega,by omega,?_,rfl⟩,?_⟩
 ·intro i x y hi h1 h2
  have:=(UJ.1 h2).1; omega
 rintro _ n w1 ⟨j,rfl,hj,hall,hw⟩
 refine aa (λh=>?_) λh=>?_
 ·have h:=UI h
  have hj2:j + 1 < l:=by omega
  intro w2 hd
  have hw2:=(gi hd).trans hw
  have e1:((l:Int) - 1 - j) = ((l - 1 - j:Nat):Int):=by omega
  have e2:(((l - 1 - j:Nat):Int) - 1) = ((l - 2 - j:Nat):Int):=by omega
  rw [e1,e2]
  obtain ⟨x,ad,hx1,rfl,hx2⟩:=hx.dM (by omega:l - 1 - j < l)
  obtain ⟨y,ad2,hy1,e3,hy2⟩:=hx.dM (by omega:l - 2 - j < l)
  cases e3
  refine ⟨λw'=>hp w' = hp w,hw2,aB rfl (by omega) ⟨x,λw3 h3=>hx2 _ (Mt h3),⟨by omega,by omega⟩,aB rfl (by omega) ⟨y,λw3 h3=>hy2 _ (Mt h3),(RI x y).mono ?_⟩⟩⟩
  rintro _ _ ⟨rfl,rfl⟩
  refine ⟨_,rfl,aa (λh5=>?_) λh5=>?_⟩
  ·have h5:=UI h5
   refine ⟨⟨false,rfl,by simp; intro hs; have:=hs (l - 2 - j) y x hy1 (by rw [show l - 2 - j + 1 = l - 1 - j by omega]; exact hx1); omega⟩,hw2⟩
  ·have h5:=UH h5
   refine ⟨⟨by omega,by omega⟩,⟨j + 1,by omega,by omega,λi x' y' hi h1 h2=>?_,hw2⟩,by dsimp only; omega⟩
   by_cases e:i = l - 2 - j
   ·subst e
    rw [hy1] at h1
    rw [show l - 2 - j + 1 = l - 1 - j by omega,hx1] at h2
    cases h1; cases h2; omega
   ·exact hall i x' y' (by omega) h1 h2
 ·have h:=UH h
  exact ⟨⟨true,rfl,by simp; exact λi x y h1 h2=>hall i x y (by have:=(UJ.1 h2).1; omega) h1 h2⟩,hw⟩
theorem HE (hs:s.size<=4611686018427387904):ay Tryz.prog iy [.string s] w λv w'=>v = .bool (!de s)/\w' = w:=by
 refine sC ((MA hs).mono ?_)
 rintro _ _ ⟨rfl,rfl⟩
 exact ⟨_,rfl,rfl,rfl⟩
theorem yH (hx:aX (hp w) ss a l) (hb:l<=4611686018427387904) (hs:∀ s∈ss,s.size<=4611686018427387904):ay Tryz.prog fK [.slice a l c,.func (.func iy) #[] #[]] w λv w'=>v = .bool (!ss.all de)/\w' = w:=by
 refine e_ ?_
 have key:ay Tryz.prog ik [.slice a l c,.func (.func iy) #[] #[]] w λv w'=>(∃ n:Int,v = .int .i64 n/\decide (0<=n) = !ss.all de)/\w' = w:=by
  refine gh ?_
  have hl:=hx.1
  refine ⟨λn w'=>∃ j:Nat,n = j/\j<=l/\(ss.take j).all de = true/\w' = w,λn _=>l - n.toNat,⟨0,rfl,by omega,rfl,rfl⟩,?_⟩
  rintro _ n w1 ⟨j,rfl,hj,hni,rfl⟩
  refine aa (λh=>?_) λh=>?_
  ·have h:j < l:=by have:=UI h; omega
   obtain ⟨y,ad,hy1,rfl,hy2⟩:=hx.dM h
   refine aB rfl h ⟨y,hy2 _ (sub.refl _),bz.2 ⟨rfl,(HE (hs y (UL hy1))).mono ?_⟩⟩
   rintro _ _ ⟨rfl,rfl⟩
   refine ⟨_,rfl,aa (λh2=>?_) λh2=>?_⟩
   ·have:ss.all de = false:=by rw [List.all_eq_false]; exact ⟨y,UL hy1,by simpa using h2⟩
    exact ⟨⟨_,rfl,by rw [this]; simp⟩,rfl⟩
   ·refine ⟨⟨by omega,by omega⟩,⟨j + 1,by simp,by omega,?_,rfl⟩,bK h⟩
    rw [UR,hy1,Wq,hni]
    simpa using h2
  ·have h:j = l:=by have:=UH h; omega
   subst h
   rw [<- hl,U8] at hni
   exact ⟨⟨_,rfl,by rw [hni]; rfl⟩,rfl⟩
 refine key.mono ?_
 rintro _ _ ⟨⟨n,rfl,hn⟩,rfl⟩
 exact ⟨n,rfl,by rw [hn],rfl⟩
theorem tZ {l:List ByteArray} {x:ByteArray}:(l ++ [x]).Nodup↔l.Nodup/\x∉l:=by
 rw [Vp]
 constructor
 ·rintro ⟨h1,_,h3⟩; exact ⟨h1,λh=>h3 x h x (by simp) rfl⟩
 ·rintro ⟨h1,h2⟩; exact ⟨h1,by simp,λa ha b hb e=>by simp at hb; subst hb; subst e; exact h2 ha⟩
theorem Fu (hx:aX (hp w) ss a l) (hb:l<=4611686018427387904):ay Tryz.prog BF [.slice a l c] w λv w'=>v = .bool (decide ss.Nodup)/\Gr w w':=by
 refine yD ?_
 have hl:=hx.1
 refine l7 (St.all w) λb w1 h=>?_
 have h:=dA (κ:=ByteArray) h
 refine ⟨λn w'=>∃ (j:Nat) (m:List (ByteArray × Value)),n = j/\j<=l/\(∀ s,(assoc s m).isSome = true↔s∈ss.take j)/\(∀ s v,assoc s m = some v->∃ k:Nat,v = .int .i64 (k:Int)/\k<=j)/\m.length<=j/\(m.length = j↔(ss.take j).Nodup)/\St w' (mapA b m :: all w),λn _=>l - n.toNat,
  ⟨0,[],rfl,by omega,by simp [assoc],λs v h=>by simp [assoc] at h,by simp,by simp,h⟩,?_⟩
 clear h
 rintro _ n w2 ⟨j,m,rfl,hj,hm1,hm2,hm3,hm4,h⟩
 refine aa (λhlt=>?_) λhlt=>?_
 ·have hlt:j < l:=by have:=UI hlt; omega
  obtain ⟨s,ad,hs1,rfl,hs2⟩:=hx.dM hlt
  refine aB rfl hlt ⟨s,hs2 _ h.aR,(bV (κ:=ByteArray) aL (rfl:ah Ty _ = .map _ _) Tryz.underlying9 rfl rfl h s).mono ?_⟩
  rintro _ _ ⟨rfl,rfl⟩
  obtain ⟨k,hk,hkj⟩ : ∃ k:Nat,(assoc s m).getD (.int .i64 0) = .int .i64 (k:Int)/\k<=j:=by
   cases ha:assoc s m with
   | none=>exact ⟨0,rfl,by omega⟩
   | some v=>obtain ⟨k,rfl,hk⟩:=hm2 s v ha; exact ⟨k,rfl,hk⟩
  refine ⟨_,hk,⟨by omega,by omega⟩,(cP (κ:=ByteArray) aL (rfl:ah Ty _ = .map _ _) Tryz.underlying9 h s _).mono ?_⟩
  rintro _ w4 h
  have et:ss.take (j + 1) = ss.take j ++ [s]:=by rw [UR,hs1]; rfl
  refine ⟨⟨by omega,by omega⟩,⟨j + 1,_,by simp,by omega,λs'=>?_,λs' v hv=>?_,?_,?_,h⟩,bK hlt⟩
  ·rw [dz,et,UO,<- hm1]
   by_cases e:s' = s <;> simp [e]
  ·rw [dz] at hv
   split at hv
   ·cases hv; exact ⟨k + 1,by simp,by omega⟩
   ·obtain ⟨k',rfl,hk'⟩:=hm2 s' v hv; exact ⟨k',rfl,by omega⟩
  ·rw [Aa]; split <;> omega
  ·rw [Aa,et,tZ,<- hm4,<- hm1]
   by_cases e:(assoc s m).isSome = true
   ·simp [e]; omega
   ·simp [e]
 ·have hlt:j = l:=by have:=UH hlt; omega
  subst hlt
  refine ⟨_,Pw aL (rfl:ah Ty _ = .map _ _) h,_,rfl,?_,h.aR⟩
  rw [<- hl,U8] at hm4
  congr 1
  rw [Vw,UY,<- hm4,hl]
  simp only [beq_iff_eq]; omega
end
abbrev cU:TypeId:=3
abbrev bp:=@Tryz.underlying3
abbrev MB:TypeId:=5
abbrev KI:=@Tryz.underlying5
abbrev nu:TypeId:=9
abbrev kS:=@Tryz.underlying9
abbrev MC:TypeId:=24
abbrev jP:TypeId:=38
abbrev BJ:TypeId:=51
abbrev gj:TypeId:=62
abbrev qt:=@Tryz.eqGuardType62
abbrev Ad:=@Tryz.stoodInHeld62
abbrev ff:TypeId:=83
abbrev DL:=@Tryz.eqGuardType83
abbrev DM:=@Tryz.stoodInHeld83
abbrev qu:TypeId:=95
abbrev yI:=@Tryz.stoodInHeld95
abbrev yJ:TypeId:=99
abbrev bt:TypeId:=104
abbrev vo:=@Tryz.eqGuardType104
abbrev DN:=@Tryz.stoodInHeld104
abbrev DO:=@Tryz.isAgg104
abbrev DP:=@Tryz.sizeOf104
abbrev mA:TypeId:=118
abbrev kf:TypeId:=184
abbrev BK:=@Tryz.eqGuardType184
abbrev BL:=@Tryz.stoodInHeld184
abbrev HF:TypeId:=201
abbrev Fv:=@Tryz.underlying201
abbrev DQ:TypeId:=226
abbrev nw:FuncId:=53
abbrev fy:FuncId:=96
abbrev dB:FuncId:=97
abbrev yK:=@Tryz.func97
abbrev Ae:FuncId:=98
abbrev sF:FuncId:=99
abbrev vp:FuncId:=157
abbrev iN:=@Tryz.func230
end Go.Proofs.YtndaepmjkbmjmaaGreatDoor
namespace Go.V
structure h_ where
 name:ByteArray
 level:Int
structure aO where
 left:Int
 right:List Int
 level:Int
structure ae where
 terms:List h_
 nons:List ByteArray
 levels:List Int
 start:Int
 prods:List aO
instance:nV h_:={ n:=2,rd:=λ_ t vs=>vs = [.string t.name,.int .i64 t.level],mono:=λ_ h=>h,len:=λh=>by rw [h]; rfl }
instance:nV aO:={ n:=3,rd:=λh p vs=>∃ a l c,vs = [.int .i64 p.left,.slice a l c,.int .i64 p.level]/\l<=c/\aX h p.right a l,mono:=λs ⟨a,l,c,h1,h2,h3⟩=>⟨a,l,c,h1,h2,h3.mono s⟩,len:=λ⟨_,_,_,h,_⟩=>by rw [h]; rfl }
structure GA where
 ta:WA
 tl:Nat
 tc:Nat
 na:WA
 nl:Nat
 nc:Nat
 la:WA
 ll:Nat
 lc:Nat
 s:Int
 pa:WA
 pl:Nat
 pc:Nat
def GA.cells (x:GA):List Value:=[.slice x.ta x.tl x.tc,.slice x.na x.nl x.nc,.slice x.la x.ll x.lc,.int .i64 x.s,.slice x.pa x.pl x.pc]
structure gR (h:Hp) (g:ae) (x:GA):Prop where
 t:aX h g.terms x.ta x.tl
 n:aX h g.nons x.na x.nl
 l:aX h g.levels x.la x.ll
 s:x.s = g.start
 p:aX h g.prods x.pa x.pl
 tc:x.tl<=x.tc
 nc:x.nl<=x.nc
 lc:x.ll<=x.lc
 pc:x.pl<=x.pc
theorem gR.mono {h h' : Hp} {g:ae} {x:GA} (s:sub h h') (r:gR h g x):gR h' g x:=⟨r.t.mono s,r.n.mono s,r.l.mono s,r.s,r.p.mono s,r.tc,r.nc,r.lc,r.pc⟩
instance:nV ae:={ n:=5,rd:=λh g vs=>∃ x:GA,vs = x.cells/\gR h g x,mono:=λs ⟨x,h1,h2⟩=>⟨x,h1,h2.mono s⟩,len:=λ⟨_,h,_⟩=>by rw [h]; rfl }
def iq (g:ae):Prop:=g.terms.length<=17592186044416/\g.nons.length<=17592186044416/\g.levels.length<=17592186044416/\g.prods.length * 40<=140737488351232/\(∀ t∈g.terms,t.name.size<=140737488351232/\anyI t.level)/\(∀ s∈g.nons,s.size<=140737488351232)/\(∀ p∈g.prods,p.right.length<=17592186043904)
theorem qv {L:List au} {b:Nat}:∀ (vs us:List Value) (i:Nat) {w:WB},i + vs.length<=us.length->St w (aS b us :: L)->St (bY w ⟨b,0,none⟩ i vs) (aS b (us.take i ++ vs ++ us.drop (i + vs.length)) :: L)
 | [],us,i,w,_,h=>by simpa [bY] using h
 | v :: vs,us,i,w,hl,h=>by
  have h1:=h.Rp i v
  have h2:=qv vs (us.set i v) (i + 1) (by simp at hl ⊢; omega) h1
  simp only [Vl] at hl
  have e:(us.set i v).take (i + 1) ++ vs ++ (us.set i v).drop (i + 1 + vs.length) = us.take i ++ v :: vs ++ us.drop (i + (vs.length + 1)):=by
   rw [List.drop_set_of_lt (by omega),List.take_set,UR,VN _ _ (by simp; omega)]
   have:us[i]? = some (us[i]'(by omega)):=UK _
   rw [this]
   have e2:i - (us.take i).length = 0:=by simp; omega
   rw [e2]
   simp
   congr 1; omega
  rw [e] at h2
  simp only [bY,aV,Vl]
  exact h2
theorem t_ {w:WB} {L:List au} {b:Nat} {us:List Value} (h:St w (aS b us :: L)):∀ (vs:List Value) (i:Nat),i + vs.length<=us.length->(∀ v∈vs,aH v = true)->ji w ⟨b,0,none⟩ i vs
 | [],i,_,_=>trivial
 | v :: vs,i,hl,h1=>by
  simp only [Vl] at hl
  refine ⟨h1 v (by simp),⟨us[i]'(by omega),?_⟩,?_,t_ h vs (i + 1) (by omega) λu hu=>h1 u (by simp [hu])⟩
  ·rw [aV,h.cell]; exact UK _
  ·rw [aV]; exact h.frozen i none
theorem aI {w:WB} {L:List au} {b:Nat} {us vs:List Value} {k:WB->Prop} (h:St w (aS b us :: L)) (hl:us.length = vs.length) (h1:∀ v∈vs,aH v = true) (hk:∀ w',St w' (aS b vs :: L)->k w'):cH w ⟨b,0,none⟩ vs k:=by
 refine ⟨t_ h vs 0 (by omega) h1,λw' hw=>?_⟩
 subst hw
 have h2:=qv vs us 0 (by omega) h
 refine hk _ ?_
 have e:us.take 0 ++ vs ++ us.drop (0 + vs.length) = vs:=by rw [List.take_zero,Vn,V1 (by omega),Vb]
 rwa [e] at h2
theorem cQ {a:WA} {len cap lo sz:Nat} {k:WA->Nat->Nat->Prop} (h1:lo<=len) (h2:len<=cap) (hk:k (eL a lo cap sz) (len - lo) (cap - lo)):lY a len cap (some (lo:Int)) none none sz k :=
 ⟨.inl rfl,.inl rfl,⟨by show (0:Int)<=(lo:Int); omega,by show (lo:Int)<=(len:Int); omega⟩,by simpa using hk⟩
def qw (g:ae) (added:Nat):Prop:=g.terms[0]? = some ⟨.empty,0⟩/\added < g.nons.length/\g.terms.length<=65/\g.nons.length<=64 + added/\g.terms.length - 1 + (g.nons.length - added)<=64 /\
 (∀ t∈g.terms.drop 1,dt t.name = true/\0<=t.level/\t.level<=g.levels.length)/\(∀ (i:Nat) v,g.levels[i]? = some v->1<=v/\v<=3/\∃ t∈g.terms.drop 1,t.level = (i:Int) + 1) /\
 ((g.terms.drop 1).map h_.name).Nodup/\(g.nons.drop added).Nodup/\∀ s∈g.nons.drop added,de s = true
end Go.V
namespace Go.Proofs.YtndaepmjkbmjmaaGreatDoor
section
variable {w:WB} {L:List au} {g:ae} {x:GA}
theorem Py (w:WB) (xo yo:Operand) (s e:ByteArray) (n m:Int):Sem.run Tryz.prog (fu .neq ff xo yo (.agg #[.string s,.int .i64 n]) (.agg #[.string e,.int .i64 m])) w = .ok (.bool (!(decide (s = e) && (n == m)))) w:=by
 unfold fu
 rw [Sem.run_bind,run_eqGuard_agg w _ _ _ _ _ _ DL]
 simp only [Result.andThen_ok]
 have ht:Tryz.prog.underlying ff = some (.struct (Tryz.prog.fieldsOf ff)):=by kernel_rfl
 have hi:Tryz.prog.underlying cU = some (.int .i64):=bp
 have hs:Tryz.prog.underlying nu = some .string:=kS
 have hf : (Tryz.prog.fieldsOf ff).toList = [{ name := "Name", type := nu, offset := 0, embedded := false, tag := "", pkgPath := "", byteOffset := 0 }, { name := "Level", type := cU, offset := 1, embedded := false, tag := "", pkgPath := "", byteOffset := 16 }] := by kernel_rfl
 have p0:∀ (v u:Value) (w:WB),(part nu #[v,u] 0).run Tryz.prog w = .ok v w:=λv u w=>by simp [part,dw hs,dQ,Kd.isAgg]
 have p1:∀ (v u:Value) (w:WB),(part cU #[v,u] 1).run Tryz.prog w = .ok u w:=λv u w=>by simp [part,dw hi,dQ,Kd.isAgg]
 have eqS:∀ d w,(Op.equalIn (d + 1) nu (.string s) (.string e)).run Tryz.prog w = .ok (s.toList == e.toList) w:=λd w=>run_equalIn_string w d _ _ _ hs
 have eqI:∀ d w,(Op.equalIn (d + 1) cU (.int .i64 n) (.int .i64 m)).run Tryz.prog w = .ok (n == m) w:=λd w=>run_equalIn_int w d _ _ _ _ _ hi
 have key:(Op.equalIn (9998 + 1 + 1) ff (.agg #[.string s,.int .i64 n]) (.agg #[.string e,.int .i64 m])).run Tryz.prog w = .ok (decide (s = e) && (n == m)) w:=by
  rw [run_equalIn_agg w (9998 + 1) ff _ _ ht DM,hf]
  unfold Op.eqFields
  simp only [ne_eq,String.reduceEq,not_false_eq_true,if_true,Sem.run_bind,p0,Result.andThen_ok,eqS,vn]
  cases hq:decide (s = e)
  ·simp
  ·unfold Op.eqFields
   simp only [ne_eq,String.reduceEq,not_false_eq_true,if_true,Sem.run_bind,p1,Result.andThen_ok,eqI,Bool.not_true,Wj,if_false]
   cases hn:(n == m)
   ·simp
   ·unfold Op.eqFields; simp
 rw [run_neq_struct]
 show ((Op.equalIn (9998 + 1 + 1) ff (.agg #[.string s,.int .i64 n]) (.agg #[.string e,.int .i64 m])).run Tryz.prog w).andThen _ = _
 rw [key]
 rfl
end
end Go.Proofs.YtndaepmjkbmjmaaGreatDoor
namespace Go.V
theorem Pz {w:WB} {L:List au} {a:WA} {l c:Nat} {ss:List ByteArray} (h:St w (own 1 a l c (ss.map λs=>Value.string s) :: L)):aX (hp w) ss a l:=by
 have hl:=iu h
 obtain ⟨h1,s,ha⟩:=h.first
 exact (dN (by simpa using hl) (cF ha)).mono s
end Go.V
namespace Go.Proofs.YtndaepmjkbmjmaaGreatDoor
section
variable {w:WB} {L:List au} {g:ae} {x:GA}
theorem Cy (hg:gR (hp w) g x) (hb:iq g) (added:Nat) (ha:added<=1) :
  ay Tryz.prog zY [.agg ⟨x.cells⟩,.int .i64 (added:Int)] w λv w'=>(∃ r:Bool,v = .bool r/\(r = true↔qw g added))/\Gr w w':=by
 refine wQ ?_
 refine af (St.all w) λk1 w1 h=>?_
 have gw:Gr w w1:=h.aR
 have hg:=hg.mono gw
 have rb:av (hp w1) ⟨k1,0,none⟩ x.cells:=h.row
 obtain ⟨b1,b2,b3,b4,b5,b6,b7⟩:=hb
 have tl:=hg.t.1
 have nl:=hg.n.1
 have ll:=hg.l.1
 have hfin:∀ w',sub (hp w1) (hp w')->Gr w w':=λw' h=>gw.trans h
 have h:=St.all w1
 unfold V.all at h
 have c0:=λ(w' : WB) (s:sub (hp w1) (hp w'))=>rb.cell0 (v:=.slice x.ta x.tl x.tc) s
 have c1:=λ(w' : WB) (s:sub (hp w1) (hp w'))=>rb.cell s (j:=1) (v:=.slice x.na x.nl x.nc) rfl
 have c2:=λ(w' : WB) (s:sub (hp w1) (hp w'))=>rb.cell s (j:=2) (v:=.slice x.la x.ll x.lc) rfl
 generalize hp w1 = H at *
 have s1:sub H (hp w1):=h.has
 have pre:Prop:=True
 refine ⟨λb w'=>(b = false↔(g.terms[0]? = some ⟨.empty,0⟩/\added < g.nons.length/\g.terms.length<=65/\g.nons.length<=64 + added/\g.terms.length - 1 + (g.nons.length - added)<=64))/\w' = w1,?_,?_⟩
 ·refine ⟨_,_,_,c0 _ s1,aa (λh1=>⟨?_,rfl⟩) λh1=>?_⟩
  ·have:g.terms = []:=UU (by simp at h1; omega)
   simp [this]
  have h1:0 < x.tl:=by simp at h1; omega
  obtain ⟨t0,ad,vs,ht1,hta,ht2,ht3⟩:=hg.t.get h1
  have ht3:vs = [.string t0.name,.int .i64 t0.level]:=ht3
  subst ht3
  have ht2:av H ad [.string t0.name,.int .i64 t0.level]:=by simpa [aF,Addr.add] using ht2
  have e0:(g.terms[0]? = some ⟨.empty,0⟩)↔(t0.name = .empty/\t0.level = 0):=by
   rw [ht1]
   constructor
   ·intro e; cases e; exact ⟨rfl,rfl⟩
   ·rintro ⟨e1,e2⟩; cases t0; simp_all
  rw [e0]
  refine ⟨_,_,_,c0 _ s1,⟨ad,hta,by omega,by omega,?_⟩⟩
  have ez:ad.add (cT (Int.toNat 0) 2) = ad:=by simp [aF,Addr.add]
  rw [ez]
  refine ⟨_,_,ht2.at s1 rfl,_,Py _ _ _ _ _ _ _,_,rfl,aa (λh2=>⟨?_,rfl⟩) λh2=>?_⟩
  ·simp only [VZ,Bool.and_eq_false_iff,Vu,Wr] at h2
   have:¬ (t0.name = .empty/\t0.level = 0):=λe=>h2.elim (λh=>h e.1) (λh=>h e.2)
   simp [this]
  have h2:t0.name = ByteArray.mk (Array.mk [])/\t0.level = 0:=by simpa using h2
  have h2:t0.name = .empty/\t0.level = 0:=h2
  refine ⟨_,_,_,c1 _ s1,aa (λh3=>⟨?_,rfl⟩) λh3=>?_⟩
  ·have:=UI h3
   simp; omega
  have h3:=UH h3
  refine ⟨_,_,_,c0 _ s1,aa (λh4=>⟨?_,rfl⟩) λh4=>?_⟩
  ·have:=UI h4
   simp; omega
  have h4:=UH h4
  refine ⟨_,_,_,c1 _ s1,⟨by omega,by omega⟩,aa (λh5=>⟨?_,rfl⟩) λh5=>?_⟩
  ·have:=UI h5
   simp; omega
  have h5:=UH h5
  refine ⟨_,_,_,c0 _ s1,⟨by omega,by omega⟩,_,_,_,c1 _ s1,⟨by omega,by omega⟩,⟨by omega,by omega⟩,?_,rfl⟩
  rw [Vu]
  simp only [h2,true_and,and_true]
  omega
 rintro _ b _ ⟨hpre,rfl⟩
 refine aa (λhbt=>?_) λhbf=>?_
 ·subst hbt
  refine ⟨⟨false,rfl,?_⟩,hfin _ s1⟩
  constructor
  ·intro h; cases h
  ·rintro ⟨p1,p2,p3,p4,p5,_⟩
   have:=hpre.2 ⟨p1,p2,p3,p4,p5⟩
   cases this
 obtain ⟨p1,p2,p3,p4,p5⟩:=hpre.1 hbf
 have hT:1<=x.tl:=by
  have:=(UJ.1 p1).1; omega
 refine l7 h λk16 w3 h=>?_
 have h:=dA (κ:=Int) h
 refine ⟨_,_,_,c0 _ h.aR,cQ (lo:=1) hT hg.tc ?_⟩
 have hts:=hg.t.drop hT hg.tc
 have htl:(g.terms.drop 1).length = x.tl - 1:=hts.1
 -- the terminals
 refine ⟨λo l' c' n w'=>∃ (j:Nat) (m:List (Int × Value)),n = j/\j<=x.tl - 1/\j = l'/\(∀ t∈(g.terms.drop 1).take j,dt t.name = true/\0<=t.level/\t.level<=g.levels.length)/\(∀ n:Int,assoc n m = if ∃ t∈(g.terms.drop 1).take j,t.level = n then some (.int .i64 1) else none) /\
   St w' [own 1 o j c' (((g.terms.drop 1).take j).map λt=>Value.string t.name),mapA k16 m,has H],λ_ _ _ n _=>x.tl - 1 - n.toNat,⟨0,[],rfl,by omega,rfl,by simp,by simp [assoc],az 1 h⟩,?_⟩
 clear h
 rintro _ o10 _ k22 n2 w4 ⟨j,m,rfl,hj,rfl,hok,hm,h⟩
 have s4:sub H (hp w4):=bj 2 h.l
 refine aa (λhlt=>?_) λhlt=>?_
 ·have hlt:j < x.tl - 1:=by have:=UI hlt; omega
  obtain ⟨t,ad,vs,ht1,hta,ht2,ht3⟩:=hts.get hlt
  have ht3:vs = [.string t.name,.int .i64 t.level]:=ht3
  subst ht3
  have htm:t∈g.terms.drop 1:=UL ht1
  have htg:t∈g.terms:=V0 htm
  obtain ⟨q1,q2⟩:=b5 t htg
  have et:(g.terms.drop 1).take (j + 1) = (g.terms.drop 1).take j ++ [t]:=by rw [UR,ht1]; rfl
  refine ⟨ad,hta,by omega,by omega,?_⟩
  rw [Vh]
  refine ⟨_,_,ht2.at s4 rfl,af h λk23 w5 h=>aI h rfl (by simp [aH]) λw6 h=>?_⟩
  refine ⟨λb w'=>(b = false↔(dt t.name = true/\0<=t.level/\t.level<=g.levels.length))/\St w' [aS k23 [.string t.name,.int .i64 t.level],own 1 o10 j k22 (((g.terms.drop 1).take j).map λt=>Value.string t.name),mapA k16 m,has H],?_,?_⟩
  ·refine ⟨_,h.cell 0,(Mz (by omega)).mono ?_⟩
   rintro _ w7 ⟨rfl,hg7⟩
   have h:=h.gr hg7
   refine ⟨_,rfl,aa (λh1=>⟨?_,h⟩) λh1=>?_⟩
   ·have h1:dt t.name = false:=by simpa using h1
    simp [h1]
   have h1:dt t.name = true:=by simpa using h1
   have cl:w7.cell? ((⟨k23,0,none⟩ : Addr).add 1) = some (.int .i64 t.level):=h.row.cell (sub.refl _) rfl
   refine ⟨_,cl,aa (λh2=>⟨?_,h⟩) λh2=>?_⟩
   ·have h2:=UI h2
    simp [h1]; omega
   have h2:=UH h2
   refine ⟨_,cl,_,_,_,c2 _ (bj 3 h.l),?_,h⟩
   rw [Vu]
   simp only [h1,true_and]
   omega
  ·clear h
   rintro _ b4 w8 ⟨hb4,h⟩
   refine aa (λhbt=>?_) λhbf=>?_
   ·subst hbt
    refine ⟨⟨false,rfl,?_⟩,hfin _ (bj 3 h.l)⟩
    constructor
    ·intro h; cases h
    ·rintro ⟨_,_,_,_,_,p6,_⟩
     have:=hb4.2 (p6 t htm)
     cases this
   have hokt:=hb4.1 hbf
   refine ⟨_,h.cell 0,af h λk26 w9 h=>?_⟩
   refine (aW aL (rfl:ah Ty _ = .slice _) (rfl:ah Ty _ = .slice _) rfl rfl rfl (h.pick 5 [0,2,1,3,4]) rfl (by simp [aH]) (by show (j + 1) * 16<=_; omega) (by omega)).mono ?_
   rintro _ w10 ⟨a',c',rfl,h⟩
   have h:=h.pick 5 [3,0,2,4]
   refine ⟨_,_,_,rfl,_,(ag (b:=k23) (vs:=[.string t.name,.int .i64 t.level]) 2 h.l).cell (sub.refl _) (j:=1) rfl,?_⟩
   refine (cP (κ:=Int) aL (rfl:ah Ty _ = .map _ _) bp h t.level (.int .i64 1)).mono ?_
   rintro _ w11 h
   refine ⟨⟨by omega,by omega⟩,⟨j + 1,bA t.level (.int .i64 1) m,by simp,by omega,rfl,λt' ht'=>?_,λn=>?_,?_⟩,by dsimp only; omega⟩
   ·rw [et,UO] at ht'
    rcases ht' with ht' | ht'
    ·exact hok t' ht'
    ·simp at ht'; subst ht'; exact hokt
   ·rw [dz,hm,et]
    by_cases e:n = t.level
    ·subst e
     rw [US rfl,US ⟨t,by simp,rfl⟩]
    ·rw [UN e]
     have:(∃ t'∈(g.terms.drop 1).take j ++ [t],t'.level = n)↔∃ t'∈(g.terms.drop 1).take j,t'.level = n:=by
      constructor
      ·rintro ⟨t',h1,h2⟩
       rcases UO.1 h1 with h1 | h1
       ·exact ⟨t',h1,h2⟩
       ·simp at h1; subst h1; exact absurd h2.symm e
      ·rintro ⟨t',h1,h2⟩; exact ⟨t',UO.2 (.inl h1),h2⟩
     simp only [this]
   ·have e:(((g.terms.drop 1).take j).map λt=>Value.string t.name) ++ [.string t.name] = ((g.terms.drop 1).take (j + 1)).map λt=>Value.string t.name:=by rw [et]; simp
    rw [<- e]
    exact h.pick 4 [1,0,3]
 have hlt:j = x.tl - 1:=by have:=UH hlt; omega
 subst hlt
 rw [U6 (by omega)] at hok hm h
 refine ⟨_,_,_,c2 _ s4,λn w'=>∃ i:Nat,n = i/\i<=x.ll/\(∀ (k:Nat) v,k < i->g.levels[k]? = some v->1<=v/\v<=3/\∃ t∈g.terms.drop 1,t.level = (k:Int) + 1)/\St w' [own 1 o10 (x.tl - 1) k22 ((g.terms.drop 1).map λt=>Value.string t.name),mapA k16 m,has H],λn _=>x.ll - n.toNat,⟨0,rfl,by omega,λk v hk=>by omega,h⟩,?_⟩
 clear h s4
 rintro _ n7 w12 ⟨i,rfl,hi,hlv,h⟩
 have s12:sub H (hp w12):=bj 2 h.l
 have bad:∀ {v:Int},g.levels[i]? = some v->¬ (1<=v/\v<=3/\∃ t∈g.terms.drop 1,t.level = (i:Int) + 1)->(∃ r:Bool,Value.bool false = .bool r/\(r = true↔qw g added))/\Gr w w12:=λ{v} hv hn=>by
  refine ⟨⟨false,rfl,?_⟩,hfin _ s12⟩
  constructor
  ·intro h; cases h
  ·rintro ⟨_,_,_,_,_,_,p7,_⟩
   exact absurd (p7 i v hv) hn
 refine aa (λhlt=>?_) λhlt=>?_
 ·have hlt:i < x.ll:=by have:=UI hlt; omega
  obtain ⟨v,ad,hv1,hva,hv2⟩:=hg.l.dM hlt
  refine ⟨ad,hva,by omega,by omega,?_⟩
  rw [Vh]
  refine ⟨_,hv2 _ s12,aa (λh1=>bad hv1 (by have:=UI h1; omega)) λh1=>aa (λh2=>bad hv1 (by have:=UI h2; omega)) λh2=>⟨⟨by omega,by omega⟩,?_⟩⟩
  refine (bV (κ:=Int) aL (rfl:ah Ty _ = .map _ _) bp rfl rfl (h.pick 3 [1]) ((i:Int) + 1)).mono ?_
  rintro _ _ ⟨rfl,rfl⟩
  rw [hm]
  by_cases he:∃ t∈g.terms.drop 1,t.level = (i:Int) + 1
  ·rw [US he]
   refine ⟨_,rfl,d_ rfl ⟨⟨by omega,by omega⟩,⟨i + 1,by simp,by omega,λk v' hk hv'=>?_,h⟩,bK hlt⟩⟩
   by_cases e:k = i
   ·subst e
    rw [hv1] at hv'; cases hv'
    exact ⟨by have:=UH h1; omega,by have:=UH h2; omega,he⟩
   ·exact hlv k v' (by omega) hv'
  ·rw [UN he]
   exact ⟨_,rfl,dZ rfl (bad hv1 (λh=>he h.2.2))⟩
 have hlt:i = x.ll:=by have:=UH hlt; omega
 subst hlt
 have hlv' : ∀ (k:Nat) v,g.levels[k]? = some v->1<=v/\v<=3/\∃ t∈g.terms.drop 1,t.level = (k:Int) + 1:=λk v hv=>hlv k v (by have:=(UJ.1 hv).1; omega) hv
 refine ⟨_,_,_,c1 _ s12,cQ (lo:=added) (by omega) hg.nc ?_⟩
 have hns:=hg.n.drop (k:=added) (by omega) hg.nc
 have e1:((g.terms.drop 1).map λt=>Value.string t.name) = ((g.terms.drop 1).map h_.name).map λs=>Value.string s:=by rw [Wi]; rfl
 rw [e1] at h
 have rt:aX (hp w12) ((g.terms.drop 1).map h_.name) o10 (x.tl - 1):=Pz h
 refine (Fu rt (by omega)).mono ?_
 rintro _ w14 ⟨rfl,g14⟩
 have s14:sub H (hp w14):=s12.trans g14
 refine ⟨_,rfl,aa (λh1=>?_) λh1=>?_⟩
 ·have h1:=UI h1
  refine (Fu (hns.mono s14) (by omega)).mono ?_
  rintro _ w15 ⟨rfl,g15⟩
  have s15:sub H (hp w15):=s14.trans g15
  refine ⟨_,rfl,aa (λh2=>?_) λh2=>?_⟩
  ·have h2:=UI h2
   refine (yH (hns.mono s15) (by omega) (λs hs=>by have:=b6 s (V0 hs); omega)).mono ?_
   rintro _ _ ⟨rfl,rfl⟩
   refine ⟨_,rfl,⟨_,rfl,?_⟩,hfin _ s15⟩
   rw [Bool.not_not,V7]
   exact ⟨λh3=>⟨p1,p2,p3,p4,p5,hok,hlv',h1,h2,h3⟩,λ⟨_,_,_,_,_,_,_,_,_,h3⟩=>h3⟩
  ·have h2:=UH h2
   refine ⟨⟨false,rfl,?_⟩,hfin _ s15⟩
   exact ⟨λh=>(by cases h),λ⟨_,_,_,_,_,_,_,_,h3,_⟩=>absurd h3 h2⟩
 ·have h1:=UH h1
  refine ⟨⟨false,rfl,?_⟩,hfin _ s14⟩
  exact ⟨λh=>(by cases h),λ⟨_,_,_,_,_,_,_,h3,_⟩=>absurd h3 h1⟩
end
end Go.Proofs.YtndaepmjkbmjmaaGreatDoor
namespace Go.V
def nx (acc:List Int) (x:Int):List Int:=if x∈acc then acc else acc ++ [x]
def cJ (l:List Int):List Int:=l.foldl nx []
theorem yf {l:List Int} {j:Nat} {x:Int} (h:l[j]? = some x):cJ (l.take (j + 1)) = nx (cJ (l.take j)) x:=by
 unfold cJ; rw [UR,h,List.foldl_append]; rfl
theorem MD {acc:List Int} {x y:Int}:y∈nx acc x↔y∈acc\/y = x:=by
 unfold nx; split
 ·rename_i h; exact ⟨.inl,λh'=>h'.elim id (λe=>e ▸ h)⟩
 ·simp
theorem ME (acc:List Int) (x:Int):acc.length<=(nx acc x).length/\(nx acc x).length<=acc.length + 1:=by
 unfold nx; split <;> simp
theorem HG {acc:List Int} (x:Int) (h:acc.Nodup):(nx acc x).Nodup:=by
 unfold nx; split
 ·exact h
 ·rename_i hn
  rw [Vp]
  exact ⟨h,by simp,λa ha b hb e=>by simp at hb; subst hb; subst e; exact hn ha⟩
theorem Af (l:List Int):∀ acc,acc.Nodup->(l.foldl nx acc).Nodup/\(∀ y,y∈l.foldl nx acc↔y∈acc\/y∈l)/\(l.foldl nx acc).length<=acc.length + l.length:=by
 induction l with
 | nil=>intro acc h; exact ⟨h,by simp,by simp⟩
 | cons x l ih =>
  intro acc h
  obtain ⟨h1,h2,h3⟩:=ih _ (HG x h)
  refine ⟨h1,λy=>?_,?_⟩
  ·show y∈l.foldl nx (nx acc x)↔_
   rw [h2,MD,U1,or_assoc]
  ·show (l.foldl nx (nx acc x)).length<=_
   have:=(ME acc x).2
   simp only [Vl]; omega
theorem HH {l:List Int} {y:Int}:y∈cJ l↔y∈l:=by
 have:=(Af l [] (by simp)).2.1 y
 simpa [cJ] using this
theorem ua (l:List Int):(cJ l).length<=l.length:=by
 have:=(Af l [] (by simp)).2.2
 simpa [cJ] using this
def ae.T (g:ae):Nat:=g.terms.length
def ae.N (g:ae):Nat:=g.nons.length
def fH (g:ae) (added:Nat) (s:Int):Prop:=1<=s/\s < g.T + g.N/\¬ ((g.T:Int)<=s/\s < g.T + added)
def mB (g:ae) (added:Nat) (p:aO):Prop:=((g.T:Int) + added<=p.left/\p.left < g.T + g.N/\0<=p.level/\p.level<=g.levels.length)/\∀ s∈p.right,fH g added s
def gK (g:ae) (added:Nat):List Int:=cJ ((g.prods.drop added).map aO.left)
def wX (g:ae) (added:Nat):Prop:=added < g.prods.length/\g.prods.length<=96 + added/\(∀ p∈g.prods.drop added,mB g added p) /\
 ((gK g added).length:Int) = (g.N:Int) - added/\(g.T:Int) + added<=g.start/\g.start < g.T + g.N
def MF (g:ae):Prop:=qw g 0/\wX g 0/\Jk (gK g 0)
def aq (g:ae):Prop:=g.nons[0]? = some .empty/\qw g 1/\wX g 1/\∃ p,g.prods[0]? = some p/\p.left = (g.T:Int)/\p.right = [g.start]/\p.level = 0
end Go.V
namespace Go.Proofs.YtndaepmjkbmjmaaGreatDoor
section
variable {w:WB} {L:List au} {g:ae} {x:GA}
theorem tF (hg:gR (hp w) g x) (hb:iq g) (added:Nat) (ha:added<=1) :
  ay Tryz.prog tM [.agg ⟨x.cells⟩,.int .i64 (added:Int)] w λv w'=>∃ (a:WA) (l c:Nat) (xs:List Int) (r:Bool),v = .tuple #[.slice a l c,.bool r]/\(r = true↔wX g added)/\(r = true->xs = gK g added)/\St w' (own 1 a l c (iv xs) :: all w):=by
 refine qi ?_
 refine af (St.all w) λk1 w1 h=>?_
 have gw:Gr w w1:=h.aR
 have hg:=hg.mono gw
 have rb:av (hp w1) ⟨k1,0,none⟩ x.cells:=h.row
 obtain ⟨b1,b2,b3,b4,b5,b6,b7⟩:=hb
 have tl:=hg.t.1
 have nl:=hg.n.1
 have ll:=hg.l.1
 have pl:=hg.p.1
 have hfin:∀ w' (A:au),St w' [A,has (hp w1)]->St w' [A,has (hp w)]:=λw' A h=>h.vf (b_ gw)
 have h:=St.all w1
 unfold V.all at h
 have c0:=λ(w' : WB) (s:sub (hp w1) (hp w'))=>rb.cell0 (v:=.slice x.ta x.tl x.tc) s
 have c1:=λ(w' : WB) (s:sub (hp w1) (hp w'))=>rb.cell s (j:=1) (v:=.slice x.na x.nl x.nc) rfl
 have c2:=λ(w' : WB) (s:sub (hp w1) (hp w'))=>rb.cell s (j:=2) (v:=.slice x.la x.ll x.lc) rfl
 have c3:=λ(w' : WB) (s:sub (hp w1) (hp w'))=>rb.cell s (j:=3) (v:=.int .i64 x.s) rfl
 have c4:=λ(w' : WB) (s:sub (hp w1) (hp w'))=>rb.cell s (j:=4) (v:=.slice x.pa x.pl x.pc) rfl
 unfold V.all
 generalize hp w1 = H at *
 have s1:sub H (hp w1):=h.has
 have hT:g.T = x.tl:=tl
 have hN:g.N = x.nl:=nl
 have no:∀ w',sub H (hp w')->¬ wX g added->∃ (a:WA) (l c:Nat) (xs:List Int) (r:Bool),Value.tuple (Array.mk [.slice none 0 0,.bool false]) = .tuple #[.slice a l c,.bool r]/\(r = true↔wX g added)/\(r = true->xs = gK g added)/\St w' [own 1 a l c (iv xs),has (hp w)]:=λw' s hn =>
  ⟨none,0,0,[],false,rfl,⟨λh=>(by cases h),λh=>absurd h hn⟩,λh=>(by cases h),hfin _ _ (az 1 (b_ s))⟩
 refine ⟨λb w'=>(b = false↔(added < g.prods.length/\g.prods.length<=96 + added))/\w' = w1,?_,?_⟩
 ·refine ⟨_,_,_,c4 _ s1,aa (λh1=>⟨?_,rfl⟩) λh1=>?_⟩
  ·have:=UI h1
   simp; omega
  have h1:=UH h1
  refine ⟨_,_,_,c4 _ s1,⟨by omega,by omega⟩,?_,rfl⟩
  rw [Vu]; omega
 rintro _ b _ ⟨hpre,rfl⟩
 refine aa (λhbt=>?_) λhbf=>?_
 ·subst hbt
  refine no _ s1 ?_
  rintro ⟨p1,p2,_⟩
  have:=hpre.2 ⟨p1,p2⟩; cases this
 obtain ⟨p1,p2⟩:=hpre.1 hbf
 refine ⟨_,_,_,c0 _ s1,_,_,_,c1 _ s1,⟨by omega,by omega⟩,_,_,_,c0 _ s1,⟨by omega,by omega⟩,_,_,_,c4 _ s1,cQ (lo:=added) (by omega) hg.pc ?_⟩
 have hps:=hg.p.drop (k:=added) (by omega) hg.pc
 have hpsl:=hps.1
 refine ⟨λo l' c' n w'=>∃ j:Nat,n = j/\j<=x.pl - added/\(cJ (((g.prods.drop added).map aO.left).take j)).length = l'/\(∀ p∈(g.prods.drop added).take j,mB g added p) /\
   St w' [own 1 o l' c' (iv (cJ (((g.prods.drop added).map aO.left).take j))),has H],λ_ _ _ n _=>x.pl - added - n.toNat,⟨0,rfl,by omega,rfl,by simp,az 1 h⟩,?_⟩
 clear h
 rintro _ o8 _ k17 n1 w3 ⟨j,rfl,hj,rfl,hok,h⟩
 have s3:sub H (hp w3):=bj 1 h.l
 have hll:(cJ (((g.prods.drop added).map aO.left).take j)).length<=j:=Vf (ua _) (by simp; omega)
 refine aa (λhlt=>?_) λhlt=>?_
 ·have hlt:j < x.pl - added:=by have:=UI hlt; omega
  obtain ⟨p,ad,vs,hp1,hpa,hp2,ra,rl,rc,rfl,hrc,hp3⟩:=hps.get hlt
  have hpm:p∈g.prods.drop added:=UL hp1
  have hlp:((g.prods.drop added).map aO.left)[j]? = some p.left:=by rw [UM,hp1]; rfl
  have rl1:=hp3.1
  have b7':=b7 p (V0 hpm)
  refine ⟨ad,hpa,by omega,by omega,?_⟩
  rw [Vh]
  refine ⟨_,_,_,_,_,hp2.at s3 rfl,af h λk20 w4 h=>aI h rfl (by simp [aH]) λw5 h=>?_⟩
  have hbox:∀ w',sub (hp w5) (hp w')->av (hp w') ⟨k20,0,none⟩ [.int .i64 p.left,.slice ra rl rc,.int .i64 p.level]:=λw' s=>h.row.mono s
  have s5:sub H (hp w5):=bj 2 h.l
  have d0:=λ(w' : WB) (s:sub (hp w5) (hp w'))=>(hbox w' s).cell0 (v:=.int .i64 p.left) (sub.refl _)
  have d1:=λ(w' : WB) (s:sub (hp w5) (hp w'))=>(hbox w' s).cell (sub.refl _) (j:=1) (v:=.slice ra rl rc) rfl
  have d2:=λ(w' : WB) (s:sub (hp w5) (hp w'))=>(hbox w' s).cell (sub.refl _) (j:=2) (v:=.int .i64 p.level) rfl
  refine ⟨λb w'=>(b = false↔((g.T:Int) + added<=p.left/\p.left < g.T + g.N/\0<=p.level/\p.level<=g.levels.length))/\w' = w5,?_,?_⟩
  ·refine ⟨_,d0 _ (sub.refl _),aa (λh1=>⟨?_,rfl⟩) λh1=>?_⟩
   ·have:=UI h1
    simp; omega
   have h1:=UH h1
   refine ⟨_,d0 _ (sub.refl _),aa (λh2=>⟨?_,rfl⟩) λh2=>?_⟩
   ·have:=UI h2
    simp; omega
   have h2:=UH h2
   refine ⟨_,d2 _ (sub.refl _),aa (λh3=>⟨?_,rfl⟩) λh3=>?_⟩
   ·have:=UI h3
    simp; omega
   have h3:=UH h3
   refine ⟨_,d2 _ (sub.refl _),_,_,_,c2 _ s5,?_,rfl⟩
   rw [Vu]; omega
  rintro _ b2 w6 ⟨hb2,rfl⟩
  refine aa (λhbt=>?_) λhbf=>?_
  ·subst hbt
   refine no _ s5 ?_
   rintro ⟨_,_,p3,_⟩
   have:=hb2.2 (p3 p hpm).1; cases this
  have hpok:=hb2.1 hbf
  refine ⟨_,_,_,d1 _ (sub.refl _),λn w'=>∃ i:Nat,n = i/\i<=rl/\(∀ (k:Nat) s,k < i->p.right[k]? = some s->fH g added s)/\w' = w6,λn _=>rl - n.toNat,⟨0,rfl,by omega,λk s hk=>by omega,rfl⟩,?_⟩
  rintro _ n8 w7 ⟨i,rfl,hi,hsy,rfl⟩
  refine aa (λhlt2=>?_) λhlt2=>?_
  ·have hlt2:i < rl:=by have:=UI hlt2; omega
   obtain ⟨s,ad2,hs1,rfl,hs2⟩:=hp3.dM hlt2
   have bad:¬ fH g added s->_:=λhn=>no w7 s5 (λhq=>hn ((hq.2.2.1 p hpm).2 s (UL hs1)))
   have good:fH g added s->aw ((i:Int) + 1)/\(∃ i' : Nat,(i:Int) + 1 = i'/\i'<=rl/\(∀ (k:Nat) s,k < i'->p.right[k]? = some s->fH g added s)/\w7 = w7)/\rl - ((i:Int) + 1).toNat < rl - (i:Int).toNat:=λhgd=>by
    refine ⟨⟨by omega,by omega⟩,⟨i + 1,by simp,by omega,λk s' hk hs'=>?_,rfl⟩,bK hlt2⟩
    by_cases e:k = i
    ·subst e; rw [hs1] at hs'; cases hs'; exact hgd
    ·exact hsy k s' (by omega) hs'
   refine aB rfl hlt2 ⟨s,hs2 _ s5,aa (λh1=>bad ?_) λh1=>aa (λh2=>bad ?_) λh2=>⟨_,_,_,c0 _ s5,aa (λh3=>aa (λh4=>bad ?_) λh4=>good ?_) λh3=>good ?_⟩⟩
   ·have:=UI h1; unfold fH; omega
   ·have:=UI h2; unfold fH; omega
   ·have h3:=UI h3; have h4:=UI h4; unfold fH; omega
   ·have h1:=UH h1; have h2:=UH h2; have h3:=UI h3; have h4:=UH h4; unfold fH; omega
   ·have h1:=UH h1; have h2:=UH h2; have h3:=UH h3; unfold fH; omega
  have hlt2:i = rl:=by have:=UH hlt2; omega
  subst hlt2
  have hpok2:mB g added p:=⟨hpok,λs hs=>by
   obtain ⟨k,hk,e⟩:=List.mem_iff_getElem.1 hs
   exact hsy k s (by omega) (by rw [<- e]; exact UK hk)⟩
  have hok2:∀ q∈(g.prods.drop added).take (j + 1),mB g added q:=λq hq=>by
   rw [UR,hp1] at hq
   rcases UO.1 hq with hq | hq
   ·exact hok q hq
   ·simp at hq; subst hq; exact hpok2
  have et:=yf hlp
  refine ⟨_,d0 _ (sub.refl _),(HC (DK (h.pick 3 [1])) (by omega) p.left).mono ?_⟩
  rintro _ _ ⟨rfl,rfl⟩
  refine ⟨_,rfl,aa (λh1=>?_) λh1=>?_⟩
  ·have h1:p.left∉cJ (((g.prods.drop added).map aO.left).take j):=by simpa using h1
   refine ⟨_,d0 _ (sub.refl _),af h λk27 w9 h=>?_⟩
   refine (aW aL (rfl:ah Ty _ = .slice _) (rfl:ah Ty _ = .slice _) rfl rfl rfl (h.pick 4 [0,2,3]) rfl (by simp [aH]) (by show (_ + 1) * 8<=_; omega) (by omega)).mono ?_
   rintro _ w10 ⟨a',c',rfl,h⟩
   have e2:cJ (((g.prods.drop added).map aO.left).take (j + 1)) = cJ (((g.prods.drop added).map aO.left).take j) ++ [p.left]:=by rw [et]; unfold nx; rw [UN h1]
   refine ⟨_,_,_,rfl,⟨by omega,by omega⟩,⟨j + 1,by simp,by omega,by rw [e2]; simp,hok2,?_⟩,by dsimp only; omega⟩
   rw [e2]
   have e3:∀ l:List Int,iv (l ++ [p.left]) = iv l ++ [.int .i64 p.left]:=λl=>by simp [iv]
   rw [e3]
   exact h.pick 3 [0,2]
  ·have h1:p.left∈cJ (((g.prods.drop added).map aO.left).take j):=by simpa using h1
   have e2:cJ (((g.prods.drop added).map aO.left).take (j + 1)) = cJ (((g.prods.drop added).map aO.left).take j):=by rw [et]; unfold nx; rw [US h1]
   refine ⟨⟨by omega,by omega⟩,⟨j + 1,by simp,by omega,by rw [e2],hok2,?_⟩,by dsimp only; omega⟩
   rw [e2]
   exact h.pick 3 [1,2]
 have hlt:j = x.pl - added:=by have:=UH hlt; omega
 subst hlt
 have el:((g.prods.drop added).map aO.left).take (x.pl - added) = (g.prods.drop added).map aO.left:=U6 (by simp; omega)
 rw [el] at h hll ⊢
 rw [U6 (by omega)] at hok
 intro w11 hd
 have h:=h.drawn hd
 have s11:sub H (hp w11):=bj 1 h.l
 refine ⟨λw'=>sub H (hp w'),s11,_,_,_,λw' s=>c1 _ s,⟨by omega,by omega⟩,aa (λh1=>?_) λh1=>?_⟩
 ·have h1:((gK g added).length:Int) = (x.nl:Int) - added:=by simpa [gK] using h1
  refine ⟨_,λw' s=>c3 _ s,aa (λh2=>?_) λh2=>?_⟩
  ·have h2:=UI h2
   refine ⟨_,λw' s=>c3 _ s,_,_,_,_,_,rfl,?_,λ_=>rfl,hfin _ _ h⟩
   rw [UY]
   have hs:=hg.s
   constructor
   ·intro h3; exact ⟨p1,p2,hok,by rw [hN]; exact h1,by omega,by omega⟩
   ·rintro ⟨_,_,_,_,_,q⟩; omega
  ·have h2:=UH h2
   have hs:=hg.s
   exact ⟨_,_,_,_,false,rfl,⟨λh=>(by cases h),λ⟨_,_,_,_,q,_⟩=>absurd (by omega:(g.T:Int) + added<=g.start->False) (by omega)⟩,λh=>(by cases h),hfin _ _ h⟩
 ·have h1:¬ ((gK g added).length:Int) = (x.nl:Int) - added:=by simpa [gK] using h1
  exact ⟨_,_,_,_,false,rfl,⟨λh=>(by cases h),λ⟨_,_,_,q,_⟩=>absurd (by rw [<- hN]; exact q) h1⟩,λh=>(by cases h),hfin _ _ h⟩
theorem PA (hg:gR (hp w) g x) (hb:iq g):ay Tryz.prog DC [.agg ⟨x.cells⟩] w λv w'=>(∃ r:Bool,v = .bool r/\(r = true↔MF g))/\Gr w w':=by
 refine z7 ?_
 refine af (St.all w) λk1 w1 h=>?_
 have gw:Gr w w1:=h.aR
 have hg:=hg.mono gw
 have rb:av (hp w1) ⟨k1,0,none⟩ x.cells:=h.row
 refine ⟨_,_,_,_,_,_,_,_,_,_,_,_,_,rb.at (sub.refl _) rfl,(Cy (x:=x) hg hb 0 (by omega)).mono ?_⟩
 rintro _ w2 ⟨⟨r,rfl,hr⟩,g2⟩
 refine ⟨_,rfl,aa (λh1=>?_) λh1=>?_⟩
 ·have h1:r = false:=by simpa using h1
  subst h1
  exact ⟨⟨false,rfl,⟨λh=>(by cases h),λh=>absurd (hr.2 h.1) (by simp)⟩⟩,gw.trans g2⟩
 have h1:r = true:=by simpa using h1
 have hsy:=hr.1 h1
 refine ⟨_,_,_,_,_,_,_,_,_,_,_,_,_,(rb.mono g2).at (sub.refl _) rfl,(tF (x:=x) (hg.mono g2) hb 0 (by omega)).mono ?_⟩
 rintro _ w3 ⟨a,l,c,xs,r2,rfl,hr2,hxs,h3⟩
 have g3:Gr w w3:=(gw.trans g2).trans h3.aR
 refine ⟨_,_,_,_,rfl,aa (λh4=>?_) λh4=>?_⟩
 ·have hxs:=hxs h4
  have hlen:=iu h3
  have hp2:=hr2.1 h4
  have hl2:=ua ((g.prods.drop 0).map aO.left)
  rw [iW,hxs] at hlen
  have hl3:(gK g 0).length<=96:=by
   have:=hp2.2.1
   simp only [UQ,V3] at hl2
   unfold gK; omega
  refine (HD (DK h3) (by omega)).mono ?_
  rintro _ w4 ⟨⟨r3,rfl,hr3⟩,hw4⟩
  refine ⟨_,rfl,⟨r3,rfl,?_⟩,g3.trans (Gr.of_eq hw4)⟩
  rw [hr3,hxs]
  exact ⟨λh=>⟨hsy,hp2,h⟩,λh=>h.2.2⟩
 ·subst h4
  exact ⟨⟨false,rfl,⟨λh=>(by cases h),λh=>absurd (hr2.2 h.2.1) (by simp)⟩⟩,g3⟩
end
end Go.Proofs.YtndaepmjkbmjmaaGreatDoor
namespace Go.V
structure GB (H:Hp) (k:Nat) (x:GA):Prop where
 c0:∀ {w:WB},sub H (hp w)->w.cell? ⟨k,0,none⟩ = some (.slice x.ta x.tl x.tc)
 c1:∀ {w:WB},sub H (hp w)->w.cell? ((⟨k,0,none⟩ : Addr).add 1) = some (.slice x.na x.nl x.nc)
 c2:∀ {w:WB},sub H (hp w)->w.cell? ((⟨k,0,none⟩ : Addr).add 2) = some (.slice x.la x.ll x.lc)
 c3:∀ {w:WB},sub H (hp w)->w.cell? ((⟨k,0,none⟩ : Addr).add 3) = some (.int .i64 x.s)
 c4:∀ {w:WB},sub H (hp w)->w.cell? ((⟨k,0,none⟩ : Addr).add 4) = some (.slice x.pa x.pl x.pc)
 row:∀ {w:WB},sub H (hp w)->rowAt w ⟨k,0,none⟩ 0 5 = some x.cells
theorem Jl {H:Hp} {k:Nat} {x:GA} (r:av H ⟨k,0,none⟩ x.cells):GB H k x :=
 ⟨λs=>r.cell0 s,λs=>r.cell s (j:=1) rfl,λs=>r.cell s (j:=2) rfl,λs=>r.cell s (j:=3) rfl,λs=>r.cell s (j:=4) rfl,λs=>r.at s rfl⟩
theorem cN {w:WB} {g:ae} {x:GA} {e:TypeId} {k:Nat->WB->Prop} (hg:gR (hp w) g x) (hk:∀ k1 w1,Gr w w1->gR (hp w1) g x->GB (hp w1) k1 x->k k1 w1):new w (.cells (Array.mk x.cells) e) k :=
 af (St.all w) λk1 w1 h=>hk k1 w1 h.aR (hg.mono h.aR) (Jl h.row)
theorem gk {a:WA} {len sz:Nat} {k:Addr->Prop} {ad:Addr} (ha:a = some ad) (hi:0 < len) (hk:k ad):idx a len 0 sz k :=
 ⟨ad,ha,by omega,by omega,by simpa [aF,Addr.add] using hk⟩
theorem Fw:∀ {l m:List Int},l.Nodup->(∀ x∈l,x∈m)->l.length<=m.length
 | [],m,_,_=>UW _
 | a :: l,m,h,hs=>by
  rw [VH] at h
  have ham:=hs a (by simp)
  have:=Fw (l:=l) (m:=m.erase a) h.2 λx hx=>(List.mem_erase_of_ne (λe=>h.1 (by subst e; exact hx))).2 (hs x (by simp [hx]))
  rw [List.length_erase_of_mem ham] at this
  have:=List.length_pos_of_mem ham
  simp only [Vl]; omega
def Ag (g:ae):Prop:=g.terms[0]? = some ⟨.empty,0⟩/\(∀ t∈g.terms.drop 1,dt t.name = true/\0<=t.level/\t.level<=g.levels.length)/\((g.terms.drop 1).map h_.name).Nodup
def vq (g:ae):Prop:=∀ (i:Nat) v,g.levels[i]? = some v->1<=v/\v<=3/\∃ t∈g.terms,t.level = (i:Int) + 1
def Fx (g:ae) (added:Nat):Prop:=(g.nons.drop added).Nodup/\∀ s∈g.nons.drop added,de s = true
theorem oe {g:ae} {added:Nat} (h:qw g added):g.levels.length<=64:=by
 obtain ⟨_,_,h3,_,_,_,h7,_⟩:=h
 have:=Fw (l:=(List.range g.levels.length).map λ(k:Nat)=>(k:Int) + 1) (m:=(g.terms.drop 1).map h_.level) (by
  rw [VI,VG]
  exact List.Pairwise.imp (λh e=>h (by omega)) List.nodup_range) (λx hx=>by
  obtain ⟨k,hk,rfl⟩:=U4.1 hx
  rw [Vg] at hk
  obtain ⟨_,_,t,ht,e⟩:=h7 k _ (UK hk)
  exact U4.2 ⟨t,ht,e⟩)
 simp at this; omega
theorem vr {g:ae} {added:Nat}:qw g added↔added < g.nons.length/\g.terms.length<=65/\g.nons.length<=64 + added/\g.levels.length<=64/\g.terms.length - 1 + (g.nons.length - added)<=64/\Ag g/\vq g/\Fx g added:=by
 constructor
 ·intro h
  have hl:=oe h
  obtain ⟨h1,h2,h3,h4,h5,h6,h7,h8,h9,h10⟩:=h
  exact ⟨h2,h3,h4,hl,h5,⟨h1,h6,h8⟩,λi v hv=>by obtain ⟨a,b,t,ht,e⟩:=h7 i v hv; exact ⟨a,b,t,V0 ht,e⟩,h9,h10⟩
 ·rintro ⟨h2,h3,h4,hl,h5,⟨h1,h6,h8⟩,h7,h9,h10⟩
  refine ⟨h1,h2,h3,h4,h5,h6,λi v hv=>?_,h8,h9,h10⟩
  obtain ⟨a,b,t,ht,e⟩:=h7 i v hv
  refine ⟨a,b,t,?_,e⟩
  cases hg:g.terms with
  | nil=>rw [hg] at ht; cases ht
  | cons t0 ts =>
   rw [hg] at ht h1
   cases h1
   rcases U1.1 ht with rfl | ht
   ·exact absurd e (by show (0:Int)≠_; omega)
   ·exact ht
end Go.V
namespace Go.Proofs.YtndaepmjkbmjmaaGreatDoor
section
variable {w:WB} {L:List au} {g:ae} {x:GA} {s:ByteArray}
theorem MG (hs:s.size<=4611686018427387904):ay Tryz.prog pg [.string s] w λv w'=>v = .bool (dt s)/\w' = w:=by
 refine ng ?_
 refine ⟨λn w'=>∃ j:Nat,n = j/\j<=s.size/\(∀ i,i < j->EJ (fM s i) = true)/\w' = w,λn _=>s.size - n.toNat,⟨0,rfl,by omega,λi hi=>by omega,rfl⟩,?_⟩
 rintro _ n w1 ⟨j,rfl,hj,hall,rfl⟩
 refine aa (λh=>?_) λh=>?_
 ·have h:j < s.size:=by have:=UI h; omega
  have hin:Dj (j:Int) s.size:=⟨by omega,by omega⟩
  have bad:EJ (fM s j) = false->Value.bool false = Value.bool (dt s)/\w1 = w1:=λhno=>by
   refine ⟨?_,rfl⟩
   have:(List.range s.size).all (λi=>EJ (fM s i)) = false:=by
    rw [List.all_eq_false]; exact ⟨j,by simpa using h,by simp [hno]⟩
   unfold dt; rw [this]; simp
  rw [Vh]
  refine ⟨hin,aa (λh1=>bad ?_) λh1=>⟨hin,aa (λh2=>bad ?_) λh2=>⟨hin,aa (λh3=>bad ?_) λh3=>?_⟩⟩⟩
  ·have h1:((fM s j:Nat):Int) < 32:=UI h1
   unfold EJ; simp; omega
  ·have h2:126 < ((fM s j:Nat):Int):=UI h2
   unfold EJ; simp; omega
  ·have h3:((fM s j:Nat):Int) = 39:=eq_of_beq h3
   unfold EJ; simp; omega
  ·have h1:¬ ((fM s j:Nat):Int) < 32:=UH h1
   have h2:¬ 126 < ((fM s j:Nat):Int):=UH h2
   have h3:¬ ((fM s j:Nat):Int) = 39:=Wr.1 h3
   refine ⟨⟨by omega,by omega⟩,⟨j + 1,by simp,by omega,λi hi=>?_,rfl⟩,bK h⟩
   by_cases e:i = j
   ·subst e; unfold EJ; simp; omega
   ·exact hall i (by omega)
 ·have h:j = s.size:=by have:=UH h; omega
  subst h
  have hall':=rQ.2 hall
  unfold dt
  rw [hall']
  refine aa (λh=>⟨?_,rfl⟩) λh=>⟨?_,rfl⟩
  ·have h:1<=s.size:=by have:=UI h; omega
   have e:decide ((s.size:Int)<=16) = decide (s.size<=16):=by rw [Vw]; simp only [UY]; omega
   rw [e]; simp [h]
  ·have h:¬ 1<=s.size:=by have:=UH h; omega
   simp [h]
theorem HI (hg:gR (hp w) g x) (hb:iq g):ay Tryz.prog m_ [.agg ⟨x.cells⟩] w λv w'=>(∃ r:Bool,v = .bool r/\(r = true↔Ag g))/\Gr w w':=by
 refine lI ?_
 refine cN hg λk1 w1 gw hg B=>?_
 obtain ⟨b1,b2,b3,b4,b5,b6,b7⟩:=hb
 have tl:=hg.t.1
 have ll:=hg.l.1
 have no:∀ {w'},Gr w1 w'->¬ Ag g->(∃ r:Bool,Value.bool false = .bool r/\(r = true↔Ag g))/\Gr w w':=λ{w'} gg hn=>⟨⟨false,rfl,⟨λh=>(by cases h),λh=>absurd h hn⟩⟩,gw.trans gg⟩
 have at' : ∀ {i:Nat},i < x.tl->∃ t ad,g.terms[i]? = some t/\x.ta = some ad/\(∀ w',Gr w1 w'->w'.cell? (ad.add (cT i 2)) = some (.string t.name))/\(∀ w',Gr w1 w'->w'.cell? ((ad.add (cT i 2)).add 1) = some (.int .i64 t.level)):=λ{i} hi=>by
  obtain ⟨t,ad,vs,h1,h2,h3,h4⟩:=hg.t.get hi
  have h4:vs = [.string t.name,.int .i64 t.level]:=h4
  subst h4
  exact ⟨t,ad,h1,h2,λw' s=>h3.cell0 s,λw' s=>h3.cell s (j:=1) rfl⟩
 refine ⟨λb w'=>(b = false↔g.terms[0]? = some ⟨.empty,0⟩)/\w' = w1,?_,?_⟩
 ·refine ⟨_,_,_,B.c0 (sub.refl _),aa (λh1=>⟨?_,rfl⟩) λh1=>?_⟩
  ·have:g.terms = []:=UU (by simp at h1; omega)
   simp [this]
  have h1:0 < x.tl:=by simp at h1; omega
  obtain ⟨t0,ad,ht1,hta,q1,q2⟩:=at' h1
  have q1:w1.cell? ad = some (.string t0.name):=by simpa [aF,Addr.add] using q1 w1 (Gr.refl _)
  have q2:w1.cell? (ad.add 1) = some (.int .i64 t0.level):=by
   have:=q2 w1 (Gr.refl _)
   rw [add_add] at this
   simpa [aF] using this
  refine ⟨_,_,_,B.c0 (sub.refl _),gk hta h1 ⟨_,q1,aa (λh2=>⟨?_,rfl⟩) λh2=>?_⟩⟩
  ·rw [vn] at h2
   have h2:t0.name≠ByteArray.mk (Array.mk []):=by simpa using h2
   rw [ht1]
   simp only [reduceCtorEq,false_iff]
   intro e; cases e; exact h2 rfl
  ·rw [vn] at h2
   have h2:t0.name = ByteArray.mk (Array.mk []):=by simpa using h2
   refine ⟨_,_,_,B.c0 (sub.refl _),gk hta h1 ⟨_,q2,?_,rfl⟩⟩
   rw [ht1]
   constructor
   ·intro e
    have:t0.level = 0:=by simpa using e
    cases t0; simp_all; rfl
   ·intro e; cases e; rfl
 rintro _ b w2 ⟨hpre,rfl⟩
 refine aa (λhbt=>?_) λhbf=>?_
 ·subst hbt
  exact no (Gr.refl _) λh=>by have:=hpre.2 h.1; cases this
 have p1:=hpre.1 hbf
 have hT:1<=x.tl:=by have:=(UJ.1 p1).1; omega
 refine ⟨λn w'=>∃ j:Nat,n = (j:Int) + 1/\j + 1<=x.tl/\(∀ t∈(g.terms.drop 1).take j,dt t.name = true/\0<=t.level/\t.level<=g.levels.length)/\(((g.terms.drop 1).take j).map h_.name).Nodup/\Gr w2 w',λn _=>x.tl - n.toNat,⟨0,rfl,by omega,by simp,by simp,Gr.refl _⟩,?_⟩
 rintro _ n w3 ⟨j,rfl,hj,hok,hnd,g3⟩
 refine ⟨_,_,_,B.c0 g3,aa (λhlt=>?_) λhlt=>?_⟩
 ·have hlt:j + 1 < x.tl:=by have:=UI hlt; omega
  obtain ⟨t,ad,ht1,hta,q1,q2⟩:=at' hlt
  have ht1' : (g.terms.drop 1)[j]? = some t:=by rw [Vk,Nat.add_comm]; exact ht1
  have htm:=UL ht1'
  obtain ⟨u1,u2⟩:=b5 t (V0 htm)
  have et:(g.terms.drop 1).take (j + 1) = (g.terms.drop 1).take j ++ [t]:=by rw [UR,ht1']; rfl
  have ej:((j:Int) + 1) = ((j + 1:Nat):Int):=by omega
  rw [ej]
  refine ⟨_,_,_,B.c0 g3,ak hta hlt ⟨_,q1 _ g3,(MG (by omega)).mono ?_⟩⟩
  rintro _ w4 ⟨rfl,rfl⟩
  refine ⟨_,rfl,λb w'=>(b = false↔(dt t.name = true/\0<=t.level/\t.level<=g.levels.length))/\Gr w2 w',?_,?_⟩
  ·intro w5 hd
   have g5:Gr w2 w5:=g3.trans (Gr.of_eq (gi hd))
   refine ⟨λw'=>Gr w2 w',g5,aa (λh1=>⟨?_,g5⟩) λh1=>?_⟩
   ·have h1:dt t.name = false:=by simpa using h1
    simp [h1]
   have h1:dt t.name = true:=by simpa using h1
   refine ⟨_,_,_,λw' s=>B.c0 s,ak hta hlt ⟨_,λw' s=>q2 _ s,aa (λh2=>⟨?_,g5⟩) λh2=>?_⟩⟩
   ·have h2:=UI h2
    simp [h1]; omega
   have h2:=UH h2
   refine ⟨_,_,_,λw' s=>B.c0 s,ak hta hlt ⟨_,λw' s=>q2 _ s,_,_,_,λw' s=>B.c2 s,?_,g5⟩⟩
   rw [Vu]
   simp only [h1,true_and]; omega
  rintro _ b3 w11 ⟨hb3,g11⟩
  refine aa (λhbt=>?_) λhbf=>?_
  ·subst hbt
   exact no g11 λh=>by have:=hb3.2 (h.2.1 t htm); cases this
  have hokt:=hb3.1 hbf
  refine ⟨λn w'=>∃ k:Nat,n = (k:Int) + 1/\k<=j/\(∀ u∈(g.terms.drop 1).take k,u.name≠t.name)/\Gr w2 w',λn _=>x.tl - n.toNat,⟨0,rfl,by omega,by simp,g11⟩,?_⟩
  rintro _ n5 w12 ⟨k,rfl,hk,hne,g12⟩
  refine aa (λhlt2=>?_) λhlt2=>?_
  ·have hlt2:k < j:=by have:=UI hlt2; omega
   obtain ⟨u,ad',hu1,hua,r1,_⟩:=at' (by omega:k + 1 < x.tl)
   rw [hta] at hua; cases hua
   have hu1' : (g.terms.drop 1)[k]? = some u:=by rw [Vk,Nat.add_comm]; exact hu1
   have ek:((k:Int) + 1) = ((k + 1:Nat):Int):=by omega
   intro w13 hd
   have g13:Gr w2 w13:=g12.trans (Gr.of_eq (gi hd))
   rw [ek]
   refine ⟨λw'=>Gr w2 w',g13,_,_,_,λw' s=>B.c0 s,ak hta (by omega) ⟨_,λw' s=>r1 _ s,_,_,_,λw' s=>B.c0 s,ak hta hlt ⟨_,λw' s=>q1 _ s,?_⟩⟩⟩
   rw [vn]
   refine aa (λh=>?_) λh=>?_
   ·have h:=UI h
    refine no g13 λhp=>?_
    have hnn:=hp.2.2
    have e1:((g.terms.drop 1).map h_.name)[k]? = some t.name:=by rw [UM,hu1',<- h]; rfl
    have e2:((g.terms.drop 1).map h_.name)[j]? = some t.name:=by rw [UM,ht1']; rfl
    have:=(List.getElem?_inj (UJ.1 e1).1 hnn).1 (e1.trans e2.symm)
    omega
   ·have h:=UH h
    refine ⟨⟨by omega,by omega⟩,⟨k + 1,by simp,by omega,λu' hu'=>?_,g13⟩,by dsimp only; omega⟩
    rw [UR,hu1'] at hu'
    rcases UO.1 hu' with hu' | hu'
    ·exact hne u' hu'
    ·simp at hu'; subst hu'; exact h
  ·have hlt2:k = j:=by have:=UH hlt2; omega
   subst hlt2
   refine ⟨⟨by omega,by omega⟩,⟨k + 1,by simp,by omega,λt' ht'=>?_,?_,g12⟩,by dsimp only; omega⟩
   ·rw [et] at ht'
    rcases UO.1 ht' with ht' | ht'
    ·exact hok t' ht'
    ·simp at ht'; subst ht'; exact hokt
   ·rw [et,U_]
    exact tZ.2 ⟨hnd,λhm=>by obtain ⟨u,hu,e⟩:=U4.1 hm; exact hne u hu e⟩
 ·have hlt:j + 1 = x.tl:=by have:=UH hlt; omega
  rw [U6 (by simp; omega)] at hok hnd
  exact ⟨⟨true,rfl,⟨λ_=>⟨p1,hok,hnd⟩,λ_=>rfl⟩⟩,gw.trans g3⟩
end
end Go.Proofs.YtndaepmjkbmjmaaGreatDoor
namespace Go.V
def Cz (g:ae) (added:Nat):Prop:=qw g added/\wX g added
theorem HJ {l:List Int} (h:0 < l.length):0 < (cJ l).length:=by
 obtain ⟨x,hx⟩:=List.exists_mem_of_length_pos h
 exact List.length_pos_of_mem (HH.2 hx)
def Fy (g:ae) (added:Nat):Prop:=g.nons.length<=64 + added/\g.terms.length<=65/\g.prods.length<=96 + added/\added < g.prods.length/\g.levels.length<=64
theorem Fz {g:ae} {added:Nat}:Cz g added↔Fy g added/\(g.terms.length:Int) - 1 + g.nons.length - added<=64/\Ag g/\vq g/\Fx g added/\(∀ p∈g.prods.drop added,mB g added p)/\((gK g added).length:Int) = (g.N:Int) - added/\(g.T:Int) + added<=g.start/\g.start < g.T + g.N:=by
 unfold Cz
 rw [vr]
 constructor
 ·rintro ⟨⟨h1,h2,h3,h4,h5,h6,h7,h8⟩,p1,p2,p3,p4,p5,p6⟩
  exact ⟨⟨h3,h2,p2,p1,h4⟩,by omega,h6,h7,h8,p3,p4,p5,p6⟩
 ·rintro ⟨⟨h3,h2,p2,p1,h4⟩,h5,h6,h7,h8,p3,p4,p5,p6⟩
  have hpos:0 < (gK g added).length:=HJ (by simp; omega)
  have hN:g.N = g.nons.length:=rfl
  have hT:1<=g.terms.length:=by have:=(UJ.1 h6.1).1; omega
  exact ⟨⟨by omega,h2,h3,h4,by omega,h6,h7,h8⟩,p1,p2,p3,p4,p5,p6⟩
end Go.V
namespace Go.Proofs.YtndaepmjkbmjmaaGreatDoor
section
variable {w:WB} {L:List au} {g:ae} {x:GA} {s:ByteArray}
def RJ (c:Nat):Bool:=decide (c = 95) || (decide (65<=c) && decide (c<=90)) || (decide (97<=c) && decide (c<=122))
theorem FA {i c:Nat}:HB i c = (RJ c || (decide (i≠0) && decide (48<=c) && decide (c<=57))):=rfl
theorem MH (hs:s.size<=4611686018427387904):ay Tryz.prog ph [.string s] w λv w'=>v = .bool (de s)/\w' = w:=by
 refine ni ?_
 refine ⟨λn w'=>∃ j:Nat,n = j/\j<=s.size/\(∀ i,i < j->HB i (fM s i) = true)/\w' = w,λn _=>s.size - n.toNat,⟨0,rfl,by omega,λi hi=>by omega,rfl⟩,?_⟩
 rintro _ n w1 ⟨j,rfl,hj,hall,rfl⟩
 refine aa (λh=>?_) λh=>?_
 ·have h:j < s.size:=by have:=UI h; omega
  have hin:Dj (j:Int) s.size:=⟨by omega,by omega⟩
  have hc:((sb s j).toNat:Int) = (fM s j:Nat):=rfl
  rw [Vh,hc]
  refine ⟨λw'=>HB j (fM s j) = true/\w' = w1,⟨λb w'=>b = RJ (fM s j)/\w' = w1,⟨hin,?_⟩,?_⟩,?_⟩
  ·generalize fM s j = c
   have h95:((c:Int) == 95) = decide (c = 95):=by rw [Vw]; simp only [beq_iff_eq,UY]; omega
   unfold RJ
   rw [h95]
   refine aa (λh1=>⟨hin,aa (λh2=>⟨?_,rfl⟩) λh2=>⟨hin,aa (λh3=>⟨hin,aa (λh4=>⟨?_,rfl⟩) λh4=>⟨hin,?_,rfl⟩⟩) λh3=>⟨hin,?_,rfl⟩⟩⟩) λh1=>⟨hin,aa (λh3=>⟨hin,aa (λh4=>⟨?_,rfl⟩) λh4=>⟨hin,?_,rfl⟩⟩) λh3=>⟨hin,?_,rfl⟩⟩
   all_goals
    rw [Vw]
    simp only [VQ,U3,UY,Vu,true_iff] at *
    omega
  ·rintro _ b w2 ⟨hb,rfl⟩
   rw [FA,<- hb]
   have bad:HB j (fM s j) = false->Value.bool false = Value.bool (de s)/\w2 = w2:=λhno=>by
    refine ⟨?_,rfl⟩
    have:(List.range s.size).all (λi=>HB i (fM s i)) = false:=by
     rw [List.all_eq_false]; exact ⟨j,by simpa using h,by simp [hno]⟩
    unfold de; rw [this]; simp
   rw [FA,<- hb] at bad
   generalize fM s j = c at bad
   refine ⟨hin,aa (λh1=>⟨hin,aa (λh2=>aa (λh3=>aa (λh4=>bad ?_) λh4=>⟨?_,rfl⟩) λh3=>⟨?_,rfl⟩) λh2=>aa (λh3=>bad ?_) λh3=>⟨?_,rfl⟩⟩) λh1=>aa (λh3=>bad ?_) λh3=>⟨?_,rfl⟩⟩
   all_goals cases b
   all_goals first | (cases h3; done) | simp
   all_goals
    simp only [VZ,Bool.not_eq_false',UY,Vu] at *
    omega
  ·rintro _ w2 ⟨hok,rfl⟩
   refine ⟨⟨by omega,by omega⟩,⟨j + 1,by simp,by omega,λi hi=>?_,rfl⟩,by dsimp only; omega⟩
   by_cases e:i = j
   ·subst e; exact hok
   ·exact hall i (by omega)
 ·have h:j = s.size:=by have:=UH h; omega
  have hall' : (List.range s.size).all (λi=>HB i (fM s i)) = true:=rQ.2 (by rw [<- h]; exact hall)
  unfold de
  rw [hall']
  refine aa (λh=>?_) λh=>?_
  ·have h:1<=s.size:=by have:=UI h; omega
   refine ⟨?_,rfl⟩
   have e:decide ((s.size:Int)<=16) = decide (s.size<=16):=by rw [Vw]; simp only [UY]; omega
   rw [e]; simp [h]
  ·have h:¬ 1<=s.size:=by have:=UH h; omega
   exact ⟨by simp [h],rfl⟩
theorem FB (hg:gR (hp w) g x) (hb:iq g):ay Tryz.prog mv [.agg ⟨x.cells⟩] w λv w'=>(∃ r:Bool,v = .bool r/\(r = true↔vq g))/\Gr w w':=by
 refine kO ?_
 refine cN hg λk1 w1 gw hg B=>?_
 obtain ⟨b1,b2,b3,b4,b5,b6,b7⟩:=hb
 have tl:=hg.t.1
 have ll:=hg.l.1
 have no:∀ {w'},Gr w1 w'->¬ vq g->(∃ r:Bool,Value.bool false = .bool r/\(r = true↔vq g))/\Gr w w':=λ{w'} gg hn=>⟨⟨false,rfl,⟨λh=>(by cases h),λh=>absurd h hn⟩⟩,gw.trans gg⟩
 refine ⟨λn w'=>∃ i:Nat,n = i/\i<=x.ll/\(∀ (k:Nat) v,k < i->g.levels[k]? = some v->1<=v/\v<=3/\∃ t∈g.terms,t.level = (k:Int) + 1)/\w' = w1,λn _=>x.ll - n.toNat,⟨0,rfl,by omega,λk v hk=>by omega,rfl⟩,?_⟩
 rintro _ n1 w2 ⟨i,rfl,hi,hok,rfl⟩
 refine ⟨_,_,_,B.c2 (sub.refl _),aa (λhlt=>?_) λhlt=>?_⟩
 ·have hlt:i < x.ll:=by have:=UI hlt; omega
  obtain ⟨v,ad,hv1,hva,hv2⟩:=hg.l.dM hlt
  refine ⟨λb n w'=>∃ k:Nat,n = k/\k<=x.tl/\(b = true↔∃ t∈g.terms.take k,t.level = (i:Int) + 1)/\w' = w2,λb n _=>x.tl - n.toNat,⟨0,rfl,by omega,by simp,rfl⟩,?_⟩
  rintro _ b n2 w3 ⟨k,rfl,hk,hbk,rfl⟩
  refine ⟨_,_,_,B.c0 (sub.refl _),aa (λhlt2=>?_) λhlt2=>?_⟩
  ·have hlt2:k < x.tl:=by have:=UI hlt2; omega
   obtain ⟨t,ad2,vs,ht1,hta,ht2,ht3⟩:=hg.t.get hlt2
   have ht3:vs = [.string t.name,.int .i64 t.level]:=ht3
   subst ht3
   have et:g.terms.take (k + 1) = g.terms.take k ++ [t]:=by rw [UR,ht1]; rfl
   refine aa (λh1=>?_) λh1=>?_
   ·subst h1
    refine ⟨⟨by omega,by omega⟩,⟨k + 1,by simp,by omega,?_,rfl⟩,bK hlt2⟩
    obtain ⟨t',h1,h2⟩:=hbk.1 rfl
    exact ⟨λ_=>⟨t',by rw [et]; exact UO.2 (.inl h1),h2⟩,λ_=>rfl⟩
   ·subst h1
    refine ⟨_,_,_,B.c0 (sub.refl _),ak hta hlt2 ⟨_,ht2.cell (sub.refl _) (j:=1) rfl,⟨by omega,by omega⟩,⟨by omega,by omega⟩,⟨k + 1,by simp,by omega,?_,rfl⟩,bK hlt2⟩⟩
    rw [et]
    constructor
    ·intro h; exact ⟨t,by simp,by simpa using h⟩
    ·rintro ⟨t',h1,h2⟩
     rcases UO.1 h1 with h1 | h1
     ·have:=hbk.2 ⟨t',h1,h2⟩; cases this
     ·simp at h1; subst h1; simpa using h2
  ·have hlt2:k = x.tl:=by have:=UH hlt2; omega
   rw [U6 (by omega)] at hbk
   refine aa (λh1=>no (Gr.refl _) λhp=>?_) λh1=>?_
   ·have:=hbk.2 (hp i v hv1).2.2
    rw [this] at h1; cases h1
   have h1:b = true:=by simpa using h1
   refine ⟨_,_,_,B.c2 (sub.refl _),aB hva hlt ⟨_,hv2 _ (sub.refl _),aa (λh2=>no (Gr.refl _) λhp=>?_) λh2=>⟨_,_,_,B.c2 (sub.refl _),aB hva hlt ⟨_,hv2 _ (sub.refl _),aa (λh3=>no (Gr.refl _) λhp=>?_) λh3=>?_⟩⟩⟩⟩
   ·have:=UI h2; have:=(hp i v hv1).1; omega
   ·have:=UI h3; have:=(hp i v hv1).2.1; omega
   ·have h2:=UH h2
    have h3:=UH h3
    refine ⟨⟨by omega,by omega⟩,⟨i + 1,by simp,by omega,λk' v' hk' hv'=>?_,rfl⟩,bK hlt⟩
    by_cases e:k' = i
    ·subst e; rw [hv1] at hv'; cases hv'; exact ⟨by omega,by omega,hbk.1 h1⟩
    ·exact hok k' v' (by omega) hv'
 ·have hlt:i = x.ll:=by have:=UH hlt; omega
  subst hlt
  exact ⟨⟨true,rfl,⟨λ_ i v hv=>hok i v (by have:=(UJ.1 hv).1; omega) hv,λ_=>rfl⟩⟩,gw⟩
theorem KJ (hg:gR (hp w) g x) (hb:iq g) (added:Nat):ay Tryz.prog n_ [.agg ⟨x.cells⟩,.int .i64 (added:Int)] w λv w'=>(∃ r:Bool,v = .bool r/\(r = true↔Fx g added))/\Gr w w':=by
 refine my ?_
 refine cN hg λk1 w1 gw hg B=>?_
 obtain ⟨b1,b2,b3,b4,b5,b6,b7⟩:=hb
 have nl:=hg.n.1
 have no:∀ {w'},Gr w1 w'->¬ Fx g added->(∃ r:Bool,Value.bool false = .bool r/\(r = true↔Fx g added))/\Gr w w':=λ{w'} gg hn=>⟨⟨false,rfl,⟨λh=>(by cases h),λh=>absurd h hn⟩⟩,gw.trans gg⟩
 refine ⟨λn w'=>∃ i:Nat,n = ((added + i:Nat):Int)/\(added + i<=x.nl\/i = 0)/\((g.nons.drop added).take i).Nodup/\(∀ s∈(g.nons.drop added).take i,de s = true)/\Gr w1 w',λn _=>x.nl - n.toNat,⟨0,rfl,.inr rfl,by simp,by simp,Gr.refl _⟩,?_⟩
 rintro _ n1 w2 ⟨i,rfl,hi,hnd,hok,g2⟩
 refine ⟨_,_,_,B.c1 g2,aa (λhlt=>?_) λhlt=>?_⟩
 ·have hlt:added + i < x.nl:=by have:=UI hlt; omega
  obtain ⟨s,ad,hs1,hsa,hs2⟩:=hg.n.dM hlt
  have hs1' : (g.nons.drop added)[i]? = some s:=by rw [Vk]; exact hs1
  have hsm:=UL hs1'
  have et:(g.nons.drop added).take (i + 1) = (g.nons.drop added).take i ++ [s]:=by rw [UR,hs1']; rfl
  refine ⟨_,_,_,B.c1 g2,aB hsa hlt ⟨_,hs2 _ g2,(MH (by have:=b6 s (V0 hsm); omega)).mono ?_⟩⟩
  rintro _ w2 ⟨rfl,rfl⟩
  refine ⟨_,rfl,aa (λh1=>no g2 λhp=>?_) λh1=>?_⟩
  ·rw [hp.2 s hsm] at h1; cases h1
  have h1:de s = true:=by simpa using h1
  refine ⟨λn w'=>∃ k:Nat,n = ((added + k:Nat):Int)/\k<=i/\(∀ u∈(g.nons.drop added).take k,u≠s)/\Gr w1 w',λn _=>x.nl - n.toNat,⟨0,rfl,by omega,by simp,g2⟩,?_⟩
  rintro _ n2 w4 ⟨k,rfl,hk,hne,g4⟩
  refine aa (λhlt2=>?_) λhlt2=>?_
  ·have hlt2:k < i:=by have:=UI hlt2; omega
   obtain ⟨u,ad',hu1,hua,hu2⟩:=hg.n.dM (by omega:added + k < x.nl)
   rw [hsa] at hua; cases hua
   have hu1' : (g.nons.drop added)[k]? = some u:=by rw [Vk]; exact hu1
   intro w5 hd
   have g5:Gr w1 w5:=g4.trans (Gr.of_eq (gi hd))
   refine ⟨λw'=>Gr w1 w',g5,_,_,_,λw' s=>B.c1 s,aB hsa (by omega) ⟨_,λw' s=>hu2 _ s,_,_,_,λw' s=>B.c1 s,aB hsa hlt ⟨_,λw' s=>hs2 _ s,?_⟩⟩⟩
   rw [vn]
   refine aa (λh=>no g5 λhp=>?_) λh=>?_
   ·have h:=UI h
    subst h
    have:=(List.getElem?_inj (UJ.1 hu1').1 hp.1).1 (hu1'.trans hs1'.symm)
    omega
   ·have h:=UH h
    refine ⟨⟨by omega,by omega⟩,⟨k + 1,by omega,by omega,λu' hu'=>?_,g5⟩,by dsimp only; omega⟩
    rw [UR,hu1'] at hu'
    rcases UO.1 hu' with hu' | hu'
    ·exact hne u' hu'
    ·simp at hu'; subst hu'; exact h
  ·have hlt2:k = i:=by have:=UH hlt2; omega
   subst hlt2
   refine ⟨⟨by omega,by omega⟩,⟨k + 1,by omega,by omega,?_,λt' ht'=>?_,g4⟩,by dsimp only; omega⟩
   ·rw [et]; exact tZ.2 ⟨hnd,λhm=>hne s hm rfl⟩
   ·rw [et] at ht'
    rcases UO.1 ht' with ht' | ht'
    ·exact hok t' ht'
    ·simp at ht'; subst ht'; exact h1
 ·have hlt:=UH hlt
  rw [U6 (by simp; omega)] at hok hnd
  exact ⟨⟨true,rfl,⟨λ_=>⟨hnd,hok⟩,λ_=>rfl⟩⟩,gw.trans g2⟩
theorem wY (hg:gR (hp w) g x) (hb:iq g):ay Tryz.prog nZ [.agg ⟨x.cells⟩] w λv w'=>v = .int .i64 ((g.T:Int) + g.N)/\Gr w w':=by
 refine mu ?_
 refine cN hg λk1 w1 gw hg B=>?_
 have tl:=hg.t.1
 have nl:=hg.n.1
 obtain ⟨b1,b2,b3,b4,b5,b6,b7⟩:=hb
 exact ⟨_,_,_,B.c0 (sub.refl _),_,_,_,B.c1 (sub.refl _),⟨by omega,by omega⟩,by unfold ae.T ae.N; rw [tl,nl],gw⟩
theorem HK (hg:gR (hp w) g x) (hb:iq g) (added:Nat):ay Tryz.prog nb [.agg ⟨x.cells⟩,.int .i64 (added:Int),.int .i64 ((g.T:Int) + added)] w λv w'=>(∃ r:Bool,v = .bool r/\(r = true↔∀ p∈g.prods.drop added,mB g added p))/\Gr w w':=by
 refine lK ?_
 refine cN hg λk1 w1 gw hg B=>?_
 have hb':=hb
 obtain ⟨b1,b2,b3,b4,b5,b6,b7⟩:=hb
 have tl:g.T = x.tl:=hg.t.1
 have nl:g.N = x.nl:=hg.n.1
 have ll:=hg.l.1
 have pl:=hg.p.1
 have no:∀ {w'},Gr w1 w'->¬ (∀ p∈g.prods.drop added,mB g added p)->(∃ r:Bool,Value.bool false = .bool r/\(r = true↔∀ p∈g.prods.drop added,mB g added p))/\Gr w w':=λ{w'} gg hn=>⟨⟨false,rfl,⟨λh=>(by cases h),λh=>absurd h hn⟩⟩,gw.trans gg⟩
 refine ⟨λn w'=>∃ j:Nat,n = ((added + j:Nat):Int)/\(added + j<=x.pl\/j = 0)/\(∀ p∈(g.prods.drop added).take j,mB g added p)/\Gr w1 w',λn _=>x.pl - n.toNat,⟨0,rfl,.inr rfl,by simp,Gr.refl _⟩,?_⟩
 rintro _ n1 w2 ⟨j,rfl,hj,hok,g2⟩
 refine ⟨_,_,_,B.c4 g2,aa (λhlt=>?_) λhlt=>?_⟩
 ·have hlt:added + j < x.pl:=by have:=UI hlt; omega
  obtain ⟨p,ad,vs,hp1,hpa,hp2,ra,rl,rc,rfl,hrc,hp3⟩:=hg.p.get hlt
  have hp1' : (g.prods.drop added)[j]? = some p:=by rw [Vk]; exact hp1
  have hpm:=UL hp1'
  have rl1:=hp3.1
  have b7':=b7 p (V0 hpm)
  refine ⟨_,_,_,B.c4 g2,ak hpa hlt ⟨_,_,_,_,_,hp2.at g2 rfl,af (St.all w2) λk8 w3 h=>aI h rfl (by simp [aH]) λw4 h=>?_⟩⟩
  have g4:Gr w1 w4:=g2.trans h.aR
  have hbox:av (hp w4) ⟨k8,0,none⟩ [.int .i64 p.left,.slice ra rl rc,.int .i64 p.level]:=h.row
  have d0:=λ(w' : WB) (s:Gr w4 w')=>hbox.cell0 s
  have d1:=λ(w' : WB) (s:Gr w4 w')=>hbox.cell s (j:=1) (v:=.slice ra rl rc) rfl
  have d2:=λ(w' : WB) (s:Gr w4 w')=>hbox.cell s (j:=2) (v:=.int .i64 p.level) rfl
  refine ⟨λb w'=>(b = false↔((g.T:Int) + added<=p.left/\p.left < g.T + g.N/\0<=p.level/\p.level<=g.levels.length))/\Gr w4 w',?_,?_⟩
  ·intro w5 hd
   have g5:Gr w4 w5:=Gr.of_eq (gi hd)
   refine ⟨λw'=>Gr w4 w',g5,_,λw' s=>d0 _ s,aa (λh1=>⟨?_,g5⟩) λh1=>?_⟩
   ·have:=UI h1
    simp; omega
   have h1:=UH h1
   refine ⟨_,λw' s=>d0 _ s,_,_,_,_,_,_,_,_,_,_,_,_,_,λw' s=>B.row (g4.trans s),(wY (x:=x) (hg.mono (g4.trans g5)) hb').mono ?_⟩
   rintro _ w9 ⟨rfl,g9⟩
   have g9:Gr w4 w9:=g5.trans g9
   refine ⟨_,rfl,λw'=>Gr w4 w',g9,λ_ h=>h,aa (λh2=>⟨?_,g9⟩) λh2=>?_⟩
   ·have:=UI h2
    simp; omega
   have h2:=UH h2
   refine ⟨_,λw' s=>d2 _ s,aa (λh3=>⟨?_,g9⟩) λh3=>?_⟩
   ·have:=UI h3
    simp; omega
   have h3:=UH h3
   refine ⟨_,λw' s=>d2 _ s,_,_,_,λw' s=>B.c2 (g4.trans s),?_,g9⟩
   rw [Vu]; omega
  rintro _ b2 w13 ⟨hb2,g13⟩
  refine aa (λhbt=>?_) λhbf=>?_
  ·subst hbt
   exact no (g4.trans g13) λh=>by have:=hb2.2 (h p hpm).1; cases this
  have hpok:=hb2.1 hbf
  refine ⟨λn w'=>∃ i:Nat,n = i/\i<=rl/\(∀ (k:Nat) s,k < i->p.right[k]? = some s->fH g added s)/\Gr w4 w',λn _=>rl - n.toNat,⟨0,rfl,by omega,λk s hk=>by omega,g13⟩,?_⟩
  rintro _ n8 w14 ⟨i,rfl,hi,hsy,g14⟩
  refine ⟨_,_,_,d1 _ g14,aa (λhlt2=>?_) λhlt2=>?_⟩
  ·have hlt2:i < rl:=by have:=UI hlt2; omega
   obtain ⟨s,ad2,hs1,hsa,hs2⟩:=hp3.dM hlt2
   have bad:∀ {w'},Gr w4 w'->¬ fH g added s->_:=λ{w'} gg hn=>no (g4.trans gg) (λhq=>hn ((hq p hpm).2 s (UL hs1)))
   have good:∀ {w'},Gr w4 w'->fH g added s->aw ((i:Int) + 1)/\(∃ i' : Nat,(i:Int) + 1 = i'/\i'<=rl/\(∀ (k:Nat) s,k < i'->p.right[k]? = some s->fH g added s)/\Gr w4 w')/\rl - ((i:Int) + 1).toNat < rl - (i:Int).toNat:=λ{w'} gg hgd=>by
    refine ⟨⟨by omega,by omega⟩,⟨i + 1,by simp,by omega,λk s' hk hs'=>?_,gg⟩,bK hlt2⟩
    by_cases e:k = i
    ·subst e; rw [hs1] at hs'; cases hs'; exact hgd
    ·exact hsy k s' (by omega) hs'
   refine ⟨_,_,_,d1 _ g14,aB hsa hlt2 ⟨s,hs2 _ (g4.trans g14),aa (λh1=>bad g14 ?_) λh1=>?_⟩⟩
   ·have:=UI h1; unfold fH; omega
   refine ⟨_,_,_,_,_,_,_,_,_,_,_,_,_,B.row (g4.trans g14),(wY (x:=x) (hg.mono (g4.trans g14)) hb').mono ?_⟩
   rintro _ w15 ⟨rfl,g15⟩
   have g15:Gr w4 w15:=g14.trans g15
   refine ⟨_,rfl,aa (λh2=>bad g15 ?_) λh2=>⟨_,_,_,B.c0 (g4.trans g15),aa (λh3=>aa (λh4=>bad g15 ?_) λh4=>good g15 ?_) λh3=>good g15 ?_⟩⟩
   ·have:=UI h2; unfold fH; omega
   ·have h3:=UI h3; have h4:=UI h4; unfold fH; omega
   ·have h1:=UH h1; have h2:=UH h2; have h3:=UI h3; have h4:=UH h4; unfold fH; omega
   ·have h1:=UH h1; have h2:=UH h2; have h3:=UH h3; unfold fH; omega
  have hlt2:i = rl:=by have:=UH hlt2; omega
  subst hlt2
  refine ⟨⟨by omega,by omega⟩,⟨j + 1,by omega,by omega,λq hq=>?_,g4.trans g14⟩,by dsimp only; omega⟩
  rw [UR,hp1'] at hq
  rcases UO.1 hq with hq | hq
  ·exact hok q hq
  ·simp at hq; subst hq
   exact ⟨hpok,λs hs=>by
    obtain ⟨k,hk,e⟩:=List.mem_iff_getElem.1 hs
    exact hsy k s (by omega) (by rw [<- e]; exact UK hk)⟩
 ·have hlt:=UH hlt
  rw [U6 (by simp; omega)] at hok
  exact ⟨⟨true,rfl,⟨λ_=>hok,λ_=>rfl⟩⟩,gw.trans g2⟩
theorem PB (hg:gR (hp w) g x) (hb:iq g) (added:Nat):ay Tryz.prog qj [.agg ⟨x.cells⟩,.int .i64 (added:Int)] w λv w'=>∃ a c,v = .slice a (gK g added).length c/\St w' (own 1 a (gK g added).length c (iv (gK g added)) :: all w):=by
 refine od ?_
 refine cN hg λk1 w1 gw hg B=>?_
 obtain ⟨b1,b2,b3,b4,b5,b6,b7⟩:=hb
 have pl:=hg.p.1
 have hfin:∀ {w' : WB} {A:au},St w' (A :: all w1)->St w' (A :: all w):=λh=>h.vf (b_ gw)
 refine ⟨λo l' c' n w'=>∃ j:Nat,n = ((added + j:Nat):Int)/\(added + j<=x.pl\/j = 0)/\(cJ (((g.prods.drop added).map aO.left).take j)).length = l' /\
   St w' (own 1 o l' c' (iv (cJ (((g.prods.drop added).map aO.left).take j))) :: all w1),λ_ _ _ n _=>x.pl - n.toNat,⟨0,rfl,.inr rfl,rfl,az 1 (St.all w1)⟩,?_⟩
 rintro _ o1 _ c1 n1 w2 ⟨j,rfl,hj,rfl,h⟩
 have g2:Gr w1 w2:=h.aR
 have hll:(cJ (((g.prods.drop added).map aO.left).take j)).length<=j:=Vf (ua _) (by simp; omega)
 refine ⟨_,_,_,B.c4 g2,aa (λhlt=>?_) λhlt=>?_⟩
 ·have hlt:added + j < x.pl:=by have:=UI hlt; omega
  obtain ⟨p,ad,vs,hp1,hpa,hp2,ra,rl,rc,rfl,hrc,hp3⟩:=hg.p.get hlt
  have hp1' : (g.prods.drop added)[j]? = some p:=by rw [Vk]; exact hp1
  have hlp:((g.prods.drop added).map aO.left)[j]? = some p.left:=by rw [UM,hp1']; rfl
  have et:=yf hlp
  generalize hLJ:cJ (((g.prods.drop added).map aO.left).take j) = LJ at *
  refine ⟨λb n w'=>∃ k:Nat,n = k/\k<=LJ.length/\(b = true↔p.left∈LJ.take k)/\St w' (own 1 o1 LJ.length c1 (iv LJ) :: all w1),λb n _=>LJ.length - n.toNat,⟨0,rfl,by omega,by simp,h⟩,?_⟩
  clear h g2
  rintro _ b n2 w3 ⟨k,rfl,hk,hbk,h⟩
  refine aa (λhlt2=>?_) λhlt2=>?_
  ·have hlt2:k < LJ.length:=by have:=UI hlt2; omega
   intro w4 hd
   have h:=h.drawn hd
   have g4:Gr w1 w4:=h.aR
   obtain ⟨y,ad2,hy1,rfl,hy2⟩:=(DK h).dM hlt2
   have ey:LJ.take (k + 1) = LJ.take k ++ [y]:=cK hy1
   refine ⟨λw'=>Gr w4 w',Gr.refl _,aa (λh1=>?_) λh1=>?_⟩
   ·subst h1
    exact ⟨⟨by omega,by omega⟩,⟨k + 1,by simp,by omega,⟨λ_=>by rw [ey]; exact UO.2 (.inl (hbk.1 rfl)),λ_=>rfl⟩,h⟩,bK hlt2⟩
   ·subst h1
    refine aB rfl hlt2 ⟨y,λw' s=>hy2 _ s,_,_,_,λw' s=>B.c4 (g4.trans s),ak hpa hlt ⟨_,λw' s=>hp2.cell0 (g4.trans s),⟨by omega,by omega⟩,⟨k + 1,by simp,by omega,?_,h⟩,bK hlt2⟩⟩
    rw [ey,UO]
    have:p.left∉LJ.take k:=λhm=>by have:=hbk.2 hm; cases this
    simp only [this,false_or,Va,beq_iff_eq]
    exact eq_comm
  ·have hlt2:k = LJ.length:=by have:=UH hlt2; omega
   subst hlt2
   rw [U8] at hbk
   refine aa (λh1=>?_) λh1=>?_
   ·have h1:p.left∉LJ:=λhm=>by rw [hbk.2 hm] at h1; cases h1
    refine ⟨_,_,_,B.c4 h.aR,ak hpa hlt ⟨_,hp2.cell0 h.aR,af h λk10 w8 h=>?_⟩⟩
    refine (aW aL (rfl:ah Ty _ = .slice _) (rfl:ah Ty _ = .slice _) rfl rfl rfl h rfl (by simp [aH]) (by show (_ + 1) * 8<=_; omega) (by omega)).mono ?_
    rintro _ w10 ⟨a',c',rfl,h⟩
    have e2:cJ (((g.prods.drop added).map aO.left).take (j + 1)) = LJ ++ [p.left]:=by rw [et]; unfold nx; rw [UN h1]
    refine ⟨_,_,_,rfl,⟨by omega,by omega⟩,⟨j + 1,by omega,by omega,by rw [e2]; simp,?_⟩,by dsimp only; omega⟩
    rw [e2]
    have e3:∀ l:List Int,iv (l ++ [p.left]) = iv l ++ [.int .i64 p.left]:=λl=>by simp [iv]
    rw [e3]
    exact h.pick 3 [0,2]
   ·have h1:p.left∈LJ:=hbk.1 (by simpa using h1)
    have e2:cJ (((g.prods.drop added).map aO.left).take (j + 1)) = LJ:=by rw [et]; unfold nx; rw [US h1]
    refine ⟨⟨by omega,by omega⟩,⟨j + 1,by omega,by omega,by rw [e2],?_⟩,by dsimp only; omega⟩
    rw [e2]; exact h
 ·have hlt:=UH hlt
  have el:((g.prods.drop added).map aO.left).take j = (g.prods.drop added).map aO.left:=U6 (by simp; omega)
  rw [el] at h ⊢
  exact ⟨o1,c1,rfl,hfin h⟩
end
end Go.Proofs.YtndaepmjkbmjmaaGreatDoor
namespace Go.V
theorem Gr.drawn {w w' : WB} (h:V.drawn w w'):Gr w w':=Gr.of_eq (gi h)
theorem HL {g:ae}:aq g↔(2<=g.nons.length/\g.nons[0]? = some .empty/\2<=g.prods.length/\∃ p,g.prods[0]? = some p/\p.left = (g.T:Int)/\p.right = [g.start]/\p.level = 0)/\Cz g 1:=by
 unfold aq Cz
 constructor
 ·rintro ⟨h1,h2,h3,h4⟩
  have:=(vr.1 h2).1
  have:=(Fz.1 ⟨h2,h3⟩).1.2.2.2.1
  exact ⟨⟨by omega,h1,by omega,h4⟩,h2,h3⟩
 ·rintro ⟨⟨_,h1,_,h4⟩,h2,h3⟩
  exact ⟨h1,h2,h3,h4⟩
end Go.V
namespace Go.Proofs.YtndaepmjkbmjmaaGreatDoor
section
variable {w:WB} {L:List au} {g:ae} {x:GA} {s:ByteArray}
theorem RK (hg:gR (hp w) g x) (hb:iq g) (added:Nat) (ha:added<=1):ay Tryz.prog sA [.agg ⟨x.cells⟩,.int .i64 (added:Int)] w λv w'=>(∃ r:Bool,v = .bool r/\(r = true↔Cz g added))/\Gr w w':=by
 refine o_ ?_
 refine cN hg λk1 w1 gw hg B=>?_
 have hb':=hb
 obtain ⟨b1,b2,b3,b4,b5,b6,b7⟩:=hb
 have tl:=hg.t.1
 have nl:=hg.n.1
 have ll:=hg.l.1
 have pl:=hg.p.1
 have hT:g.T = x.tl:=tl
 have hN:g.N = x.nl:=nl
 have hst:=hg.s
 rw [Fz]
 unfold Fy
 rw [hT,hN,tl,nl,ll,pl]
 generalize hP:(_/\_:Prop) = P
 have no:∀ {w'},Gr w1 w'->¬ P->(∃ r:Bool,Value.bool false = .bool r/\(r = true↔P))/\Gr w w':=λ{w'} gg hn=>⟨⟨false,rfl,⟨λh=>(by cases h),λh=>absurd h hn⟩⟩,gw.trans gg⟩
 refine ⟨λb w'=>(b = false↔(x.nl<=64 + added/\x.tl<=65/\x.pl<=96 + added/\added < x.pl/\x.ll<=64))/\w' = w1,?_,?_⟩
 ·refine ⟨_,_,_,B.c1 (sub.refl _),⟨by omega,by omega⟩,aa (λh1=>⟨?_,rfl⟩) λh1=>⟨_,_,_,B.c0 (sub.refl _),aa (λh2=>⟨?_,rfl⟩) λh2=>⟨_,_,_,B.c4 (sub.refl _),⟨by omega,by omega⟩,aa (λh3=>⟨?_,rfl⟩) λh3=>⟨_,_,_,B.c4 (sub.refl _),⟨by omega,by omega⟩,aa (λh4=>⟨?_,rfl⟩) λh4=>⟨_,_,_,B.c2 (sub.refl _),?_,rfl⟩⟩⟩⟩⟩
  all_goals simp only [UY,Vu,Bool.true_eq_false,false_iff] at *
  all_goals omega
 rintro _ b w2 ⟨hb0,rfl⟩
 refine aa (λh1=>no (Gr.refl _) λhp=>?_) λh1=>?_
 ·rw [<- hP] at hp
  have:=hb0.2 hp.1
  rw [h1] at this; cases this
 obtain ⟨z1,z2,z3,z4,z5⟩:=hb0.1 h1
 refine ⟨_,_,_,B.c0 (sub.refl _),⟨by omega,by omega⟩,_,_,_,B.c1 (sub.refl _),⟨by omega,by omega⟩,⟨by omega,by omega⟩,aa (λh2=>no (Gr.refl _) λhp=>?_) λh2=>?_⟩
 ·rw [<- hP] at hp
  have:=UI h2; have:=hp.2.1; omega
 have h2:=UH h2
 refine ⟨_,_,_,_,_,_,_,_,_,_,_,_,_,B.row (sub.refl _),(HI (x:=x) hg hb').mono ?_⟩
 rintro _ w3 ⟨⟨r1,rfl,e1⟩,g3⟩
 refine ⟨_,rfl,aa (λh3=>no g3 λhp=>?_) λh3=>?_⟩
 ·rw [<- hP] at hp
  have:=e1.2 hp.2.2.1; rw [this] at h3; cases h3
 have h3:r1 = true:=by simpa using h3
 have e1:=e1.1 h3
 refine ⟨_,_,_,_,_,_,_,_,_,_,_,_,_,B.row g3,(FB (x:=x) (hg.mono g3) hb').mono ?_⟩
 rintro _ w4 ⟨⟨r2,rfl,e2⟩,g4⟩
 have g4:Gr w2 w4:=g3.trans g4
 refine ⟨_,rfl,_,_,_,_,_,_,_,_,_,_,_,_,_,B.row g4,(KJ (x:=x) (hg.mono g4) hb' added).mono ?_⟩
 rintro _ w5 ⟨⟨r3,rfl,e3⟩,g5⟩
 have g5:Gr w2 w5:=g4.trans g5
 have hpf:=HK (x:=x) (hg.mono g5) hb' added
 rw [hT] at hpf
 refine ⟨_,rfl,_,_,_,_,_,_,_,_,_,_,_,_,_,B.row g5,_,_,_,B.c0 g5,⟨by omega,by omega⟩,hpf.mono ?_⟩
 rintro _ w6 ⟨⟨r4,rfl,e4⟩,g6⟩
 have g6:Gr w2 w6:=g5.trans g6
 refine ⟨_,rfl,_,_,_,_,_,_,_,_,_,_,_,_,_,B.row g6,(PB (x:=x) (hg.mono g6) hb' added).mono ?_⟩
 rintro _ w7 ⟨a,c,rfl,h7⟩
 have g7:Gr w2 w7:=g6.trans h7.aR
 refine ⟨_,_,_,rfl,λw8 hd=>⟨λw'=>Gr w2 w',g7.trans (Gr.drawn hd),?_⟩⟩
 have g8:Gr w2 w8:=g7.trans (Gr.drawn hd)
 refine aa (λi1=>aa (λi2=>aa (λi3=>⟨_,_,_,λw' s=>B.c1 s,⟨by omega,by omega⟩,aa (λi4=>⟨_,λw' s=>B.c3 s,_,_,_,λw' s=>B.c0 s,⟨by omega,by omega⟩,aa (λi5=>⟨_,λw' s=>B.c3 s,_,_,_,_,_,_,_,_,_,_,_,_,_,λw' s=>B.row s,(wY (x:=x) (hg.mono g8) hb').mono ?_⟩) λi5=>no g8 λhp=>?_⟩) λi4=>no g8 λhp=>?_⟩) λi3=>no g8 λhp=>?_) λi2=>no g8 λhp=>?_) λi1=>no g8 λhp=>?_
 ·rintro _ w9 ⟨rfl,g9⟩
  have g9:Gr w2 w9:=g8.trans g9
  refine ⟨_,rfl,g9,⟨_,rfl,?_⟩,gw.trans g9⟩
  rw [<- hP,hT,hN,UY,<- hst]
  have i4:=eq_of_beq i4
  have i5:=UI i5
  exact ⟨λh=>⟨⟨z1,z2,z3,z4,z5⟩,by omega,e1,e2.1 i1,e3.1 i2,e4.1 i3,i4,i5,h⟩,λh=>h.2.2.2.2.2.2.2.2⟩
 ·rw [<- hP,<- hst] at hp
  have:=UH i5; have:=hp.2.2.2.2.2.2.2.1; omega
 ·rw [<- hP] at hp
  have:=hp.2.2.2.2.2.2.1
  simp only [Wr,ne_eq] at i4
  omega
 ·rw [<- hP] at hp
  rw [e4.2 hp.2.2.2.2.2.1] at i3; cases i3
 ·rw [<- hP] at hp
  rw [e3.2 hp.2.2.2.2.1] at i2; cases i2
 ·rw [<- hP] at hp
  rw [e2.2 hp.2.2.2.1] at i1; cases i1
end
end Go.Proofs.YtndaepmjkbmjmaaGreatDoor
namespace Go.V
def mc (g:ae):Prop:=MF g\/aq g
theorem RL (ad:Addr) (n:Nat):ad.add (cT 0 n) = ad:=by simp [aF,Addr.add]
end Go.V
namespace Go.Proofs.YtndaepmjkbmjmaaGreatDoor
section
variable {w:WB} {L:List au} {g:ae} {x:GA} {s:ByteArray}
theorem vt (hg:gR (hp w) g x) (hb:iq g):ay Tryz.prog oY [.agg ⟨x.cells⟩] w λv w'=>(∃ r:Bool,v = .bool r/\(r = true↔aq g))/\Gr w w':=by
  refine mX ?_
  refine cN hg λk1 w1 gw hg B=>?_
  have tl:=hg.t.1
  have nl:=hg.n.1
  have pl:=hg.p.1
  have hT:g.T = x.tl:=tl
  have hst:=hg.s
  rw [HL]
  generalize hP:(_/\_:Prop) = P
  have no:∀ {w'},Gr w1 w'->¬ P->(∃ r:Bool,Value.bool false = .bool r/\(r = true↔P))/\Gr w w':=λ{w'} gg hn=>⟨⟨false,rfl,⟨λh=>(by cases h),λh=>absurd h hn⟩⟩,gw.trans gg⟩
  refine ⟨λb w'=>(b = false↔(2<=g.nons.length/\g.nons[0]? = some .empty/\2<=g.prods.length))/\w' = w1,?_,?_⟩
  · refine ⟨_,_,_,B.c1 (sub.refl _),aa (λh1=>⟨?_,rfl⟩) λh1=>?_⟩
    · have:=UI h1; simp; omega
    have h1:=UH h1
    obtain ⟨s,ad,hs1,hsa,hs2⟩:=hg.n.dM (i:=0) (by omega)
    refine ⟨_,_,_,B.c1 (sub.refl _),gk hsa (by omega) ⟨s,hs2 _ (sub.refl _),?_⟩⟩
    rw [vn]
    change br (!decide (s = .empty)) _ _
    refine aa (λh2=>⟨?_,rfl⟩) λh2=>⟨_,_,_,B.c4 (sub.refl _),?_,rfl⟩
    · have h2:s≠.empty:=by simpa using h2
      rw [hs1]; simp [h2]
    · have h2:s = .empty:=by simpa using h2
      rw [hs1,Vu]; simp [h2]; omega
  rintro _ b w2 ⟨hb0,rfl⟩
  refine aa (λh1=>no (Gr.refl _) λhp=>?_) λh1=>?_
  · rw [<- hP] at hp
    have:=hb0.2 ⟨hp.1.1,hp.1.2.1,hp.1.2.2.1⟩
    rw [h1] at this; cases this
  obtain ⟨z1,z2,z3⟩:=hb0.1 h1
  obtain ⟨p,ad,vs,hp1,hpa,hp2,a,l,c,rfl,hlc,hp3⟩:=hg.p.get (i:=0) (by omega)
  rw [RL] at hp2
  refine ⟨_,_,_,B.c4 (sub.refl _),gk hpa (by omega) ⟨_,_,_,_,_,hp2.at (sub.refl _) rfl,af (St.all w2) λk w3 h3=>aI h3 rfl (by intro v hv; simp at hv; rcases hv with rfl | rfl | rfl <;> rfl) λw4 h4=>?_⟩⟩
  intro w5 hd
  have h5:=h4.drawn hd
  have g5:Gr w2 w5:=h5.aR
  have rb:=h5.row
  have pr:=hp3.mono g5
  have hP' : P↔((p.left = (x.tl:Int)/\l = 1/\p.right = [g.start]/\p.level = 0)/\Cz g 1):=by
    rw [<- hP]
    constructor
    · rintro ⟨⟨_,_,_,q,hq,q1,q2,q3⟩,hf⟩
      rw [hp1] at hq; cases hq
      exact ⟨⟨by omega,by rw [<- hp3.1,q2]; rfl,q2,q3⟩,hf⟩
    · rintro ⟨⟨q1,_,q2,q3⟩,hf⟩
      exact ⟨⟨z1,z2,z3,p,hp1,by omega,q2,q3⟩,hf⟩
  refine ⟨λw'=>sub (hp w5) (hp w'),sub.refl _,_,λw' s=>rb.cell0 s,_,_,_,λw' s=>B.c0 (sub.trans g5 s),aa (λh6=>no g5 λhp=>?_) λh6=>⟨_,_,_,λw' s=>rb.cell s (j:=1) rfl,aa (λh7=>no g5 λhp=>?_) λh7=>?_⟩⟩
  · have:=(hP'.1 hp).1.1
    simp only [bne_iff_ne,ne_eq] at h6; omega
  · have:=(hP'.1 hp).1.2.1
    simp only [bne_iff_ne,ne_eq] at h7; omega
  have h6:p.left = (x.tl:Int):=by simpa using h6
  have h7 : l = 1 := by have h7 : (l : Int) = 1 := by simpa using h7
                        omega
  obtain ⟨y,ad2,hy1,hya,hy2⟩:=pr.dM (i:=0) (by omega)
  have hr:p.right = [y]:=by
    have hl:=pr.1
    match hq:p.right,hl,hy1 with
    | [z],_,hy1=>simp at hy1; rw [hy1]
    | [],hl,_=>simp at hl; omega
    | _ :: _ :: _,hl,_=>simp at hl; omega
  refine ⟨_,_,_,λw' s=>rb.cell s (j:=1) rfl,gk hya (by omega) ⟨y,λw' s=>hy2 _ s,_,λw' s=>B.c3 (sub.trans g5 s),aa (λh8=>no g5 λhp=>?_) λh8=>⟨_,λw' s=>rb.cell s (j:=2) rfl,aa (λh9=>no g5 λhp=>?_) λh9=>?_⟩⟩⟩
  · have:=(hP'.1 hp).1.2.2.1
    rw [hr] at this
    simp only [bne_iff_ne,ne_eq] at h8
    simp at this; omega
  · have:=(hP'.1 hp).1.2.2.2
    simp only [bne_iff_ne,ne_eq] at h9; omega
  have h8:y = x.s:=by simpa using h8
  have h9:p.level = 0:=by simpa using h9
  refine ⟨_,_,_,_,_,_,_,_,_,_,_,_,_,B.row g5,(RK (x:=x) (hg.mono g5) hb 1 (by omega)).mono ?_⟩
  rintro _ w6 ⟨⟨r,rfl,e⟩,g6⟩
  refine ⟨_,rfl,⟨r,rfl,?_⟩,gw.trans (g5.trans g6)⟩
  rw [hP',e]
  exact ⟨λh=>⟨⟨h6,h7,by rw [hr,h8,hst],h9⟩,h⟩,λh=>h.2⟩
theorem vu (hg:gR (hp w) g x) (hb:iq g):ay Tryz.prog BD [.agg ⟨x.cells⟩] w λv w'=>(∃ r:Bool,v = .bool r/\(r = true↔aq g))/\Gr w w':=by
 refine yy ?_
 refine cN hg λk1 w1 gw hg B=>?_
 have tl:=hg.t.1
 have nl:=hg.n.1
 have pl:=hg.p.1
 have hT:g.T = x.tl:=tl
 have hst:=hg.s
 have no:∀ {w'},Gr w1 w'->¬ aq g->(∃ r:Bool,Value.bool false = .bool r/\(r = true↔aq g))/\Gr w w':=λ{w'} gg hn=>⟨⟨false,rfl,⟨λh=>(by cases h),λh=>absurd h hn⟩⟩,gw.trans gg⟩
 refine ⟨λb w'=>(b = false↔(g.nons[0]? = some .empty/\qw g 1))/\Gr w1 w',?_,?_⟩
 ·refine ⟨_,_,_,B.c1 (sub.refl _),aa (λh1=>⟨?_,Gr.refl _⟩) λh1=>?_⟩
  ·have h1:x.nl = 0:=by have:=eq_of_beq h1; omega
   have:g.nons[0]? = none:=U5 (by omega)
   rw [this]; simp
  have h1:x.nl≠0:=λh=>by rw [h] at h1; simp at h1
  obtain ⟨s,ad,hs1,hsa,hs2⟩:=hg.n.dM (i:=0) (by omega)
  refine ⟨_,_,_,B.c1 (sub.refl _),gk hsa (by omega) ⟨s,hs2 _ (sub.refl _),?_⟩⟩
  rw [vn]
  change br (!decide (s = .empty)) _ _
  refine aa (λh2=>⟨?_,Gr.refl _⟩) λh2=>⟨_,_,_,_,_,_,_,_,_,_,_,_,_,B.row (sub.refl _),(Cy (x:=x) hg hb 1 (by omega)).mono ?_⟩
  ·have h2:s≠.empty:=by simpa using h2
   rw [hs1]; simp [h2]
  ·have h2:s = .empty:=by simpa using h2
   rintro _ w2 ⟨⟨r,rfl,e⟩,g2⟩
   refine ⟨_,rfl,?_,g2⟩
   rw [hs1,<- e]; simp [h2]
 rintro _ b w2 ⟨hb0,g2⟩
 refine aa (λh1=>no g2 λhp=>?_) λh1=>?_
 ·have:=hb0.2 ⟨hp.1,hp.2.1⟩
  rw [h1] at this; cases this
 obtain ⟨z1,z2⟩:=hb0.1 h1
 refine ⟨_,_,_,_,_,_,_,_,_,_,_,_,_,B.row g2,(tF (x:=x) (hg.mono g2) hb 1 (by omega)).mono ?_⟩
 rintro _ w3 ⟨a3,l3,c3,xs,r2,rfl,hr2,hxs,h3⟩
 have g3:Gr w1 w3:=g2.trans h3.aR
 refine ⟨_,_,_,_,rfl,_,_,_,B.c4 g3,λw5 hd=>?_⟩
 have g5:Gr w1 w5:=g3.trans (Gr.drawn hd)
 refine ⟨λw'=>sub (hp w5) (hp w'),sub.refl _,aa (λh4=>?_) λh4=>no g5 λhp=>?_⟩
 rotate_left
 ·rw [hr2.2 hp.2.2.1] at h4; cases h4
 have hpr:=hr2.1 h4
 have hpl:0 < x.pl:=by have:=hpr.1; omega
 obtain ⟨p,ad,vs,hp1,hpa,hp2,a,l,c,rfl,hlc,hp3⟩:=hg.p.get (i:=0) hpl
 rw [RL] at hp2
 have pr:=hp3.mono g5
 have rb:=hp2.mono g5
 have hP' : aq g↔(p.left = (x.tl:Int)/\l = 1/\p.right = [g.start]/\p.level = 0):=by
  unfold aq
  constructor
  ·rintro ⟨_,_,_,q,hq,q1,q2,q3⟩
   rw [hp1] at hq; cases hq
   exact ⟨by omega,by rw [<- hp3.1,q2]; rfl,q2,q3⟩
  ·rintro ⟨q1,_,q2,q3⟩
   exact ⟨z1,z2,hpr,p,hp1,by omega,q2,q3⟩
 refine gk hpa hpl ⟨_,λw' s=>rb.cell0 s,_,_,_,λw' s=>B.c0 (sub.trans g5 s),aa (λh6=>?_) λh6=>no g5 λhp=>?_⟩
 rotate_left
 ·have:=(hP'.1 hp).1
  simp only [Wr,ne_eq] at h6; omega
 have h6:=eq_of_beq h6
 refine gk hpa hpl ⟨_,_,_,λw' s=>rb.cell s (j:=1) rfl,aa (λh7=>?_) λh7=>no g5 λhp=>?_⟩
 rotate_left
 ·have:=(hP'.1 hp).2.1
  simp only [Wr,ne_eq] at h7; omega
 have h7:l = 1:=by have:=eq_of_beq h7; omega
 obtain ⟨y,ad2,hy1,hya,hy2⟩:=pr.dM (i:=0) (by omega)
 have hr:p.right = [y]:=by
  have hl:=pr.1
  match hq:p.right,hl,hy1 with
  | [z],_,hy1=>simp at hy1; rw [hy1]
  | [],hl,_=>simp at hl; omega
  | _ :: _ :: _,hl,_=>simp at hl; omega
 refine gk hpa hpl ⟨_,_,_,λw' s=>rb.cell s (j:=1) rfl,gk hya (by omega) ⟨y,λw' s=>hy2 _ s,_,λw' s=>B.c3 (sub.trans g5 s),aa (λh8=>?_) λh8=>no g5 λhp=>?_⟩⟩
 rotate_left
 ·have:=(hP'.1 hp).2.2.1
  rw [hr] at this
  simp only [Wr,ne_eq] at h8
  simp at this; omega
 have h8:=eq_of_beq h8
 refine gk hpa hpl ⟨_,λw' s=>rb.cell s (j:=2) rfl,⟨_,rfl,?_⟩,gw.trans g5⟩
 rw [hP',beq_iff_eq]
 exact ⟨λh=>⟨h6,h7,by rw [hr,h8,hst],h⟩,λh=>h.2.2.2⟩
end
end Go.Proofs.YtndaepmjkbmjmaaGreatDoor
