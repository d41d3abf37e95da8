/- Texts of this claim, one behind the other. -/
import Derived.Test.YtndaepmjkbmjmaaGreatDoorG1
import Derived.Test.YtndaepmjkbmjmaaGreatDoorG5
import Derived.Lib.UnsafeStr
import Derived.Test.YtndaepmjkbmjmaaGreatDoorG2
import Derived.Test.YtndaepmjkbmjmaaGreatDoorCards
import Derived.Test.YtndaepmjkbmjmaaGreatDoorTie
import Derived.WalkKit
import Derived.ProofKit
import Derived.OpenShut
import Derived.Carry
import Derived.OpenVars
import Derived.Deep.DeepHandedRow
import Derived.Lib.LaidTab
set_option linter.unusedVariables false
set_option linter.unusedSectionVars false
set_option maxRecDepth 100000
set_option maxHeartbeats 16000000
namespace Go.V
end Go.V
namespace Go.Proofs.YtndaepmjkbmjmaaGreatDoor
end Go.Proofs.YtndaepmjkbmjmaaGreatDoor
open Go.V Go.Proofs.YtndaepmjkbmjmaaGreatDoor
namespace Go.Proofs.YtndaepmjkbmjmaaGreatDoor
abbrev A5:FuncId:=31
def xD:bh:={ rngs:=[],loops:=[],joins:=[(2,[(32,(.one .bool))])],blocks:=[] }
theorem xE {a:Wr} {b c:Nat} {d:Wr} {e f:Nat} {g:Wr} {i j:Nat} {k:Int} {l:Wr} {m n:Nat} {o p:Int} {w:Ws} {R:Value->WP} (h:new w (oC [vS a b c,vS d e f,vS g i j,iI k,vS l m n] 27) λk1 w1=>∃ (x1:lP [(32,pI)]),(∃ o1 k2 k3 o2 k4 k5 o3 k6 k7 n1 o4 k8 k9,rA w1 (aM k1) 5 [vS o1 k2 k3,vS o2 k4 k5,vS o3 k6 k7,iI n1,vS o4 k8 k9]/\rE 49 [vG [vS o1 k2 k3,vS o2 k4 k5,vS o3 k6 k7,iI n1,vS o4 k8 k9]] w1 λv1 w2=>∃ b1,v1 = vB b1/\br (!b1) (x1 true w2) (br (decide (o < 0)) (x1 true w2) (∃ o5 k10 k11,cL w2 (Addr.add (aM k1) 4) (vS o5 k10 k11)/\br (decide ((k10:Int)<=o)) (x1 true w2) (br (decide (p < 0)) (x1 true w2) (∃ o6 k12 k13,cL w2 (aM k1) (vS o6 k12 k13)/\x1 (decide ((k12:Int)<=p)) w2)))))/\∀ (I1:Nat->Value) (b2:Bool) (w3:Ws),x1 b2 w3->br b2 (R (vU [iI 0,iI 1]) w3) (∃ o7 k14 k15 o8 k16 k17 o9 k18 k19 n2 o10 k20 k21,rA w3 (aM k1) 5 [vS o7 k14 k15,vS o8 k16 k17,vS o9 k18 k19,iI n2,vS o10 k20 k21]/\rE 65 [vG [vS o7 k14 k15,vS o8 k16 k17,vS o9 k18 k19,iI n2,vS o10 k20 k21],iI o,iI p] w3 λv2 w4=>∃ n3,v2 = iI n3/\R (vU [iI n3,iI 0]) w4)):ay Tryz.prog 31 [(.agg #[(.slice a b c),(.slice d e f),(.slice g i j),(.int .i64 k),(.slice l m n)]),(.int .i64 o),(.int .i64 p)] w R:=rv Tryz.func31 xD (by kernel_rfl) h
abbrev A6:FuncId:=33
def xF:bh:={ rngs:=[],loops:=[],joins:=[(2,[(31,(.one .bool))])],blocks:=[] }
theorem xG {a:Wr} {b c:Nat} {d:Wr} {e f:Nat} {g:Wr} {i j:Nat} {k:Int} {l:Wr} {m n:Nat} {o p:Int} {q:Wr} {s t:Nat} {w:Ws} {R:Value->WP} (h:new w (oC [vS a b c,vS d e f,vS g i j,iI k,vS l m n] 27) λk1 w1=>new w1 (oC [iI o,iI p,vS q s t] 60) λk2 w2=>new w2 (oC [iI 0,iI 0] 62) λk3 w3=>∃ (x1:lP [(31,pI)]),(∃ o1 k4 k5 o2 k6 k7 o3 k8 k9 n1 o4 k10 k11,rA w3 (aM k1) 5 [vS o1 k4 k5,vS o2 k6 k7,vS o3 k8 k9,iI n1,vS o4 k10 k11]/\rE 49 [vG [vS o1 k4 k5,vS o2 k6 k7,vS o3 k8 k9,iI n1,vS o4 k10 k11]] w3 λv1 w4=>∃ b1,v1 = vB b1/\br (!b1) (x1 true w4) (∃ n2,cL w4 (Addr.add (aM k2) 1) (iI n2)/\br (decide (n2 < 0)) (x1 true w4) (∃ n3,cL w4 (Addr.add (aM k2) 1) (iI n3)/\∃ o5 k12 k13,cL w4 (aM k1) (vS o5 k12 k13)/\br (decide ((k12:Int)<=n3)) (x1 true w4) (∃ o6 k14 k15 o7 k16 k17 o8 k18 k19 n4 o9 k20 k21,rA w4 (aM k1) 5 [vS o6 k14 k15,vS o7 k16 k17,vS o8 k18 k19,iI n4,vS o9 k20 k21]/\∃ o10 k22 k23,cL w4 (Addr.add (aM k2) 2) (vS o10 k22 k23)/\rE 67 [vG [vS o6 k14 k15,vS o7 k16 k17,vS o8 k18 k19,iI n4,vS o9 k20 k21],vS o10 k22 k23] w4 λv2 w5=>∃ b2,v2 = vB b2/\x1 (!b2) w5))))/\∀ (I1:Nat->Value) (b3:Bool) (w6:Ws),x1 b3 w6->br b3 (cG w6 (aM k3) [iI 0,iI 0] λw7=>∃ n5 n6,rA w7 (aM k3) 2 [iI n5,iI n6]/\R (vU [vG [iI n5,iI n6],vS none 0 0,iI 1]) w7) (∃ o11 k24 k25 o12 k26 k27 o13 k28 k29 n7 o14 k30 k31,rA w6 (aM k1) 5 [vS o11 k24 k25,vS o12 k26 k27,vS o13 k28 k29,iI n7,vS o14 k30 k31]/\∃ n8 n9 o15 k32 k33,rA w6 (aM k2) 3 [iI n8,iI n9,vS o15 k32 k33]/\rE 68 [vG [vS o11 k24 k25,vS o12 k26 k27,vS o13 k28 k29,iI n7,vS o14 k30 k31],vG [iI n8,iI n9,vS o15 k32 k33]] w6 λv3 w8=>∃ n10 n11 o16 k34 k35,v3 = vU [vG [iI n10,iI n11],vS o16 k34 k35]/\new w8 (oC [iI 0,iI 0] 62) λk36 w9=>cG w9 (aM k36) [iI n10,iI n11] λw10=>∃ n12 n13,rA w10 (aM k36) 2 [iI n12,iI n13]/\cG w10 (aM k3) [iI n12,iI n13] λw11=>∃ n14 n15,rA w11 (aM k3) 2 [iI n14,iI n15]/\R (vU [vG [iI n14,iI n15],vS o16 k34 k35,iI 0]) w11)):ay Tryz.prog 33 [(.agg #[(.slice a b c),(.slice d e f),(.slice g i j),(.int .i64 k),(.slice l m n)]),(.agg #[(.int .i64 o),(.int .i64 p),(.slice q s t)])] w R:=rv Tryz.func33 xF (by kernel_rfl) h
abbrev nL:FuncId:=37
def ux:bh:={ rngs:=[],loops:=[(7,[(36,(.one (.int .i64)))]),(11,[(46,(.one (.int .i64)))]),(16,[(56,(.one (.int .i64)))]),(25,[(99,(.one (.int .i64)))])],joins:=[],blocks:=[] }
theorem uy {a:Wr} {b c:Nat} {d:Wr} {e f:Nat} {g:Wr} {i j:Nat} {k:Int} {l:Wr} {m n:Nat} {w:Ws} {R:Value->WP} (h:new w (oC [vS a b c,vS d e f,vS g i j,iI k,vS l m n] 27) λk1 w1=>new w1 (oC [vS none 0 0,vS none 0 0,vS none 0 0] 75) λk2 w2=>∃ o1 k3 k4 o2 k5 k6 o3 k7 k8 n1 o4 k9 k10,rA w2 (aM k1) 5 [vS o1 k3 k4,vS o2 k5 k6,vS o3 k7 k8,iI n1,vS o4 k9 k10]/\rE 15 [vG [vS o1 k3 k4,vS o2 k5 k6,vS o3 k7 k8,iI n1,vS o4 k9 k10]] w2 λv1 w3=>∃ o5 k11 k12 n2,v1 = vU [vS o5 k11 k12,iI n2]/\br (n2 != 0) (cG w3 (aM k2) [vS none 0 0,vS none 0 0,vS none 0 0] λw4=>∃ o6 k13 k14 o7 k15 k16 o8 k17 k18,rA w4 (aM k2) 3 [vS o6 k13 k14,vS o7 k15 k16,vS o8 k17 k18]/\R (vU [vG [vS o6 k13 k14,vS o7 k15 k16,vS o8 k17 k18],iI n2]) w4) (∃ o9 k19 k20 o10 k21 k22 o11 k23 k24 n3 o12 k25 k26,rA w3 (aM k1) 5 [vS o9 k19 k20,vS o10 k21 k22,vS o11 k23 k24,iI n3,vS o12 k25 k26]/\rE 26 [vG [vS o9 k19 k20,vS o10 k21 k22,vS o11 k23 k24,iI n3,vS o12 k25 k26]] w3 λv2 w5=>∃ o13 k27 k28 n4 n5 n6,v2 = vU [vG [vS o13 k27 k28,iI n4,iI n5],iI n6]/\new w5 (oC [vS none 0 0,iI 0,iI 0] 45) λk29 w6=>cG w6 (aM k29) [vS o13 k27 k28,iI n4,iI n5] λw7=>new w7 (oC [vS none 0 0,vS none 0 0,vS none 0 0] 75) λk30 w8=>∃ o14 k31 k32,cL w8 (aM k29) (vS o14 k31 k32)/\∃ (x1:lP [(36,aD)]),∃ (x2:lN [(36,aD)]),x1 0 w8/\∀ (I1:Nat->Value) (n7:Int) (w9:Ws),x1 n7 w9->br (decide (n7 < (k31:Int))) (idx o14 k31 n7 2 λa1=>∃ o15 k33 k34 o16 k35 k36,rA w9 a1 2 [vS o15 k33 k34,vS o16 k35 k36]/\new w9 (oC [vS none 0 0,vS none 0 0] 54) λk37 w10=>cG w10 (aM k37) [vS o15 k33 k34,vS o16 k35 k36] λw11=>∃ o17 k38 k39,cL w11 (Addr.add (aM k1) 1) (vS o17 k38 k39)/\Dc (k38:Int) (k38:Int) 8/\new w11 (Obj.cells (Array.mk (lD (Int.toNat (k38:Int)) [iI 0])) 3) λk40 w12=>∃ (x3:lP [(46,aD)]),∃ (x4:lN [(46,aD)]),x3 0 w12/\∀ (I2:Nat->Value) (n8:Int) (w13:Ws),x3 n8 w13->br (decide (n8 < (↑(Int.toNat (k38:Int)):Int))) (idx (some (aM k40)) (Int.toNat (k38:Int)) n8 1 λa2=>st1 w13 a2 (iI (-1)) λw14=>aw (n8 + 1)/\x3 (n8 + 1) w14/\x4 (n8 + 1) w14 < x4 n8 w13) (∃ o18 k41 k42,cL w13 (Addr.add (aM k37) 1) (vS o18 k41 k42)/\∃ (x5:lP [(56,aD)]),∃ (x6:lN [(56,aD)]),x5 0 w13/\∀ (I3:Nat->Value) (n9:Int) (w15:Ws),x5 n9 w15->br (decide (n9 < (k41:Int))) (idx o18 k41 n9 2 λa3=>∃ n10 n11,rA w15 a3 2 [iI n10,iI n11]/\new w15 (oC [iI 0,iI 0] 56) λk43 w16=>cG w16 (aM k43) [iI n10,iI n11] λw17=>∃ n12,cL w17 (aM k43) (iI n12)/\∃ o19 k44 k45,cL w17 (aM k1) (vS o19 k44 k45)/\br (decide ((k44:Int)<=n12)) (∃ n13,cL w17 (aM k43) (iI n13)/\∃ o20 k46 k47,cL w17 (aM k1) (vS o20 k46 k47)/\aw (n13 - (k46:Int))/\∃ n14,cL w17 (Addr.add (aM k43) 1) (iI n14)/\idx (some (aM k40)) (Int.toNat (k38:Int)) (n13 - (k46:Int)) 1 λa4=>st1 w17 a4 (iI n14) λw18=>aw (n9 + 1)/\x5 (n9 + 1) w18/\x6 (n9 + 1) w18 < x6 n9 w15) (aw (n9 + 1)/\x5 (n9 + 1) w17/\x6 (n9 + 1) w17 < x6 n9 w15)) (∀ w19,drawn w15 w19->∃ (I4:WP),I4 w19/\∃ o21 k48 k49,(∀ w20,I4 w20->cL w20 (aM k30) (vS o21 k48 k49))/\∃ o22 k50 k51,(∀ w21,I4 w21->cL w21 (aM k1) (vS o22 k50 k51))/\Dc (k50:Int) (k50:Int) 16/\new w19 (Obj.cells (Array.mk (lD (Int.toNat (k50:Int)) [iI 0,iI 0])) 62) λk52 w22=>I4 w22/\new w22 (oC [vS (some (aM k52)) (Int.toNat (k50:Int)) (Int.toNat (k50:Int))] 38) λk53 w23=>I4 w23/\rS (jT 70 (Array.mk [vS o21 k48 k49,vS (some (aM k53)) 1 1])) w23 λv3 w24=>∃ o23 k54 k55,v3 = vS o23 k54 k55/\I4 w24/\st1 w24 (aM k30) (vS o23 k54 k55) λw25=>∃ o24 k56 k57,cL w25 (Addr.add (aM k30) 1) (vS o24 k56 k57)/\new w25 (oC [vS (some (aM k40)) (Int.toNat (k38:Int)) (Int.toNat (k38:Int))] 24) λk58 w26=>rS (jT 71 (Array.mk [vS o24 k56 k57,vS (some (aM k58)) 1 1])) w26 λv4 w27=>∃ o25 k59 k60,v4 = vS o25 k59 k60/\st1 w27 (Addr.add (aM k30) 1) (vS o25 k59 k60) λw28=>aw (n7 + 1)/\x1 (n7 + 1) w28/\x2 (n7 + 1) w28 < x2 n7 w9))) (∃ (x7:lP [(99,aD)]),∃ (x8:lN [(99,aD)]),x7 0 w9/\∀ (I5:Nat->Value) (n15:Int) (w29:Ws),x7 n15 w29->br (decide (n15 < (k11:Int))) (idx o5 k11 n15 3 λa5=>∃ n16 n17 o26 k61 k62,rA w29 a5 3 [iI n16,iI n17,vS o26 k61 k62]/\new w29 (oC [iI 0,iI 0,vS none 0 0] 60) λk63 w30=>cG w30 (aM k63) [iI n16,iI n17,vS o26 k61 k62] λw31=>∃ o27 k64 k65 o28 k66 k67 o29 k68 k69 n18 o30 k70 k71,rA w31 (aM k1) 5 [vS o27 k64 k65,vS o28 k66 k67,vS o29 k68 k69,iI n18,vS o30 k70 k71]/\∃ n19 n20 o31 k72 k73,rA w31 (aM k63) 3 [iI n19,iI n20,vS o31 k72 k73]/\rE 68 [vG [vS o27 k64 k65,vS o28 k66 k67,vS o29 k68 k69,iI n18,vS o30 k70 k71],vG [iI n19,iI n20,vS o31 k72 k73]] w31 λv5 w32=>∃ n21 n22 o32 k74 k75,v5 = vU [vG [iI n21,iI n22],vS o32 k74 k75]/\new w32 (oC [iI 0,iI 0] 62) λk76 w33=>cG w33 (aM k76) [iI n21,iI n22] λw34=>∀ w35,drawn w34 w35->∃ (I6:WP),I6 w35/\∃ o33 k77 k78,(∀ w36,I6 w36->cL w36 (aM k30) (vS o33 k77 k78))/\∃ n23,(∀ w37,I6 w37->cL w37 (aM k63) (iI n23))/\idx o33 k77 n23 1 λa6=>∃ o34 k79 k80,(∀ w38,I6 w38->cL w38 a6 (vS o34 k79 k80))/\∃ n24,(∀ w39,I6 w39->cL w39 (Addr.add (aM k63) 1) (iI n24))/\∃ n25 n26,(∀ w40,I6 w40->rA w40 (aM k76) 2 [iI n25,iI n26])/\idx o34 k79 n24 2 λa7=>cG w35 a7 [iI n25,iI n26] λw41=>br (decide (0 < (k74:Int))) (∃ o35 k81 k82,cL w41 (Addr.add (aM k30) 2) (vS o35 k81 k82)/\∃ n27,cL w41 (aM k63) (iI n27)/\∃ n28,cL w41 (Addr.add (aM k63) 1) (iI n28)/\new w41 (oC [iI n27,iI n28,vS o32 k74 k75] 60) λk83 w42=>rS (jT 29 (Array.mk [vS o35 k81 k82,vS (some (aM k83)) 1 1])) w42 λv6 w43=>∃ o36 k84 k85,v6 = vS o36 k84 k85/\st1 w43 (Addr.add (aM k30) 2) (vS o36 k84 k85) λw44=>aw (n15 + 1)/\x7 (n15 + 1) w44/\x8 (n15 + 1) w44 < x8 n15 w29) (aw (n15 + 1)/\x7 (n15 + 1) w41/\x8 (n15 + 1) w41 < x8 n15 w29)) (∃ o37 k86 k87 o38 k88 k89 o39 k90 k91,rA w29 (aM k30) 3 [vS o37 k86 k87,vS o38 k88 k89,vS o39 k90 k91]/\cG w29 (aM k2) [vS o37 k86 k87,vS o38 k88 k89,vS o39 k90 k91] λw45=>∃ o40 k92 k93 o41 k94 k95 o42 k96 k97,rA w45 (aM k2) 3 [vS o40 k92 k93,vS o41 k94 k95,vS o42 k96 k97]/\R (vU [vG [vS o40 k92 k93,vS o41 k94 k95,vS o42 k96 k97],iI 0]) w45)))):ay Tryz.prog 37 [(.agg #[(.slice a b c),(.slice d e f),(.slice g i j),(.int .i64 k),(.slice l m n)])] w R:=rv Tryz.func37 ux (by kernel_rfl) h
abbrev xH:FuncId:=64
def uz:bh:={ rngs:=[],loops:=[(7,[(38,(.one (.int .i64)))]),(12,[(13,(.one .slice)),(52,(.one (.int .i64)))]),(24,[(99,(.one (.int .i64)))])],joins:=[],blocks:=[] }
theorem uA {a:Wr} {b c:Nat} {d:Wr} {e f:Nat} {g:Wr} {i j:Nat} {k:Int} {l:Wr} {m n:Nat} {w:Ws} {R:Value->WP} (h:new w (oC [vS a b c,vS d e f,vS g i j,iI k,vS l m n] 27) λk1 w1=>∃ o1 k2 k3 o2 k4 k5 o3 k6 k7 n1 o4 k8 k9,rA w1 (aM k1) 5 [vS o1 k2 k3,vS o2 k4 k5,vS o3 k6 k7,iI n1,vS o4 k8 k9]/\rE 37 [vG [vS o1 k2 k3,vS o2 k4 k5,vS o3 k6 k7,iI n1,vS o4 k8 k9]] w1 λv1 w2=>∃ o5 k10 k11 o6 k12 k13 o7 k14 k15 n2,v1 = vU [vG [vS o5 k10 k11,vS o6 k12 k13,vS o7 k14 k15],iI n2]/\new w2 (oC [vS none 0 0,vS none 0 0,vS none 0 0] 75) λk16 w3=>cG w3 (aM k16) [vS o5 k10 k11,vS o6 k12 k13,vS o7 k14 k15] λw4=>br (n2 != 0) (R (vU [Value.string (ByteArray.mk (Array.mk [])),iI n2]) w4) (∃ o8 k17 k18 o9 k19 k20 o10 k21 k22 n3 o11 k23 k24,rA w4 (aM k1) 5 [vS o8 k17 k18,vS o9 k19 k20,vS o10 k21 k22,iI n3,vS o11 k23 k24]/\rE 26 [vG [vS o8 k17 k18,vS o9 k19 k20,vS o10 k21 k22,iI n3,vS o11 k23 k24]] w4 λv2 w5=>∃ o12 k25 k26 n4 n5 n6,v2 = vU [vG [vS o12 k25 k26,iI n4,iI n5],iI n6]/\new w5 (oC [vS none 0 0,iI 0,iI 0] 45) λk27 w6=>cG w6 (aM k27) [vS o12 k25 k26,iI n4,iI n5] λw7=>new w7 (oC [vP none,vS none 0 0] 203) λk28 w8=>∃ o13 k29 k30,cL w8 (Addr.add (aM k16) 2) (vS o13 k29 k30)/\∃ (x1:lP [(38,aD)]),∃ (x2:lN [(38,aD)]),x1 0 w8/\∀ (I1:Nat->Value) (n7:Int) (w9:Ws),x1 n7 w9->br (decide (n7 < (k29:Int))) (idx o13 k29 n7 3 λa1=>∃ n8 n9 o14 k31 k32,rA w9 a1 3 [iI n8,iI n9,vS o14 k31 k32]/\new w9 (oC [iI 0,iI 0,vS none 0 0] 60) λk33 w10=>cG w10 (aM k33) [iI n8,iI n9,vS o14 k31 k32] λw11=>∃ o15 k34 k35 o16 k36 k37 o17 k38 k39 n10 o18 k40 k41,rA w11 (aM k1) 5 [vS o15 k34 k35,vS o16 k36 k37,vS o17 k38 k39,iI n10,vS o18 k40 k41]/\∃ n11,cL w11 (Addr.add (aM k33) 1) (iI n11)/\rE 114 [vG [vS o15 k34 k35,vS o16 k36 k37,vS o17 k38 k39,iI n10,vS o18 k40 k41],iI n11] w11 λv3 w12=>∃ s1 n12,v3 = vU [Value.string s1,iI n12]/\∃ o19 k42 k43,cL w12 (Addr.add (aM k33) 2) (vS o19 k42 k43)/\∃ (x3:lP [(13,mL),(52,aD)]),∃ (x4:lN [(13,mL),(52,aD)]),x3 none 0 0 0 w12/\∀ (I2:Nat->Value) (o20:Wr) (k44 k45:Nat) (n13:Int) (w13:Ws),x3 o20 k44 k45 n13 w13->br (decide (n13 < (k42:Int))) (idx o19 k42 n13 2 λa2=>∃ n14 n15,rA w13 a2 2 [iI n14,iI n15]/\new w13 (oC [iI 0,iI 0] 62) λk46 w14=>cG w14 (aM k46) [iI n14,iI n15] λw15=>∃ n16,cL w15 (aM k46) (iI n16)/\br (n16 == 1) (new w15 (oC [Value.string (ByteArray.mk (Array.mk [115,104,105,102,116]))] 9) λk47 w16=>rS (jT 23 (Array.mk [vS o20 k44 k45,vS (some (aM k47)) 1 1])) w16 λv4 w17=>∃ o21 k48 k49,v4 = vS o21 k48 k49/\aw (n13 + 1)/\x3 o21 k48 k49 (n13 + 1) w17/\x4 o21 k48 k49 (n13 + 1) w17 < x4 o20 k44 k45 n13 w13) (br (n16 == 3) (new w15 (oC [Value.string (ByteArray.mk (Array.mk [97,99,99,101,112,116]))] 9) λk50 w18=>rS (jT 23 (Array.mk [vS o20 k44 k45,vS (some (aM k50)) 1 1])) w18 λv5 w19=>∃ o22 k51 k52,v5 = vS o22 k51 k52/\aw (n13 + 1)/\x3 o22 k51 k52 (n13 + 1) w19/\x4 o22 k51 k52 (n13 + 1) w19 < x4 o20 k44 k45 n13 w13) (∃ o23 k53 k54 o24 k55 k56 o25 k57 k58 n17 o26 k59 k60,rA w15 (aM k1) 5 [vS o23 k53 k54,vS o24 k55 k56,vS o25 k57 k58,iI n17,vS o26 k59 k60]/\∃ n18,cL w15 (Addr.add (aM k46) 1) (iI n18)/\rE 115 [vG [vS o23 k53 k54,vS o24 k55 k56,vS o25 k57 k58,iI n17,vS o26 k59 k60],iI n18] w15 λv6 w20=>∃ s2 n19,v6 = vU [Value.string s2,iI n19]/\(↑(ByteArray.size (ByteArray.mk (Array.mk [114,101,100,117,99,101,32]))):Int) + (↑(ByteArray.size s2):Int)<=9223372036854775807/\new w20 (oC [Value.string (ByteArray.mk (Array.mk [114,101,100,117,99,101,32]) ++ s2)] 9) λk61 w21=>rS (jT 23 (Array.mk [vS o20 k44 k45,vS (some (aM k61)) 1 1])) w21 λv7 w22=>∃ o27 k62 k63,v7 = vS o27 k62 k63/\aw (n13 + 1)/\x3 o27 k62 k63 (n13 + 1) w22/\x4 o27 k62 k63 (n13 + 1) w22 < x4 o20 k44 k45 n13 w13))) (∃ n20,cL w13 (aM k33) (iI n20)/\rE 117 [iI n20] w13 λv8 w23=>∃ s3,v8 = Value.string s3/\(↑(ByteArray.size (ByteArray.mk (Array.mk [115,116,97,116,101,32]))):Int) + (↑(ByteArray.size s3):Int)<=9223372036854775807/\(↑(ByteArray.size (ByteArray.mk (Array.mk [115,116,97,116,101,32]) ++ s3)):Int) + (↑(ByteArray.size (ByteArray.mk (Array.mk [32,97,116,32]))):Int)<=9223372036854775807/\(↑(ByteArray.size (ByteArray.mk (Array.mk [115,116,97,116,101,32]) ++ s3 ++ ByteArray.mk (Array.mk [32,97,116,32]))):Int) + (↑(ByteArray.size s1):Int)<=9223372036854775807/\(↑(ByteArray.size (ByteArray.mk (Array.mk [115,116,97,116,101,32]) ++ s3 ++ ByteArray.mk (Array.mk [32,97,116,32]) ++ s1)):Int) + (↑(ByteArray.size (ByteArray.mk (Array.mk [58,32]))):Int)<=9223372036854775807/\rE 118 [vS o20 k44 k45,Value.string (ByteArray.mk (Array.mk [44,32]))] w23 λv9 w24=>∃ s4,v9 = Value.string s4/\(↑(ByteArray.size (ByteArray.mk (Array.mk [115,116,97,116,101,32]) ++ s3 ++ ByteArray.mk (Array.mk [32,97,116,32]) ++ s1 ++ ByteArray.mk (Array.mk [58,32]))):Int) + (↑(ByteArray.size s4):Int)<=9223372036854775807/\(↑(ByteArray.size (ByteArray.mk (Array.mk [115,116,97,116,101,32]) ++ s3 ++ ByteArray.mk (Array.mk [32,97,116,32]) ++ s1 ++ ByteArray.mk (Array.mk [58,32]) ++ s4)):Int) + (↑(ByteArray.size (ByteArray.mk (Array.mk [10]))):Int)<=9223372036854775807/\rE 116 [vP (some (aM k28)),Value.string (ByteArray.mk (Array.mk [115,116,97,116,101,32]) ++ s3 ++ ByteArray.mk (Array.mk [32,97,116,32]) ++ s1 ++ ByteArray.mk (Array.mk [58,32]) ++ s4 ++ ByteArray.mk (Array.mk [10]))] w24 λv10 w25=>∃ n21 v11,v10 = vU [iI n21,v11]/\∃ o28 k64 k65 o29 k66 k67 o30 k68 k69 n22 o31 k70 k71,rA w25 (aM k1) 5 [vS o28 k64 k65,vS o29 k66 k67,vS o30 k68 k69,iI n22,vS o31 k70 k71]/\∃ o32 k72 k73 n23 n24,rA w25 (aM k27) 3 [vS o32 k72 k73,iI n23,iI n24]/\∃ n25 n26 o33 k74 k75,rA w25 (aM k33) 3 [iI n25,iI n26,vS o33 k74 k75]/\rE 119 [vG [vS o28 k64 k65,vS o29 k66 k67,vS o30 k68 k69,iI n22,vS o31 k70 k71],vG [vS o32 k72 k73,iI n23,iI n24],vG [iI n25,iI n26,vS o33 k74 k75]] w25 λv12 w26=>∃ o34 k76 k77,v12 = vS o34 k76 k77/\∃ (x5:lP [(99,aD)]),∃ (x6:lN [(99,aD)]),x5 0 w26/\∀ (I3:Nat->Value) (n27:Int) (w27:Ws),x5 n27 w27->br (decide (n27 < (k76:Int))) (idx o34 k76 n27 2 λa3=>∃ n28 n29,rA w27 a3 2 [iI n28,iI n29]/\new w27 (oC [iI 0,iI 0] 104) λk78 w28=>cG w28 (aM k78) [iI n28,iI n29] λw29=>∃ o35 k79 k80 o36 k81 k82 o37 k83 k84 n30 o38 k85 k86,rA w29 (aM k1) 5 [vS o35 k79 k80,vS o36 k81 k82,vS o37 k83 k84,iI n30,vS o38 k85 k86]/\∃ n31 n32,rA w29 (aM k78) 2 [iI n31,iI n32]/\rE 120 [vG [vS o35 k79 k80,vS o36 k81 k82,vS o37 k83 k84,iI n30,vS o38 k85 k86],vG [iI n31,iI n32]] w29 λv13 w30=>∃ s5 n33,v13 = vU [Value.string s5,iI n33]/\(↑(ByteArray.size (ByteArray.mk (Array.mk [32,32]))):Int) + (↑(ByteArray.size s5):Int)<=9223372036854775807/\(↑(ByteArray.size (ByteArray.mk (Array.mk [32,32]) ++ s5)):Int) + (↑(ByteArray.size (ByteArray.mk (Array.mk [10]))):Int)<=9223372036854775807/\rE 116 [vP (some (aM k28)),Value.string (ByteArray.mk (Array.mk [32,32]) ++ s5 ++ ByteArray.mk (Array.mk [10]))] w30 λv14 w31=>∃ n34 v15,v14 = vU [iI n34,v15]/\aw (n27 + 1)/\x5 (n27 + 1) w31/\x6 (n27 + 1) w31 < x6 n27 w27) (aw (n7 + 1)/\x1 (n7 + 1) w27/\x2 (n7 + 1) w27 < x2 n7 w9))) (rE 121 [vP (some (aM k28))] w9 λv16 w32=>∃ s6,v16 = Value.string s6/\R (vU [Value.string s6,iI 0]) w32))):ay Tryz.prog 64 [(.agg #[(.slice a b c),(.slice d e f),(.slice g i j),(.int .i64 k),(.slice l m n)])] w R:=rv Tryz.func64 uz (by kernel_rfl) h
abbrev A7:FuncId:=65
def xI:bh:={ rngs:=[],loops:=[],joins:=[],blocks:=[] }
theorem xJ {a:Wr} {b c:Nat} {d:Wr} {e f:Nat} {g:Wr} {i j:Nat} {k:Int} {l:Wr} {m n:Nat} {o p:Int} {w:Ws} {R:Value->WP} (h:new w (oC [vS a b c,vS d e f,vS g i j,iI k,vS l m n] 27) λk1 w1=>new w1 (oC [iI 0,iI 0,iI 0,iI 0] 214) λk2 w2=>cG w2 (aM k2) [iI 0,iI 2,iI 1,iI 3] λw3=>∃ o1 k3 k4,cL w3 (Addr.add (aM k1) 4) (vS o1 k3 k4)/\idx o1 k3 o 3 λa1=>∃ n1,cL w3 (Addr.add a1 2) (iI n1)/\∃ o2 k5 k6,cL w3 (aM k1) (vS o2 k5 k6)/\idx o2 k5 p 2 λa2=>∃ n2,cL w3 (Addr.add a2 1) (iI n2)/\br (n1 == 0) (R (iI 0) w3) (br (n2 == 0) (R (iI 0) w3) (br (decide (n2 < n1)) (R (iI 2) w3) (br (decide (n1 < n2)) (R (iI 1) w3) (∃ o3 k7 k8,cL w3 (Addr.add (aM k1) 2) (vS o3 k7 k8)/\aw (n1 - 1)/\idx o3 k7 (n1 - 1) 1 λa3=>∃ n3,cL w3 a3 (iI n3)/\idx (some (aM k2)) 4 n3 1 λa4=>∃ n4,cL w3 a4 (iI n4)/\R (iI n4) w3))))):ay Tryz.prog 65 [(.agg #[(.slice a b c),(.slice d e f),(.slice g i j),(.int .i64 k),(.slice l m n)]),(.int .i64 o),(.int .i64 p)] w R:=rv Tryz.func65 xI (by kernel_rfl) h
abbrev wb:FuncId:=67
def s8:bh:={ rngs:=[],loops:=[(3,[(5,(.one (.int .i64))),(11,(.one (.int .i64)))])],joins:=[(16,[(8,(.one (.int .i64)))])],blocks:=[] }
theorem s_ {a:Wr} {b c:Nat} {d:Wr} {e f:Nat} {g:Wr} {i j:Nat} {k:Int} {l:Wr} {m n:Nat} {o:Wr} {p q:Nat} {w:Ws} {R:Value->WP} (h:new w (oC [vS a b c,vS d e f,vS g i j,iI k,vS l m n] 27) λk1 w1=>∃ (x1:lP [(5,aD),(11,aD)]),∃ (x2:lN [(5,aD),(11,aD)]),x1 (-1) 0 w1/\∀ (I1:Nat->Value) (n1 n2:Int) (w2:Ws),x1 n1 n2 w2->br (decide (n2 < (p:Int))) (idx o p n2 2 λa1=>∃ n3 n4,rA w2 a1 2 [iI n3,iI n4]/\new w2 (oC [iI 0,iI 0] 62) λk2 w3=>cG w3 (aM k2) [iI n3,iI n4] λw4=>∃ (x3:lP [(8,aD)]),(∃ n5,cL w4 (aM k2) (iI n5)/\br (n5 == 1) (∃ n6,cL w4 (Addr.add (aM k2) 1) (iI n6)/\br (decide (0<=n6)) (x3 0 w4) (x3 (-1) w4)) (br (n5 == 3) (∃ n7,cL w4 (Addr.add (aM k2) 1) (iI n7)/\br (n7 == 0) (x3 1 w4) (x3 (-1) w4)) (br (n5 == 2) (∃ n8,cL w4 (Addr.add (aM k2) 1) (iI n8)/\br (decide (0 < n8)) (∃ n9,cL w4 (Addr.add (aM k2) 1) (iI n9)/\∃ o1 k3 k4,cL w4 (Addr.add (aM k1) 4) (vS o1 k3 k4)/\br (decide (n9 < (k3:Int))) (∃ n10,cL w4 (Addr.add (aM k2) 1) (iI n10)/\aw (1 + n10)/\x3 (1 + n10) w4) (x3 (-1) w4)) (x3 (-1) w4)) (x3 (-1) w4))))/\∀ (I2:Nat->Value) (n11:Int) (w5:Ws),x3 n11 w5->br (decide (n11<=n1)) (R (vB false) w5) (aw (n2 + 1)/\x1 n11 (n2 + 1) w5/\x2 n11 (n2 + 1) w5 < x2 n1 n2 w2)) (R (vB true) w2)):ay Tryz.prog 67 [(.agg #[(.slice a b c),(.slice d e f),(.slice g i j),(.int .i64 k),(.slice l m n)]),(.slice o p q)] w R:=rv Tryz.func67 s8 (by kernel_rfl) h
abbrev we:FuncId:=68
def td:bh:={ rngs:=[],loops:=[],joins:=[],blocks:=[] }
theorem te {a:Wr} {b c:Nat} {d:Wr} {e f:Nat} {g:Wr} {i j:Nat} {k:Int} {l:Wr} {m n:Nat} {o p:Int} {q:Wr} {s t:Nat} {w:Ws} {R:Value->WP} (h:new w (oC [vS a b c,vS d e f,vS g i j,iI k,vS l m n] 27) λk1 w1=>new w1 (oC [iI o,iI p,vS q s t] 60) λk2 w2=>new w2 (oC [iI 0,iI 0] 62) λk3 w3=>∃ o1 k4 k5 o2 k6 k7 o3 k8 k9 n1 o4 k10 k11,rA w3 (aM k1) 5 [vS o1 k4 k5,vS o2 k6 k7,vS o3 k8 k9,iI n1,vS o4 k10 k11]/\∃ n2,cL w3 (Addr.add (aM k2) 1) (iI n2)/\∃ o5 k12 k13,cL w3 (Addr.add (aM k2) 2) (vS o5 k12 k13)/\rE 122 [vG [vS o1 k4 k5,vS o2 k6 k7,vS o3 k8 k9,iI n1,vS o4 k10 k11],iI n2,vS o5 k12 k13] w3 λv1 w4=>∃ o6 k14 k15 b1,v1 = vU [vS o6 k14 k15,vB b1]/\br (decide (1 < (k14:Int))) (∀ w5,drawn w4 w5->∃ (I1:WP),I1 w5/\idx o6 k14 0 2 λa1=>∃ n3 n4,(∀ w6,I1 w6->rA w6 a1 2 [iI n3,iI n4])/\rE 123 [vS o6 k14 k15] w5 λv2 w7=>∃ o7 k16 k17,v2 = vS o7 k16 k17/\I1 w7/\cG w7 (aM k3) [iI n3,iI n4] λw8=>∃ n5 n6,rA w8 (aM k3) 2 [iI n5,iI n6]/\R (vU [vG [iI n5,iI n6],vS o7 k16 k17]) w8) (br ((k14:Int) == 1) (idx o6 k14 0 2 λa2=>∃ n7 n8,rA w4 a2 2 [iI n7,iI n8]/\cG w4 (aM k3) [iI n7,iI n8] λw9=>∃ n9 n10,rA w9 (aM k3) 2 [iI n9,iI n10]/\R (vU [vG [iI n9,iI n10],vS none 0 0]) w9) (br b1 (cG w4 (aM k3) [iI 4,iI 0] λw10=>∃ n11 n12,rA w10 (aM k3) 2 [iI n11,iI n12]/\R (vU [vG [iI n11,iI n12],vS none 0 0]) w10) (cG w4 (aM k3) [iI 0,iI 0] λw11=>∃ n13 n14,rA w11 (aM k3) 2 [iI n13,iI n14]/\R (vU [vG [iI n13,iI n14],vS none 0 0]) w11)))):ay Tryz.prog 68 [(.agg #[(.slice a b c),(.slice d e f),(.slice g i j),(.int .i64 k),(.slice l m n)]),(.agg #[(.int .i64 o),(.int .i64 p),(.slice q s t)])] w R:=rv Tryz.func68 td (by kernel_rfl) h
abbrev A8:FuncId:=122
def xK:bh:={ rngs:=[],loops:=[(7,[(8,(.one .bool)),(9,(.one .bool)),(10,(.one .slice)),(29,(.one (.int .i64)))])],joins:=[(2,[(23,(.one .bool))])],blocks:=[] }
theorem xL {a:Wr} {b c:Nat} {d:Wr} {e f:Nat} {g:Wr} {i j:Nat} {k:Int} {l:Wr} {m n:Nat} {o:Int} {p:Wr} {q s:Nat} {w:Ws} {R:Value->WP} (h:new w (oC [vS a b c,vS d e f,vS g i j,iI k,vS l m n] 27) λk1 w1=>∃ (x1:lP [(23,pI)]),br ((q:Int) == 0) (x1 true w1) (idx p q 0 2 λa1=>∃ n1,cL w1 a1 (iI n1)/\x1 (n1 != 1) w1)/\∀ (I1:Nat->Value) (b1:Bool) (w2:Ws),x1 b1 w2->br b1 (rE 176 [vS p q s] w2 λv1 w3=>∃ o1 k2 k3,v1 = vS o1 k2 k3/\R (vU [vS o1 k2 k3,vB false]) w3) (lV p q s (some 1) none none 2 λ(o2:Wr) (k4 k5:Nat)=>∃ (x2:lP [(8,pI),(9,pI),(10,mL),(29,aD)]),∃ (x3:lN [(8,pI),(9,pI),(10,mL),(29,aD)]),x2 true false none 0 0 0 w2/\∀ (I2:Nat->Value) (b2 b3:Bool) (o3:Wr) (k6 k7:Nat) (n2:Int) (w4:Ws),x2 b2 b3 o3 k6 k7 n2 w4->br (decide (n2 < (k4:Int))) (idx o2 k4 n2 2 λa2=>∃ n3 n4,rA w4 a2 2 [iI n3,iI n4]/\new w4 (oC [iI 0,iI 0] 62) λk8 w5=>cG w5 (aM k8) [iI n3,iI n4] λw6=>∃ n5,cL w6 (aM k8) (iI n5)/\br (n5 == 2) (∃ o4 k9 k10 o5 k11 k12 o6 k13 k14 n6 o7 k15 k16,rA w6 (aM k1) 5 [vS o4 k9 k10,vS o5 k11 k12,vS o6 k13 k14,iI n6,vS o7 k15 k16]/\∃ n7,cL w6 (Addr.add (aM k8) 1) (iI n7)/\rE 65 [vG [vS o4 k9 k10,vS o5 k11 k12,vS o6 k13 k14,iI n6,vS o7 k15 k16],iI n7,iI o] w6 λv2 w7=>∃ n8,v2 = iI n8/\br (n8 == 3) (aw (n2 + 1)/\x2 false true o3 k6 k7 (n2 + 1) w7/\x3 false true o3 k6 k7 (n2 + 1) w7 < x3 b2 b3 o3 k6 k7 n2 w4) (br (n8 == 2) (∃ n9 n10,rA w7 (aM k8) 2 [iI n9,iI n10]/\new w7 (oC [iI n9,iI n10] 62) λk17 w8=>rS (jT 38 (Array.mk [vS o3 k6 k7,vS (some (aM k17)) 1 1])) w8 λv3 w9=>∃ o8 k18 k19,v3 = vS o8 k18 k19/\aw (n2 + 1)/\x2 false b3 o8 k18 k19 (n2 + 1) w9/\x3 false b3 o8 k18 k19 (n2 + 1) w9 < x3 b2 b3 o3 k6 k7 n2 w4) (br (n8 == 0) (∃ n11 n12,rA w7 (aM k8) 2 [iI n11,iI n12]/\new w7 (oC [iI n11,iI n12] 62) λk20 w10=>rS (jT 38 (Array.mk [vS o3 k6 k7,vS (some (aM k20)) 1 1])) w10 λv4 w11=>∃ o9 k21 k22,v4 = vS o9 k21 k22/\aw (n2 + 1)/\x2 b2 b3 o9 k21 k22 (n2 + 1) w11/\x3 b2 b3 o9 k21 k22 (n2 + 1) w11 < x3 b2 b3 o3 k6 k7 n2 w4) (aw (n2 + 1)/\x2 b2 b3 o3 k6 k7 (n2 + 1) w7/\x3 b2 b3 o3 k6 k7 (n2 + 1) w7 < x3 b2 b3 o3 k6 k7 n2 w4)))) (br (0 == 3) (aw (n2 + 1)/\x2 false true o3 k6 k7 (n2 + 1) w6/\x3 false true o3 k6 k7 (n2 + 1) w6 < x3 b2 b3 o3 k6 k7 n2 w4) (br (0 == 2) (∃ n13 n14,rA w6 (aM k8) 2 [iI n13,iI n14]/\new w6 (oC [iI n13,iI n14] 62) λk23 w12=>rS (jT 38 (Array.mk [vS o3 k6 k7,vS (some (aM k23)) 1 1])) w12 λv5 w13=>∃ o10 k24 k25,v5 = vS o10 k24 k25/\aw (n2 + 1)/\x2 false b3 o10 k24 k25 (n2 + 1) w13/\x3 false b3 o10 k24 k25 (n2 + 1) w13 < x3 b2 b3 o3 k6 k7 n2 w4) (br (0 == 0) (∃ n15 n16,rA w6 (aM k8) 2 [iI n15,iI n16]/\new w6 (oC [iI n15,iI n16] 62) λk26 w14=>rS (jT 38 (Array.mk [vS o3 k6 k7,vS (some (aM k26)) 1 1])) w14 λv6 w15=>∃ o11 k27 k28,v6 = vS o11 k27 k28/\aw (n2 + 1)/\x2 b2 b3 o11 k27 k28 (n2 + 1) w15/\x3 b2 b3 o11 k27 k28 (n2 + 1) w15 < x3 b2 b3 o3 k6 k7 n2 w4) (aw (n2 + 1)/\x2 b2 b3 o3 k6 k7 (n2 + 1) w6/\x3 b2 b3 o3 k6 k7 (n2 + 1) w6 < x3 b2 b3 o3 k6 k7 n2 w4))))) (br b2 (idx p q 0 2 λa3=>∃ n17 n18,rA w4 a3 2 [iI n17,iI n18]/\new w4 (oC [iI n17,iI n18] 62) λk29 w16=>rE 177 [vS o3 k6 k7,iI 0,vS (some (aM k29)) 1 1] w16 λv7 w17=>∃ o12 k30 k31,v7 = vS o12 k30 k31/\R (vU [vS o12 k30 k31,vB b3]) w17) (R (vU [vS o3 k6 k7,vB b3]) w4)))):ay Tryz.prog 122 [(.agg #[(.slice a b c),(.slice d e f),(.slice g i j),(.int .i64 k),(.slice l m n)]),(.int .i64 o),(.slice p q s)] w R:=rv Tryz.func122 xK (by kernel_rfl) h
def fl:bh:={ rngs:=[],loops:=[],joins:=[],blocks:=[] }
theorem fm {a:Wr} {b c:Nat} {w:Ws} {R:Value->WP} (h:lV a b c none (some (b:Int)) (some (b:Int)) 2 λ(o1:Wr) (k1 k2:Nat)=>R (vS o1 k1 k2) w):ay Tryz.prog 123 [(.slice a b c)] w R:=rv Tryz.func123 fl (by kernel_rfl) h
abbrev fF:FuncId:=176
def eM:bh:={ rngs:=[],loops:=[],joins:=[],blocks:=[] }
theorem eO {a:Wr} {b c:Nat} {w:Ws} {R:Value->WP} (h:br (Option.isNone a) (R (vS none 0 0) w) (new w (oC [] 62) λk1 w1=>rS (jT 38 (Array.mk [vS (some (aM k1)) 0 0,vS a b c])) w1 λv1 w2=>∃ o1 k2 k3,v1 = vS o1 k2 k3/\R (vS o1 k2 k3) w2)):ay Tryz.prog 176 [(.slice a b c)] w R:=rv Tryz.func176 eM (by kernel_rfl) h
abbrev fo:FuncId:=177
def eD:bh:={ rngs:=[],loops:=[],joins:=[],blocks:=[] }
theorem eE {a:Wr} {b c:Nat} {d:Int} {e:Wr} {f g:Nat} {w:Ws} {R:Value->WP} (h:lV a b c (some d) none none 2 λ(o1:Wr) (k1 k2:Nat)=>br ((f:Int) == 0) (R (vS a b c) w) (br (d == (b:Int)) (rS (jT 38 (Array.mk [vS a b c,vS e f g])) w λv1 w1=>∃ o2 k3 k4,v1 = vS o2 k3 k4/\R (vS o2 k3 k4) w1) (aw ((b:Int) + (f:Int))/\rS (Builtin.cap_ (Array.mk [38]) 3 (Array.mk [vS a b c])) w λv2 w2=>∃ n1,v2 = iI n1/\br (decide (n1 < (b:Int) + (f:Int))) (lV a b c none (some d) none 2 λ(o3:Wr) (k5 k6:Nat)=>aw ((b:Int) + (f:Int))/\aw ((b:Int) + (f:Int) - d)/\rS (Builtin.append_ (Array.mk [38,3]) 38 (Array.mk [vS o3 k5 k6,iI ((b:Int) + (f:Int) - d)])) w2 λv3 w3=>∃ o4 k7 k8,v3 = vS o4 k7 k8/\lV o4 k7 k8 (some d) none none 2 λ(o5:Wr) (k9 k10:Nat)=>rS (Builtin.copy_ (Array.mk [38,38]) 3 (Array.mk [vS o5 k9 k10,vS e f g])) w3 λv4 w4=>∃ n2,v4 = iI n2/\∀ w5,drawn w4 w5->∃ (I1:WP),I1 w5/\aw (d + (f:Int))/\lV o4 k7 k8 (some (d + (f:Int))) none none 2 λ(o6:Wr) (k11 k12:Nat)=>lV a b c (some d) none none 2 λ(o7:Wr) (k13 k14:Nat)=>rS (Builtin.copy_ (Array.mk [38,38]) 3 (Array.mk [vS o6 k11 k12,vS o7 k13 k14])) w5 λv5 w6=>∃ n3,v5 = iI n3/\R (vS o4 k7 k8) w6) (aw ((b:Int) + (f:Int))/\lV a b c none (some ((b:Int) + (f:Int))) none 2 λ(o8:Wr) (k15 k16:Nat)=>aw (d + (f:Int))/\lV o8 k15 k16 (some (d + (f:Int))) none none 2 λ(o9:Wr) (k17 k18:Nat)=>Q2 Proofs.Tryz.prog 230 [vS e f g,vS o9 k17 k18] w2 λv6 w7=>∃ b1,v6 = vB b1/\br (!b1) (∀ w8,drawn w7 w8->∃ (I2:WP),I2 w8/\aw (d + (f:Int))/\lV o8 k15 k16 (some (d + (f:Int))) none none 2 λ(o10:Wr) (k19 k20:Nat)=>lV o8 k15 k16 (some d) none none 2 λ(o11:Wr) (k21 k22:Nat)=>rS (Builtin.copy_ (Array.mk [38,38]) 3 (Array.mk [vS o10 k19 k20,vS o11 k21 k22])) w8 λv7 w9=>∃ n4,v7 = iI n4/\lV o8 k15 k16 (some d) none none 2 λ(o12:Wr) (k23 k24:Nat)=>rS (Builtin.copy_ (Array.mk [38,38]) 3 (Array.mk [vS o12 k23 k24,vS e f g])) w9 λv8 w10=>∃ n5,v8 = iI n5/\R (vS o8 k15 k16) w10) (lV o8 k15 k16 (some (b:Int)) none none 2 λ(o13:Wr) (k25 k26:Nat)=>rS (Builtin.copy_ (Array.mk [38,38]) 3 (Array.mk [vS o13 k25 k26,vS e f g])) w7 λv9 w11=>∃ n6,v9 = iI n6/\lV o8 k15 k16 (some d) none none 2 λ(o14:Wr) (k27 k28:Nat)=>rE 231 [vS o14 k27 k28,iI (f:Int)] w11 λv10 w12=>v10 = vU []/\R (vS o8 k15 k16) w12))))):ay Tryz.prog 177 [(.slice a b c),(.int .i64 d),(.slice e f g)] w R:=rv Tryz.func177 eD (by kernel_rfl) h
end Go.Proofs.YtndaepmjkbmjmaaGreatDoor
namespace Go.V
theorem GH {h:Hp} {xs:List ax} {a:Wr} {l:Nat} (r:aX h xs a l):fp a (cZ xs) h:=by
 cases xs with
 | nil=>exact .inl rfl
 | cons x0 xs' =>
  obtain ⟨ad,vs,rfl,_⟩:=r.2 0 x0 rfl
  refine .inr ⟨ad,rfl,rr (n:=2) (λ_=>rfl) _ ad λi x hx=>?_⟩
  obtain ⟨ad',vs,e,h2,h3⟩:=r.2 i x hx
  cases e
  rw [show vs = bD x from h3] at h2
  exact h2
theorem Eu (xs:List ax):∀ v∈cZ xs,aH v = true:=λv hv=>by
 obtain ⟨x,_,hv⟩:=VP.1 hv
 rcases UR.1 hv with rfl | hv
 ·rfl
 ·rw [U2] at hv; subst hv; rfl
end Go.V
namespace Go.Proofs.YtndaepmjkbmjmaaGreatDoor
variable {w:Ws} {L:List au} {g:ae} {x:GA}
theorem Ob {xs:List ax} {a:Wr} {l c:Nat} (hr:aX (hp w) xs a l) (hb:l * 16<=140737488355328):ay Tryz.prog fF [.slice a l c] w λv w'=>∃ o c',v = .slice o l c'/\St w' (own 2 o l c' (cZ xs) :: all w):=by
 have hl:=hr.1
 refine eO (aa (λh=>?_) λh=>?_)
 ·have ha:a = none:=by simpa using h
  subst ha
  have hI:xs = []:=by
   cases xs with
   | nil=>rfl
   | cons x _=>obtain ⟨ad,_,e,_⟩:=hr.2 0 x rfl; cases e
  subst hI
  have:l = 0:=hl.symm
  subst this
  exact ⟨_,_,rfl,az 2 (St.all w)⟩
 ·refine af (St.all w) λk w1 h=>?_
  have g1:Gr w w1:=h.aR
  have h:St w1 (own 2 (some (aM k)) 0 0 [] :: all w):=dR (cs:=[]) h rfl rfl (US _)
  refine (zc (us:=[]) (news:=cZ xs) aL (rfl:ah Ty _ = .slice _) (rfl:ah Ty _ = .slice _) rfl rfl rfl h (by rw [gF,hl]) (by show 0 < 2; decide) (GH (hr.mono g1)) (Eu xs) (by show (0 + l) * 16<=_; omega) (by omega)).mono ?_
  rintro _ w2 ⟨o,c',rfl,h⟩
  refine ⟨_,_,_,rfl,o,c',by simp,?_⟩
  have h2:St w2 (own 2 o (0 + l) c' (cZ xs) :: all w):=h
  rwa [Vr] at h2
/-- one element goes ahead of the others -/
theorem Lb {xs:List ax} {y:ax} {o:Wr} {c k:Nat} (h:St w (aS k (bD y) :: own 2 o xs.length c (cZ xs) :: L)) (hb:xs.length<=100000) :
  ay Tryz.prog fo [.slice o xs.length c,.int .i64 0,.slice (some (aM k)) 1 1] w λv w'=>∃ o' c',v = .slice o' (xs.length + 1) c'/\St w' (own 2 o' (xs.length + 1) c' (cZ (y :: xs)) :: L):=by
 obtain ⟨n,hn⟩ : ∃ n,n = xs.length:=⟨_,rfl⟩
 have hal:(cZ xs).length = n * 2:=by rw [gF,hn]
 have hle:=dj (h.pick 2 [1])
 have he:cZ (y :: xs) = bD y ++ cZ xs:=rfl
 have hx0:0 < xs.length->xs≠[]:=λh e=>by rw [e] at h; simp at h
 rw [<- hn] at h hle hb ⊢
 rw [he]
 have hy:∀ u∈bD y,aH u = true:=by simp [bD,aH]
 have hxs:=Eu xs
 have rk:fp (some (aM k)) (bD y) (hp w):=.inr ⟨_,rfl,ag 0 h.l⟩
 obtain ⟨X,hX⟩ : ∃ X,X = cZ xs:=⟨_,rfl⟩
 rw [<- hX] at h hal hxs ⊢
 refine eE (Gy hle (dZ (by simp) (aa (λh1=>?_) λh1=>?_)))
 ·have h1:n = 0:=by
   have:(0:Int) = (n:Int):=by simpa using h1
   omega
  subst h1
  have e:X = []:=UL (by omega)
  subst e
  refine (aW (us:=[]) aL (rfl:ah Ty _ = .slice _) (rfl:ah Ty _ = .slice _) rfl rfl rfl h rfl hy (by show (0 + 1) * 16<=_; omega) (by omega)).mono ?_
  rintro _ w2 ⟨o',c',rfl,h⟩
  exact ⟨_,_,_,rfl,o',c',rfl,by rw [U3]; exact h.pick 2 [0]⟩
 have h1:0 < n:=by
  have:¬ (0:Int) = (n:Int):=by simpa using h1
  omega
 have i1:aw ((n:Int) + ((1:Nat):Int)):=⟨by omega,by omega⟩
 refine ⟨i1,⟨_,w,Qh aL (rfl:ah Ty _ = .slice _) o n c w,Ev.refl w,_,rfl,aa (λh2=>?_) λh2=>?_⟩⟩
 ·have h2:c = n:=by have:=Uz h2; omega
  subst h2
  refine l9 (hi:=0) (UM _) ⟨i1,⟨by omega,by omega⟩,?_⟩
  have ez:(c:Int) + ((1:Nat):Int) - 0 = ((c + 1:Nat):Int):=by omega
  rw [ez]
  refine (K7 (i:=_) aL (rfl:ah Ty _ = .slice _) (rfl:ah Ty _ = .int .i64) rfl rfl rfl (by show 0 < 2; decide) h (by omega) (by omega) (by show (c + 1) * 16<=_; omega) (by omega)).mono ?_
  rintro _ w3 ⟨o4,c4,us,rfl,hul,h⟩
  have hul:us.length = (c + 1) * 2:=hul
  have h:St w3 (own 2 o4 (c + 1) c4 us :: aS k (bD y) :: own 2 o c c X :: L):=h
  have hle4:=dj h
  refine ⟨_,_,_,rfl,Gy hle4 ?_⟩
  have hc0:=zl (k:=0) (n:=1) (news:=bD y) (t:=38) (tx:=38) (ty:=3) aL (rfl:ah Ty _ = .slice _) rfl (by show 0 < 2; decide) h rfl (.inr ⟨aM k,rfl,ag 1 h.l⟩) hy (by decide) (by omega) (sl:=1) (dl:=c + 1) (c2:=1) (dc:=c4) (V2 (by omega))
  rw [PL] at hc0
  refine hc0.mono ?_
  rintro _ w4 ⟨rfl,h⟩
  refine ⟨_,rfl,λw5 hd=>?_⟩
  have h:=h.drawn hd
  refine ⟨λ_=>True,trivial,⟨by omega,by omega⟩,?_⟩
  rw [show (0:Int) + ((1:Nat):Int) = ((1:Nat):Int) from rfl]
  refine cO (lo:=1) (by omega) hle4 (Gy (US _) ?_)
  have hc1:=zl (k:=1) (n:=c) (news:=X) (t:=38) (tx:=38) (ty:=3) aL (rfl:ah Ty _ = .slice _) rfl (by show 0 < 2; decide) h hal (ee 2 h.l) hxs h1 (by omega) (sl:=c) (dl:=c + 1 - 1) (c2:=c) (dc:=c4 - 1) (by show min c (c + 1 - 1) = c; omega)
  refine hc1.mono ?_
  rintro _ w6 ⟨rfl,h⟩
  refine ⟨_,rfl,o4,c4,rfl,?_⟩
  have h:St w6 (own 2 o4 (c + 1) c4 ((us.take (0 * 2) ++ bD y ++ us.drop (0 * 2 + (bD y).length)).take (1 * 2) ++ X ++ (us.take (0 * 2) ++ bD y ++ us.drop (0 * 2 + (bD y).length)).drop (1 * 2 + X.length)) :: aS k (bD y) :: own 2 o c c X :: L):=h
  have e1:(us.take (0 * 2) ++ bD y ++ us.drop (0 * 2 + (bD y).length)).take (1 * 2) = bD y:=by simp [bD]
  have e2:(us.take (0 * 2) ++ bD y ++ us.drop (0 * 2 + (bD y).length)).drop (1 * 2 + X.length) = []:=List.drop_eq_nil_of_le (by simp [bD]; omega)
  rw [e1,e2,U3] at h
  exact h.pick 3 [0]
 have h2:n + 1<=c:=by have:=Uy h2; omega
 obtain ⟨us,hul,h⟩:=N2 (m:=1) (h.pick 2 [1,0]) h2
 refine ⟨i1,l9 (hi:=n + 1) h2 ⟨⟨by omega,by omega⟩,?_⟩⟩
 rw [PL,show (0:Int) + ((1:Nat):Int) = ((1:Nat):Int) from rfl]
 refine cO (lo:=1) (by omega) h2 ?_
 rcases cq h with ⟨_,he,_,_⟩ | ⟨b,pre,cs,post,rfl,hcl,_,_,_⟩
 ·omega
 have hs1:eJ (some ⟨b,pre.length,none⟩) 1 c 2 = some ⟨b,pre.length + 2,none⟩:=by
  unfold eJ
  rw [UE (by omega)]
  show some (Addr.add ⟨b,pre.length,none⟩ (1 * 2)) = _
  rw [add_lit]
 rw [hs1]
 refine Gz (tR:=4) aL iN (by kernel_rfl) (by kernel_rfl) (by kernel_rfl) (by kernel_rfl) (rfl:ah Ty 38 = .slice _) rfl (hcl.pick 2 [1,0]) (λe=>by have:=congrArg List.length e; simp [hal] at this; omega) ⟨_,rfl,fb rfl λw8 hd=>?_⟩
 clear hcl hs1
 have h:=h.drawn hd
 refine ⟨λ_=>True,trivial,⟨by omega,by omega⟩,cO (lo:=1) (by omega) h2 (Gy h2 ?_)⟩
 have hXd:fp (some ⟨b,pre.length,none⟩) X (hp w8):=by
  rcases ee 0 h.l with e | ⟨ad,e,hr⟩
  ·have:=congrArg List.length e
   simp [hal] at this; omega
  ·exact .inr ⟨ad,e,λj v hj=>hr j v (by rw [UQ (UA.1 hj).1]; exact hj)⟩
 have hc1:=zl (k:=1) (n:=n) (news:=X) (t:=38) (tx:=38) (ty:=3) aL (rfl:ah Ty _ = .slice _) rfl (by show 0 < 2; decide) h hal hXd hxs h1 (by omega) (sl:=n + 1) (dl:=n + 1 - 1) (c2:=c) (dc:=c - 1) (by show min (n + 1) (n + 1 - 1) = n; omega)
 refine hc1.mono ?_
 rintro _ w9 ⟨rfl,h⟩
 refine ⟨_,rfl,Gy h2 ?_⟩
 have h:St w9 (own 2 (some ⟨b,pre.length,none⟩) (n + 1) c ((X ++ us).take (1 * 2) ++ X ++ (X ++ us).drop (1 * 2 + X.length)) :: aS k (bD y) :: L):=h
 have e2:(X ++ us).drop (1 * 2 + X.length) = []:=List.drop_eq_nil_of_le (by simp [hul]; omega)
 rw [e2,U3] at h
 have hc0:=zl (k:=0) (n:=1) (news:=bD y) (t:=38) (tx:=38) (ty:=3) aL (rfl:ah Ty _ = .slice _) rfl (by show 0 < 2; decide) h rfl (.inr ⟨aM k,rfl,ag 1 h.l⟩) hy (by decide) (by omega) (sl:=1) (dl:=n + 1) (c2:=1) (dc:=c) (V2 (by omega))
 rw [PL] at hc0
 refine hc0.mono ?_
 rintro _ w10 ⟨rfl,h⟩
 refine ⟨_,rfl,_,c,rfl,?_⟩
 have h:St w10 (own 2 (some ⟨b,pre.length,none⟩) (n + 1) c (((X ++ us).take (1 * 2) ++ X).take (0 * 2) ++ bD y ++ ((X ++ us).take (1 * 2) ++ X).drop (0 * 2 + (bD y).length)) :: aS k (bD y) :: L):=h
 have e3:((X ++ us).take (1 * 2) ++ X).drop (0 * 2 + (bD y).length) = X:=by
  have:((X ++ us).take (1 * 2)).length = 2:=by simp; omega
  rw [show 0 * 2 + (bD y).length = ((X ++ us).take (1 * 2)).length from by rw [this]; rfl,List.drop_left]
 rw [e3,Nat.zero_mul,List.take_zero,Ve] at h
 exact h.pick 2 [0]
theorem xM {h:Hp} {ts:List h_} {a:Wr} {l i:Nat} (r:aX h ts a l) (hi:i < l):∃ t ad,ts[i]? = some t/\a = some ad/\av h (ad.add (cR i 2)) [.string t.name,.int .i64 t.level]:=by
 obtain ⟨t,ad,vs,h1,h2,h3,h4⟩:=r.get hi
 exact ⟨t,ad,h1,h2,(show vs = _ from h4) ▸ h3⟩
theorem xN {h:Hp} {ts:List aO} {a:Wr} {l i:Nat} (r:aX h ts a l) (hi:i < l):∃ t ad b m c,ts[i]? = some t/\a = some ad/\av h (ad.add (cR i 3)) [.int .i64 t.left,.slice b m c,.int .i64 t.level]/\m<=c/\aX h t.right b m:=by
 obtain ⟨t,ad,vs,h1,h2,h3,b,m,c,h4,h5,h6⟩:=r.get hi
 subst h4
 exact ⟨t,ad,b,m,c,h1,h2,h3,h5,h6⟩
theorem Oc {p t:Nat} (hc:aq g) (hg:gR (hp w) g x) (hp1:p < g.prods.length) (ht:t < g.T):ay Tryz.prog A7 [.agg ⟨x.cells⟩,.int .i64 (p:Int),.int .i64 (t:Int)] w λv w'=>v = .int .i64 (bu g p t)/\Gr w w':=by
 refine xJ (cQ hg λk1 w1 gw hg1 B=>af (St.all w1) λk2 w2 h=>aI h rfl (by simp [aH]) λw3 h=>?_)
 have g13:Gr w1 w3:=h.aR
 have r2:av (hp w3) (aM k2) [.int .i64 0,.int .i64 2,.int .i64 1,.int .i64 3]:=ag 0 h.l
 clear h
 have hg3:=hg1.mono g13
 have gw3:=gw.trans g13
 have pl:=hg3.p.1
 have tl:=hg3.t.1
 have ll:=hg3.l.1
 have eT:g.T = g.terms.length:=rfl
 obtain ⟨y,ad,_,_,_,hy,ha,ry,_,_⟩:=xN hg3.p (i:=p) (by omega)
 obtain ⟨z,ad2,hz,ha2,rz⟩:=xM hg3.t (i:=t) (by omega)
 have ep:uF g p = y.level:=by unfold uF; rw [hy]
 have et:Ih g t = z.level:=by unfold Ih; rw [hz]
 obtain ⟨p0,p1⟩:=Ek hc hy
 refine ⟨_,_,_,B.c4 g13,ak ha (by omega) ⟨_,ry.cell (sub.refl _) (j:=2) rfl,_,_,_,B.c0 g13,ak ha2 (by omega) ⟨_,rz.cell (sub.refl _) (j:=1) rfl,?_⟩⟩⟩
 have fin:∀ z:Int,z = bu g p t->(.int .i64 z:Value) = .int .i64 (bu g p t)/\Gr w w3:=λz e=>⟨by rw [e],gw3⟩
 refine aa (λh1=>fin _ ?_) λh1=>aa (λh2=>fin _ ?_) λh2=>aa (λh3=>fin _ ?_) λh3=>aa (λh4=>fin _ ?_) λh4=>?_
 ·have h1:y.level = 0:=by simpa using h1
  unfold bu
  rw [UJ (.inl (by rw [ep]; exact h1))]
 ·have h2:z.level = 0:=by simpa using h2
  unfold bu
  rw [UJ (.inr (by rw [et]; exact h2))]
 ·have h1:¬ y.level = 0:=by simpa using h1
  have h2:¬ z.level = 0:=by simpa using h2
  have h3:=Uz h3
  unfold bu
  rw [ep,et,UE (by omega),UJ h3]
 ·have h1:¬ y.level = 0:=by simpa using h1
  have h2:¬ z.level = 0:=by simpa using h2
  have h4:=Uz h4
  unfold bu
  rw [ep,et,UE (by omega),UE (by omega),UJ h4]
 have h1:¬ y.level = 0:=by simpa using h1
 have h2:¬ z.level = 0:=by simpa using h2
 have h3:=Uy h3
 have h4:=Uy h4
 obtain ⟨v,hv,ev,v1,v3⟩:=AW hc (l:=y.level) (by omega) p1
 obtain ⟨ad3,ha3,rv⟩:=hg3.l.at hv
 have es:bu g p t = if v = 1 then 2 else if v = 2 then 1 else 3:=by
  unfold bu
  rw [ep,et,UE (by omega),UE h3,UE h4,ev]
 have hlv:=(UA.1 hv).1
 have hl64:=nY hc.2.1
 refine ⟨_,_,_,B.c2 g13,⟨by omega,by omega⟩,ad3,ha3,by omega,by omega,v,rv _ (sub.refl _),aM k2,rfl,by omega,by omega,?_⟩
 rw [es]
 have hvv:v = 1\/v = 2\/v = 3:=by omega
 rcases hvv with rfl | rfl | rfl
 ·exact ⟨2,r2.cell (sub.refl _) (j:=1) rfl,rfl,gw3⟩
 ·exact ⟨1,r2.cell (sub.refl _) (j:=2) rfl,rfl,gw3⟩
 ·exact ⟨3,r2.cell (sub.refl _) (j:=3) rfl,rfl,gw3⟩
def Tj (g:ae) (p t z f:Int):Prop:=(¬ (aq g/\0<=p/\p < g.prods.length/\0<=t/\t < g.T)/\z = 0/\f = 1)\/(aq g/\∃ i j:Nat,p = i/\t = j/\i < g.prods.length/\j < g.T/\z = bu g i j/\f = 0)
theorem Im {p t:Int} (hg:gR (hp w) g x) (hb:iK g):ay Tryz.prog A5 [.agg ⟨x.cells⟩,.int .i64 p,.int .i64 t] w λv w'=>∃ z f:Int,v = .tuple #[.int .i64 z,.int .i64 f]/\Tj g p t z f/\Gr w w':=by
 refine xE (cQ hg λk1 w1 gw hg1 B=>?_)
 have pl:=hg1.p.1
 have tl:=hg1.t.1
 have eT:g.T = g.terms.length:=rfl
 refine ⟨λb u=>Gr w1 u/\(b = false↔(aq g/\0<=p/\p < g.prods.length/\0<=t/\t < g.T)),⟨_,_,_,_,_,_,_,_,_,_,_,_,_,B.row (sub.refl _),(vj hg1 hb).mono ?_⟩,?_⟩
 ·rintro _ w2 ⟨⟨r,rfl,hr⟩,g12⟩
  refine ⟨_,rfl,aa (λh1=>⟨g12,?_⟩) λh1=>aa (λh2=>⟨g12,?_⟩) λh2=>⟨_,_,_,B.c4 g12,aa (λh3=>⟨g12,?_⟩) λh3=>aa (λh4=>⟨g12,?_⟩) λh4=>⟨_,_,_,B.c0 g12,g12,?_⟩⟩⟩
  ·have:r = false:=by simpa using h1
   exact ⟨λh=>(by cases h),λh=>by rw [hr.2 h.1] at this; cases this⟩
  ·have:=Uz h2
   exact ⟨λh=>(by cases h),λh=>by omega⟩
  ·have:=Uz h3
   exact ⟨λh=>(by cases h),λh=>by omega⟩
  ·have:=Uz h4
   exact ⟨λh=>(by cases h),λh=>by omega⟩
  ·have h1:r = true:=by simpa using h1
   have h2:=Uy h2
   have h3:=Uy h3
   have h4:=Uy h4
   refine ⟨λh=>?_,λh=>U5 (by omega)⟩
   have:=Uy h
   exact ⟨hr.1 h1,by omega,by omega,by omega,by omega⟩
 rintro _ b w3 ⟨g13,hb3⟩
 refine aa (λh1=>?_) λh1=>?_
 ·subst h1
  exact ⟨0,1,rfl,.inl ⟨λh=>(by cases hb3.2 h),rfl,rfl⟩,gw.trans g13⟩
 subst h1
 obtain ⟨hc,p0,p1,t0,t1⟩:=hb3.1 rfl
 obtain ⟨i,rfl⟩ : ∃ i:Nat,p = i:=⟨p.toNat,by omega⟩
 obtain ⟨j,rfl⟩ : ∃ j:Nat,t = j:=⟨t.toNat,by omega⟩
 refine ⟨_,_,_,_,_,_,_,_,_,_,_,_,_,B.row g13,(Oc hc (hg1.mono g13) (by omega) (by omega)).mono ?_⟩
 rintro _ w4 ⟨rfl,g34⟩
 exact ⟨_,rfl,_,0,rfl,.inr ⟨hc,i,j,rfl,rfl,by omega,by omega,rfl,rfl⟩,gw.trans (g13.trans g34)⟩
end Go.Proofs.YtndaepmjkbmjmaaGreatDoor
namespace Go.V
section
variable {g:ae}
theorem Se {n:Nat} (hn:1<=n) (a:ax):jH n a<=n:=by
 unfold jH
 split
 ·omega
 ·split
  ·omega
  ·split <;> omega
theorem GI {n:Nat} (hn:1<=n):∀ {l:List ax} {last:Int},vX n last l->l = []\/(l.length:Int) + last<=n
 | [],_,_=>.inl rfl
 | a :: l,last,h=>by
  right
  have h1:=h.1
  have h2:=Se hn a
  rcases GI hn h.2 with rfl | h3
  ·simp; omega
  ·rw [Vc]; omega
theorem JZ {n:Nat} (hn:1<=n) {l:List ax} (h:lq n l):l.length<=n + 1:=by
 rcases GI hn h with rfl | h
 ·simp
 ·omega
def GJ (g:ae) (t:Int) (xs:List ax) (a:ax) (l:List ax) (e:Int):Prop:=(¬ (aq g/\0<=t/\t < g.T/\lq g.prods.length xs)/\a = ⟨0,0⟩/\l = []/\e = 1)\/(aq g/\lq g.prods.length xs/\∃ j:Nat,t = j/\j < g.T/\a = iQ (aZ g j xs)/\l = ib (aZ g j xs).1/\e = 0)
end
end Go.V
namespace Go.Proofs.YtndaepmjkbmjmaaGreatDoor
variable {w:Ws} {L:List au} {g:ae} {x:GA}
theorem Lc {xs:List ax} {a:Wr} {l c:Nat} (hg:gR (hp w) g x) (hb:iK g) (hr:aX (hp w) xs a l) (hl:l<=4611686018427387904):ay Tryz.prog wb [.agg ⟨x.cells⟩,.slice a l c] w λv w'=>v = .bool (decide (lq g.prods.length xs))/\Gr w w':=by
 have hxl:=hr.1
 have hbp:=hb.2.2.2.1
 refine s_ (cQ hg λk1 w1 gw hg1 B=>?_)
 have pl:=hg1.p.1
 have hr:=hr.mono gw
 refine ⟨λlast z u=>∃ i:Nat,z = i/\i<=l/\(lq g.prods.length xs↔vX g.prods.length last (xs.drop i))/\Gr w1 u,λ_ z _=>l - z.toNat,⟨0,rfl,UM _,by rw [List.drop_zero]; exact Iff.rfl,Gr.refl _⟩,?_⟩
 rintro _ last _ w2 ⟨i,rfl,hi,ho,g12⟩
 refine aa (λh1=>?_) λh1=>?_
 rotate_left
 ·have h1:i = l:=by have:=Uy h1; omega
  rw [List.drop_eq_nil_of_le (by omega)] at ho
  exact ⟨by rw [U4 (ho.2 trivial)],gw.trans g12⟩
 have h1:i < l:=by have:=Uz h1; omega
 obtain ⟨y,ad,hy,rfl,ry⟩:=bM (hr.mono g12) h1
 rw [CU hy] at ho
 refine ak rfl h1 ⟨_,_,ry.at (sub.refl _) rfl,af (St.all w2) λk2 w3 h=>aI h rfl (by simp [aH]) λw4 h=>?_⟩
 have r2:av (hp w4) (aM k2) [.int .i64 y.kind,.int .i64 y.to]:=ag 0 h.l
 have g24:Gr w2 w4:=h.aR
 clear h
 have c0:=r2.cell0 (sub.refl _)
 have c1:=r2.cell (sub.refl _) (j:=1) rfl
 refine ⟨λr u=>r = jH g.prods.length y/\u = w4,⟨_,c0,aa (λh2=>?_) λh2=>aa (λh3=>?_) λh3=>aa (λh4=>?_) λh4=>?_⟩,?_⟩
 ·have h2:y.kind = 1:=by simpa using h2
  refine ⟨_,c1,aa (λh3=>⟨?_,rfl⟩) λh3=>⟨?_,rfl⟩⟩
  ·have h3:=Uz h3
   unfold jH; rw [UJ ⟨h2,h3⟩]
  ·have h3:=Uy h3
   unfold jH; rw [UE (λh=>h3 h.2),UE (by omega),UE (by omega)]
 ·have h2:¬ y.kind = 1:=by simpa using h2
  have h3:y.kind = 3:=by simpa using h3
  refine ⟨_,c1,aa (λh4=>⟨?_,rfl⟩) λh4=>⟨?_,rfl⟩⟩
  ·have h4:y.to = 0:=by simpa using h4
   unfold jH; rw [UE (λh=>h2 h.1),UJ ⟨h3,h4⟩]
  ·have h4:¬ y.to = 0:=by simpa using h4
   unfold jH; rw [UE (λh=>h2 h.1),UE (λh=>h4 h.2),UE (by omega)]
 ·have h2:¬ y.kind = 1:=by simpa using h2
  have h3:¬ y.kind = 3:=by simpa using h3
  have h4:y.kind = 2:=by simpa using h4
  refine ⟨_,c1,aa (λh5=>⟨_,c1,_,_,_,B.c4 (g12.trans g24),aa (λh6=>?_) λh6=>⟨?_,rfl⟩⟩) λh5=>⟨?_,rfl⟩⟩
  ·have h5:=Uz h5
   have h6:=Uz h6
   refine ⟨_,c1,⟨by omega,by omega⟩,?_,rfl⟩
   unfold jH; rw [UE (λh=>h2 h.1),UE (λh=>h3 h.1),UJ ⟨h4,h5,by omega⟩]
  ·have h6:=Uy h6
   unfold jH; rw [UE (λh=>h2 h.1),UE (λh=>h3 h.1),UE (by omega)]
  ·have h5:=Uy h5
   unfold jH; rw [UE (λh=>h2 h.1),UE (λh=>h3 h.1),UE (by omega)]
 ·have h2:¬ y.kind = 1:=by simpa using h2
  have h3:¬ y.kind = 3:=by simpa using h3
  have h4:¬ y.kind = 2:=by simpa using h4
  refine ⟨?_,rfl⟩
  unfold jH; rw [UE (λh=>h2 h.1),UE (λh=>h3 h.1),UE (λh=>h4 h.1)]
 rintro _ _ _ ⟨rfl,rfl⟩
 refine aa (λh2=>?_) λh2=>?_
 ·have h2:=Uz h2
  exact ⟨by rw [U5 λh=>by have:=(ho.1 h).1; omega],gw.trans (g12.trans g24)⟩
 ·have h2:=Uy h2
  exact ⟨⟨by omega,by omega⟩,⟨i + 1,by simp,h1,ho.trans ⟨λh=>h.2,λh=>⟨by omega,h⟩⟩,g12.trans g24⟩,bK h1⟩
theorem Sf {xs:List ax} {a:Wr} {c t:Nat} (hc:aq g) (hg:gR (hp w) g x) (hr:aX (hp w) xs a xs.length) (hcl:xs.length<=c) (ho:lq g.prods.length xs) (ht:t < g.T):ay Tryz.prog A8 [.agg ⟨x.cells⟩,.int .i64 (t:Int),.slice a xs.length c] w λv w'=>∃ (o:Wr) (c' : Nat),v = .tuple #[.slice o (aZ g t xs).1.length c',.bool (aZ g t xs).2]/\St w' (own 2 o (aZ g t xs).1.length c' (cZ (aZ g t xs).1) :: all w):=by
 obtain ⟨sT,sN,sP,sP2,_,_⟩:=hc.gB
 have hlen:=JZ (by omega) ho
 refine xL (cQ hg λk1 w1 gw hg1 B=>?_)
 have hr1:=hr.mono gw
 refine ⟨λb u=>w1 = u/\(b = false↔∃ y r,xs = y :: r/\y.kind = 1),aa (λh1=>⟨rfl,?_⟩) λh1=>?_,?_⟩
 ·have h1:xs.length = 0:=by
   have:(xs.length:Int) = 0:=by simpa using h1
   omega
  have e:xs = []:=UL h1
  subst e
  exact ⟨λh=>(by cases h),λ⟨_,_,h,_⟩=>(by cases h)⟩
 ·have h1:0 < xs.length:=by
   have:¬ (xs.length:Int) = 0:=by simpa using h1
   omega
  obtain ⟨y,ad,hy,rfl,ry⟩:=bM hr1 h1
  obtain ⟨r,hxr⟩ : ∃ r,xs = y :: r:=by
   cases xs with
   | nil=>simp at h1
   | cons z r=>simp at hy; subst hy; exact ⟨r,rfl⟩
  rw [show (cR 0 2) = 0 from rfl] at ry
  refine gk rfl h1 ⟨_,by simpa [Addr.add] using ry.cell0 (sub.refl _),rfl,?_⟩
  rw [hxr]
  constructor
  ·intro h
   exact ⟨y,r,rfl,by simpa using h⟩
  ·rintro ⟨y',r',e,h⟩
   cases e
   simpa using h
 rintro _ b _ ⟨rfl,hb⟩
 refine aa (λh1=>(Ob hr1 (by omega)).mono ?_) λh1=>?_
 ·rintro _ w3 ⟨o,c',rfl,h⟩
  subst h1
  have e:aZ g t xs = (xs,false):=by
   cases xs with
   | nil=>rfl
   | cons y r=>exact kF λhk=>by cases hb.2 ⟨y,r,rfl,hk⟩
  rw [e]
  exact ⟨_,_,_,rfl,o,c',rfl,St.u6 h (bY gw)⟩
 obtain ⟨y0,r,rfl,hk0⟩:=hb.1 h1
 clear hb h1
 rw [ic hk0]
 have hrl:(y0 :: r).length = r.length + 1:=rfl
 have hrd:aX (hp w1) r (eJ a 1 c 2) ((y0 :: r).length - 1):=hr1.drop (k:=1) (m:=c) (by simp) hcl
 refine cO (lo:=1) (by simp) hcl ?_
 have hfl:∀ i,((r.take i).filter (nR g t)).length<=r.length:=λi=>by
  have h1:=Vm (nR g t) (r.take i)
  rw [U0] at h1
  omega
 refine ⟨λb2 b3 o n c' z u=>∃ i:Nat,z = i/\i<=r.length/\b2 = (r.take i).all (oB g t)/\b3 = (r.take i).any (sR g t)/\n = ((r.take i).filter (nR g t)).length/\St u (own 2 o n c' (cZ ((r.take i).filter (nR g t))) :: all w1),λ_ _ _ _ _ z _=>r.length - z.toNat,⟨0,rfl,UM _,rfl,rfl,rfl,az 2 (St.all w1)⟩,?_⟩
 rintro _ b2 b3 o3 _ c3 _ w4 ⟨i,rfl,hi,hb2,hb3,rfl,h⟩
 have g14:Gr w1 w4:=bj 1 h.l
 refine aa (λh1=>?_) λh1=>?_
 rotate_left
 ·have h1:i = r.length:=by have:=Uy h1; rw [hrl] at this; omega
  rw [h1,UZ] at hb2 hb3 h
  have hfl2:=hfl r.length
  rw [UZ] at hfl2
  rw [h1,UZ]
  refine aa (λh2=>?_) λh2=>?_
  ·obtain ⟨y,ad,hy,rfl,ry⟩:=bM (hr1.mono g14) (show 0 < (y0 :: r).length by simp)
   simp only [We,Option.some.injEq] at hy
   subst hy
   rw [show (cR 0 2) = 0 from rfl,show ad.add 0 = ad from by simp [Addr.add]] at ry
   refine gk rfl (by simp) ⟨_,_,ry.at (sub.refl _) rfl,af h λk29 w16 h=>(Lb (y:=y0) h (by omega)).mono ?_⟩
   rintro _ w17 ⟨o',c',rfl,h⟩
   rw [h2] at hb2
   rw [UJ hb2.symm,hb3]
   exact ⟨_,_,_,rfl,o',c',rfl,St.u6 h (bY gw)⟩
  ·rw [h2] at hb2
   rw [UE (by rw [<- hb2]; simp),hb3,Ve]
   exact ⟨_,_,rfl,St.u6 h (bY gw)⟩
 have h1:i < r.length:=by have:=Uz h1; rw [hrl] at this; omega
 obtain ⟨y,ad,hy,hya,ry⟩:=bM (hrd.mono g14) (show i < (y0 :: r).length - 1 by rw [hrl]; omega)
 have hym:y∈y0 :: r:=Wd _ (UC hy)
 have htk:r.take (i + 1) = r.take i ++ [y]:=by rw [UI,hy]; rfl
 have hfi:=hfl i
 have sd:nK g t y = if y.kind = 2 then bu g y.to.toNat t else 0:=rfl
 -- the four ends of a round
 have stay:∀ {u:Ws} (b2' b3' : Bool),St u (own 2 o3 ((r.take i).filter (nR g t)).length c3 (cZ ((r.take i).filter (nR g t))) :: all w1)->nR g t y = false->b2' = (b2 && oB g t y)->b3' = (b3 || sR g t y) ->
   aw ((i:Int) + 1)/\(∃ i' : Nat,(i:Int) + 1 = i'/\i'<=r.length/\b2' = (r.take i').all (oB g t)/\b3' = (r.take i').any (sR g t)/\((r.take i).filter (nR g t)).length = ((r.take i').filter (nR g t)).length/\St u (own 2 o3 ((r.take i).filter (nR g t)).length c3 (cZ ((r.take i').filter (nR g t))) :: all w1))/\r.length - ((i:Int) + 1).toNat < r.length - (i:Int).toNat:=λ{u} b2' b3' hu h2 h3 h4=>by
  have e:(r.take (i + 1)).filter (nR g t) = (r.take i).filter (nR g t):=by rw [htk,Vi,VG (by rw [h2]; simp)]; simp
  exact ⟨⟨by omega,by omega⟩,⟨i + 1,by simp,h1,by rw [htk,Wh,<- hb2,h3]; simp,by rw [htk,List.any_append,<- hb3,h4]; simp,by rw [e],by rw [e]; exact hu⟩,bK h1⟩
 have more:∀ {u:Ws} {k:Nat} (b2' b3' : Bool),St u (aS k (bD y) :: own 2 o3 ((r.take i).filter (nR g t)).length c3 (cZ ((r.take i).filter (nR g t))) :: all w1)->nR g t y = true->b2' = (b2 && oB g t y)->b3' = (b3 || sR g t y) ->
   aU Tryz.prog (Builtin.append_ (Array.mk [jM,jM]) jM (Array.mk [.slice o3 ((r.take i).filter (nR g t)).length c3,.slice (some (aM k)) 1 1])) u λv u'=>∃ o4 n4 c4,v = .slice o4 n4 c4/\aw ((i:Int) + 1)/\(∃ i' : Nat,(i:Int) + 1 = i'/\i'<=r.length/\b2' = (r.take i').all (oB g t)/\b3' = (r.take i').any (sR g t)/\n4 = ((r.take i').filter (nR g t)).length/\St u' (own 2 o4 n4 c4 (cZ ((r.take i').filter (nR g t))) :: all w1))/\r.length - ((i:Int) + 1).toNat < r.length - (i:Int).toNat:=λ{u k} b2' b3' hu h2 h3 h4=>by
  have e:(r.take (i + 1)).filter (nR g t) = (r.take i).filter (nR g t) ++ [y]:=by rw [htk,Vi,VF h2]; simp
  refine (aW (us:=cZ ((r.take i).filter (nR g t))) aL (rfl:ah Ty _ = .slice _) (rfl:ah Ty _ = .slice _) rfl rfl rfl hu rfl (by simp [bD,aH]) (by show (((r.take i).filter (nR g t)).length + 1) * 16<=_; omega) (by omega)).mono ?_
  rintro _ w9 ⟨o4,c4,rfl,h⟩
  refine ⟨_,_,_,rfl,⟨by omega,by omega⟩,⟨i + 1,by simp,h1,by rw [htk,Wh,<- hb2,h3]; simp,by rw [htk,List.any_append,<- hb3,h4]; simp,by rw [e]; simp,?_⟩,bK h1⟩
  rw [e,zm]
  exact h.pick 2 [0]
 refine ak hya (by rw [hrl]; omega) ⟨_,_,ry.at (sub.refl _) rfl,af h λk8 w5 h=>aI h rfl (by simp [aH]) λw6 h=>?_⟩
 have r8:av (hp w6) (aM k8) (bD y):=ag 0 h.l
 have g16:Gr w1 w6:=bj 2 h.l
 have c0:=r8.cell0 (sub.refl _)
 refine ⟨_,c0,aa (λh2=>?_) λh2=>?_⟩
 ·have h2:y.kind = 2:=by simpa using h2
  obtain ⟨hp0,hp1⟩ : 0 < y.to/\y.to < g.prods.length:=by
   rcases Ii ho hym with ⟨h,_⟩ | ⟨h,_⟩ | ⟨_,h⟩
   ·omega
   ·omega
   ·exact h
  obtain ⟨p,hp⟩ : ∃ p:Nat,y.to = p:=⟨y.to.toNat,by omega⟩
  have es:nK g t y = bu g p t:=by rw [sd,UJ h2,hp,U9]
  refine ⟨_,_,_,_,_,_,_,_,_,_,_,_,_,B.row g16,_,r8.cell (sub.refl _) (j:=1) rfl,?_⟩
  rw [hp]
  refine (Oc hc (hg1.mono g16) (by omega) ht).mono ?_
  rintro _ w7 ⟨rfl,g67⟩
  have h:=h.gr g67
  have r8:=r8.mono g67
  rw [<- es]
  have hin:=N0 (g:=g) t y
  refine ⟨_,rfl,aa (λh3=>?_) λh3=>aa (λh4=>?_) λh4=>aa (λh5=>?_) λh5=>?_⟩
  ·have h3:nK g t y = 3:=by simpa using h3
   exact stay false true (h.pick 2 [1]) (U5 (by omega)) (by rw [show oB g t y = false from U5 (by omega)]; simp) (by rw [show sR g t y = true from U4 h3]; simp)
  ·have h3:¬ nK g t y = 3:=by simpa using h3
   have h4:nK g t y = 2:=by simpa using h4
   refine ⟨_,_,r8.at (sub.refl _) rfl,af (h.pick 2 [1]) λk17 w8 h=>more false b3 h (U4 (.inr h4)) (by rw [show oB g t y = false from U5 (by omega)]; simp) (by rw [show sR g t y = false from U5 h3]; simp)⟩
  ·have h5:nK g t y = 0:=by simpa using h5
   refine ⟨_,_,r8.at (sub.refl _) rfl,af (h.pick 2 [1]) λk17 w8 h=>more b2 b3 h (U4 (.inl h5)) (by rw [show oB g t y = true from U4 ⟨by omega,by omega⟩]; simp) (by rw [show sR g t y = false from U5 (by omega)]; simp)⟩
  ·have h3:¬ nK g t y = 3:=by simpa using h3
   have h4:¬ nK g t y = 2:=by simpa using h4
   have h5:¬ nK g t y = 0:=by simpa using h5
   exact stay b2 b3 (h.pick 2 [1]) (U5 (by omega)) (by rw [show oB g t y = true from U4 ⟨h4,h3⟩]; simp) (by rw [show sR g t y = false from U5 h3]; simp)
 ·have h2:¬ y.kind = 2:=by simpa using h2
  have es:nK g t y = 0:=by rw [sd,UE h2]
  refine dZ rfl (dZ rfl (fb rfl ⟨_,_,r8.at (sub.refl _) rfl,af (h.pick 2 [1]) λk26 w14 h=>more b2 b3 h (U4 (.inl es)) (by rw [show oB g t y = true from U4 ⟨by omega,by omega⟩]; simp) (by rw [show sR g t y = false from U5 (by omega)]; simp)⟩))
theorem Od {l:List ax}:(ib l).length<=l.length:=by unfold ib; split <;> simp
theorem C3 {xs:List ax} {a:Wr} {c t:Nat} {st:Int} (hc:aq g) (hg:gR (hp w) g x) (hr:aX (hp w) xs a xs.length) (hcl:xs.length<=c) (ho:lq g.prods.length xs) (ht:t < g.T):ay Tryz.prog we [.agg ⟨x.cells⟩,.agg #[.int .i64 st,.int .i64 (t:Int),.slice a xs.length c]] w λv w'=>∃ (o:Wr) (c' : Nat),v = .tuple #[.agg ⟨bD (iQ (aZ g t xs))⟩,.slice o (ib (aZ g t xs).1).length c']/\St w' (own 2 o (ib (aZ g t xs).1).length c' (cZ (ib (aZ g t xs).1)) :: all w):=by
 refine te (cQ hg λk1 w1 gw hg1 B=>af (St.all w1) λk2 w2 h=>af h λk3 w3 h=>?_)
 have g13:Gr w1 w3:=bj 2 h.l
 have r2:av (hp w3) (aM k2) [.int .i64 st,.int .i64 (t:Int),.slice a xs.length c]:=ag 1 h.l
 refine ⟨_,_,_,_,_,_,_,_,_,_,_,_,_,B.row g13,_,r2.cell (sub.refl _) (j:=1) rfl,_,_,_,r2.cell (sub.refl _) (j:=2) rfl,(Sf hc (hg1.mono g13) (hr.mono (gw.trans g13)) hcl ho ht).mono ?_⟩
 obtain ⟨l,hl⟩ : ∃ l,l = aZ g t xs:=⟨_,rfl⟩
 rw [<- hl]
 rintro _ w4 ⟨o,c',rfl,h4⟩
 have h:St w4 (own 2 o l.1.length c' (cZ l.1) :: aS k3 [.int .i64 0,.int .i64 0] :: aS k2 [.int .i64 st,.int .i64 (t:Int),.slice a xs.length c] :: all w1):=St.u6 h4 h.l
 clear h4
 obtain ⟨l,b⟩:=l
 have fr:∀ {u:Ws} {L' : List au} {h0:Hp},St u (L' ++ [has h0])->sub h0 (hp u):=λh=>St.gone h
 refine ⟨_,_,_,_,rfl,aa (λh1=>?_) λh1=>aa (λh2=>?_) λh2=>aa (λh3=>?_) λh3=>?_⟩
 ·have h1:1 < l.length:=by have:(1:Int) < (l.length:Int):=Uz h1; omega
  have hop:ib l = l:=by unfold ib; rw [UJ (by omega)]
  intro w5 hd
  have h:=h.drawn hd
  obtain ⟨y,r,rfl⟩ : ∃ y r,l = y :: r:=by
   cases l with
   | nil=>simp at h1
   | cons y r=>exact ⟨y,r,rfl⟩
  obtain ⟨ad,rfl⟩:=e_ h (by rw [gF]; simp)
  have ry:av (hp w5) ad (bD y):=av.take (vs:=cZ r) (by
   rcases ee 0 h.l with e | ⟨ad',e,hr⟩
   ·simp [cZ,bD] at e
   ·cases e; exact hr)
  refine ⟨λu=>Gr w5 u,Gr.refl _,gk rfl (by show 0 < (y :: r).length; simp) ⟨_,_,λu s=>ry.at s rfl,?_⟩⟩
  have hle:=dj h
  refine fm (fh hle ⟨_,_,_,rfl,Gr.refl _,?_⟩)
  refine aI ((ff h).pick 2 [1,0]) rfl (by simp [aH]) λw8 h=>⟨_,_,(ag 0 h.l).at (sub.refl _) rfl,?_⟩
  show ∃ (o:Wr) (c' : Nat),_/\St w8 (own 2 o (ib (y :: r)).length c' (cZ (ib (y :: r))) :: all w)
  rw [hop]
  exact ⟨_,_,rfl,St.u6 (h.pick 3 [1]) (bY gw)⟩
 ·have h1:¬ 1 < l.length:=by have:¬ (1:Int) < (l.length:Int):=Uy h1; omega
  have h2:l.length = 1:=by
   have:(l.length:Int) = 1:=by simpa using h2
   omega
  have hop:ib l = []:=by unfold ib; rw [UE (by omega)]
  obtain ⟨y,rfl⟩ : ∃ y,l = [y]:=by
   match l,h2 with
   | [y],_=>exact ⟨y,rfl⟩
  obtain ⟨ad,rfl⟩:=e_ h (by rw [gF]; simp)
  have ry:av (hp w4) ad (bD y):=by
   rcases ee 0 h.l with e | ⟨ad',e,hr⟩
   ·simp [cZ,bD] at e
   ·cases e; exact hr
  refine gk rfl (by simp) ⟨_,_,ry.at (sub.refl _) rfl,aI (h.pick 2 [1]) rfl (by simp [aH]) λw8 h=>⟨_,_,(ag 0 h.l).at (sub.refl _) rfl,none,0,?_,?_⟩⟩
  ·rw [hop]; rfl
  ·rw [hop]; exact az 2 (St.here (sub.trans gw (bj 2 h.l)))
 ·have h1:¬ 1 < l.length:=by have:¬ (1:Int) < (l.length:Int):=Uy h1; omega
  have h2:¬ l.length = 1:=by
   have:¬ (l.length:Int) = 1:=by simpa using h2
   omega
  have e:l = []:=UL (by omega)
  subst e
  have h3:b = true:=h3
  subst h3
  refine aI (h.pick 2 [1]) rfl (by simp [aH]) λw8 h=>⟨_,_,(ag 0 h.l).at (sub.refl _) rfl,none,0,rfl,az 2 (St.here (sub.trans gw (bj 2 h.l)))⟩
 ·have h1:¬ 1 < l.length:=by have:¬ (1:Int) < (l.length:Int):=Uy h1; omega
  have h2:¬ l.length = 1:=by
   have:¬ (l.length:Int) = 1:=by simpa using h2
   omega
  have e:l = []:=UL (by omega)
  subst e
  have h3:b = false:=h3
  subst h3
  refine aI (h.pick 2 [1]) rfl (by simp [aH]) λw8 h=>⟨_,_,(ag 0 h.l).at (sub.refl _) rfl,none,0,rfl,az 2 (St.here (sub.trans gw (bj 2 h.l)))⟩
theorem Oe {xs:List ax} {a:Wr} {c:Nat} {st t:Int} (hg:gR (hp w) g x) (hb:iK g) (hr:aX (hp w) xs a xs.length) (hcl:xs.length<=c) (hl:xs.length<=4611686018427387904):ay Tryz.prog A6 [.agg ⟨x.cells⟩,.agg #[.int .i64 st,.int .i64 t,.slice a xs.length c]] w λv w'=>∃ (ac:ax) (l:List ax) (e:Int) (o:Wr) (c' : Nat),v = .tuple #[.agg ⟨bD ac⟩,.slice o l.length c',.int .i64 e]/\GJ g t xs ac l e/\St w' (own 2 o l.length c' (cZ l) :: all w):=by
 refine xG (cQ hg λk1 w1 gw hg1 B=>af (St.all w1) λk2 w2 h=>af h λk3 w3 h=>?_)
 have g13:Gr w1 w3:=bj 2 h.l
 have r2:av (hp w3) (aM k2) [.int .i64 st,.int .i64 t,.slice a xs.length c]:=ag 1 h.l
 have tl:=hg1.t.1
 have eT:g.T = g.terms.length:=rfl
 have hr3:=hr.mono (gw.trans g13)
 refine ⟨λb u=>(b = false↔(aq g/\0<=t/\t < g.T/\lq g.prods.length xs))/\Gr w3 u,⟨_,_,_,_,_,_,_,_,_,_,_,_,_,B.row g13,(vj (hg1.mono g13) hb).mono ?_⟩,?_⟩
 ·rintro _ w4 ⟨⟨r,rfl,hrr⟩,g34⟩
  refine ⟨_,rfl,aa (λh1=>⟨?_,g34⟩) λh1=>⟨_,r2.cell g34 (j:=1) rfl,aa (λh2=>⟨?_,g34⟩) λh2=>⟨_,r2.cell g34 (j:=1) rfl,_,_,_,B.c0 (g13.trans g34),aa (λh3=>⟨?_,g34⟩) λh3=>⟨_,_,_,_,_,_,_,_,_,_,_,_,_,B.row (g13.trans g34),_,_,_,r2.cell g34 (j:=2) rfl,(Lc (hg1.mono (g13.trans g34)) hb (hr3.mono g34) hl).mono ?_⟩⟩⟩⟩
  ·have:r = false:=by simpa using h1
   exact ⟨λh=>(by cases h),λh=>by rw [hrr.2 h.1] at this; cases this⟩
  ·have:=Uz h2
   exact ⟨λh=>(by cases h),λh=>by omega⟩
  ·have:=Uz h3
   exact ⟨λh=>(by cases h),λh=>by omega⟩
  ·rintro _ w5 ⟨rfl,g45⟩
   have h1:r = true:=by simpa using h1
   have h2:=Uy h2
   have h3:=Uy h3
   refine ⟨_,rfl,?_,g34.trans g45⟩
   rw [Bool.not_eq_false',decide_eq_true_iff]
   exact ⟨λh=>⟨hrr.1 h1,by omega,by omega,h⟩,λh=>h.2.2.2⟩
 rintro _ b w6 ⟨hb6,g36⟩
 have h:=h.gr g36
 refine aa (λh1=>?_) λh1=>?_
 ·subst h1
  refine aI h rfl (by simp [aH]) λw7 h=>⟨_,_,(ag 0 h.l).at (sub.refl _) rfl,⟨0,0⟩,[],1,none,0,rfl,.inl ⟨λhh=>(by cases hb6.2 hh),rfl,rfl,rfl⟩,az 2 (St.here (sub.trans gw (bj 2 h.l)))⟩
 subst h1
 obtain ⟨hc,t0,t1,ho⟩:=hb6.1 rfl
 obtain ⟨j,rfl⟩ : ∃ j:Nat,t = j:=⟨t.toNat,by omega⟩
 refine ⟨_,_,_,_,_,_,_,_,_,_,_,_,_,B.row (g13.trans g36),_,_,_,_,_,(r2.mono g36).at (sub.refl _) rfl,(C3 hc (hg1.mono (g13.trans g36)) (hr3.mono g36) hcl ho (by omega)).mono ?_⟩
 rintro _ w8 ⟨o,c',rfl,h8⟩
 have h:=St.u6 h8 h.l
 refine ⟨_,_,_,_,_,rfl,af h λk36 w9 h=>aI h rfl (by simp [aH]) λw10 h=>?_⟩
 refine ⟨_,_,(ag 0 h.l).at (sub.refl _) rfl,?_⟩
 refine aI (h.pick 3 [2,0,1]) rfl (by simp [aH]) λw11 h=>?_
 refine ⟨_,_,(ag 0 h.l).at (sub.refl _) rfl,?_⟩
 exact ⟨_,_,0,o,c',rfl,.inr ⟨hc,ho,j,rfl,by omega,rfl,rfl,rfl⟩,St.u6 (h.pick 4 [2]) (bY gw)⟩
end Go.Proofs.YtndaepmjkbmjmaaGreatDoor
namespace Go.V
theorem Io {α : Type} {f:α->List Value} {n:Nat} (hf:∀ x,(f x).length = n):∀ (xs:List α) (i:Nat) (y:α),i < xs.length->(xs.flatMap f).take (i * n) ++ f y ++ (xs.flatMap f).drop (i * n + n) = (xs.set i y).flatMap f
 | [],i,y,h=>by simp at h
 | x :: xs,0,y,_=>by
  rw [U6,Wb,U6]
  rw [show 0 * n = 0 from Nat.zero_mul n,List.take_zero,Ve,Vr,List.drop_append,VS (by rw [hf]; omega),hf,Vu]
  rfl
 | x :: xs,i + 1,y,h=>by
  have hx:=hf x
  have ih:=Io hf xs i y (by simpa using h)
  rw [U6,Wl,U6,<- ih]
  have e:(i + 1) * n = n + i * n:=by rw [V0,Nat.add_comm]
  rw [e,List.take_append,List.drop_append,UX (by omega),VS (by omega),hx,Vp,show n + i * n + n - n = i * n + n from by omega]
  simp
theorem Sg {w:Ws} {L:List au} {n c i:Nat} {o:Wr} {ds:List wm} {b:wm} (h:St w (own 3 o n c (Et ds) :: L)) (hb:ds[i]? = some b):∃ ad,o = some ad/\av (hp w) (ad.add (cR i 3)) (Tf b):=by
 rcases ee 0 h.l with e | ⟨ad,e,hc⟩
 ·have h1:=congrArg List.length e
  rw [JT,VB] at h1
  have:=(UA.1 hb).1; omega
 ·exact ⟨ad,e,bZ (n:=3) (λ_=>rfl) ds ad hc i b hb⟩
end Go.V
namespace Go.Proofs.YtndaepmjkbmjmaaGreatDoor
variable {w:Ws} {L:List au} {g:ae} {x:GA}
theorem GK {ss ss' : List SQ} {nn nn' : List Bool} {a i f a' i' f' : Int} (hR:rK g ss a i f) (hn:f = 0->uf g nn) (hR' : rK g ss' a' i' f') (hn' : f' = 0->uf g nn'):f' = f/\(∀ l,bR g nn' ss' l = bR g nn ss l)/\(f = 0->∀ q t,bf g nn' ss' q t = bf g nn ss q t)/\ss'.length = ss.length:=by
 obtain ⟨hk,hes,_,_,rfl,hl⟩:=hR.one hR'
 have hk:ss.map (·.1.2) = ss'.map (·.1.2):=hk
 refine ⟨rfl,λl=>?_,λhf q t=>?_,hl.symm⟩
 ·by_cases hf:f = 0
  ·rw [(hn' hf).inj (hn hf)]; exact (GG hes hk).symm
  ·rw [hR.nil hf,hR'.nil hf]; rfl
 ·rw [(hn' hf).inj (hn hf)]; exact (JW hes hk q t).symm
theorem Ew {ss:List SQ} {nn:List Bool} {a i f:Int} {l:Nat} (hR:rK g ss a i f):(bR g nn ss l).length<=16640:=by
 by_cases hf:f = 0
 ·obtain ⟨hc,hA⟩:=hR.FW hf
  have h256:=hA.dn.2.1
  obtain ⟨sT,_⟩:=hc.gB
  have h1:=CT (g:=g) (nn:=nn) (ss:=ss) (least:=l) (n:=ss.length)
  have h2:ss.length * g.T<=256 * 65:=Nat.mul_le_mul (by omega) sT
  unfold bR
  omega
 ·rw [hR.nil hf]; exact UM _
theorem J0 {ss:List SQ} {nn:List Bool} {l:Nat} (hb:iK g):∀ c∈bR g nn ss l,c.acts.length<=4611686018427387904:=λc hc=>by
 obtain ⟨q,t,_,_,_,rfl⟩:=ia.1 hc
 have:=Gw (g:=g) (nn:=nn) (ss:=ss) (q:=q) (t:=t)
 have:=hb.2.2.2.1
 show (bf g nn ss q t).length<=_
 omega
theorem Og (hg:gR (hp w) g x) (hb:iK g) (ht:dG (hp w)):ay Tryz.prog qR [.agg ⟨x.cells⟩] w λv w'=>∃ (ss:List SQ) (ask int f:Int) (nn:List Bool) (o:Wr) (c:Nat),v = .tuple #[.slice o (bR g nn ss 1).length c,.int .i64 f]/\rK g ss ask int f/\(f = 0->uf g nn)/\aX (hp w') (bR g nn ss 1) o (bR g nn ss 1).length/\Gr w w':=by
 refine (GF hg hb ht).mono ?_
 rintro _ w' ⟨ss,ask,int,f,nn,o,c,ds,rfl,hR,hn,hds,h⟩
 have r:=Th h
 have e:ds.length = (bR g nn ss 1).length:=by rw [<- hds]; simp
 rw [hds,e] at r
 exact ⟨ss,ask,int,f,nn,o,c,by rw [e],hR,hn,r,bj 2 h.l⟩
theorem Ld (hg:gR (hp w) g x) (hb:iK g) (ht:dG (hp w)):ay Tryz.prog oO [.agg ⟨x.cells⟩] w λv w'=>∃ (ss:List SQ) (ask int f:Int) (nn:List Bool) (o:Wr) (c:Nat),v = .tuple #[.slice o (bR g nn ss 2).length c,.int .i64 f]/\rK g ss ask int f/\(f = 0->uf g nn)/\aX (hp w') (bR g nn ss 2) o (bR g nn ss 2).length/\Gr w w':=by
 refine (La hg hb ht).mono ?_
 rintro _ w' ⟨ss,ask,int,f,nn,o,c,ds,rfl,hR,hn,hds,h⟩
 have r:=Th h
 have e:ds.length = (bR g nn ss 2).length:=by rw [<- hds]; simp
 rw [hds,e] at r
 exact ⟨ss,ask,int,f,nn,o,c,by rw [e],hR,hn,r,bj 2 h.l⟩
end Go.Proofs.YtndaepmjkbmjmaaGreatDoor
namespace Go.V
section
variable {g:ae} {nn:List Bool} {ss ss' : List SQ} {w:Ws} {L:List au}
def A9 (g:ae) (es:List aN):List Int:=(List.range g.N).map λj=>match es.find? λe=>decide (e.sym = ((g.T + j:Nat):Int)) with
 | some e=>e.to
 | none=>-1
theorem GM {es:List aN}:(A9 g es).length = g.N:=by simp [A9]
theorem Oh:A9 g [] = List.replicate g.N (-1):=by
 show (List.range g.N).map (λ_=>(-1:Int)) = _
 rw [List.map_const',Vw]
theorem C4 {es:List aN} {e:aN} (hn:∀ x∈es,x.sym≠e.sym) (h1:e.sym < g.T + g.N):A9 g (es ++ [e]) = if (g.T:Int)<=e.sym then (A9 g es).set (e.sym - g.T).toNat e.to else A9 g es:=by
 refine Vq λj=>?_
 have base:∀ es:List aN,(A9 g es)[j]? = if j < g.N then some (match es.find? λe=>decide (e.sym = ((g.T + j:Nat):Int)) with | some e=>e.to | none=>-1) else none:=λes=>by
  unfold A9
  rw [UD]
  by_cases h:j < g.N
  ·rw [VN h,UJ h]; rfl
  ·rw [UW (by simp; omega),UE h]; rfl
 have hnone:e.sym = ((g.T + j:Nat):Int)->es.find? (λe=>decide (e.sym = ((g.T + j:Nat):Int))) = none:=λhe=>by
  rw [List.find?_eq_none]
  intro x hx hh
  exact hn x hx (by rw [Uz hh,he])
 rw [base,List.find?_append]
 by_cases he:e.sym = ((g.T + j:Nat):Int)
 ·have hT:(g.T:Int)<=e.sym:=by omega
  have hj:j < g.N:=by omega
  have hj2:(e.sym - (g.T:Int)).toNat = j:=by omega
  rw [hnone he,UJ hT,UJ hj,VC,UJ hj2,GM,UJ (by omega)]
  simp [he]
 ·have e1:([e].find? λe=>decide (e.sym = ((g.T + j:Nat):Int))) = none:=by rw [List.find?_cons_of_neg (by simpa using he)]; rfl
  rw [e1,Option.or_none,<- base]
  by_cases hT:(g.T:Int)<=e.sym
  ·rw [UJ hT,VC,UE (by omega)]
  ·rw [UE hT]
def BQ (g:ae) (ss:List SQ) (q:Nat):List Int:=(List.range g.N).map λj=>Jq ss q ((g.T + j:Nat):Int)
theorem Oi {q:Nat} {r:SQ} (hr:ss[q]? = some r):A9 g r.2.2 = BQ g ss q:=by
 unfold A9 BQ
 refine VO λj _=>?_
 unfold Jq
 rw [nC hr]
 cases r.2.2.find? λe=>decide (e.sym = ((g.T + j:Nat):Int)) with
 | none=>rfl
 | some e=>rfl
theorem Qk (h:bm ss = bm ss'):N1 g ss = N1 g ss':=by
 unfold N1
 rw [Ar h]
 refine VO λq _=>VO λj _=>?_
 unfold Jq
 rw [Aq h]
theorem J1:∀ n,lD n [.int .i64 0,.int .i64 0] = cZ (List.replicate n ⟨0,0⟩)
 | 0=>rfl
 | n + 1=>by
  rw [V6]
  show [.int .i64 0,.int .i64 0] ++ lD n _ = bD ⟨0,0⟩ ++ cZ (List.replicate n ⟨0,0⟩)
  rw [J1 n]; rfl
theorem Ql (h:bm ss = bm ss') (hk:ss.map (·.1.2) = ss'.map (·.1.2)):lU g nn ss = lU g nn ss':=by
 unfold lU; rw [GG h hk]
def Oj (oa:Wr) (ca:Nat) (og:Wr) (cg:Nat) (oc:Wr) (cc:Nat) (AL:List (Lq ax)) (GL:List (Lq Int)) (CL:List wm):List au :=
 [own 1 oa AL.length ca (AL.map cF),aT (AL.map (b_ 2 cZ)),own 1 og GL.length cg (GL.map cF),aT (GL.map (b_ 1 iv)),own 3 oc CL.length cc (Et CL),aT (A2 CL)]
def TX (g:ae) (w:Ws) (v:Value) (w' : Ws):Prop:=∃ (ss:List SQ) (ask int f:Int) (nn:List Bool) (oa:Wr) (ca:Nat) (og:Wr) (cg:Nat) (oc:Wr) (cc:Nat) (AL:List (Lq ax)) (GL:List (Lq Int)) (CL:List wm),
 v = .tuple #[.agg #[.slice oa AL.length ca,.slice og GL.length cg,.slice oc CL.length cc],.int .i64 f]/\rK g ss ask int f/\(f = 0->uf g nn)/\AL.map (·.2) = Eo g nn ss/\GL.map (·.2) = N1 g ss/\CL.map mF = lU g nn ss/\St w' (Oj oa ca og cg oc cc AL GL CL ++ all w)
theorem Tk {ds:List wm} {i:Nat} {b:wm} (h:St w (aT (A2 ds) :: L)) (hb:ds[i]? = some b):b.2.2.length<=b.2.1.2/\aX (hp w) b.2.2 b.2.1.1 b.2.2.length:=by
 have hA:(A2 ds)[i]? = some (b_ 2 cZ b.2):=by unfold A2; rw [UD,hb]; rfl
 have h2:=St.out h hA
 exact ⟨dj h2,kv rfl (ee 0 h2.l)⟩
theorem Tl {n c q t:Nat} {o:Wr} {AL:List (Lq ax)} {b:Lq ax} {y:ax} {X:Ws->Prop} (hq:AL[q]? = some b) (ht:t < b.2.length) (h:St w (own 1 o n c (AL.map cF) :: aT (AL.map (b_ 2 cZ)) :: L))
  (hX:∀ w',St w' (own 1 o n c ((AL.set q (b.1,b.2.set t y)).map cF) :: aT ((AL.set q (b.1,b.2.set t y)).map (b_ 2 cZ)) :: L)->X w'):idx b.1.1 b.2.length (t:Int) 2 λa=>cG w a [.int .i64 y.kind,.int .i64 y.to] X:=by
 have hil:=(UA.1 hq).1
 have hA:(AL.map (b_ 2 cZ))[q]? = some (b_ 2 cZ b):=by rw [UD,hq]; rfl
 have h:=St.MC (h.pick 2 [1,0]) hA
 have h:St w (own 2 b.1.1 b.2.length b.1.2 (cZ b.2) :: aT ((AL.map (b_ 2 cZ)).take q ++ (AL.map (b_ 2 cZ)).drop (q + 1)) :: own 1 o n c (AL.map cF) :: L):=h
 obtain ⟨ad,ha⟩:=e_ h (by rw [gF]; omega)
 refine ak ha ht ?_
 rw [aF]
 refine vq (i:=t * 2) h ha (by rw [gF]; simp; omega) (by simp [aH]) (by simp) λw' h=>hX w' ?_
 have e:=Io (f:=bD) (n:=2) (λ_=>rfl) b.2 t y ht
 have h:St w' (own 2 b.1.1 b.2.length b.1.2 ((b.2.flatMap bD).take (t * 2) ++ bD y ++ (b.2.flatMap bD).drop (t * 2 + 2)) :: aT ((AL.map (b_ 2 cZ)).take q ++ (AL.map (b_ 2 cZ)).drop (q + 1)) :: own 1 o n c (AL.map cF) :: L):=h
 rw [e] at h
 have e3:b_ 2 cZ (b.1,b.2.set t y) = own 2 b.1.1 b.2.length b.1.2 ((b.2.set t y).flatMap bD):=by unfold b_; rw [Vj]; rfl
 rw [<- e3] at h
 have e4:(AL.set q (b.1,b.2.set t y)).map cF = AL.map cF:=by
  rw [VL]
  refine qo ?_
  rw [UD,hq]
  show some (cF b) = some (cF (b.1,b.2.set t y))
  unfold cF; simp
 rw [e4,VL]
 exact (St.RE (M:=AL.map (b_ 2 cZ)) (n:=q) (by rw [UH]; exact hil) h).swap
end
end Go.V
namespace Go.Proofs.YtndaepmjkbmjmaaGreatDoor
variable {w:Ws} {L:List au} {g:ae} {x:GA}
theorem A_ (hg:gR (hp w) g x) (hb:iK g) (ht:dG (hp w)):ay Tryz.prog nL [.agg ⟨x.cells⟩] w (TX g w):=by
 refine uy (cQ hg λk1 w1 gw hg1 B=>af (St.all w1) λk2 w2 h=>?_)
 have g12:Gr w1 w2:=h.aR
 refine ⟨_,_,_,_,_,_,_,_,_,_,_,_,_,B.row g12,(GF (hg1.mono g12) hb (fp.mono (gw.trans g12) ht)).mono ?_⟩
 rintro _ w3 ⟨ss,ask,int,f,nn,o5,c5,ds,rfl,hR,hn,hds,h3⟩
 have h:=St.IV h3 h.l
 clear h3
 refine ⟨_,_,_,_,rfl,aa (λh1=>?_) λh1=>?_⟩
 ·have h1:f≠0:=by simpa using h1
  have hz:=hR.nil h1
  subst hz
  refine aI (h.pick 3 [2]) rfl (by simp [aH]) λw4 h=>⟨_,_,_,_,_,_,_,_,_,(ag 0 h.l).at (sub.refl _) rfl,[],ask,int,f,nn,none,0,none,0,none,0,[],[],[],rfl,hR,hn,rfl,rfl,rfl,?_⟩
  exact az 1 ((St.flat (M:=[])).2 (az 1 ((St.flat (M:=[])).2 (az 3 ((St.flat (M:=[])).2 (St.here (sub.trans gw (bj 1 h.l))))))))
 have h1:f = 0:=by simpa using h1
 subst h1
 obtain ⟨hc,hA⟩:=hR.FW rfl
 have hnn:=hn rfl
 obtain ⟨sT,sN,sP,sP2,_,_⟩:=hc.gB
 have h256:=hA.dn.2.1
 have tl:=hg1.t.1
 have nl:=hg1.n.1
 have eT:g.T = g.terms.length:=rfl
 have eN:g.N = g.nons.length:=rfl
 -- the cells,as they are read
 have hrow:∀ (i:Nat) d,ds[i]? = some d->∃ ad,o5 = some ad/\av (hp w3) (ad.add (cR i 3)) (Tf d):=λi d hd=>Sg h hd
 have hact:∀ (i:Nat) d,ds[i]? = some d->d.2.2.length<=d.2.1.2/\aX (hp w3) d.2.2 d.2.1.1 d.2.2.length:=λi d hd=>Tk (h.pick 2 [1,0]) hd
 have hdl:ds.length<=16640:=by
  have e:=congrArg List.length hds
  have:=Ew (l:=1) (nn:=nn) hR
  rw [UH] at e; omega
 have h:St w3 [aS k2 [.slice none 0 0,.slice none 0 0,.slice none 0 0],has (hp w1)]:=h.pick 3 [2]
 obtain ⟨H3,hH3⟩ : ∃ H3,H3 = hp w3:=⟨_,rfl⟩
 have g13:Gr w1 w3:=bj 1 h.l
 refine ⟨_,_,_,_,_,_,_,_,_,_,_,_,_,B.row g13,(nA (hg1.mono g13) hb).mono ?_⟩
 rintro _ w5 ⟨oA,cA,ss2,ask2,int2,f2,rfl,hR2,h5⟩
 have g35:Gr w3 w5:=bj 3 h5.l
 have ha:FQ (hp w5) ss2 oA:=zd h5.l
 clear h5
 have hone:=hR.one hR2
 have hes:bm ss = bm ss2:=hone.2.1
 obtain rfl:(0:Int) = f2:=hone.2.2.2.2.1
 obtain ⟨_,hA2⟩:=hR2.FW rfl
 have hsl:ss2.length = ss.length:=hone.2.2.2.2.2.symm
 refine ⟨_,_,_,_,_,_,rfl,af (St.all w5) λk29 w6 h6=>aI h6 rfl (by simp [aH]) λw7 h7=>?_⟩
 have r29:av (hp w7) (aM k29) [.slice oA ss2.length cA,.int .i64 ask2,.int .i64 int2]:=ag 0 h7.l
 have g57:Gr w5 w7:=h7.aR
 clear h6 h7
 have ha:=ha.mono g57
 have g37:=g35.trans g57
 have g17:=g13.trans g37
 have hkl2:=hA2.BI hc
 have h:=h.gr g37
 -- all that stands still,in one frame
 have hX:St w7 [aS k2 [.slice none 0 0,.slice none 0 0,.slice none 0 0],has (hp w1)]:=h
 refine af (St.all w7) λk30 w8 h=>⟨_,_,_,r29.cell0 (bj 1 h.l),?_⟩
 rw [hsl]
 refine ⟨λz u=>∃ (q:Nat) (AL:List (Lq ax)) (GL:List (Lq Int)) (oa:Wr) (ca:Nat) (og:Wr) (cg:Nat),z = q/\q<=ss.length/\AL.length = q/\GL.length = q/\AL.map (·.2) = List.replicate q (List.replicate g.T ⟨0,0⟩)/\GL.map (·.2) = (List.range q).map (BQ g ss2)/\St u (aS k30 [.slice oa q ca,.slice og q cg,.slice none 0 0] :: own 1 oa q ca (AL.map cF) :: aT (AL.map (b_ 2 cZ)) :: own 1 og q cg (GL.map cF) :: aT (GL.map (b_ 1 iv)) :: all w7),λz _=>ss.length - z.toNat,⟨0,[],[],none,0,none,0,rfl,UM _,rfl,rfl,rfl,rfl,?_⟩,?_⟩
 ·exact (az 1 ((St.flat (M:=[])).2 (az 1 ((St.flat (M:=[])).2 h)))).pick 5 [4,0,1,2,3]
 clear h
 rintro _ _ w9 ⟨q,AL,GL,oa,ca,og,cg,rfl,hq,hALl,hGLl,hAL,hGL,h⟩
 have g79:Gr w7 w9:=bj 5 h.l
 refine aa (λh1=>?_) λh1=>?_
 ·have h1:q < ss.length:=by have:=Uz h1; omega
  obtain ⟨r,hr⟩ : ∃ r,ss2[q]? = some r:=⟨_,UB (by omega)⟩
  obtain ⟨ad,eA,rs,_,re⟩:=ha q r hr
  have hrl:=(hkl2 r (UC hr)).2
  have hnd:=wV hA2 hr
  refine ak eA h1 ⟨_,_,_,_,_,_,rs.at g79 rfl,af h λk37 w10 h=>aI h rfl (by simp [aH]) λw11 h=>⟨_,_,_,B.c1 (sub.trans g17 (bj 6 h.l)),⟨by omega,rfl,by omega⟩,?_⟩⟩
  rw [U9,jr,<- nl,<- eN]
  refine af h λk40 w12 h=>?_
  have h:St w12 (aS k40 (iv (List.replicate 0 (-1) ++ List.replicate (g.N - 0) 0)) :: aS k37 (KM r) :: aS k30 [.slice oa q ca,.slice og q cg,.slice none 0 0] :: own 1 oa q ca (AL.map cF) :: aT (AL.map (b_ 2 cZ)) :: own 1 og q cg (GL.map cF) :: aT (GL.map (b_ 1 iv)) :: all w7):=by
   have e:List.replicate g.N (Value.int .i64 0) = iv (List.replicate 0 (-1) ++ List.replicate (g.N - 0) 0):=by simp [iv]
   rw [<- e]; exact h
  refine ⟨λz u=>∃ j:Nat,z = j/\j<=g.N/\St u (aS k40 (iv (List.replicate j (-1) ++ List.replicate (g.N - j) 0)) :: aS k37 (KM r) :: aS k30 [.slice oa q ca,.slice og q cg,.slice none 0 0] :: own 1 oa q ca (AL.map cF) :: aT (AL.map (b_ 2 cZ)) :: own 1 og q cg (GL.map cF) :: aT (GL.map (b_ 1 iv)) :: all w7),λz _=>g.N - z.toNat,⟨0,rfl,UM _,h⟩,?_⟩
  clear h
  rintro _ _ w13 ⟨j,rfl,hj,h⟩
  refine aa (λh2=>?_) λh2=>?_
  ·have h2:j < g.N:=by have:=Uz h2; omega
   refine ak rfl h2 ?_
   rw [aF,VA,aV]
   refine bC h (by simp [iv]; omega) λw14 h=>⟨⟨by omega,by omega⟩,⟨j + 1,by simp,h2,?_⟩,bK h2⟩
   have e:(iv (List.replicate j (-1) ++ List.replicate (g.N - j) 0)).set j (.int .i64 (-1)) = iv (List.replicate (j + 1) (-1) ++ List.replicate (g.N - (j + 1)) 0):=by
    rw [zb]
    congr 1
    rw [show g.N - j = (g.N - (j + 1)) + 1 from by omega,V6,VE _ _ (by simp),V8,Vu,Wb,List.replicate_succ',UK]
    rfl
   rw [<- e]
   exact h
  have h2:j = g.N:=by have:=Uy h2; omega
  rw [h2,Vu,List.replicate_zero,U3,<- Oh] at h
  refine ⟨_,_,_,(ag 1 h.l).cell (sub.refl _) (j:=1) rfl,λz u=>∃ k:Nat,z = k/\k<=r.2.2.length/\St u (aS k40 (iv (A9 g (r.2.2.take k))) :: aS k37 (KM r) :: aS k30 [.slice oa q ca,.slice og q cg,.slice none 0 0] :: own 1 oa q ca (AL.map cF) :: aT (AL.map (b_ 2 cZ)) :: own 1 og q cg (GL.map cF) :: aT (GL.map (b_ 1 iv)) :: all w7),λz _=>r.2.2.length - z.toNat,⟨0,rfl,UM _,h⟩,?_⟩
  clear h
  rintro _ _ w15 ⟨k,rfl,hk,h⟩
  refine aa (λh3=>?_) λh3=>?_
  ·have h3:k < r.2.2.length:=by have:=Uz h3; omega
   obtain ⟨e,ead,he,hea,re'⟩:=kR re h3
   have etk:r.2.2.take (k + 1) = r.2.2.take k ++ [e]:=by rw [UI,he]; rfl
   have hen:∀ y∈r.2.2.take k,y.sym≠e.sym:=λy hy=>by
    obtain ⟨i,hi⟩:=Vf hy
    rw [VK] at hi
    split at hi
    ·rename_i hik
     intro hh
     have h1:(r.2.2.map (·.sym))[i]? = some y.sym:=by rw [UD,hi]; rfl
     have h2:(r.2.2.map (·.sym))[k]? = some e.sym:=by rw [UD,he]; rfl
     obtain ⟨p1,q1⟩:=UA.1 h1
     obtain ⟨p2,q2⟩:=UA.1 h2
     exact Wm.1 (Vz.1 hnd) i k p1 p2 hik (by rw [q1,q2,hh])
    ·cases hi
   obtain ⟨e1,e2,_⟩:=kS hc hA2 hr he
   refine ak hea h3 ⟨_,_,re'.at (bj 7 h.l) rfl,af h λk43 w16 h=>aI h rfl (by simp [aH]) λw17 h=>⟨_,(ag 0 h.l).cell0 (sub.refl _),_,_,_,B.c0 (sub.trans g17 (bj 8 h.l)),aa (λh4=>?_) λh4=>?_⟩⟩
   ·have h4:(g.T:Int)<=e.sym:=by have:=Uz h4; omega
    refine ⟨_,(ag 0 h.l).cell0 (sub.refl _),_,_,_,B.c0 (sub.trans g17 (bj 8 h.l)),⟨by omega,by omega⟩,_,(ag 0 h.l).cell (sub.refl _) (j:=1) rfl,aM k40,rfl,by omega,by omega,?_⟩
    rw [aF,VA,aV]
    refine bC (h.pick 2 [1]) (by rw [iW,GM]; omega) λw18 h=>⟨⟨by omega,by omega⟩,⟨k + 1,by simp,h3,?_⟩,bK h3⟩
    rw [etk,C4 hen e2,UJ h4,<- zb,eT,tl]
    exact h
   ·have h4:¬ (g.T:Int)<=e.sym:=by have:=Uy h4; omega
    refine ⟨⟨by omega,by omega⟩,⟨k + 1,by simp,h3,?_⟩,bK h3⟩
    rw [etk,C4 hen e2,UE h4]
    exact h.tail
  have h3:k = r.2.2.length:=by have:=Uy h3; omega
  rw [h3,UZ,Oi hr] at h
  have hgl:(BQ g ss2 q).length = g.N:=by simp [BQ]
  intro w19 hd
  have h:=h.drawn hd
  have hT2:x.tl = g.T:=by omega
  refine ⟨λu=>Gr w7 u/\u.cell? (aM k30) = some (.slice oa q ca),⟨bj 7 h.l,(ag 2 h.l).cell0 (sub.refl _)⟩,_,_,_,λu s=>s.2,_,_,_,λu s=>B.c0 (sub.trans g17 s.1),⟨by omega,rfl,by omega⟩,?_⟩
  rw [U9,J1,hT2]
  refine af h λk52 w22 h=>⟨⟨bj 8 h.l,(ag 3 h.l).cell0 (sub.refl _)⟩,af h λk53 w23 h=>⟨⟨bj 9 h.l,(ag 4 h.l).cell0 (sub.refl _)⟩,?_⟩⟩
  have hAq:(AL.map cF).length = q:=by rw [UH,hALl]
  refine (aW (us:=AL.map cF) aL (rfl:ah Ty _ = .slice _) (rfl:ah Ty _ = .slice _) rfl rfl rfl (h.pick 6 [0,5,1,2,3,4]) rfl (by simp [aH]) (by show (q + 1) * 24<=_; omega) (by omega)).mono ?_
  rintro _ w24 ⟨o23,c23,rfl,h⟩
  refine ⟨_,_,_,rfl,⟨bj 9 h.l,(ag 5 h.l).cell0 (sub.refl _)⟩,bC (i:=0) (h.pick 6 [5,0,2,3]) (by simp) λw25 h=>?_⟩
  refine ⟨_,_,_,(ag 0 h.l).cell (sub.refl _) (j:=1) rfl,af h λk58 w26 h=>?_⟩
  refine (aW (us:=GL.map cF) aL (rfl:ah Ty _ = .slice _) (rfl:ah Ty _ = .slice _) rfl rfl rfl (h.pick 7 [0,6,1,2,3,4,5]) rfl (by simp [aH]) (by show (q + 1) * 24<=_; omega) (by omega)).mono ?_
  rintro _ w27 ⟨o25,c25,rfl,h⟩
  refine ⟨_,_,_,rfl,?_⟩
  rw [aV]
  refine bC (i:=1) (h.pick 3 [2,0]) (by simp) λw28 h=>?_
  refine ⟨⟨by omega,by omega⟩,⟨q + 1,AL ++ [((some (aM k52),g.T),List.replicate g.T ⟨0,0⟩)],GL ++ [((some (aM k40),g.N),BQ g ss2 q)],o23,c23,o25,c25,by simp,h1,by simp [hALl],by simp [hGLl],by rw [U1,hAL,List.replicate_succ']; rfl,by rw [U1,hGL,VX,U1]; rfl,?_⟩,bK h1⟩
  have eA:(AL ++ [((some (aM k52),g.T),List.replicate g.T (⟨0,0⟩ : ax))]).map cF = AL.map cF ++ [vS (some (aM k52)) g.T g.T]:=by rw [U1]; simp [cF]
  have eA2:(AL ++ [((some (aM k52),g.T),List.replicate g.T (⟨0,0⟩ : ax))]).map (b_ 2 cZ) = AL.map (b_ 2 cZ) ++ [own 2 (some (aM k52)) g.T g.T (cZ (List.replicate g.T ⟨0,0⟩))]:=by rw [U1]; simp [b_]
  have eG:(GL ++ [((some (aM k40),g.N),BQ g ss2 q)]).map cF = GL.map cF ++ [vS (some (aM k40)) g.N g.N]:=by rw [U1]; simp [cF,hgl]
  have eG2:(GL ++ [((some (aM k40),g.N),BQ g ss2 q)]).map (b_ 1 iv) = GL.map (b_ 1 iv) ++ [own 1 (some (aM k40)) g.N g.N (iv (BQ g ss2 q))]:=by rw [U1]; simp [b_,hgl]
  rw [eA,eA2,eG,eG2]
  have h1:=h.pick 7 [3,5,4,6,0,2,1]
  have h2:=St.snoc (dR (sz:=2) (l:=g.T) (c:=g.T) (cs:=[]) (by rw [U3]; exact h1) (by rw [gF,V8]) (by rw [U3,gF,V8]) (US _))
  have h3:=h2.pick 3 [1,2,0]
  have h4:=St.snoc (dR (sz:=1) (l:=g.N) (c:=g.N) (cs:=[]) (by rw [U3]; exact h3) (by rw [iW,hgl,VA]) (by rw [U3,iW,hgl,VA]) (US _))
  exact h4.pick 5 [2,3,1,4,0]
 have h1:q = ss.length:=by have:=Uy h1; omega
 subst h1
 obtain ⟨C,hC⟩ : ∃ C,C = bR g nn ss 1:=⟨_,rfl⟩
 have hCl:C.length = ds.length:=by rw [hC,<- hds,UH]
 have hmem:∀ {z:bI},z∈C->∃ q t:Nat,q < ss.length/\t < g.T/\1<=(bf g nn ss q t).length/\z = ⟨(q:Int),(t:Int),bf g nn ss q t⟩:=λ{z} hz=>by
  rw [hC] at hz; exact ia.1 hz
 have hinj:∀ {i j:Nat} {a b:bI},C[i]? = some a->C[j]? = some b->a.st = b.st->a.tm = b.tm->i = j:=λha hb=>by
  rw [hC] at ha hb; exact NU ha hb
 have hcf:∀ l:List bI,(l.flatMap (yh g)).length<=l.length:=λl=>by
  induction l with
  | nil=>simp
  | cons c l ih =>
   rw [U6,UG,Vc]
   have:(yh g c).length<=1:=by unfold yh; split <;> simp
   omega
 have h0:St w9 (aS k30 [.slice oa ss.length ca,.slice og ss.length cg,.slice none 0 0] :: own 1 oa ss.length ca (AL.map cF) :: aT (AL.map (b_ 2 cZ)) :: own 1 og ss.length cg (GL.map cF) :: aT (GL.map (b_ 1 iv)) :: own 3 none 0 0 (Et []) :: aT (A2 []) :: all w7) :=
  (az 3 ((St.flat (M:=[])).2 h)).pick 7 [2,3,4,5,6,0,1]
 refine ⟨λz u=>∃ (i:Nat) (AL:List (Lq ax)) (CL:List wm) (oc:Wr) (cc:Nat),z = i/\i<=ds.length/\Ep g ss.length (C.take i) (AL.map (·.2))/\CL.map mF = (C.take i).flatMap (yh g)/\St u (aS k30 [.slice oa ss.length ca,.slice og ss.length cg,.slice oc CL.length cc] :: own 1 oa ss.length ca (AL.map cF) :: aT (AL.map (b_ 2 cZ)) :: own 1 og ss.length cg (GL.map cF) :: aT (GL.map (b_ 1 iv)) :: own 3 oc CL.length cc (Et CL) :: aT (A2 CL) :: all w7),λz _=>ds.length - z.toNat,⟨0,AL,[],none,0,rfl,UM _,by rw [hAL]; exact Ep.zero,rfl,h0⟩,?_⟩
 clear h h0 hAL hALl
 rintro _ _ w29 ⟨i,AL,CL,oc,cc,rfl,hi,hD,hCL,h⟩
 have g729:Gr w7 w29:=bj 7 h.l
 have hALl:AL.length = ss.length:=by have:=hD.1; simpa using this
 refine aa (λh1=>?_) λh1=>?_
 rotate_left
 ·have h1:i = ds.length:=by have:=Uy h1; omega
  subst h1
  rw [UX (by omega),hC] at hD hCL
  have h8:=St.on (N:=[_,_,_,_,_,_,_]) h hX.l
  refine ⟨_,_,_,_,_,_,_,_,_,(ag 0 h.l).at (sub.refl _) rfl,?_⟩
  have h9:St w29 (aS k2 [.slice none 0 0,.slice none 0 0,.slice none 0 0] :: own 1 oa ss.length ca (AL.map cF) :: aT (AL.map (b_ 2 cZ)) :: own 1 og ss.length cg (GL.map cF) :: aT (GL.map (b_ 1 iv)) :: own 3 oc CL.length cc (Et CL) :: aT (A2 CL) :: [has (hp w1)]):=h8.pick 8 [7,1,2,3,4,5,6]
  refine aI h9 rfl (by simp [aH]) λw45 h=>?_
  refine ⟨_,_,_,_,_,_,_,_,_,(ag 0 h.l).at (sub.refl _) rfl,?_⟩
  refine ⟨ss,ask,int,0,nn,oa,ca,og,cg,oc,cc,AL,GL,CL,by rw [hALl,hGLl],hR,hn,hD.all,by rw [hGL,Qk hes]; exact congrArg (λn=>(List.range n).map (BQ g ss2)) hsl.symm,hCL,?_⟩
  unfold Oj
  rw [hALl,hGLl]
  exact St.on (N:=[_,_,_,_,_,_]) h.tail (bY gw)
 have h1:i < ds.length:=by have:=Uz h1; omega
 obtain ⟨d,hd⟩ : ∃ d,ds[i]? = some d:=⟨_,UB h1⟩
 have hCi:C[i]? = some (mF d):=by rw [hC,<- hds,UD,hd]; rfl
 obtain ⟨q,t,hq,ht1,_,ez⟩:=hmem (UC hCi)
 have e1:d.1.1 = (q:Int):=congrArg bI.st ez
 have e2:d.1.2 = (t:Int):=congrArg bI.tm ez
 have e3:d.2.2 = bf g nn ss q t:=congrArg bI.acts ez
 have htk:C.take (i + 1) = C.take i ++ [mF d]:=by rw [UI,hCi]; rfl
 have hCLl:CL.length<=16640:=by
  have e:=congrArg List.length hCL
  have:=hcf (C.take i)
  rw [UH] at e
  rw [U0] at this
  omega
 have hnew:∀ c∈C.take i,¬(c.st = (q:Int)/\c.tm = (t:Int)):=λc hcm hh=>by
  obtain ⟨j,hj⟩:=Vf hcm
  rw [VK] at hj
  split at hj
  ·have:=hinj hj hCi (by rw [hh.1]; exact e1.symm) (by rw [hh.2]; exact e2.symm)
   omega
  ·cases hj
 obtain ⟨b,hbq⟩ : ∃ b,AL[q]? = some b:=⟨_,UB (by omega)⟩
 have hAq:(AL.map (·.2))[q]? = some b.2:=by rw [UD,hbq]; rfl
 have hbl:b.2.length = g.T:=(hD.2 q b.2 hAq).1
 have hD':=hD.put (c:=mF d) hAq e1 e2 hnew
 rw [<- htk] at hD'
 have hfm:(C.take (i + 1)).flatMap (yh g) = (C.take i).flatMap (yh g) ++ yh g (mF d):=by rw [htk,U_]; simp
 obtain ⟨hdc,hdr⟩:=hact i d hd
 obtain ⟨ad,ho5,rb⟩:=hrow i d hd
 have rb:av (hp w3) (ad.add (cR i 3)) [.int .i64 (q:Int),.int .i64 (t:Int),.slice d.2.1.1 d.2.2.length d.2.1.2]:=by rw [<- e1,<- e2]; exact rb
 have hord:lq g.prods.length d.2.2:=by rw [e3]; exact Gx hc hA q t
 refine ak ho5 h1 ⟨_,_,_,_,_,rb.at (g37.trans g729) rfl,af h λk63 w30 h=>aI h rfl (by simp [aH]) λw31 h=>⟨_,_,_,_,_,_,_,_,_,_,_,_,_,B.row (sub.trans g17 (bj 8 h.l)),_,_,_,_,_,(ag 0 h.l).at (sub.refl _) rfl,(C3 hc (hg1.mono (sub.trans g17 (bj 8 h.l))) (hdr.mono (sub.trans g37 (bj 8 h.l))) hdc hord ht1).mono ?_⟩⟩
 obtain ⟨l,hl⟩ : ∃ l,l = aZ g t d.2.2:=⟨_,rfl⟩
 rw [<- hl]
 have hput:(AL.set q (b.1,b.2.set t (iQ l))).map (·.2) = (AL.map (·.2)).set q (b.2.set t (iQ (aZ g t (mF d).acts))):=by rw [VL,hl]; rfl
 rw [<- hput] at hD'
 rintro _ w32 ⟨o32,c32,rfl,h32⟩
 have h:=St.u6 h32 h.l
 clear h32
 refine ⟨_,_,_,_,_,rfl,af h λk76 w33 h=>aI h rfl (by simp [aH]) λw34 h=>?_⟩
 intro w35 hdr35
 have h:=h.drawn hdr35
 obtain ⟨ada,hoa,hca⟩:=bX (h.pick 5 [4]) (j:=q) (v:=cF b) (by rw [UD,hbq]; rfl)
 refine ⟨λu=>w35 = u,rfl,_,_,_,by rintro _ rfl; exact (ag 3 h.l).cell0 (sub.refl _),_,by rintro _ rfl; exact (ag 2 h.l).cell0 (sub.refl _),aB hoa hq ⟨_,_,_,by rintro _ rfl; exact hca,_,by rintro _ rfl; exact (ag 2 h.l).cell (sub.refl _) (j:=1) rfl,_,_,by rintro _ rfl; exact (ag 0 h.l).at (sub.refl _) rfl,?_⟩⟩
 refine Tl (y:=iQ l) hbq (by omega) (h.pick 6 [4,5,1,2,3]) λw41 h=>?_
 refine aa (λh2=>?_) λh2=>?_
 ·have h2:2<=l.1.length:=by
   have:(0:Int) < ((ib l.1).length:Int):=Uz h2
   unfold ib at this
   split at this
   ·assumption
   ·simp at this
  have hop:ib l.1 = l.1:=by unfold ib; rw [UJ h2]
  rw [hop] at h ⊢
  have hcfd:yh g (mF d) = [⟨(q:Int),(t:Int),l.1⟩]:=by
   unfold yh
   rw [ez]
   show (if 2<=(aZ g (t:Int).toNat (bf g nn ss q t)).1.length then _ else _) = _
   rw [U9,<- e3,<- hl,UJ h2]
  refine ⟨_,_,_,(ag 4 h.l).cell (sub.refl _) (j:=2) rfl,_,(ag 3 h.l).cell0 (sub.refl _),_,(ag 3 h.l).cell (sub.refl _) (j:=1) rfl,af h λk83 w42 h=>?_⟩
  refine (aW (us:=Et CL) aL (rfl:ah Ty _ = .slice _) (rfl:ah Ty _ = .slice _) rfl rfl rfl (h.pick 9 [0,8,1,2,3,5,6,7]) rfl (by simp [aH]) (by show (CL.length + 1) * 40<=_; omega) (by omega)).mono ?_
  rintro _ w43 ⟨o36,c36,rfl,h⟩
  refine ⟨_,_,_,rfl,?_⟩
  rw [aV]
  refine bC (i:=2) (h.pick 8 [5,0,2,3,4,6,7]) (by simp) λw44 h=>?_
  refine ⟨⟨by omega,by omega⟩,⟨i + 1,_,CL ++ [(((q:Int),(t:Int)),((o32,c32),l.1))],o36,c36,by simp,h1,hD',by rw [U1,hCL,hfm,hcfd]; rfl,?_⟩,bK h1⟩
  have eC:A2 (CL ++ [(((q:Int),(t:Int)),((o32,c32),l.1))]) = A2 CL ++ [own 2 o32 l.1.length c32 (cZ l.1)]:=by unfold A2; rw [U1]; rfl
  rw [eC,JU,show (CL ++ [(((q:Int),(t:Int)),((o32,c32),l.1))]).length = CL.length + 1 from by simp]
  have h2:=St.snoc (h.pick 8 [4,7,0,2,3,5,6,1])
  exact h2.pick 7 [1,2,3,4,5,6,0]
 ·have h2:¬ 2<=l.1.length:=by
   intro hh
   have:¬ (0:Int) < ((ib l.1).length:Int):=Uy h2
   unfold ib at this
   rw [UJ hh] at this
   omega
  have hcfd:yh g (mF d) = []:=by
   unfold yh
   rw [ez]
   show (if 2<=(aZ g (t:Int).toNat (bf g nn ss q t)).1.length then _ else _) = _
   rw [U9,<- e3,<- hl,UE h2]
  refine ⟨⟨by omega,by omega⟩,⟨i + 1,_,CL,oc,cc,by simp,h1,hD',by rw [hCL,hfm,hcfd,U3],?_⟩,bK h1⟩
  exact h.pick 9 [4,0,1,5,6,7,8]
abbrev mG:FuncId:=121
def lr:bh:={ rngs:=[],loops:=[],joins:=[],blocks:=[] }
theorem lu {a:Wr} {w:Ws} {R:Value->WP} (h:∀ w1,drawn w w1->∃ (I1:WP),I1 w1/\nn a λa1=>∃ o1 k1 k2,(∀ w2,I1 w2->World.cell? w2 (Addr.add a1 1) = some (vS o1 k1 k2))/\nn a λa2=>∃ o2 k3 k4,(∀ w3,I1 w3->World.cell? w3 (Addr.add a2 1) = some (vS o2 k3 k4))/\rS (Builtin.unsafeSliceData_ (Array.mk [201]) 254 (Array.mk [vS o1 k1 k2])) w1 λv1 w4=>∃ o3,v1 = vP o3/\I1 w4/\rS (Builtin.unsafeString_ (Array.mk [254,3]) 9 (Array.mk [vP o3,iI (k3:Int)])) w4 λv2 w5=>∃ s1,v2 = Value.string s1/\I1 w5/\R (Value.string s1) w5):ay Tryz.prog 121 [(.pointer a)] w R:=rv Tryz.func121 lr (by kernel_rfl) h
abbrev ky:FuncId:=9
def jy:bh:={ rngs:=[],loops:=[(7,[(8,(.one (.int .i64)))]),(15,[(16,(.one (.int .i64)))])],joins:=[(13,[(69,(.one .bool))])],blocks:=[] }
theorem jz {a:Wr} {b c:Nat} {d:Wr} {e f:Nat} {g:Wr} {i j:Nat} {k:Int} {l:Wr} {m n:Nat} {o p:Int} {q:Wr} {s t:Nat} {w:Ws} {R:Value->WP} (h:new w (oC [vS a b c,vS d e f,vS g i j,iI k,vS l m n] 27) λk1 w1=>new w1 (oC [iI o,iI p,vS q s t] 60) λk2 w2=>rE 30 [] w2 λv1 w3=>∃ b1,v1 = vB b1/\∃ o1 k3 k4,cL w3 (Addr.add (aM k2) 2) (vS o1 k3 k4)/\rS (jT 38 (Array.mk [vS none 0 0,vS o1 k3 k4])) w3 λv2 w4=>∃ o2 k5 k6,v2 = vS o2 k5 k6/\new w4 (oC [iI 7,iI 7] 62) λk7 w5=>rS (jT 38 (Array.mk [vS o2 k5 k6,vS (some (aM k7)) 1 1])) w5 λv3 w6=>∃ o3 k8 k9,v3 = vS o3 k8 k9/\∀ w7,drawn w6 w7->∃ (I1:WP),I1 w7/\∃ n1,(∀ w8,I1 w8->cL w8 (aM k2) (iI n1))/\∃ n2,(∀ w9,I1 w9->cL w9 (Addr.add (aM k2) 1) (iI n2))/\∃ o4 k10 k11,(∀ w10,I1 w10->cL w10 (Addr.add (aM k2) 2) (vS o4 k10 k11))/\lV o3 k8 k9 none (some (k10:Int)) none 2 λ(o5:Wr) (k12 k13:Nat)=>new w7 (oC [iI 0,iI 0,vS none 0 0] 60) λk14 w11=>I1 w11/\cG w11 (aM k14) [iI n1,iI n2,vS o5 k12 k13] λw12=>∃ (x1:lP [(8,aD)]),∃ (x2:lN [(8,aD)]),x1 0 w12/\∀ (I2:Nat->Value) (n3:Int) (w13:Ws),x1 n3 w13->br (decide (n3 < 2)) (∃ o6 k15 k16 o7 k17 k18 o8 k19 k20 n4 o9 k21 k22,rA w13 (aM k1) 5 [vS o6 k15 k16,vS o7 k17 k18,vS o8 k19 k20,iI n4,vS o9 k21 k22]/\∃ n5 n6 o10 k23 k24,rA w13 (aM k14) 3 [iI n5,iI n6,vS o10 k23 k24]/\rE 33 [vG [vS o6 k15 k16,vS o7 k17 k18,vS o8 k19 k20,iI n4,vS o9 k21 k22],vG [iI n5,iI n6,vS o10 k23 k24]] w13 λv4 w14=>∃ n7 n8 o11 k25 k26 n9,v4 = vU [vG [iI n7,iI n8],vS o11 k25 k26,iI n9]/\new w14 (oC [iI 0,iI 0] 62) λk27 w15=>cG w15 (aM k27) [iI n7,iI n8] λw16=>∃ o12 k28 k29 o13 k30 k31 o14 k32 k33 n10 o15 k34 k35,rA w16 (aM k1) 5 [vS o12 k28 k29,vS o13 k30 k31,vS o14 k32 k33,iI n10,vS o15 k34 k35]/\∃ n11 n12 o16 k36 k37,rA w16 (aM k2) 3 [iI n11,iI n12,vS o16 k36 k37]/\rE 34 [vG [vS o12 k28 k29,vS o13 k30 k31,vS o14 k32 k33,iI n10,vS o15 k34 k35],vG [iI n11,iI n12,vS o16 k36 k37]] w16 λv5 w17=>∃ n13 n14 o17 k38 k39 n15,v5 = vU [vG [iI n13,iI n14],vS o17 k38 k39,iI n15]/\new w17 (oC [iI 0,iI 0] 62) λk40 w18=>cG w18 (aM k40) [iI n13,iI n14] λw19=>rE 35 [vS o11 k25 k26,vS o17 k38 k39] w19 λv6 w20=>∃ b2,v6 = vB b2/\∃ (x3:lP [(69,pI)]),br (!b2) (x3 true w20) (∃ n16 n17,rA w20 (aM k27) 2 [iI n16,iI n17]/\∃ n18 n19,rA w20 (aM k40) 2 [iI n18,iI n19]/\∃ v7,Sem.run Proofs.Tryz.prog (fu BinOp.neq 62 (Operand.tmp 61) (Operand.tmp 62) (vG [iI n16,iI n17]) (vG [iI n18,iI n19])) w20 = Result.ok v7 w20/\∃ b3,v7 = vB b3/\br b3 (x3 true w20) (x3 (n9 != n15) w20))/\∀ (I3:Nat->Value) (b4:Bool) (w21:Ws),x3 b4 w21->br b4 (R (vB false) w21) (∃ (x4:lP [(16,aD)]),∃ (x5:lN [(16,aD)]),x4 0 w21/\∀ (I4:Nat->Value) (n20:Int) (w22:Ws),x4 n20 w22->br (decide (n20 < (k25:Int))) (idx o11 k25 n20 2 λa1=>cG w22 a1 [iI 9,iI 0] λw23=>aw (n20 + 1)/\x4 (n20 + 1) w23/\x5 (n20 + 1) w23 < x5 n20 w22) (aw (n3 + 1)/\x1 (n3 + 1) w22/\x2 (n3 + 1) w22 < x2 n3 w13))) (∀ w24,drawn w13 w24->∃ (I5:WP),I5 w24/\∃ o18 k41 k42,(∀ w25,I5 w25->cL w25 (Addr.add (aM k2) 2) (vS o18 k41 k42))/\lV o3 k8 k9 none (some (k41:Int)) none 2 λ(o19:Wr) (k43 k44:Nat)=>∃ o20 k45 k46,(∀ w26,I5 w26->cL w26 (Addr.add (aM k2) 2) (vS o20 k45 k46))/\rE 35 [vS o19 k43 k44,vS o20 k45 k46] w24 λv8 w27=>∃ b5,v8 = vB b5/\I5 w27/\br b1 (br b5 (aw ((k8:Int) - 1)/\idx o3 k8 ((k8:Int) - 1) 2 λa2=>∃ n21,cL w27 a2 (iI n21)/\R (vB (n21 == 7)) w27) (R (vB false) w27)) (R (vB false) w27))):ay Tryz.prog 9 [(.agg #[(.slice a b c),(.slice d e f),(.slice g i j),(.int .i64 k),(.slice l m n)]),(.agg #[(.int .i64 o),(.int .i64 p),(.slice q s t)])] w R:=rv Tryz.func9 jy (by kernel_rfl) h
abbrev kz:FuncId:=11
def jA:bh:={ rngs:=[],loops:=[(15,[(11,(.one (.int .i64))),(12,(.one (.int .i64))),(13,(.one (.int .i64)))]),(20,[(11,(.one (.int .i64))),(12,(.one (.int .i64))),(14,(.one (.int .i64)))]),(33,[(19,(.one (.int .i64)))])],joins:=[(6,[(44,(.one .bool))]),(21,[(11,(.one (.int .i64))),(12,(.one (.int .i64)))]),(27,[(11,(.one (.int .i64))),(16,(.one .slice))]),(30,[])],blocks:=[] }
theorem jB {a:Wr} {b c:Nat} {d:Wr} {e f:Nat} {g:Wr} {i j:Nat} {k:Int} {l:Wr} {m n:Nat} {w:Ws} {R:Value->WP} (h:new w (oC [vS a b c,vS d e f,vS g i j,iI k,vS l m n] 27) λk1 w1=>rE 30 [] w1 λv1 w2=>∃ b1,v1 = vB b1/\∃ o1 k2 k3 o2 k4 k5 o3 k6 k7 n1 o4 k8 k9,rA w2 (aM k1) 5 [vS o1 k2 k3,vS o2 k4 k5,vS o3 k6 k7,iI n1,vS o4 k8 k9]/\rE 15 [vG [vS o1 k2 k3,vS o2 k4 k5,vS o3 k6 k7,iI n1,vS o4 k8 k9]] w2 λv2 w3=>∃ o5 k10 k11 n2,v2 = vU [vS o5 k10 k11,iI n2]/\∃ o6 k12 k13 o7 k14 k15 o8 k16 k17 n3 o9 k18 k19,rA w3 (aM k1) 5 [vS o6 k12 k13,vS o7 k14 k15,vS o8 k16 k17,iI n3,vS o9 k18 k19]/\rE 37 [vG [vS o6 k12 k13,vS o7 k14 k15,vS o8 k16 k17,iI n3,vS o9 k18 k19]] w3 λv3 w4=>∃ o10 k20 k21 o11 k22 k23 o12 k24 k25 n4,v3 = vU [vG [vS o10 k20 k21,vS o11 k22 k23,vS o12 k24 k25],iI n4]/\new w4 (oC [vS none 0 0,vS none 0 0,vS none 0 0] 75) λk26 w5=>cG w5 (aM k26) [vS o10 k20 k21,vS o11 k22 k23,vS o12 k24 k25] λw6=>∃ o13 k27 k28 o14 k29 k30 o15 k31 k32 n5 o16 k33 k34,rA w6 (aM k1) 5 [vS o13 k27 k28,vS o14 k29 k30,vS o15 k31 k32,iI n5,vS o16 k33 k34]/\rE 26 [vG [vS o13 k27 k28,vS o14 k29 k30,vS o15 k31 k32,iI n5,vS o16 k33 k34]] w6 λv4 w7=>∃ o17 k35 k36 n6 n7 n8,v4 = vU [vG [vS o17 k35 k36,iI n6,iI n7],iI n8]/\new w7 (oC [vS none 0 0,iI 0,iI 0] 45) λk37 w8=>cG w8 (aM k37) [vS o17 k35 k36,iI n6,iI n7] λw9=>∃ (x1:lP [(44,pI)]),br (n2 != n4) (x1 true w9) (x1 (n2 != n8) w9)/\∀ (I1:Nat->Value) (b2:Bool) (w10:Ws),x1 b2 w10->br b2 (R (vB false) w10) (br (n2 != 0) (∃ o18 k38 k39 o19 k40 k41 o20 k42 k43 n9 o21 k44 k45,rA w10 (aM k1) 5 [vS o18 k38 k39,vS o19 k40 k41,vS o20 k42 k43,iI n9,vS o21 k44 k45]/\rE 39 [vG [vS o18 k38 k39,vS o19 k40 k41,vS o20 k42 k43,iI n9,vS o21 k44 k45]] w10 λv5 w11=>∃ b3,v5 = vB b3/\br b1 (∃ o22 k46 k47,cL w11 (Addr.add (aM k26) 2) (vS o22 k46 k47)/\br ((k46:Int) == 0) (R (vB (b3 == (n2 == 11))) w11) (R (vB false) w11)) (R (vB false) w11)) (∃ o23 k48 k49,cL w10 (aM k26) (vS o23 k48 k49)/\∃ o24 k50 k51,cL w10 (aM k37) (vS o24 k50 k51)/\br ((k48:Int) != (k50:Int)) (R (vB false) w10) (∃ (x2:lP [(11,aD),(12,aD),(13,aD)]),∃ (x3:lN [(11,aD),(12,aD),(13,aD)]),x2 0 0 0 w10/\∀ (I2:Nat->Value) (n10 n11 n12:Int) (w12:Ws),x2 n10 n11 n12 w12->∃ o25 k52 k53,cL w12 (aM k37) (vS o25 k52 k53)/\br (decide (n12 < (k52:Int))) (∀ w13,drawn w12 w13->∃ (I3:WP),I3 w13/\∃ o26 k54 k55,(∀ w14,I3 w14->cL w14 (aM k26) (vS o26 k54 k55))/\idx o26 k54 n12 1 λa1=>∃ o27 k56 k57,(∀ w15,I3 w15->cL w15 a1 (vS o27 k56 k57))/\∃ o28 k58 k59,(∀ w16,I3 w16->cL w16 (aM k1) (vS o28 k58 k59))/\br ((k56:Int) != (k58:Int)) (R (vB false) w13) (∃ (x4:lP [(11,aD),(12,aD),(14,aD)]),∃ (x5:lN [(11,aD),(12,aD),(14,aD)]),x4 n10 n11 0 w13/\∀ (I4:Nat->Value) (n13 n14 n15:Int) (w17:Ws),x4 n13 n14 n15 w17->∃ o29 k60 k61,cL w17 (aM k1) (vS o29 k60 k61)/\br (decide (n15 < (k60:Int))) (∃ (x6:lP [(11,aD),(12,aD)]),(∃ o30 k62 k63,cL w17 (aM k26) (vS o30 k62 k63)/\idx o30 k62 n12 1 λa2=>∃ o31 k64 k65,cL w17 a2 (vS o31 k64 k65)/\idx o31 k64 n15 2 λa3=>∃ n16 n17,rA w17 a3 2 [iI n16,iI n17]/\new w17 (oC [iI 0,iI 0] 62) λk66 w18=>cG w18 (aM k66) [iI n16,iI n17] λw19=>∃ (x7:lP [(11,aD),(16,mL)]),br (decide (n13 < (k10:Int))) (idx o5 k10 n13 3 λa4=>∃ n18,cL w19 a4 (iI n18)/\br (n18 == n12) (idx o5 k10 n13 3 λa5=>∃ n19,cL w19 (Addr.add a5 1) (iI n19)/\br (n19 == n15) (idx o5 k10 n13 3 λa6=>∃ o32 k67 k68,cL w19 (Addr.add a6 2) (vS o32 k67 k68)/\aw (n13 + 1)/\x7 (n13 + 1) o32 k67 k68 w19) (x7 n13 none 0 0 w19)) (x7 n13 none 0 0 w19)) (x7 n13 none 0 0 w19)/\∀ (I5:Nat->Value) (n20:Int) (o33:Wr) (k69 k70:Nat) (w20:Ws),x7 n20 o33 k69 k70 w20->∃ n21 n22,rA w20 (aM k66) 2 [iI n21,iI n22]/\rE 40 [vS o33 k69 k70,vG [iI n21,iI n22]] w20 λv6 w21=>∃ b4,v6 = vB b4/\∃ (x8:lP []),br (decide ((k69:Int) < 2)) (br (!b4) (br (decide (0 < (k69:Int))) (R (vB false) w21) (∃ n23 n24,rA w21 (aM k66) 2 [iI n23,iI n24]/\∃ v7,Sem.run Proofs.Tryz.prog (fu BinOp.neq 62 (Operand.tmp 148) (Operand.tmp 149) (vG [iI n23,iI n24]) (vG [iI 0,iI 0])) w21 = Result.ok v7 w21/\∃ b5,v7 = vB b5/\br b5 (R (vB false) w21) (br (decide (1 < (k69:Int))) (br (!b4) (∃ n25 n26,rA w21 (aM k66) 2 [iI n25,iI n26]/\∃ v8,Sem.run Proofs.Tryz.prog (fu BinOp.neq 62 (Operand.tmp 162) (Operand.tmp 163) (vG [iI n25,iI n26]) (vG [iI 4,iI 0])) w21 = Result.ok v8 w21/\∃ b6,v8 = vB b6/\br b6 (R (vB false) w21) (x8 w21)) (x8 w21)) (x8 w21)))) (br (decide (1 < (k69:Int))) (br (!b4) (∃ n27 n28,rA w21 (aM k66) 2 [iI n27,iI n28]/\∃ v9,Sem.run Proofs.Tryz.prog (fu BinOp.neq 62 (Operand.tmp 162) (Operand.tmp 163) (vG [iI n27,iI n28]) (vG [iI 4,iI 0])) w21 = Result.ok v9 w21/\∃ b7,v9 = vB b7/\br b7 (R (vB false) w21) (x8 w21)) (x8 w21)) (x8 w21))) (br (decide (1 < (k69:Int))) (br (!b4) (∃ n29 n30,rA w21 (aM k66) 2 [iI n29,iI n30]/\∃ v10,Sem.run Proofs.Tryz.prog (fu BinOp.neq 62 (Operand.tmp 162) (Operand.tmp 163) (vG [iI n29,iI n30]) (vG [iI 4,iI 0])) w21 = Result.ok v10 w21/\∃ b8,v10 = vB b8/\br b8 (R (vB false) w21) (x8 w21)) (x8 w21)) (x8 w21))/\∀ (I6:Nat->Value) (w22:Ws),x8 w22->∃ o34 k71 k72,cL w22 (Addr.add (aM k26) 2) (vS o34 k71 k72)/\br (decide ((k71:Int)<=n14)) (x6 n20 n14 w22) (∃ o35 k73 k74,cL w22 (Addr.add (aM k26) 2) (vS o35 k73 k74)/\idx o35 k73 n14 3 λa7=>∃ n31,cL w22 a7 (iI n31)/\br (n31 != n12) (x6 n20 n14 w22) (∃ o36 k75 k76,cL w22 (Addr.add (aM k26) 2) (vS o36 k75 k76)/\idx o36 k75 n14 3 λa8=>∃ n32,cL w22 (Addr.add a8 1) (iI n32)/\br (n32 != n15) (x6 n20 n14 w22) (∃ o37 k77 k78,cL w22 (Addr.add (aM k26) 2) (vS o37 k77 k78)/\idx o37 k77 n14 3 λa9=>∃ o38 k79 k80,cL w22 (Addr.add a9 2) (vS o38 k79 k80)/\∃ (x9:lP [(19,aD)]),∃ (x10:lN [(19,aD)]),x9 0 w22/\∀ (I7:Nat->Value) (n33:Int) (w23:Ws),x9 n33 w23->br (decide (n33 < (k79:Int))) (idx o38 k79 n33 2 λa10=>∃ n34 n35,rA w23 a10 2 [iI n34,iI n35]/\rE 40 [vS o33 k69 k70,vG [iI n34,iI n35]] w23 λv11 w24=>∃ b9,v11 = vB b9/\br (!b9) (R (vB false) w24) (aw (n33 + 1)/\x9 (n33 + 1) w24/\x10 (n33 + 1) w24 < x10 n33 w23)) (∀ w25,drawn w23 w25->∃ (I8:WP),I8 w25/\br (decide ((k79:Int) < 2)) (R (vB false) w25) (idx o38 k79 0 2 λa11=>∃ n36 n37,(∀ w26,I8 w26->rA w26 a11 2 [iI n36,iI n37])/\∃ n38 n39,(∀ w27,I8 w27->rA w27 (aM k66) 2 [iI n38,iI n39])/\∃ v12,(∀ w28,I8 w28->Sem.run Proofs.Tryz.prog (fu BinOp.neq 62 (Operand.tmp 218) (Operand.tmp 219) (vG [iI n36,iI n37]) (vG [iI n38,iI n39])) w28 = Result.ok v12 w28)/\∃ b10,v12 = vB b10/\br b10 (R (vB false) w25) (aw (n14 + 1)/\x6 n20 (n14 + 1) w25)))))))/\∀ (I9:Nat->Value) (n40 n41:Int) (w29:Ws),x6 n40 n41 w29->aw (n15 + 1)/\x4 n40 n41 (n15 + 1) w29/\x5 n40 n41 (n15 + 1) w29 < x5 n13 n14 n15 w17) (aw (n12 + 1)/\x2 n13 n14 (n12 + 1) w17/\x3 n13 n14 (n12 + 1) w17 < x3 n10 n11 n12 w12))) (br b1 (br (n10 == (k10:Int)) (∃ o39 k81 k82,cL w12 (Addr.add (aM k26) 2) (vS o39 k81 k82)/\R (vB (n11 == (k81:Int))) w12) (R (vB false) w12)) (R (vB false) w12)))))):ay Tryz.prog 11 [(.agg #[(.slice a b c),(.slice d e f),(.slice g i j),(.int .i64 k),(.slice l m n)])] w R:=rv Tryz.func11 jA (by kernel_rfl) h
abbrev kA:FuncId:=12
def jC:bh:={ rngs:=[],loops:=[(4,[(9,(.one (.int .i64)))])],joins:=[(12,[(89,(.one .bool))]),(14,[(112,(.one .bool))])],blocks:=[] }
theorem jD {a:Wr} {b c:Nat} {d:Wr} {e f:Nat} {g:Wr} {i j:Nat} {k:Int} {l:Wr} {m n:Nat} {o p:Int} {w:Ws} {R:Value->WP} (h:new w (oC [vS a b c,vS d e f,vS g i j,iI k,vS l m n] 27) λk1 w1=>rE 30 [] w1 λv1 w2=>∃ b1,v1 = vB b1/\∃ o1 k2 k3 o2 k4 k5 o3 k6 k7 n1 o4 k8 k9,rA w2 (aM k1) 5 [vS o1 k2 k3,vS o2 k4 k5,vS o3 k6 k7,iI n1,vS o4 k8 k9]/\rE 14 [vG [vS o1 k2 k3,vS o2 k4 k5,vS o3 k6 k7,iI n1,vS o4 k8 k9]] w2 λv2 w3=>∃ o5 k10 k11 o6 k12 k13 o7 k14 k15 n2 o8 k16 k17,v2 = vG [vS o5 k10 k11,vS o6 k12 k13,vS o7 k14 k15,iI n2,vS o8 k16 k17]/\new w3 (oC [vS none 0 0,vS none 0 0,vS none 0 0,iI 0,vS none 0 0] 27) λk18 w4=>cG w4 (aM k18) [vS o5 k10 k11,vS o6 k12 k13,vS o7 k14 k15,iI n2,vS o8 k16 k17] λw5=>∃ (x1:lP [(9,aD)]),∃ (x2:lN [(9,aD)]),x1 0 w5/\∀ (I1:Nat->Value) (n3:Int) (w6:Ws),x1 n3 w6->∃ o9 k19 k20,cL w6 (Addr.add (aM k18) 2) (vS o9 k19 k20)/\br (decide (n3 < (k19:Int))) (∃ o10 k21 k22,cL w6 (Addr.add (aM k18) 2) (vS o10 k21 k22)/\idx o10 k21 n3 1 λa1=>∃ n4,cL w6 a1 (iI n4)/\br (n4 == 1) (∀ w7,drawn w6 w7->∃ (I2:WP),I2 w7/\∃ o11 k23 k24,(∀ w8,I2 w8->cL w8 (Addr.add (aM k18) 2) (vS o11 k23 k24))/\∃ o12 k25 k26,(∀ w9,I2 w9->cL w9 (Addr.add (aM k18) 2) (vS o12 k25 k26))/\idx o12 k25 n3 1 λa2=>∃ n5,(∀ w10,I2 w10->cL w10 a2 (iI n5))/\aw (3 - n5)/\idx o11 k23 n3 1 λa3=>st1 w7 a3 (iI (3 - n5)) λw11=>aw (n3 + 1)/\x1 (n3 + 1) w11/\x2 (n3 + 1) w11 < x2 n3 w6) (∃ o13 k27 k28,cL w6 (Addr.add (aM k18) 2) (vS o13 k27 k28)/\idx o13 k27 n3 1 λa4=>∃ n6,cL w6 a4 (iI n6)/\br (n6 == 2) (∀ w12,drawn w6 w12->∃ (I3:WP),I3 w12/\∃ o14 k29 k30,(∀ w13,I3 w13->cL w13 (Addr.add (aM k18) 2) (vS o14 k29 k30))/\∃ o15 k31 k32,(∀ w14,I3 w14->cL w14 (Addr.add (aM k18) 2) (vS o15 k31 k32))/\idx o15 k31 n3 1 λa5=>∃ n7,(∀ w15,I3 w15->cL w15 a5 (iI n7))/\aw (3 - n7)/\idx o14 k29 n3 1 λa6=>st1 w12 a6 (iI (3 - n7)) λw16=>aw (n3 + 1)/\x1 (n3 + 1) w16/\x2 (n3 + 1) w16 < x2 n3 w6) (aw (n3 + 1)/\x1 (n3 + 1) w6/\x2 (n3 + 1) w6 < x2 n3 w6))) (∃ o16 k33 k34 o17 k35 k36 o18 k37 k38 n8 o19 k39 k40,rA w6 (aM k1) 5 [vS o16 k33 k34,vS o17 k35 k36,vS o18 k37 k38,iI n8,vS o19 k39 k40]/\rE 31 [vG [vS o16 k33 k34,vS o17 k35 k36,vS o18 k37 k38,iI n8,vS o19 k39 k40],iI o,iI p] w6 λv3 w17=>∃ n9 n10,v3 = vU [iI n9,iI n10]/\∃ o20 k41 k42 o21 k43 k44 o22 k45 k46 n11 o23 k47 k48,rA w17 (aM k18) 5 [vS o20 k41 k42,vS o21 k43 k44,vS o22 k45 k46,iI n11,vS o23 k47 k48]/\rE 31 [vG [vS o20 k41 k42,vS o21 k43 k44,vS o22 k45 k46,iI n11,vS o23 k47 k48],iI o,iI p] w17 λv4 w18=>∃ n12 n13,v4 = vU [iI n12,iI n13]/\∃ o24 k49 k50 o25 k51 k52 o26 k53 k54 n14 o27 k55 k56,rA w18 (aM k1) 5 [vS o24 k49 k50,vS o25 k51 k52,vS o26 k53 k54,iI n14,vS o27 k55 k56]/\rE 39 [vG [vS o24 k49 k50,vS o25 k51 k52,vS o26 k53 k54,iI n14,vS o27 k55 k56]] w18 λv5 w19=>∃ b2,v5 = vB b2/\∃ (x3:lP [(89,pI)]),br (!b2) (x3 true w19) (br (decide (o < 0)) (x3 true w19) (∃ o28 k57 k58,cL w19 (Addr.add (aM k1) 4) (vS o28 k57 k58)/\br (decide ((k57:Int)<=o)) (x3 true w19) (br (decide (p < 0)) (x3 true w19) (∃ o29 k59 k60,cL w19 (aM k1) (vS o29 k59 k60)/\x3 (decide ((k59:Int)<=p)) w19))))/\∀ (I4:Nat->Value) (b3:Bool) (w20:Ws),x3 b3 w20->br b3 (br b1 (br (n10 == 1) (br (n13 == 1) (br (n9 == 0) (R (vB (n12 == 0)) w20) (R (vB false) w20)) (R (vB false) w20)) (R (vB false) w20)) (R (vB false) w20)) (∃ (x4:lP [(112,pI)]),br (n10 != 0) (x4 true w20) (x4 (n13 != 0) w20)/\∀ (I5:Nat->Value) (b4:Bool) (w21:Ws),x4 b4 w21->br b4 (R (vB false) w21) (∃ o30 k61 k62,cL w21 (Addr.add (aM k1) 4) (vS o30 k61 k62)/\idx o30 k61 o 3 λa7=>∃ n15,cL w21 (Addr.add a7 2) (iI n15)/\∃ o31 k63 k64,cL w21 (aM k1) (vS o31 k63 k64)/\idx o31 k63 p 2 λa8=>∃ n16,cL w21 (Addr.add a8 1) (iI n16)/\br (n15 != n16) (br b1 (R (vB (n9 == n12)) w21) (R (vB false) w21)) (br (n15 == 0) (br b1 (R (vB (n9 == n12)) w21) (R (vB false) w21)) (∃ o32 k65 k66,cL w21 (Addr.add (aM k1) 2) (vS o32 k65 k66)/\aw (n15 - 1)/\idx o32 k65 (n15 - 1) 1 λa9=>∃ n17,cL w21 a9 (iI n17)/\br (n17 == 3) (br b1 (R (vB (n9 == n12)) w21) (R (vB false) w21)) (br b1 (aw (n9 + n12)/\br (n9 + n12 == 3) (R (vB (n9 != n12)) w21) (R (vB false) w21)) (R (vB false) w21)))))))):ay Tryz.prog 12 [(.agg #[(.slice a b c),(.slice d e f),(.slice g i j),(.int .i64 k),(.slice l m n)]),(.int .i64 o),(.int .i64 p)] w R:=rv Tryz.func12 jC (by kernel_rfl) h
abbrev kB:FuncId:=13
def jE:bh:={ rngs:=[],loops:=[(4,[(5,(.one (.int .i64)))]),(8,[(6,(.one (.int .i64)))]),(18,[(12,(.one (.int .i64)))]),(25,[(15,(.one (.int .i64)))]),(28,[(16,(.one (.int .i64)))])],joins:=[(16,[(65,(.one .bool))])],blocks:=[] }
theorem jF {a:Wr} {b c:Nat} {d:Wr} {e f:Nat} {g:Wr} {i j:Nat} {k:Int} {l:Wr} {m n:Nat} {w:Ws} {R:Value->WP} (h:new w (oC [vS a b c,vS d e f,vS g i j,iI k,vS l m n] 27) λk1 w1=>rE 30 [] w1 λv1 w2=>∃ b1,v1 = vB b1/\∃ o1 k2 k3 o2 k4 k5 o3 k6 k7 n1 o4 k8 k9,rA w2 (aM k1) 5 [vS o1 k2 k3,vS o2 k4 k5,vS o3 k6 k7,iI n1,vS o4 k8 k9]/\rE 14 [vG [vS o1 k2 k3,vS o2 k4 k5,vS o3 k6 k7,iI n1,vS o4 k8 k9]] w2 λv2 w3=>∃ o5 k10 k11 o6 k12 k13 o7 k14 k15 n2 o8 k16 k17,v2 = vG [vS o5 k10 k11,vS o6 k12 k13,vS o7 k14 k15,iI n2,vS o8 k16 k17]/\new w3 (oC [vS none 0 0,vS none 0 0,vS none 0 0,iI 0,vS none 0 0] 27) λk18 w4=>cG w4 (aM k18) [vS o5 k10 k11,vS o6 k12 k13,vS o7 k14 k15,iI n2,vS o8 k16 k17] λw5=>∃ (x1:lP [(5,aD)]),∃ (x2:lN [(5,aD)]),x1 0 w5/\∀ (I1:Nat->Value) (n3:Int) (w6:Ws),x1 n3 w6->∃ o9 k19 k20,cL w6 (aM k18) (vS o9 k19 k20)/\br (decide (n3 < (k19:Int))) (∃ o10 k21 k22,cL w6 (aM k18) (vS o10 k21 k22)/\idx o10 k21 n3 2 λa1=>st1 w6 (Addr.add a1 1) (iI 0) λw7=>aw (n3 + 1)/\x1 (n3 + 1) w7/\x2 (n3 + 1) w7 < x2 n3 w6) (∃ (x3:lP [(6,aD)]),∃ (x4:lN [(6,aD)]),x3 0 w6/\∀ (I2:Nat->Value) (n4:Int) (w8:Ws),x3 n4 w8->∃ o11 k23 k24,cL w8 (Addr.add (aM k18) 4) (vS o11 k23 k24)/\br (decide (n4 < (k23:Int))) (∃ o12 k25 k26,cL w8 (Addr.add (aM k18) 4) (vS o12 k25 k26)/\idx o12 k25 n4 3 λa2=>st1 w8 (Addr.add a2 2) (iI 0) λw9=>aw (n4 + 1)/\x3 (n4 + 1) w9/\x4 (n4 + 1) w9 < x4 n4 w8) (st1 w8 (Addr.add (aM k18) 2) (vS none 0 0) λw10=>∃ o13 k27 k28 o14 k29 k30 o15 k31 k32 n5 o16 k33 k34,rA w10 (aM k18) 5 [vS o13 k27 k28,vS o14 k29 k30,vS o15 k31 k32,iI n5,vS o16 k33 k34]/\rE 21 [vG [vS o13 k27 k28,vS o14 k29 k30,vS o15 k31 k32,iI n5,vS o16 k33 k34]] w10 λv3 w11=>∃ o17 k35 k36 n6,v3 = vU [vS o17 k35 k36,iI n6]/\∃ o18 k37 k38 o19 k39 k40 o20 k41 k42 n7 o21 k43 k44,rA w11 (aM k18) 5 [vS o18 k37 k38,vS o19 k39 k40,vS o20 k41 k42,iI n7,vS o21 k43 k44]/\rE 37 [vG [vS o18 k37 k38,vS o19 k39 k40,vS o20 k41 k42,iI n7,vS o21 k43 k44]] w11 λv4 w12=>∃ o22 k45 k46 o23 k47 k48 o24 k49 k50 n8,v4 = vU [vG [vS o22 k45 k46,vS o23 k47 k48,vS o24 k49 k50],iI n8]/\new w12 (oC [vS none 0 0,vS none 0 0,vS none 0 0] 75) λk51 w13=>cG w13 (aM k51) [vS o22 k45 k46,vS o23 k47 k48,vS o24 k49 k50] λw14=>∃ o25 k52 k53,cL w14 (Addr.add (aM k51) 2) (vS o25 k52 k53)/\rE 41 [vS o17 k35 k36,vS o25 k52 k53] w14 λv5 w15=>∃ b2,v5 = vB b2/\∃ (x5:lP [(65,pI)]),br (n6 != n8) (x5 true w15) (x5 (!b2) w15)/\∀ (I3:Nat->Value) (b3:Bool) (w16:Ws),x5 b3 w16->br b3 (R (vB false) w16) (∃ (x6:lP [(12,aD)]),∃ (x7:lN [(12,aD)]),x6 0 w16/\∀ (I4:Nat->Value) (n9:Int) (w17:Ws),x6 n9 w17->br (decide (n9 < (k35:Int))) (idx o17 k35 n9 3 λa3=>∃ n10,cL w17 a3 (iI n10)/\idx o17 k35 n9 3 λa4=>∃ n11,cL w17 (Addr.add a4 1) (iI n11)/\∀ w18,drawn w17 w18->∃ (I5:WP),I5 w18/\br (decide (n10 < 0)) (R (vB false) w18) (∃ o26 k54 k55,(∀ w19,I5 w19->cL w19 (aM k51) (vS o26 k54 k55))/\br (decide ((k54:Int)<=n10)) (R (vB false) w18) (br (decide (n11 < 0)) (R (vB false) w18) (∃ o27 k56 k57,(∀ w20,I5 w20->cL w20 (aM k51) (vS o27 k56 k57))/\idx o27 k56 n10 1 λa5=>∃ o28 k58 k59,(∀ w21,I5 w21->cL w21 a5 (vS o28 k58 k59))/\br (decide ((k58:Int)<=n11)) (R (vB false) w18) (idx o17 k35 n9 3 λa6=>∃ o29 k60 k61,(∀ w22,I5 w22->cL w22 (Addr.add a6 2) (vS o29 k60 k61))/\br ((k60:Int) == 0) (R (vB false) w18) (∃ o30 k62 k63,(∀ w23,I5 w23->cL w23 (aM k51) (vS o30 k62 k63))/\idx o30 k62 n10 1 λa7=>∃ o31 k64 k65,(∀ w24,I5 w24->cL w24 a7 (vS o31 k64 k65))/\idx o31 k64 n11 2 λa8=>∃ n12 n13,(∀ w25,I5 w25->rA w25 a8 2 [iI n12,iI n13])/\idx o17 k35 n9 3 λa9=>∃ o32 k66 k67,(∀ w26,I5 w26->cL w26 (Addr.add a9 2) (vS o32 k66 k67))/\idx o32 k66 0 2 λa10=>∃ n14 n15,(∀ w27,I5 w27->rA w27 a10 2 [iI n14,iI n15])/\∃ v6,(∀ w28,I5 w28->Sem.run Proofs.Tryz.prog (fu BinOp.neq 62 (Operand.tmp 125) (Operand.tmp 132) (vG [iI n12,iI n13]) (vG [iI n14,iI n15])) w28 = Result.ok v6 w28)/\∃ b4,v6 = vB b4/\br b4 (R (vB false) w18) (aw (n9 + 1)/\x6 (n9 + 1) w18/\x7 (n9 + 1) w18 < x7 n9 w17))))))) (∃ (x8:lP [(15,aD)]),∃ (x9:lN [(15,aD)]),x8 0 w17/\∀ (I6:Nat->Value) (n16:Int) (w29:Ws),x8 n16 w29->∃ o33 k68 k69,cL w29 (aM k51) (vS o33 k68 k69)/\br (decide (n16 < (k68:Int))) (∃ (x10:lP [(16,aD)]),∃ (x11:lN [(16,aD)]),x10 0 w29/\∀ (I7:Nat->Value) (n17:Int) (w30:Ws),x10 n17 w30->∃ o34 k70 k71,cL w30 (aM k51) (vS o34 k70 k71)/\idx o34 k70 n16 1 λa11=>∃ o35 k72 k73,cL w30 a11 (vS o35 k72 k73)/\br (decide (n17 < (k72:Int))) (∃ o36 k74 k75,cL w30 (aM k51) (vS o36 k74 k75)/\idx o36 k74 n16 1 λa12=>∃ o37 k76 k77,cL w30 a12 (vS o37 k76 k77)/\idx o37 k76 n17 2 λa13=>∃ n18,cL w30 a13 (iI n18)/\br (n18 == 4) (R (vB false) w30) (aw (n17 + 1)/\x10 (n17 + 1) w30/\x11 (n17 + 1) w30 < x11 n17 w30)) (aw (n16 + 1)/\x8 (n16 + 1) w30/\x9 (n16 + 1) w30 < x9 n16 w29)) (R (vB b1) w29)))))):ay Tryz.prog 13 [(.agg #[(.slice a b c),(.slice d e f),(.slice g i j),(.int .i64 k),(.slice l m n)])] w R:=rv Tryz.func13 jE (by kernel_rfl) h
abbrev qT:FuncId:=30
def oD:bh:={ rngs:=[],loops:=[],joins:=[],blocks:=[] }
theorem oE  {w:Ws} {R:Value->WP} (h:rE 63 [] w λv1 w1=>∃ o1 k1 k2 o2 k3 k4 o3 k5 k6 n1 o4 k7 k8,v1 = vG [vS o1 k1 k2,vS o2 k3 k4,vS o3 k5 k6,iI n1,vS o4 k7 k8]/\new w1 (oC [vS none 0 0,vS none 0 0,vS none 0 0,iI 0,vS none 0 0] 27) λk9 w2=>cG w2 (aM k9) [vS o1 k1 k2,vS o2 k3 k4,vS o3 k5 k6,iI n1,vS o4 k7 k8] λw3=>∃ o5 k10 k11 o6 k12 k13 o7 k14 k15 n2 o8 k16 k17,rA w3 (aM k9) 5 [vS o5 k10 k11,vS o6 k12 k13,vS o7 k14 k15,iI n2,vS o8 k16 k17]/\rE 31 [vG [vS o5 k10 k11,vS o6 k12 k13,vS o7 k14 k15,iI n2,vS o8 k16 k17],iI 1,iI 1] w3 λv2 w4=>∃ n3 n4,v2 = vU [iI n3,iI n4]/\∃ o9 k18 k19 o10 k20 k21 o11 k22 k23 n5 o12 k24 k25,rA w4 (aM k9) 5 [vS o9 k18 k19,vS o10 k20 k21,vS o11 k22 k23,iI n5,vS o12 k24 k25]/\new w4 (oC [iI 1,iI 6,iI 2,iI 1] 62) λk26 w5=>rE 33 [vG [vS o9 k18 k19,vS o10 k20 k21,vS o11 k22 k23,iI n5,vS o12 k24 k25],vG [iI 0,iI 2,vS (some (aM k26)) 2 2]] w5 λv3 w6=>∃ n6 n7 o13 k27 k28 n8,v3 = vU [vG [iI n6,iI n7],vS o13 k27 k28,iI n8]/\new w6 (oC [iI 0,iI 0] 62) λk29 w7=>cG w7 (aM k29) [iI n6,iI n7] λw8=>∃ o14 k30 k31 o15 k32 k33 o16 k34 k35 n9 o17 k36 k37,rA w8 (aM k9) 5 [vS o14 k30 k31,vS o15 k32 k33,vS o16 k34 k35,iI n9,vS o17 k36 k37]/\rE 37 [vG [vS o14 k30 k31,vS o15 k32 k33,vS o16 k34 k35,iI n9,vS o17 k36 k37]] w8 λv4 w9=>∃ o18 k38 k39 o19 k40 k41 o20 k42 k43 n10,v4 = vU [vG [vS o18 k38 k39,vS o19 k40 k41,vS o20 k42 k43],iI n10]/\new w9 (oC [vS none 0 0,vS none 0 0,vS none 0 0] 75) λk44 w10=>cG w10 (aM k44) [vS o18 k38 k39,vS o19 k40 k41,vS o20 k42 k43] λw11=>∃ o21 k45 k46 o22 k47 k48 o23 k49 k50 n11 o24 k51 k52,rA w11 (aM k9) 5 [vS o21 k45 k46,vS o22 k47 k48,vS o23 k49 k50,iI n11,vS o24 k51 k52]/\rE 64 [vG [vS o21 k45 k46,vS o22 k47 k48,vS o23 k49 k50,iI n11,vS o24 k51 k52]] w11 λv5 w12=>∃ s1 n12,v5 = vU [Value.string s1,iI n12]/\br (n4 == 0) (br (n8 == 0) (br (n10 == 0) (br (n12 == 0) (br (n3 == 2) (∃ n13,cL w12 (aM k29) (iI n13)/\br (n13 == 1) (∃ n14,cL w12 (Addr.add (aM k29) 1) (iI n14)/\br (n14 == 6) (br ((k27:Int) == 2) (∃ o25 k53 k54,cL w12 (aM k44) (vS o25 k53 k54)/\br ((k53:Int) == 5) (∃ o26 k55 k56,cL w12 (Addr.add (aM k44) 2) (vS o26 k55 k56)/\br ((k55:Int) == 0) (R (vB (ByteArray.toList s1 == ByteArray.toList (ByteArray.mk (Array.mk [])))) w12) (R (vB false) w12)) (R (vB false) w12)) (R (vB false) w12)) (R (vB false) w12)) (R (vB false) w12)) (R (vB false) w12)) (R (vB false) w12)) (R (vB false) w12)) (R (vB false) w12)) (R (vB false) w12)):ay Tryz.prog 30 [] w R:=rv Tryz.func30 oD (by kernel_rfl) h
abbrev qU:FuncId:=40
def oF:bh:={ rngs:=[],loops:=[(2,[(5,(.one (.int .i64)))])],joins:=[],blocks:=[] }
theorem oG {a:Wr} {b c:Nat} {d e:Int} {w:Ws} {R:Value->WP} (h:new w (oC [iI d,iI e] 62) λk1 w1=>∃ (x1:lP [(5,aD)]),∃ (x2:lN [(5,aD)]),x1 0 w1/\∀ (I1:Nat->Value) (n1:Int) (w2:Ws),x1 n1 w2->br (decide (n1 < (b:Int))) (∀ w3,drawn w2 w3->∃ (I2:WP),I2 w3/\idx a b n1 2 λa1=>∃ n2 n3,(∀ w4,I2 w4->rA w4 a1 2 [iI n2,iI n3])/\∃ n4 n5,(∀ w5,I2 w5->rA w5 (aM k1) 2 [iI n4,iI n5])/\∃ v1,(∀ w6,I2 w6->Sem.run Proofs.Tryz.prog (fu BinOp.eql 62 (Operand.tmp 15) (Operand.tmp 16) (vG [iI n2,iI n3]) (vG [iI n4,iI n5])) w6 = Result.ok v1 w6)/\∃ b1,v1 = vB b1/\br b1 (R (vB true) w3) (aw (n1 + 1)/\x1 (n1 + 1) w3/\x2 (n1 + 1) w3 < x2 n1 w2)) (R (vB false) w2)):ay Tryz.prog 40 [(.slice a b c),(.agg #[(.int .i64 d),(.int .i64 e)])] w R:=rv Tryz.func40 oF (by kernel_rfl) h
abbrev qV:FuncId:=63
def oH:bh:={ rngs:=[],loops:=[],joins:=[],blocks:=[] }
theorem oI  {w:Ws} {R:Value->WP} (h:new w (oC [vS none 0 0,vS none 0 0,vS none 0 0,iI 0,vS none 0 0] 27) λk1 w1=>new w1 (oC [Value.string (ByteArray.mk (Array.mk [])),iI 0,Value.string (ByteArray.mk (Array.mk [43])),iI 1,Value.string (ByteArray.mk (Array.mk [110])),iI 0] 83) λk2 w2=>new w2 (oC [Value.string (ByteArray.mk (Array.mk [])),Value.string (ByteArray.mk (Array.mk [101]))] 9) λk3 w3=>new w3 (oC [iI 1] 3) λk4 w4=>new w4 (oC [iI 4] 3) λk5 w5=>new w5 (oC [iI 4,iI 1,iI 4] 3) λk6 w6=>new w6 (oC [iI 2] 3) λk7 w7=>new w7 (oC [iI 3,vS (some (aM k5)) 1 1,iI 0,iI 4,vS (some (aM k6)) 3 3,iI 1,iI 4,vS (some (aM k7)) 1 1,iI 0] 81) λk8 w8=>cG w8 (aM k1) [vS (some (aM k2)) 3 3,vS (some (aM k3)) 2 2,vS (some (aM k4)) 1 1,iI 4,vS (some (aM k8)) 3 3] λw9=>∃ o1 k9 k10 o2 k11 k12 o3 k13 k14 n1 o4 k15 k16,rA w9 (aM k1) 5 [vS o1 k9 k10,vS o2 k11 k12,vS o3 k13 k14,iI n1,vS o4 k15 k16]/\R (vG [vS o1 k9 k10,vS o2 k11 k12,vS o3 k13 k14,iI n1,vS o4 k15 k16]) w9):ay Tryz.prog 63 [] w R:=rv Tryz.func63 oH (by kernel_rfl) h
end Go.Proofs.YtndaepmjkbmjmaaGreatDoor
namespace Go.V
def nM:ae:=⟨[⟨⟨⟨[]⟩⟩,0⟩,⟨⟨⟨[43]⟩⟩,1⟩,⟨⟨⟨[110]⟩⟩,0⟩],[⟨⟨[]⟩⟩,⟨⟨[101]⟩⟩],[1],4,[⟨3,[4],0⟩,⟨4,[4,1,4],1⟩,⟨4,[2],0⟩]⟩
theorem xO:aq nM:=by
 refine ⟨rfl,⟨rfl,by decide,by decide,by decide,by decide,?_,?_,?_,?_,?_⟩,⟨by decide,by decide,?_,by decide,by decide,by decide⟩,⟨3,[4],0⟩,rfl,rfl,rfl,rfl⟩
 ·decide
 ·intro i v h
  match i,h with
  | 0,h=>cases h; exact ⟨by decide,by decide,⟨⟨⟨[43]⟩⟩,1⟩,by simp [nM],rfl⟩
  | i + 1,h=>cases h
 ·decide
 ·decide
 ·decide
 ·intro p hp
  simp only [List.drop_succ_cons,List.drop_zero,nM,UR,List.not_mem_nil,or_false] at hp
  unfold my fH
  rcases hp with rfl | rfl
  ·refine ⟨by decide,?_⟩
   intro s hs; simp at hs
   rcases hs with rfl | rfl | rfl <;> decide
  ·refine ⟨by decide,?_⟩
   intro s hs; simp at hs; subst hs; decide
theorem J2:iK nM:=by
 refine ⟨by decide,by decide,by decide,by decide,?_,by decide,by decide⟩
 intro t ht
 simp only [nM,UR,List.not_mem_nil,or_false] at ht
 unfold anyI
 rcases ht with rfl | rfl | rfl <;> decide
theorem Ol:(dI nM 5).1.length = 5/\∀ i,i < 5->i < (dI nM i).1.length:=by decide +kernel
theorem J3:FA nM 5:=⟨Ol.1,by decide,Ol.2⟩
def G0:List SQ:=((dI nM 5).1.zip (dI nM 5).2).map λp=>(((none,0),p.1),((none,0),p.2))
def Qm:List Bool:=[false,false]
theorem Si:uf nM Qm:=by
 have key:∀ s,Nf nM s->False:=λs h=>by
  induction h with
  | mk p hp _ ih =>
   simp only [nM,UR,List.not_mem_nil,or_false] at hp
   rcases hp with rfl | rfl | rfl
   ·exact ih 4 (by simp)
   ·exact ih 4 (by simp)
   ·exact ih 2 (by simp)
 refine ⟨rfl,λi=>⟨λh=>?_,λh=>(key _ h).elim⟩⟩
 match i with
 | 0=>cases h
 | 1=>cases h
 | i + 2=>simp [cj,Qm] at h
def TY:List (List Int):=[[0,1],[1]]
def TZ:List (List Int):=[[0,1],[0,1]]
def T0:List eI:=(oh nM G0).map (NN nM TZ)
def Tw (q t:Nat):List ax:=JO G0 q t ++ K5 G0 q t ++ Gs T0 q t
theorem uB:Qd (Ax nM Qm G0) (BO nM G0) TY 5 = true/\Qd (yN nM Qm G0) TY TZ 5 = true/\(Oa Tw 5 3 1).flatMap (yh nM) = []/\bu nM 1 1 = 2/\aZ nM 2 [⟨1,6⟩,⟨2,1⟩] = ([⟨1,6⟩,⟨2,1⟩],false)/\G0.length = 5:=by decide +kernel
theorem T1:OO nM Qm G0 = TY:=(JN uB.1).symm
theorem T2:JI nM Qm G0 = TZ:=by
 unfold JI
 rw [T1]
 exact (JN uB.2.1).symm
theorem T3:cf nM Qm G0 = T0:=by
 unfold cf T0
 rw [T2]
 exact VO λb _=>NO _ _ _
theorem T4 (q t:Nat):bf nM Qm G0 q t = Tw q t:=by unfold bf Tw; rw [T3]
theorem T5 (least:Nat):bR nM Qm G0 least = Oa Tw 5 3 least:=by
 unfold bR dJ fk cellAt Oa
 rw [uB.2.2.2.2.2]
 simp only [T4]
 rfl
theorem Ip {ss:List SQ} {a i f:Int} (h:rK nM ss a i f):f = 0/\bm ss = bm G0/\ss.map (·.1.2) = G0.map (·.1.2):=by
 rcases h with ⟨hn,_⟩ | ⟨_,hbig,_⟩ | ⟨_,hA,_,_,rfl⟩
 ·exact absurd xO hn
 ·exact (Af J3 hbig).elim
 ·have e5:=FB hA.dn J3
  have hl:(dI nM 5).1.length = (dI nM 5).2.length:=by decide +kernel
  refine ⟨rfl,?_,?_⟩
  ·rw [hA.es,e5]
   unfold G0 bm
   rw [V_]
   show _ = ((dI nM 5).1.zip (dI nM 5).2).map Prod.snd
   rw [List.map_snd_zip (by omega)]
  ·show dg ss = _
   rw [hA.ks,e5]
   unfold G0
   rw [V_]
   show _ = ((dI nM 5).1.zip (dI nM 5).2).map Prod.fst
   rw [List.map_fst_zip (by omega)]
theorem Om {ss:List SQ} {nn:List Bool} {a i f:Int} (h:rK nM ss a i f) (hn:uf nM nn):lU nM nn ss = []:=by
 obtain ⟨_,h1,h2⟩:=Ip h
 rw [hn.inj Si,Ql h1 h2]
 unfold lU
 rw [T5]
 exact uB.2.2.1
end Go.V
namespace Go.Proofs.YtndaepmjkbmjmaaGreatDoor
variable {w:Ws} {L:List au} {g:ae} {x:GA}
theorem Le {k:Nat} {p:Value} (r:av (hp w) (aM k) [p,.slice none 0 0]):ay Tryz.prog mG [.pointer (some (aM k))] w λv w'=>v = .string .empty/\Gr w w':=by
 refine lu λw1 hd=>?_
 have g1:Gr w w1:=Gr.drawn hd
 have c1:w1.cell? ((aM k).add 1) = some (.slice none 0 0):=r.cell g1 (j:=1) rfl
 refine ⟨λu=>w1 = u,rfl,?_⟩
 show ∃ o1 k1 k2,_
 refine ⟨none,0,0,by rintro _ rfl; exact c1,?_⟩
 show ∃ o2 k3 k4,_
 refine ⟨none,0,0,by rintro _ rfl; exact c1,⟨_,w1,Lib.run_unsafeSliceData_nil _ _ _ 0 0,Ev.refl _,none,rfl,rfl,⟨_,w1,Lib.run_unsafeString_none _ _ _ _ none,Ev.refl _,.empty,rfl,rfl,rfl,g1⟩⟩⟩
theorem Lf (hg:gR (hp w) g x) (hb:iK g) (ht:dG (hp w)) (hz:∀ ss ask int nn,rK g ss ask int 0->uf g nn->lU g nn ss = []):ay Tryz.prog xH [.agg ⟨x.cells⟩] w λv w'=>∃ f:Int,v = .tuple #[.string .empty,.int .i64 f]/\(∃ ss a i,rK g ss a i f)/\Gr w w':=by
 refine uA (cQ hg λk1 w1 gw hg1 B=>?_)
 refine ⟨_,_,_,_,_,_,_,_,_,_,_,_,_,B.row (sub.refl _),(A_ hg1 hb (fp.mono gw ht)).mono ?_⟩
 rintro _ w2 ⟨ss,ask,int,f,nn,oa,ca,og,cg,oc,cc,AL,GL,CL,rfl,hR,hn,_,_,hCL,h⟩
 have g12:Gr w1 w2:=bj 6 h.l
 clear h
 refine ⟨_,_,_,_,_,_,_,_,_,_,rfl,af (St.all w2) λk16 w3 h=>aI h rfl (by simp [aH]) λw4 h=>?_⟩
 have g24:Gr w2 w4:=h.aR
 have r16:av (hp w4) (aM k16) [.slice oa AL.length ca,.slice og GL.length cg,.slice oc CL.length cc]:=ag 0 h.l
 clear h
 have g14:=g12.trans g24
 refine aa (λh1=>⟨f,rfl,⟨ss,ask,int,hR⟩,gw.trans g14⟩) λh1=>?_
 have h1:f = 0:=by simpa using h1
 subst h1
 have hC0:CL = []:=by
  have e:=congrArg List.length hCL
  rw [hz ss ask int nn hR (hn rfl),UH] at e
  exact UL e
 subst hC0
 refine ⟨_,_,_,_,_,_,_,_,_,_,_,_,_,B.row g14,(nA (hg1.mono g14) hb).mono ?_⟩
 rintro _ w5 ⟨oA,cA,ss2,ask2,int2,f2,rfl,hR2,h5⟩
 have g45:Gr w4 w5:=bj 3 h5.l
 clear h5
 refine ⟨_,_,_,_,_,_,rfl,af (St.all w5) λk27 w6 h6=>aI h6 rfl (by simp [aH]) λw7 h7=>af h7 λk28 w8 h8=>?_⟩
 have g58:Gr w5 w8:=bj 2 h8.l
 have r28:av (hp w8) (aM k28) [.pointer none,.slice none 0 0]:=ag 0 h8.l
 clear h6 h7 h8
 have g48:=g45.trans g58
 refine ⟨_,_,_,r16.cell g48 (j:=2) rfl,λz u=>z = 0/\w8 = u,λ_ _=>0,⟨rfl,rfl⟩,?_⟩
 rintro _ _ _ ⟨rfl,rfl⟩
 refine dZ rfl ((Le r28).mono ?_)
 rintro _ w9 ⟨rfl,g9⟩
 exact ⟨_,rfl,0,rfl,⟨ss,ask,int,hR⟩,gw.trans (g14.trans (g48.trans g9))⟩
theorem Lg:ay Tryz.prog qV [] w λv w'=>∃ x:GA,v = .agg ⟨x.cells⟩/\gR (hp w') nM x/\Gr w w':=by
 refine oI ?_
 refine af (St.all w) λk1 w1 h=>af h λk2 w2 h=>af h λk3 w3 h=>af h λk4 w4 h=>af h λk5 w5 h=>af h λk6 w6 h=>af h λk7 w7 h=>af h λk8 w8 h=>aI (h.pick 8 [7,0,1,2,3,4,5,6]) rfl (by intro v hv; simp at hv; rcases hv with rfl | rfl | rfl | rfl | rfl <;> rfl) λw9 h=>?_
 have r1:av (hp w9) ⟨k1,0,none⟩ _:=ag 0 h.l
 have r8:av (hp w9) ⟨k8,0,none⟩ _:=ag 1 h.l
 have r7:av (hp w9) ⟨k7,0,none⟩ _:=ag 2 h.l
 have r6:av (hp w9) ⟨k6,0,none⟩ _:=ag 3 h.l
 have r5:av (hp w9) ⟨k5,0,none⟩ _:=ag 4 h.l
 have r4:av (hp w9) ⟨k4,0,none⟩ _:=ag 5 h.l
 have r3:av (hp w9) ⟨k3,0,none⟩ _:=ag 6 h.l
 have r2:av (hp w9) ⟨k2,0,none⟩ _:=ag 7 h.l
 have g9:Gr w w9:=bj 8 h.l
 clear h
 have p5:aX (hp w9) ([4] : List Int) (some ⟨k5,0,none⟩) 1:=dO rfl (.inr ⟨_,rfl,r5⟩)
 have p6:aX (hp w9) ([4,1,4] : List Int) (some ⟨k6,0,none⟩) 3:=dO rfl (.inr ⟨_,rfl,r6⟩)
 have p7:aX (hp w9) ([2] : List Int) (some ⟨k7,0,none⟩) 1:=dO rfl (.inr ⟨_,rfl,r7⟩)
 refine ⟨_,_,_,_,_,_,_,_,_,_,_,_,_,r1.at (sub.refl _) rfl,⟨some ⟨k2,0,none⟩,3,3,some ⟨k3,0,none⟩,2,2,some ⟨k4,0,none⟩,1,1,4,some ⟨k8,0,none⟩,3,3⟩,rfl,⟨?_,?_,?_,rfl,?_,US _,US _,US _,US _⟩,g9⟩
 ·refine FR (xs:=nM.terms) r2 λi t hi=>?_
  match i,hi with
  | 0,hi=>cases hi; rfl
  | 1,hi=>cases hi; rfl
  | 2,hi=>cases hi; rfl
  | i + 3,hi=>cases hi
 ·exact dN (xs:=nM.nons) rfl (.inr ⟨_,rfl,r3⟩)
 ·exact dN (xs:=nM.levels) rfl (.inr ⟨_,rfl,r4⟩)
 ·refine FR (xs:=nM.prods) r8 λi t hi=>?_
  match i,hi with
  | 0,hi=>cases hi; exact ⟨_,_,_,rfl,by decide,p5⟩
  | 1,hi=>cases hi; exact ⟨_,_,_,rfl,by decide,p6⟩
  | 2,hi=>cases hi; exact ⟨_,_,_,rfl,by decide,p7⟩
  | i + 3,hi=>cases hi
theorem rX (ht:dG (hp w)):ay Tryz.prog qT [] w λv w'=>v = .bool true/\Gr w w':=by
 refine oE (Lg.mono ?_)
 rintro _ w1 ⟨y,rfl,hy,g1⟩
 refine ⟨_,_,_,_,_,_,_,_,_,_,_,_,_,rfl,af (St.all w1) λk9 w2 h=>aI h rfl (by intro v hv; simp at hv; rcases hv with rfl | rfl | rfl | rfl | rfl <;> rfl) λw3 h=>?_⟩
 have g13:Gr w1 w3:=h.aR
 have B:GB (hp w3) k9 y:=Ja (ag 0 h.l)
 clear h
 have hy:=hy.mono g13
 have gw3:=g1.trans g13
 refine ⟨_,_,_,_,_,_,_,_,_,_,_,_,_,B.row (sub.refl _),(Im (p:=1) (t:=1) hy J2).mono ?_⟩
 rintro _ w4 ⟨z,f,rfl,hS,g34⟩
 obtain ⟨rfl,rfl⟩ : z = 2/\f = 0:=by
  rcases hS with ⟨h,_⟩ | ⟨_,i,j,hi,hj,_,_,rfl,rfl⟩
  ·exact absurd ⟨xO,by decide,by decide,by decide,by decide⟩ h
  ·obtain rfl:i = 1:=by omega
   obtain rfl:j = 1:=by omega
   exact ⟨uB.2.2.2.1,rfl⟩
 refine ⟨_,_,rfl,_,_,_,_,_,_,_,_,_,_,_,_,_,B.row g34,af (St.all w4) λk26 w5 h=>?_⟩
 have g45:Gr w4 w5:=h.aR
 have hr:aX (hp w5) ([⟨1,6⟩,⟨2,1⟩] : List ax) (some (aM k26)) 2:=kv rfl (.inr ⟨_,rfl,ag 0 h.l⟩)
 clear h
 have g35:=g34.trans g45
 refine (Oe (xs:=[⟨1,6⟩,⟨2,1⟩]) (st:=0) (t:=2) (hy.mono g35) J2 hr (by decide) (by decide)).mono ?_
 rintro _ w6 ⟨ac,l,e,o,c',rfl,hC,h6⟩
 have g56:Gr w5 w6:=bj 1 h6.l
 clear h6
 obtain ⟨rfl,rfl,rfl⟩ : ac = ⟨1,6⟩/\l = [⟨1,6⟩,⟨2,1⟩]/\e = 0:=by
  rcases hC with ⟨h,_⟩ | ⟨_,_,j,hj,_,rfl,rfl,rfl⟩
  ·exact absurd ⟨xO,by decide,by decide,by decide⟩ h
  ·obtain rfl:j = 2:=by omega
   rw [uB.2.2.2.2.1]
   exact ⟨rfl,rfl,rfl⟩
 refine ⟨_,_,_,_,_,_,rfl,af (St.all w6) λk29 w7 h=>aI h rfl (by simp [aH]) λw8 h=>?_⟩
 have g68:Gr w6 w8:=h.aR
 have r29:av (hp w8) (aM k29) [.int .i64 1,.int .i64 6]:=ag 0 h.l
 clear h
 have g38:=g35.trans (g56.trans g68)
 refine ⟨_,_,_,_,_,_,_,_,_,_,_,_,_,B.row g38,(A_ (hy.mono g38) J2 (fp.mono (gw3.trans g38) ht)).mono ?_⟩
 rintro _ w9 ⟨ss,ask,int,f,nn,oa,ca,og,cg,oc,cc,AL,GL,CL,rfl,hR,hn,hAL,_,hCL,h⟩
 have g89:Gr w8 w9:=bj 6 h.l
 clear h
 obtain ⟨rfl,hes,hks⟩:=Ip hR
 have hC0:CL = []:=by
  have e:=congrArg List.length hCL
  rw [Om hR (hn rfl),UH] at e
  exact UL e
 subst hC0
 have hAl:AL.length = 5:=by
  have e:=congrArg List.length hAL
  rw [UH] at e
  rw [e]
  unfold Eo
  rw [UH,Vw,Ar hes,uB.2.2.2.2.2]
 refine ⟨_,_,_,_,_,_,_,_,_,_,rfl,af (St.all w9) λk44 w10 h=>aI h rfl (by simp [aH]) λw11 h=>?_⟩
 have g911:Gr w9 w11:=h.aR
 have r44:av (hp w11) (aM k44) [.slice oa AL.length ca,.slice og GL.length cg,.slice oc 0 cc]:=ag 0 h.l
 clear h
 have g311:=g38.trans (g89.trans g911)
 refine ⟨_,_,_,_,_,_,_,_,_,_,_,_,_,B.row g311,(Lf (hy.mono g311) J2 (fp.mono (gw3.trans g311) ht) λss ask int nn h h'=>Om h h').mono ?_⟩
 rintro _ w12 ⟨f,rfl,⟨ss3,a3,i3,hR3⟩,g12⟩
 obtain ⟨rfl,_,_⟩:=Ip hR3
 have g812:Gr w8 w12:=g89.trans (g911.trans g12)
 refine ⟨_,_,rfl,fb rfl (fb rfl (fb rfl (fb rfl (fb rfl ⟨_,r29.cell0 g812,fb rfl ⟨_,r29.cell g812 (j:=1) rfl,fb rfl (fb rfl ⟨_,_,_,r44.cell0 g12,fb (by rw [hAl]; rfl) ⟨_,_,_,r44.cell g12 (j:=2) rfl,fb rfl ⟨by rw [ve]; rfl,gw3.trans (g311.trans g12)⟩⟩⟩)⟩⟩))))⟩
abbrev tf:FuncId:=34
def pA:bh:={ rngs:=[],loops:=[],joins:=[(3,[(28,(.one .bool))])],blocks:=[] }
theorem pB {a:Wr} {b c:Nat} {d:Wr} {e f:Nat} {g:Wr} {i j:Nat} {k:Int} {l:Wr} {m n:Nat} {o p:Int} {q:Wr} {s t:Nat} {w:Ws} {R:Value->WP} (h:new w (oC [vS a b c,vS d e f,vS g i j,iI k,vS l m n] 27) λk1 w1=>new w1 (oC [iI o,iI p,vS q s t] 60) λk2 w2=>new w2 (oC [iI 0,iI 0] 62) λk3 w3=>∃ o1 k4 k5 o2 k6 k7 o3 k8 k9 n1 o4 k10 k11,rA w3 (aM k1) 5 [vS o1 k4 k5,vS o2 k6 k7,vS o3 k8 k9,iI n1,vS o4 k10 k11]/\rE 39 [vG [vS o1 k4 k5,vS o2 k6 k7,vS o3 k8 k9,iI n1,vS o4 k10 k11]] w3 λv1 w4=>∃ b1,v1 = vB b1/\∃ (x1:lP [(28,pI)]),br (!b1) (x1 true w4) (∃ n2,cL w4 (Addr.add (aM k2) 1) (iI n2)/\br (decide (n2 < 0)) (x1 true w4) (∃ n3,cL w4 (Addr.add (aM k2) 1) (iI n3)/\∃ o5 k12 k13,cL w4 (aM k1) (vS o5 k12 k13)/\x1 (decide ((k12:Int)<=n3)) w4))/\∀ (I1:Nat->Value) (b2:Bool) (w5:Ws),x1 b2 w5->br b2 (cG w5 (aM k3) [iI 0,iI 0] λw6=>∃ n4 n5,rA w6 (aM k3) 2 [iI n4,iI n5]/\R (vU [vG [iI n4,iI n5],vS none 0 0,iI 1]) w6) (∃ o6 k14 k15 o7 k16 k17 o8 k18 k19 n6 o9 k20 k21,rA w5 (aM k1) 5 [vS o6 k14 k15,vS o7 k16 k17,vS o8 k18 k19,iI n6,vS o9 k20 k21]/\∃ o10 k22 k23,cL w5 (Addr.add (aM k2) 2) (vS o10 k22 k23)/\rE 69 [vG [vS o6 k14 k15,vS o7 k16 k17,vS o8 k18 k19,iI n6,vS o9 k20 k21],vS o10 k22 k23] w5 λv2 w7=>∃ b3,v2 = vB b3/\br (!b3) (cG w7 (aM k3) [iI 0,iI 0] λw8=>∃ n7 n8,rA w8 (aM k3) 2 [iI n7,iI n8]/\R (vU [vG [iI n7,iI n8],vS none 0 0,iI 1]) w8) (∃ o11 k24 k25 o12 k26 k27 o13 k28 k29 n9 o14 k30 k31,rA w7 (aM k1) 5 [vS o11 k24 k25,vS o12 k26 k27,vS o13 k28 k29,iI n9,vS o14 k30 k31]/\∃ n10,cL w7 (Addr.add (aM k2) 1) (iI n10)/\∃ o15 k32 k33,cL w7 (Addr.add (aM k2) 2) (vS o15 k32 k33)/\rE 70 [vG [vS o11 k24 k25,vS o12 k26 k27,vS o13 k28 k29,iI n9,vS o14 k30 k31],iI n10,vS o15 k32 k33] w7 λv3 w9=>∃ o16 k34 k35 b4,v3 = vU [vS o16 k34 k35,vB b4]/\rE 71 [vS o16 k34 k35,vB b4] w9 λv4 w10=>∃ n11 n12,v4 = vG [iI n11,iI n12]/\new w10 (oC [iI 0,iI 0] 62) λk36 w11=>cG w11 (aM k36) [iI n11,iI n12] λw12=>br (decide ((k34:Int) < 2)) (∃ n13 n14,rA w12 (aM k36) 2 [iI n13,iI n14]/\cG w12 (aM k3) [iI n13,iI n14] λw13=>∃ n15 n16,rA w13 (aM k3) 2 [iI n15,iI n16]/\R (vU [vG [iI n15,iI n16],vS none 0 0,iI 0]) w13) (∃ n17 n18,rA w12 (aM k36) 2 [iI n17,iI n18]/\cG w12 (aM k3) [iI n17,iI n18] λw14=>∃ n19 n20,rA w14 (aM k3) 2 [iI n19,iI n20]/\R (vU [vG [iI n19,iI n20],vS o16 k34 k35,iI 0]) w14)))):ay Tryz.prog 34 [(.agg #[(.slice a b c),(.slice d e f),(.slice g i j),(.int .i64 k),(.slice l m n)]),(.agg #[(.int .i64 o),(.int .i64 p),(.slice q s t)])] w R:=rv Tryz.func34 pA (by kernel_rfl) h
abbrev lx:FuncId:=35
def jR:bh:={ rngs:=[],loops:=[(4,[(5,(.one (.int .i64)))])],joins:=[],blocks:=[] }
theorem jS {a:Wr} {b c:Nat} {d:Wr} {e f:Nat} {w:Ws} {R:Value->WP} (h:br ((b:Int) != (e:Int)) (R (vB false) w) (∃ (x1:lP [(5,aD)]),∃ (x2:lN [(5,aD)]),x1 0 w/\∀ (I1:Nat->Value) (n1:Int) (w1:Ws),x1 n1 w1->br (decide (n1 < (b:Int))) (∀ w2,drawn w1 w2->∃ (I2:WP),I2 w2/\idx a b n1 2 λa1=>∃ n2 n3,(∀ w3,I2 w3->rA w3 a1 2 [iI n2,iI n3])/\idx d e n1 2 λa2=>∃ n4 n5,(∀ w4,I2 w4->rA w4 a2 2 [iI n4,iI n5])/\∃ v1,(∀ w5,I2 w5->Sem.run Proofs.Tryz.prog (fu BinOp.neq 62 (Operand.tmp 20) (Operand.tmp 24) (vG [iI n2,iI n3]) (vG [iI n4,iI n5])) w5 = Result.ok v1 w5)/\∃ b1,v1 = vB b1/\br b1 (R (vB false) w2) (aw (n1 + 1)/\x1 (n1 + 1) w2/\x2 (n1 + 1) w2 < x2 n1 w1)) (R (vB true) w1))):ay Tryz.prog 35 [(.slice a b c),(.slice d e f)] w R:=rv Tryz.func35 jR (by kernel_rfl) h
abbrev mH:FuncId:=41
def ly:bh:={ rngs:=[],loops:=[(4,[(5,(.one (.int .i64)))])],joins:=[],blocks:=[] }
theorem lz {a:Wr} {b c:Nat} {d:Wr} {e f:Nat} {w:Ws} {R:Value->WP} (h:br ((b:Int) != (e:Int)) (R (vB false) w) (∃ (x1:lP [(5,aD)]),∃ (x2:lN [(5,aD)]),x1 0 w/\∀ (I1:Nat->Value) (n1:Int) (w1:Ws),x1 n1 w1->br (decide (n1 < (b:Int))) (∀ w2,drawn w1 w2->∃ (I2:WP),I2 w2/\idx a b n1 3 λa1=>∃ o1 k1 k2,(∀ w3,I2 w3->cL w3 (Addr.add a1 2) (vS o1 k1 k2))/\idx d e n1 3 λa2=>∃ o2 k3 k4,(∀ w4,I2 w4->cL w4 (Addr.add a2 2) (vS o2 k3 k4))/\rE 35 [vS o1 k1 k2,vS o2 k3 k4] w2 λv1 w5=>∃ b1,v1 = vB b1/\I2 w5/\∀ w6,drawn w5 w6->∃ (I3:WP),I3 w6/\br (!b1) (R (vB false) w6) (idx a b n1 3 λa3=>∃ n2,(∀ w7,I3 w7->cL w7 a3 (iI n2))/\idx d e n1 3 λa4=>∃ n3,(∀ w8,I3 w8->cL w8 a4 (iI n3))/\br (n2 != n3) (R (vB false) w6) (idx a b n1 3 λa5=>∃ n4,(∀ w9,I3 w9->cL w9 (Addr.add a5 1) (iI n4))/\idx d e n1 3 λa6=>∃ n5,(∀ w10,I3 w10->cL w10 (Addr.add a6 1) (iI n5))/\br (n4 != n5) (R (vB false) w6) (aw (n1 + 1)/\x1 (n1 + 1) w6/\x2 (n1 + 1) w6 < x2 n1 w1)))) (R (vB true) w1))):ay Tryz.prog 41 [(.slice a b c),(.slice d e f)] w R:=rv Tryz.func41 ly (by kernel_rfl) h
abbrev tg:FuncId:=66
def pC:bh:={ rngs:=[],loops:=[],joins:=[],blocks:=[] }
theorem pD {a:Wr} {b c:Nat} {d:Wr} {e f:Nat} {g:Wr} {i j:Nat} {k:Int} {l:Wr} {m n:Nat} {o p:Int} {w:Ws} {R:Value->WP} (h:new w (oC [vS a b c,vS d e f,vS g i j,iI k,vS l m n] 27) λk1 w1=>∃ o1 k2 k3,cL w1 (Addr.add (aM k1) 4) (vS o1 k2 k3)/\idx o1 k2 o 3 λa1=>∃ n1,cL w1 (Addr.add a1 2) (iI n1)/\∃ o2 k4 k5,cL w1 (aM k1) (vS o2 k4 k5)/\idx o2 k4 p 2 λa2=>∃ n2,cL w1 (Addr.add a2 1) (iI n2)/\br (n1 == 0) (R (iI 0) w1) (br (n2 == 0) (R (iI 0) w1) (br (decide (n2 < n1)) (R (iI 2) w1) (br (decide (n1 < n2)) (R (iI 1) w1) (∃ o3 k6 k7,cL w1 (Addr.add (aM k1) 2) (vS o3 k6 k7)/\aw (n1 - 1)/\idx o3 k6 (n1 - 1) 1 λa3=>∃ n3,cL w1 a3 (iI n3)/\br (n3 == 1) (R (iI 2) w1) (br (n3 == 2) (R (iI 1) w1) (R (iI 3) w1))))))):ay Tryz.prog 66 [(.agg #[(.slice a b c),(.slice d e f),(.slice g i j),(.int .i64 k),(.slice l m n)]),(.int .i64 o),(.int .i64 p)] w R:=rv Tryz.func66 pC (by kernel_rfl) h
abbrev th:FuncId:=70
def pE:bh:={ rngs:=[],loops:=[(6,[(10,(.one .bool)),(11,(.one .bool)),(12,(.one (.int .i64)))]),(13,[(8,(.one .slice)),(14,(.one (.int .i64)))])],joins:=[(3,[(9,(.one .bool))]),(18,[(15,(.one .bool))]),(21,[(15,(.one .bool))])],blocks:=[] }
theorem pF {a:Wr} {b c:Nat} {d:Wr} {e f:Nat} {g:Wr} {i j:Nat} {k:Int} {l:Wr} {m n:Nat} {o:Int} {p:Wr} {q s:Nat} {w:Ws} {R:Value->WP} (h:new w (oC [vS a b c,vS d e f,vS g i j,iI k,vS l m n] 27) λk1 w1=>∃ (x1:lP [(9,pI)]),br (decide (0 < (q:Int))) (idx p q 0 2 λa1=>∃ n1,cL w1 a1 (iI n1)/\x1 (n1 == 1) w1) (x1 false w1)/\∀ (I1:Nat->Value) (b1:Bool) (w2:Ws),x1 b1 w2->∃ (x2:lP [(10,pI),(11,pI),(12,aD)]),∃ (x3:lN [(10,pI),(11,pI),(12,aD)]),x2 true false 0 w2/\∀ (I2:Nat->Value) (b2 b3:Bool) (n2:Int) (w3:Ws),x2 b2 b3 n2 w3->br (decide (n2 < (q:Int))) (idx p q n2 2 λa2=>∃ n3,cL w3 a2 (iI n3)/\br (n3 != 2) (aw (n2 + 1)/\x2 b2 b3 (n2 + 1) w3/\x3 b2 b3 (n2 + 1) w3 < x3 b2 b3 n2 w3) (br (!b1) (aw (n2 + 1)/\x2 b2 b3 (n2 + 1) w3/\x3 b2 b3 (n2 + 1) w3 < x3 b2 b3 n2 w3) (∀ w4,drawn w3 w4->∃ (I3:WP),I3 w4/\∃ o1 k2 k3 o2 k4 k5 o3 k6 k7 n4 o4 k8 k9,(∀ w5,I3 w5->rA w5 (aM k1) 5 [vS o1 k2 k3,vS o2 k4 k5,vS o3 k6 k7,iI n4,vS o4 k8 k9])/\idx p q n2 2 λa3=>∃ n5,(∀ w6,I3 w6->cL w6 (Addr.add a3 1) (iI n5))/\rE 66 [vG [vS o1 k2 k3,vS o2 k4 k5,vS o3 k6 k7,iI n4,vS o4 k8 k9],iI n5,iI o] w4 λv1 w7=>∃ n6,v1 = iI n6/\I3 w7/\br b2 (br (n6 != 2) (br b3 (aw (n2 + 1)/\x2 (n6 != 3) true (n2 + 1) w7/\x3 (n6 != 3) true (n2 + 1) w7 < x3 b2 b3 n2 w3) (aw (n2 + 1)/\x2 (n6 != 3) (n6 == 3) (n2 + 1) w7/\x3 (n6 != 3) (n6 == 3) (n2 + 1) w7 < x3 b2 b3 n2 w3)) (br b3 (aw (n2 + 1)/\x2 false true (n2 + 1) w7/\x3 false true (n2 + 1) w7 < x3 b2 b3 n2 w3) (aw (n2 + 1)/\x2 false (n6 == 3) (n2 + 1) w7/\x3 false (n6 == 3) (n2 + 1) w7 < x3 b2 b3 n2 w3))) (br b3 (aw (n2 + 1)/\x2 false true (n2 + 1) w7/\x3 false true (n2 + 1) w7 < x3 b2 b3 n2 w3) (aw (n2 + 1)/\x2 false (n6 == 3) (n2 + 1) w7/\x3 false (n6 == 3) (n2 + 1) w7 < x3 b2 b3 n2 w3))))) (∃ (x4:lP [(8,mL),(14,aD)]),∃ (x5:lN [(8,mL),(14,aD)]),x4 none 0 0 0 w3/\∀ (I4:Nat->Value) (o5:Wr) (k10 k11:Nat) (n7:Int) (w8:Ws),x4 o5 k10 k11 n7 w8->br (decide (n7 < (q:Int))) (∃ (x6:lP [(15,pI)]),(idx p q n7 2 λa4=>∃ n8,cL w8 a4 (iI n8)/\br (n8 == 1) (x6 b2 w8) (x6 true w8))/\∀ (I5:Nat->Value) (b4:Bool) (w9:Ws),x6 b4 w9->∃ (x7:lP [(15,pI)]),(idx p q n7 2 λa5=>∃ n9,cL w9 a5 (iI n9)/\br (n9 == 2) (br b1 (∀ w10,drawn w9 w10->∃ (I6:WP),I6 w10/\∃ o6 k12 k13 o7 k14 k15 o8 k16 k17 n10 o9 k18 k19,(∀ w11,I6 w11->rA w11 (aM k1) 5 [vS o6 k12 k13,vS o7 k14 k15,vS o8 k16 k17,iI n10,vS o9 k18 k19])/\idx p q n7 2 λa6=>∃ n11,(∀ w12,I6 w12->cL w12 (Addr.add a6 1) (iI n11))/\rE 66 [vG [vS o6 k12 k13,vS o7 k14 k15,vS o8 k16 k17,iI n10,vS o9 k18 k19],iI n11,iI o] w10 λv2 w13=>∃ n12,v2 = iI n12/\I6 w13/\br (n12 == 0) (x7 true w13) (x7 (n12 == 2) w13)) (x7 b4 w9)) (x7 b4 w9))/\∀ (I7:Nat->Value) (b5:Bool) (w14:Ws),x7 b5 w14->br b5 (idx p q n7 2 λa7=>∃ n13 n14,rA w14 a7 2 [iI n13,iI n14]/\new w14 (oC [iI n13,iI n14] 62) λk20 w15=>rS (jT 38 (Array.mk [vS o5 k10 k11,vS (some (aM k20)) 1 1])) w15 λv3 w16=>∃ o10 k21 k22,v3 = vS o10 k21 k22/\aw (n7 + 1)/\x4 o10 k21 k22 (n7 + 1) w16/\x5 o10 k21 k22 (n7 + 1) w16 < x5 o5 k10 k11 n7 w8) (aw (n7 + 1)/\x4 o5 k10 k11 (n7 + 1) w14/\x5 o5 k10 k11 (n7 + 1) w14 < x5 o5 k10 k11 n7 w8)) (R (vU [vS o5 k10 k11,vB b3]) w8))):ay Tryz.prog 70 [(.agg #[(.slice a b c),(.slice d e f),(.slice g i j),(.int .i64 k),(.slice l m n)]),(.int .i64 o),(.slice p q s)] w R:=rv Tryz.func70 pE (by kernel_rfl) h
abbrev tj:FuncId:=71
def pG:bh:={ rngs:=[],loops:=[],joins:=[],blocks:=[] }
theorem pH {a:Wr} {b c:Nat} {d:Bool} {w:Ws} {R:Value->WP} (h:new w (oC [iI 0,iI 0] 62) λk1 w1=>br (decide (0 < (b:Int))) (idx a b 0 2 λa1=>∃ n1 n2,rA w1 a1 2 [iI n1,iI n2]/\cG w1 (aM k1) [iI n1,iI n2] λw2=>∃ n3 n4,rA w2 (aM k1) 2 [iI n3,iI n4]/\R (vG [iI n3,iI n4]) w2) (br d (cG w1 (aM k1) [iI 4,iI 0] λw3=>∃ n5 n6,rA w3 (aM k1) 2 [iI n5,iI n6]/\R (vG [iI n5,iI n6]) w3) (cG w1 (aM k1) [iI 0,iI 0] λw4=>∃ n7 n8,rA w4 (aM k1) 2 [iI n7,iI n8]/\R (vG [iI n7,iI n8]) w4))):ay Tryz.prog 71 [(.slice a b c),(.bool d)] w R:=rv Tryz.func71 pG (by kernel_rfl) h
abbrev uC:FuncId:=69
def qW:bh:={ rngs:=[],loops:=[(3,[(5,(.one (.int .i64))),(6,(.one (.int .i64)))])],joins:=[],blocks:=[] }
theorem qX {a:Wr} {b c:Nat} {d:Wr} {e f:Nat} {g:Wr} {i j:Nat} {k:Int} {l:Wr} {m n:Nat} {o:Wr} {p q:Nat} {w:Ws} {R:Value->WP} (h:new w (oC [vS a b c,vS d e f,vS g i j,iI k,vS l m n] 27) λk1 w1=>∃ (x1:lP [(5,aD),(6,aD)]),∃ (x2:lN [(5,aD),(6,aD)]),x1 0 0 w1/\∀ (I1:Nat->Value) (n1 n2:Int) (w2:Ws),x1 n1 n2 w2->br (decide (n2 < (p:Int))) (idx o p n2 2 λa1=>∃ n3 n4,rA w2 a1 2 [iI n3,iI n4]/\new w2 (oC [iI 0,iI 0] 62) λk2 w3=>cG w3 (aM k2) [iI n3,iI n4] λw4=>∃ n5,cL w4 (aM k2) (iI n5)/\br (n5 == 1) (∃ n6,cL w4 (Addr.add (aM k2) 1) (iI n6)/\br (decide (n6 < 0)) (R (vB false) w4) (br (decide (1<=n1)) (R (vB false) w4) (x1 1 (Kb (n2 + 1)) w4/\x2 1 (Kb (n2 + 1)) w4 < x2 n1 n2 w2))) (br (n5 == 3) (∃ n7,cL w4 (Addr.add (aM k2) 1) (iI n7)/\br (n7 != 0) (R (vB false) w4) (br (decide (2<=n1)) (R (vB false) w4) (x1 2 (Kb (n2 + 1)) w4/\x2 2 (Kb (n2 + 1)) w4 < x2 n1 n2 w2))) (br (n5 == 2) (∃ n8,cL w4 (Addr.add (aM k2) 1) (iI n8)/\∃ n9,cL w4 (Addr.add (aM k2) 1) (iI n9)/\br (decide (n9 < 1)) (R (vB false) w4) (∃ n10,cL w4 (Addr.add (aM k2) 1) (iI n10)/\∃ o1 k3 k4,cL w4 (Addr.add (aM k1) 4) (vS o1 k3 k4)/\br (decide ((k3:Int)<=n10)) (R (vB false) w4) (br (decide (Kb (2 + n8)<=n1)) (R (vB false) w4) (x1 (Kb (2 + n8)) (Kb (n2 + 1)) w4/\x2 (Kb (2 + n8)) (Kb (n2 + 1)) w4 < x2 n1 n2 w2)))) (br (decide (0<=n1)) (R (vB false) w4) (x1 0 (Kb (n2 + 1)) w4/\x2 0 (Kb (n2 + 1)) w4 < x2 n1 n2 w2))))) (R (vB true) w2)):ay Tryz.prog 69 [(.agg #[(.slice a b c),(.slice d e f),(.slice g i j),(.int .i64 k),(.slice l m n)]),(.slice o p q)] w R:=Ui Tryz.func69 qW (by kernel_rfl) h
end Go.Proofs.YtndaepmjkbmjmaaGreatDoor
namespace Go.V
section
variable {g:ae}
def Sj (g:ae) (t:Nat) (l:List ax):List ax:=l.filter λx=>if x.kind = 1 then l.all (oB g t) else nR g t x
theorem J4 {t:Nat} {x:ax} (h:x.kind≠2):oB g t x = true:=by
 unfold oB nK; rw [UE h]; decide
theorem Qn {t:Nat} {x:ax} (h:x.kind≠2):nR g t x = true:=by
 unfold nR nK; rw [UE h]; decide
theorem J5 {t:Nat} {x:ax} (h:x.kind≠2):sR g t x = false:=by
 unfold sR nK; rw [UE h]; decide
theorem Qo {n t:Nat} {y:ax} {r:List ax} (ho:lq n (y :: r)) (hk:y.kind = 1):(Sj g t (y :: r),(y :: r).any (sR g t)) = aZ g t (y :: r):=by
 rw [ic hk]
 have h2:oB g t y = true:=J4 (by omega)
 have h3:sR g t y = false:=J5 (by omega)
 have e1:(y :: r).all (oB g t) = r.all (oB g t):=by rw [List.all_cons,h2]; rfl
 have e2:(y :: r).any (sR g t) = r.any (sR g t):=by rw [List.any_cons,h3]; rfl
 rw [e2]
 congr 1
 unfold Sj
 rw [e1]
 have e3:r.filter (λx=>if x.kind = 1 then r.all (oB g t) else nR g t x) = r.filter (nR g t):=VZ λx hx=>by rw [UE (NZ ho hx)]
 by_cases h:r.all (oB g t) = true
 ·rw [UJ h,VF (by rw [UJ hk]; exact h),e3]; rfl
 ·rw [UE h,VG (by rw [UJ hk]; exact h),e3]; rfl
end
end Go.V
namespace Go.Proofs.YtndaepmjkbmjmaaGreatDoor
variable {w:Ws} {L:List au} {g:ae} {x:GA}
theorem On {p t:Nat} (hc:aq g) (hg:gR (hp w) g x) (hp1:p < g.prods.length) (ht:t < g.T):ay Tryz.prog tg [.agg ⟨x.cells⟩,.int .i64 (p:Int),.int .i64 (t:Int)] w λv w'=>v = .int .i64 (bu g p t)/\Gr w w':=by
 refine pD (cQ hg λk1 w1 gw hg1 B=>?_)
 have pl:=hg1.p.1
 have tl:=hg1.t.1
 have ll:=hg1.l.1
 have eT:g.T = g.terms.length:=rfl
 obtain ⟨y,ad,_,_,_,hy,ha,ry,_,_⟩:=xN hg1.p (i:=p) (by omega)
 obtain ⟨z,ad2,hz,ha2,rz⟩:=xM hg1.t (i:=t) (by omega)
 have ep:uF g p = y.level:=by unfold uF; rw [hy]
 have et:Ih g t = z.level:=by unfold Ih; rw [hz]
 obtain ⟨p0,p1⟩:=Ek hc hy
 refine ⟨_,_,_,B.c4 (sub.refl _),ak ha (by omega) ⟨_,ry.cell (sub.refl _) (j:=2) rfl,_,_,_,B.c0 (sub.refl _),ak ha2 (by omega) ⟨_,rz.cell (sub.refl _) (j:=1) rfl,?_⟩⟩⟩
 have fin:∀ z:Int,z = bu g p t->(.int .i64 z:Value) = .int .i64 (bu g p t)/\Gr w w1:=λz e=>⟨by rw [e],gw⟩
 refine aa (λh1=>fin _ ?_) λh1=>aa (λh2=>fin _ ?_) λh2=>aa (λh3=>fin _ ?_) λh3=>aa (λh4=>fin _ ?_) λh4=>?_
 ·have h1:y.level = 0:=by simpa using h1
  unfold bu
  rw [UJ (.inl (by rw [ep]; exact h1))]
 ·have h2:z.level = 0:=by simpa using h2
  unfold bu
  rw [UJ (.inr (by rw [et]; exact h2))]
 ·have h1:¬ y.level = 0:=by simpa using h1
  have h2:¬ z.level = 0:=by simpa using h2
  have h3:=Uz h3
  unfold bu
  rw [ep,et,UE (by omega),UJ h3]
 ·have h1:¬ y.level = 0:=by simpa using h1
  have h2:¬ z.level = 0:=by simpa using h2
  have h4:=Uz h4
  unfold bu
  rw [ep,et,UE (by omega),UE (by omega),UJ h4]
 have h1:¬ y.level = 0:=by simpa using h1
 have h2:¬ z.level = 0:=by simpa using h2
 have h3:=Uy h3
 have h4:=Uy h4
 obtain ⟨v,hv,ev,v1,v3⟩:=AW hc (l:=y.level) (by omega) p1
 obtain ⟨ad3,ha3,rv⟩:=hg1.l.at hv
 have es:bu g p t = if v = 1 then 2 else if v = 2 then 1 else 3:=by
  unfold bu
  rw [ep,et,UE (by omega),UE h3,UE h4,ev]
 have hlv:=(UA.1 hv).1
 have hl64:=nY hc.2.1
 refine ⟨_,_,_,B.c2 (sub.refl _),⟨by omega,by omega⟩,ad3,ha3,by omega,by omega,v,rv _ (sub.refl _),?_⟩
 rw [es]
 refine aa (λh5=>?_) λh5=>aa (λh6=>?_) λh6=>?_
 ·have h5:v = 1:=by simpa using h5
  exact ⟨by rw [UJ h5],gw⟩
 ·have h5:¬ v = 1:=by simpa using h5
  have h6:v = 2:=by simpa using h6
  exact ⟨by rw [UE h5,UJ h6],gw⟩
 ·have h5:¬ v = 1:=by simpa using h5
  have h6:¬ v = 2:=by simpa using h6
  exact ⟨by rw [UE h5,UE h6],gw⟩
end Go.Proofs.YtndaepmjkbmjmaaGreatDoor
namespace Go.V
section
variable {g:ae}
def fV (v:Int):Int:=if v = 1\/v = 2 then 3 - v else v
def fI (g:ae):ae:=⟨g.terms,g.nons,g.levels.map fV,g.start,g.prods⟩
theorem Qp (v:Int):fV (fV v) = v:=by
 unfold fV
 by_cases h:v = 1\/v = 2
 ·rw [UJ h,UJ (by omega)]; omega
 ·rw [UE h,UE h]
theorem Lh:fI (fI g) = g:=by
 unfold fI
 have:(g.levels.map fV).map fV = g.levels:=by
  rw [V_]
  have:fV ∘ fV = id:=funext Qp
  rw [this,List.map_id]
 rw [this]
theorem qY (h:aq g):aq (fI g):=by
 obtain ⟨h1,⟨a1,a2,a3,a4,a5,a6,a7,a8,a9,a10⟩,⟨b1,b2,b3,b4,b5,b6⟩,h4⟩:=h
 have hl:(fI g).levels.length = g.levels.length:=UH ..
 refine ⟨h1,⟨a1,a2,a3,a4,a5,λt ht=>?_,λi v hv=>?_,a8,a9,a10⟩,⟨b1,b2,λp hp=>?_,b4,b5,b6⟩,h4⟩
 ·rw [hl]; exact a6 t ht
 ·have hv:(g.levels.map fV)[i]? = some v:=hv
  rw [UD] at hv
  cases hu:g.levels[i]? with
  | none=>rw [hu] at hv; cases hv
  | some u =>
   rw [hu] at hv
   cases hv
   obtain ⟨c1,c2,c3⟩:=a7 i u hu
   have:1<=fV u/\fV u<=3:=by unfold fV; split <;> omega
   exact ⟨this.1,this.2,c3⟩
 ·obtain ⟨⟨c1,c2,c3,c4⟩,c5⟩:=b3 p hp
  exact ⟨⟨c1,c2,c3,by rw [hl]; exact c4⟩,c5⟩
theorem yU:aq (fI g)↔aq g:=⟨λh=>by have:=qY h; rwa [Lh] at this,qY⟩
theorem Qq (h:iK g):iK (fI g):=by
 obtain ⟨b1,b2,b3,b4,b5,b6,b7⟩:=h
 exact ⟨b1,b2,by show (g.levels.map fV).length<=_; rw [UH]; exact b3,b4,b5,b6,b7⟩
theorem Oo {l:Int} (hc:aq g) (h1:1<=l) (h2:l<=g.levels.length):K6 (fI g) l = fV (K6 g l):=by
 obtain ⟨v,hv,ev,_,_⟩:=AW hc h1 h2
 rw [ev]
 unfold K6 fI
 rw [UD,hv]; rfl
theorem Li (hc:aq g) {i j:Nat} (hi:i < g.prods.length) (hj:j < g.T) :
  (uF g i≠Ih g j\/uF g i = 0->bu (fI g) i j = bu g i j)/\(uF g i = Ih g j->uF g i≠0->(K6 g (uF g i) = 3->bu (fI g) i j = bu g i j)/\(K6 g (uF g i)≠3->bu g i j + bu (fI g) i j = 3/\bu g i j≠bu (fI g) i j)):=by
 have e1:uF (fI g) i = uF g i:=rfl
 have e2:Ih (fI g) j = Ih g j:=rfl
 constructor
 ·intro h
  unfold bu
  rw [e1,e2]
  by_cases h0:uF g i = 0\/Ih g j = 0
  ·rw [UJ h0,UJ h0]
  ·rw [UE h0,UE h0]
   by_cases h3:Ih g j < uF g i
   ·rw [UJ h3,UJ h3]
   ·rw [UE h3,UE h3,UJ (by omega),UJ (by omega)]
 ·intro h h0
  obtain ⟨y,hy⟩ : ∃ y,g.prods[i]? = some y:=⟨_,UB hi⟩
  have ep:uF g i = y.level:=by unfold uF; rw [hy]
  have hb:=Ek hc hy
  rw [<- ep] at hb
  obtain ⟨v,hv,ev,v1,v3⟩:=AW hc (l:=uF g i) (by omega) hb.2
  have eS:bu g i j = if K6 g (uF g i) = 1 then 2 else if K6 g (uF g i) = 2 then 1 else 3:=by
   unfold bu
   rw [UE (by omega),UE (by omega),UE (by omega)]
  have eT:bu (fI g) i j = if fV (K6 g (uF g i)) = 1 then 2 else if fV (K6 g (uF g i)) = 2 then 1 else 3:=by
   unfold bu
   rw [e1,e2,UE (by omega),UE (by omega),UE (by omega),Oo hc (by omega) hb.2]
  rw [eS,eT,ev]
  have hvv:v = 1\/v = 2\/v = 3:=by omega
  rcases hvv with rfl | rfl | rfl
  ·exact ⟨λh=>by omega,λ_=>by decide⟩
  ·exact ⟨λh=>by omega,λ_=>by decide⟩
  ·exact ⟨λ_=>by decide,λh=>absurd rfl h⟩
end
end Go.V
namespace Go.Proofs.YtndaepmjkbmjmaaGreatDoor
variable {w:Ws} {L:List au} {g:ae} {x:GA}
theorem Ba {p t:Int} (hg:gR (hp w) g x) (hb:iK g) (hbT:g.terms.length * 24<=140737488355328) (hbN:g.nons.length * 16<=140737488355328) (ht:dG (hp w)):ay Tryz.prog kA [.agg ⟨x.cells⟩,.int .i64 p,.int .i64 t] w λv w'=>v = .bool true/\Gr w w':=by
 refine jD (cQ hg λk1 w1 gw hg1 B=>(rX (fp.mono gw ht)).mono ?_)
 rintro _ w2 ⟨rfl,g12⟩
 refine ⟨_,rfl,_,_,_,_,_,_,_,_,_,_,_,_,_,B.row g12,(MA (hg1.mono g12) hb hbT hbN).mono ?_⟩
 rintro _ w3 ⟨y,os,rfl,hX,hos,h3⟩
 refine ⟨_,_,_,_,_,_,_,_,_,_,_,_,_,rfl,af h3 λk18 w4 h=>aI h rfl (by intro v hv; simp at hv; rcases hv with rfl | rfl | rfl | rfl | rfl <;> rfl) λw5 h=>?_⟩
 clear h3
 have hll:=hX.l
 obtain ⟨n,hn⟩ : ∃ n,n = g.levels.length:=⟨_,rfl⟩
 have hn64:n<=17592186044416:=by rw [hn]; exact hb.2.2.1
 have lv:∀ j,((g.levels.take j).map fV ++ g.levels.drop j).length = n:=λj=>by rw [UG,UH,U0,VU]; omega
 refine ⟨λz u=>∃ j:Nat,z = j/\j<=n/\St u (aS k18 y.cells :: own 1 y.la n y.lc (iv ((g.levels.take j).map fV ++ g.levels.drop j)) :: own 3 y.pa g.prods.length y.pc (cU os g.prods) :: aT (bB os g.prods) :: own 2 y.ta g.terms.length y.tc (d_ g.terms) :: own 1 y.na g.nons.length y.nc (g.nons.map λs=>Value.string s) :: all w2),λz _=>n - z.toNat,⟨0,rfl,UM _,?_⟩,?_⟩
 ·rw [hn]
  exact h.pick 6 [0,5,1,2,3,4]
 clear h
 rintro _ _ w6 ⟨j,rfl,hj,h⟩
 have ck:∀ {u:Ws},St u (aS k18 y.cells :: own 1 y.la n y.lc (iv ((g.levels.take j).map fV ++ g.levels.drop j)) :: own 3 y.pa g.prods.length y.pc (cU os g.prods) :: aT (bB os g.prods) :: own 2 y.ta g.terms.length y.tc (d_ g.terms) :: own 1 y.na g.nons.length y.nc (g.nons.map λs=>Value.string s) :: all w2)->u.cell? ((aM k18).add 2) = some (.slice y.la y.ll y.lc):=λh=>(ag 0 h.l).cell (sub.refl _) (j:=2) rfl
 refine ⟨_,_,_,ck h,aa (λh1=>?_) λh1=>?_⟩
 ·have h1:j < n:=by have:=Uz h1; omega
  obtain ⟨v,hv⟩ : ∃ v,g.levels[j]? = some v:=⟨_,UB (by omega)⟩
  have hvj:(iv ((g.levels.take j).map fV ++ g.levels.drop j))[j]? = some (.int .i64 v):=by
   unfold iv
   rw [UD,UP (by simp; omega),UH,U0,V2 (by omega),Vu,Vb,Wo,hv]
   rfl
  obtain ⟨ad,hla,hcv⟩:=bX (h.pick 2 [1,0]) hvj
  have step:(iv ((g.levels.take j).map fV ++ g.levels.drop j)).set j (.int .i64 (fV v)) = iv ((g.levels.take (j + 1)).map fV ++ g.levels.drop (j + 1)):=by
   have hlt:((g.levels.take j).map fV).length = j:=by rw [UH,U0]; omega
   rw [zb]
   congr 1
   rw [VE _ _ (by omega),hlt,Vu,Vk (by omega),Wb,UI,hv,U1,UK]
   rfl
  have hvg:g.levels[j]? = some v:=hv
  have put:∀ {X:Ws->Prop} {z:Int} {u:Ws},z = fV v->hp u = hp w6->(∀ u',St u' (aS k18 y.cells :: own 1 y.la n y.lc (iv ((g.levels.take (j + 1)).map fV ++ g.levels.drop (j + 1))) :: own 3 y.pa g.prods.length y.pc (cU os g.prods) :: aT (bB os g.prods) :: own 2 y.ta g.terms.length y.tc (d_ g.terms) :: own 1 y.na g.nons.length y.nc (g.nons.map λs=>Value.string s) :: all w2)->X u')->st1 u (ad.add j) (.int .i64 z) X:=λ{X z u} hz hu hX'=>by
   subst hz
   refine j4 ((h.eq hu).pick 2 [1,0]) hla (by rw [iW,lv]; omega) λu' h'=>hX' u' ?_
   rw [step] at h'
   exact h'.pick 2 [1,0]
  have cell:∀ {u:Ws},hp u = hp w6->u.cell? (ad.add j) = some (.int .i64 v):=λhu=>by rw [ft hu]; exact hcv
  have cell2:∀ {u:Ws},hp u = hp w6->u.cell? ((aM k18).add 2) = some (.slice y.la y.ll y.lc):=λhu=>ck (h.eq hu)
  have keep:fV v = v->aw ((j:Int) + 1)/\(∃ j' : Nat,(j:Int) + 1 = j'/\j'<=n/\St w6 (aS k18 y.cells :: own 1 y.la n y.lc (iv ((g.levels.take j').map fV ++ g.levels.drop j')) :: own 3 y.pa g.prods.length y.pc (cU os g.prods) :: aT (bB os g.prods) :: own 2 y.ta g.terms.length y.tc (d_ g.terms) :: own 1 y.na g.nons.length y.nc (g.nons.map λs=>Value.string s) :: all w2))/\n - ((j:Int) + 1).toNat < n - (j:Int).toNat:=λe=>by
   refine ⟨⟨by omega,by omega⟩,⟨j + 1,by simp,h1,?_⟩,bK h1⟩
   rw [<- step,e,qo hvj]
   exact h
  have hl1:j < y.ll:=by omega
  refine ⟨_,_,_,ck h,aB hla hl1 ⟨v,cell rfl,aa (λh2=>?_) λh2=>⟨_,_,_,ck h,aB hla hl1 ⟨v,cell rfl,aa (λh3=>?_) λh3=>keep ?_⟩⟩⟩⟩
  ·have h2:v = 1:=by simpa using h2
   intro w7 hd
   have e7:hp w7 = hp w6:=aE hd
   refine ⟨λu=>hp u = hp w6,e7,_,_,_,λu e=>cell2 e,_,_,_,λu e=>cell2 e,aB hla hl1 ⟨v,λu e=>cell e,⟨by omega,by omega⟩,aB hla hl1 (put (by unfold fV; rw [UJ (by omega)]) e7 λw11 h=>⟨⟨by omega,by omega⟩,⟨j + 1,by simp,h1,h⟩,bK h1⟩)⟩⟩
  ·have h3:v = 2:=by simpa using h3
   intro w7 hd
   have e7:hp w7 = hp w6:=aE hd
   refine ⟨λu=>hp u = hp w6,e7,_,_,_,λu e=>cell2 e,_,_,_,λu e=>cell2 e,aB hla hl1 ⟨v,λu e=>cell e,⟨by omega,by omega⟩,aB hla hl1 (put (by unfold fV; rw [UJ (by omega)]) e7 λw11 h=>⟨⟨by omega,by omega⟩,⟨j + 1,by simp,h1,h⟩,bK h1⟩)⟩⟩
  ·have h2:¬ v = 1:=by simpa using h2
   have h3:¬ v = 2:=by simpa using h3
   unfold fV; rw [UE (by omega)]
 have h1:j = n:=by have:=Uy h1; omega
 rw [h1,hn,UZ,List.drop_length,U3] at h
 have g26:Gr w2 w6:=bj 6 h.l
 have B2:GB (hp w6) k18 y:=Ja (ag 0 h.l)
 have hy:gR (hp w6) (fI g) y:=by
  have hX' : Pt (fI g) y:=⟨hX.t,hX.n,by rw [hX.l]; show _ = (g.levels.map fV).length; rw [UH],hX.s,hX.p⟩
  have h8:=h.pick 6 [2,3,4,5,1]
  rw [show g.levels.length = (fI g).levels.length from by show _ = (g.levels.map fV).length; rw [UH]] at h8
  exact Jb (g:=fI g) hX' hos h8.l
 clear h ck
 have g16:=g12.trans g26
 have pl:=hg1.p.1
 have tl:=hg1.t.1
 have eT:g.T = g.terms.length:=rfl
 refine ⟨_,_,_,_,_,_,_,_,_,_,_,_,_,B.row g16,(Im (p:=p) (t:=t) (hg1.mono g16) hb).mono ?_⟩
 rintro _ w17 ⟨z,f,rfl,hS,g617⟩
 refine ⟨_,_,rfl,_,_,_,_,_,_,_,_,_,_,_,_,_,B2.row g617,(Im (p:=p) (t:=t) (hy.mono g617) (Qq hb)).mono ?_⟩
 rintro _ w18 ⟨z',f',rfl,hS',g78⟩
 have g18:=g16.trans (g617.trans g78)
 refine ⟨_,_,rfl,_,_,_,_,_,_,_,_,_,_,_,_,_,B.row g18,(z_ (hg1.mono g18) hb).mono ?_⟩
 rintro _ w19 ⟨⟨r,rfl,hr⟩,g89⟩
 have g19:=g18.trans g89
 have gw19:=gw.trans g19
 refine ⟨_,rfl,λb u=>w19 = u/\(b = false↔(aq g/\0<=p/\p < g.prods.length/\0<=t/\t < g.T)),aa (λh1=>⟨rfl,?_⟩) λh1=>aa (λh2=>⟨rfl,?_⟩) λh2=>⟨_,_,_,B.c4 g19,aa (λh3=>⟨rfl,?_⟩) λh3=>aa (λh4=>⟨rfl,?_⟩) λh4=>⟨_,_,_,B.c0 g19,rfl,?_⟩⟩,?_⟩
 ·have:r = false:=by simpa using h1
  exact ⟨λh=>(by cases h),λh=>by rw [hr.2 h.1] at this; cases this⟩
 ·have:=Uz h2
  exact ⟨λh=>(by cases h),λh=>by omega⟩
 ·have:=Uz h3
  exact ⟨λh=>(by cases h),λh=>by omega⟩
 ·have:=Uz h4
  exact ⟨λh=>(by cases h),λh=>by omega⟩
 ·have h1:r = true:=by simpa using h1
  have h2:=Uy h2
  have h3:=Uy h3
  have h4:=Uy h4
  refine ⟨λh=>?_,λh=>U5 (by omega)⟩
  have:=Uy h
  exact ⟨hr.1 h1,by omega,by omega,by omega,by omega⟩
 rintro _ b _ ⟨rfl,hb3⟩
 refine aa (λh1=>?_) λh1=>?_
 ·subst h1
  have hno:¬ (aq g/\0<=p/\p < g.prods.length/\0<=t/\t < g.T):=λh=>(by cases hb3.2 h)
  obtain ⟨rfl,rfl⟩ : z = 0/\f = 1:=by
   rcases hS with ⟨_,h⟩ | ⟨hc,i,j,hi,hj,h2,h3,_⟩
   ·exact h
   ·exact absurd ⟨hc,by omega,by omega,by omega,by omega⟩ hno
  obtain ⟨rfl,rfl⟩ : z' = 0/\f' = 1:=by
   rcases hS' with ⟨_,h⟩ | ⟨hc,i,j,hi,hj,h2,h3,_⟩
   ·exact h
   ·exact absurd ⟨yU.1 hc,by omega,by have h2:i < g.prods.length:=h2; omega,by omega,by have h3:j < g.T:=h3; omega⟩ hno
  exact fb rfl (fb rfl (fb rfl (fb rfl ⟨rfl,gw19⟩)))
 subst h1
 obtain ⟨hc,p0,p1,t0,t1⟩:=hb3.1 rfl
 obtain ⟨i,rfl⟩ : ∃ i:Nat,p = i:=⟨p.toNat,by omega⟩
 obtain ⟨j,rfl⟩ : ∃ j:Nat,t = j:=⟨t.toNat,by omega⟩
 have hi:i < g.prods.length:=by omega
 have hj:j < g.T:=by omega
 obtain ⟨rfl,rfl⟩ : z = bu g i j/\f = 0:=by
  rcases hS with ⟨h,_⟩ | ⟨_,i',j',hi',hj',_,_,h,h'⟩
  ·exact absurd ⟨hc,by omega,by omega,by omega,by omega⟩ h
  ·obtain rfl:i' = i:=by omega
   obtain rfl:j' = j:=by omega
   exact ⟨h,h'⟩
 obtain ⟨rfl,rfl⟩ : z' = bu (fI g) i j/\f' = 0:=by
  rcases hS' with ⟨h,_⟩ | ⟨_,i',j',hi',hj',_,_,h,h'⟩
  ·exact absurd ⟨qY hc,by omega,by show (i:Int) < (g.prods.length:Int); omega,by omega,by show (j:Int) < (g.T:Int); omega⟩ h
  ·obtain rfl:i' = i:=by omega
   obtain rfl:j' = j:=by omega
   exact ⟨h,h'⟩
 obtain ⟨s1,s2⟩:=Li hc hi hj
 refine ⟨λb u=>w19 = u/\b = false,dZ rfl ⟨rfl,rfl⟩,?_⟩
 rintro _ _ _ ⟨rfl,rfl⟩
 have hg9:=hg1.mono g19
 obtain ⟨y1,ad,_,_,_,hy1,ha,ry,_,_⟩:=xN hg9.p (i:=i) (by omega)
 obtain ⟨z1,ad2,hz1,ha2,rz⟩:=xM hg9.t (i:=j) (by omega)
 have ep:uF g i = y1.level:=by unfold uF; rw [hy1]
 have et:Ih g j = z1.level:=by unfold Ih; rw [hz1]
 obtain ⟨p0,p1⟩:=Ek hc hy1
 rw [ep,et] at s1 s2
 refine dZ rfl ⟨_,_,_,B.c4 g19,ak ha (by omega) ⟨_,ry.cell (sub.refl _) (j:=2) rfl,_,_,_,B.c0 g19,ak ha2 (by omega) ⟨_,rz.cell (sub.refl _) (j:=1) rfl,?_⟩⟩⟩
 refine aa (λh1=>?_) λh1=>aa (λh2=>?_) λh2=>?_
 ·have h1:y1.level≠z1.level:=by simpa using h1
  exact fb rfl ⟨by rw [s1 (.inl h1)]; simp,gw19⟩
 ·have h2:y1.level = 0:=by simpa using h2
  exact fb rfl ⟨by rw [s1 (.inr h2)]; simp,gw19⟩
 have h1:y1.level = z1.level:=by simpa using h1
 have h2:y1.level≠0:=by simpa using h2
 obtain ⟨s3,s4⟩:=s2 h1 h2
 obtain ⟨v,hv,ev,v1,v3⟩:=AW hc (l:=y1.level) (by omega) p1
 obtain ⟨ad3,ha3,rv⟩:=hg9.l.at hv
 have hlv:=(UA.1 hv).1
 have hl64:=nY hc.2.1
 have ll:=hg9.l.1
 refine ⟨_,_,_,B.c2 g19,⟨by omega,by omega⟩,ad3,ha3,by omega,by omega,v,rv _ (sub.refl _),aa (λh3=>?_) λh3=>fb rfl ?_⟩
 ·have h3:v = 3:=by simpa using h3
  exact fb rfl ⟨by rw [s3 (by rw [ev]; exact h3)]; simp,gw19⟩
 ·have h3:v≠3:=by simpa using h3
  obtain ⟨s5,s6⟩:=s4 (by rw [ev]; exact h3)
  have b1:=AX (g:=g) i j
  have b2:=AX (g:=fI g) i j
  exact ⟨⟨by omega,by omega⟩,fb (by rw [s5]; rfl) ⟨by simp [s6],gw19⟩⟩
end Go.Proofs.YtndaepmjkbmjmaaGreatDoor
namespace Go.V
section
variable {g:ae} {nn:List Bool} {ss:List SQ} {w:Ws} {L:List au} {h:Hp}
structure Oq (h:Hp) (oa og oc:Wr) (AL:List (Lq ax)) (GL:List (Lq Int)) (CL:List wm):Prop where
 a:∀ (q:Nat) b,AL[q]? = some b->(∃ ad,oa = some ad/\∀ u:Ws,sub h (hp u)->u.cell? (ad.add q) = some (cF b))/\aX h b.2 b.1.1 b.2.length
 g:∀ (q:Nat) b,GL[q]? = some b->(∃ ad,og = some ad/\∀ u:Ws,sub h (hp u)->u.cell? (ad.add q) = some (cF b))/\aX h b.2 b.1.1 b.2.length
 c:aX h (CL.map mF) oc CL.length
theorem Ot {o:Wr} {vs:List Value} {q:Nat} {v:Value} (r:fp o vs h) (hv:vs[q]? = some v):∃ ad,o = some ad/\∀ u:Ws,sub h (hp u)->u.cell? (ad.add q) = some v:=by
 rcases r with e | ⟨ad,e,hc⟩
 ·rw [e] at hv; simp at hv
 ·exact ⟨ad,e,λu s=>j5 (ni s (hc q v hv))⟩
theorem Qr {oa og oc:Wr} {ca cg cc:Nat} {AL:List (Lq ax)} {GL:List (Lq Int)} {CL:List wm} (hs:aG (Oj oa ca og cg oc cc AL GL CL ++ L) h):Oq h oa og oc AL GL CL:=by
 have hs:aG (own 1 oa AL.length ca (AL.map cF) :: aT (AL.map (b_ 2 cZ)) :: own 1 og GL.length cg (GL.map cF) :: aT (GL.map (b_ 1 iv)) :: own 3 oc CL.length cc (Et CL) :: aT (A2 CL) :: L) h:=hs
 refine ⟨λq b hb=>⟨Ot (ee 0 hs) (by rw [UD,hb]; rfl),?_⟩,λq b hb=>⟨Ot (ee 2 hs) (by rw [UD,hb]; rfl),?_⟩,JX (ee 4 hs) λd hd=>?_⟩
 ·obtain ⟨h3,hs3,ho3⟩:=od (A:=b_ 2 cZ b) (i:=q) (aQ hs) (by rw [UD,hb]; rfl)
  exact (kv rfl (ee 0 (rH ho3))).mono hs3
 ·obtain ⟨h3,hs3,ho3⟩:=od (A:=b_ 1 iv b) (i:=q) (aQ (aQ (aQ hs))) (by rw [UD,hb]; rfl)
  exact (dO rfl (ee 0 (rH ho3))).mono hs3
 ·obtain ⟨i,hi⟩:=Vf hd
  obtain ⟨h3,hs3,ho3⟩:=od (A:=b_ 2 cZ d.2) (i:=i) (aQ (aQ (aQ (aQ (aQ hs))))) (by unfold A2; rw [UD,hi]; rfl)
  exact (kv rfl (ee 0 (rH ho3))).mono hs3
theorem Oq.mono {h' : Hp} {oa og oc:Wr} {AL:List (Lq ax)} {GL:List (Lq Int)} {CL:List wm} (s:sub h h') (r:Oq h oa og oc AL GL CL):Oq h' oa og oc AL GL CL :=
 ⟨λq b hb=>by obtain ⟨⟨ad,e,hc⟩,r1⟩:=r.a q b hb; exact ⟨⟨ad,e,λu su=>hc u (sub.trans s su)⟩,r1.mono s⟩,λq b hb=>by obtain ⟨⟨ad,e,hc⟩,r1⟩:=r.g q b hb; exact ⟨⟨ad,e,λu su=>hc u (sub.trans s su)⟩,r1.mono s⟩,r.c.mono s⟩
def T6 (g:ae) (w:Ws) (v:Value) (w' : Ws):Prop:=∃ (ss:List SQ) (ask int f:Int) (nn:List Bool) (oa:Wr) (ca:Nat) (og:Wr) (cg:Nat) (oc:Wr) (cc:Nat) (AL:List (Lq ax)) (GL:List (Lq Int)) (CL:List wm),
 v = .tuple #[.agg #[.slice oa AL.length ca,.slice og GL.length cg,.slice oc CL.length cc],.int .i64 f]/\rK g ss ask int f/\(f = 0->uf g nn)/\AL.map (·.2) = Eo g nn ss/\GL.map (·.2) = N1 g ss/\CL.map mF = lU g nn ss/\Oq (hp w') oa og oc AL GL CL/\Gr w w'
def bg (g:ae):ae:=⟨g.terms.map λt=>⟨t.name,0⟩,g.nons,[],g.start,g.prods.map λp=>⟨p.left,p.right,0⟩⟩
theorem Ou (h:iK g):iK (bg g):=by
 obtain ⟨b1,b2,b3,b4,b5,b6,b7⟩:=h
 refine ⟨by show (g.terms.map _).length<=_; rw [UH]; exact b1,b2,by show 0<=_; omega,by show (g.prods.map _).length * 40<=_; rw [UH]; exact b4,λt ht=>?_,b6,λp hp=>?_⟩
 ·obtain ⟨u,hu,rfl⟩:=UU.1 ht
  exact ⟨(b5 u hu).1,by show anyI 0; unfold anyI; decide⟩
 ·obtain ⟨u,hu,rfl⟩:=UU.1 hp
  exact b7 u hu
theorem Iq (p t:Nat):bu (bg g) p t = 0:=by
 have:uF (bg g) p = 0:=by
  unfold uF bg
  rw [UD]
  cases g.prods[p]? <;> rfl
 unfold bu
 rw [UJ (.inl this)]
theorem Bb (t:Nat) (x:ax):nK (bg g) t x = 0:=by
 unfold nK
 split
 ·exact Iq _ _
 ·rfl
theorem Bc (t:Nat) (l:List ax):aZ (bg g) t l = (l,false):=by
 cases l with
 | nil=>rfl
 | cons a r =>
  by_cases h:a.kind = 1
  ·rw [ic h]
   have h1:r.all (oB (bg g) t) = true:=V3.2 λx _=>by unfold oB; rw [Bb]; decide
   have h2:r.filter (nR (bg g) t) = r:=List.filter_eq_self.2 λx _=>by unfold nR; rw [Bb]; decide
   have h3:r.any (sR (bg g) t) = false:=Wp.2 λx _=>by unfold sR; rw [Bb]; decide
   rw [UJ h1,h2,h3]; rfl
  ·exact kF h
theorem Lj:lU (bg g) nn ss = bR (bg g) nn ss 2:=by
 rw [<- NV]
 unfold lU
 have key:∀ l:List bI,l.flatMap (yh (bg g)) = l.filter λx=>decide (1 < x.acts.length):=λl=>by
  induction l with
  | nil=>rfl
  | cons c l ih =>
   rw [U6,ih]
   unfold yh
   rw [Bc]
   by_cases h:1 < c.acts.length
   ·rw [UJ (show 2<=_ from h),VF (by simpa using h)]; rfl
   ·rw [UE (show ¬ 2<=_ from h),VG (by simpa using h)]; rfl
 exact key _
end
end Go.V
namespace Go.Proofs.YtndaepmjkbmjmaaGreatDoor
variable {w:Ws} {L:List au} {g:ae} {x:GA}
theorem mJ {a a2:Wr} {l l2 c c2:Nat} {xs ys:List ax} (hx:aX (hp w) xs a l) (hy:aX (hp w) ys a2 l2) (hb:l<=4611686018427387904):ay Tryz.prog lx [.slice a l c,.slice a2 l2 c2] w λv w'=>v = .bool (decide (xs = ys))/\Gr w w':=by
 have hxl:=hx.1
 have hyl:=hy.1
 refine jS (aa (λh1=>?_) λh1=>?_)
 ·have h1:(l:Int)≠l2:=by simpa using h1
  have:xs≠ys:=λe=>h1 (by rw [<- hxl,<- hyl,e])
  exact ⟨by rw [U5 this],Gr.refl _⟩
 have h1:(l:Int) = l2:=by simpa using h1
 have h1:l2 = l:=by omega
 subst h1
 refine ⟨λz w'=>∃ j:Nat,z = j/\j<=l2/\xs.take j = ys.take j/\hp w' = hp w,λz _=>l2 - z.toNat,⟨0,rfl,UM _,rfl,rfl⟩,?_⟩
 rintro _ _ w1 ⟨j,rfl,hj,hs,e1⟩
 refine aa (λh1=>?_) λh1=>?_
 rotate_left
 ·have h1:j = l2:=by have:=Uy h1; omega
  have:xs = ys:=A4 (by omega) (by rw [hxl,<- h1]; exact hs)
  exact ⟨by rw [U4 this],Gr.of_eq e1⟩
 have h1:j < l2:=by have:=Uz h1; omega
 intro w2 hd
 have e2:hp w2 = hp w:=(aE hd).trans e1
 have sb:∀ u:Ws,hp u = hp w->sub (hp w) (hp u):=λu e=>by rw [e]; exact sub.refl _
 obtain ⟨y1,ad1,q1,p1,r1⟩:=bM hx h1
 obtain ⟨y2,ad2,q2,p2,r2⟩:=bM hy h1
 refine ⟨λu=>hp u = hp w,e2,ak p1 h1 ⟨_,_,λu e=>r1.at (sb u e) rfl,ak p2 h1 ⟨_,_,λu e=>r2.at (sb u e) rfl,_,λu _=>C0 u _ _ y1 y2,_,rfl,aa (λh2=>?_) λh2=>?_⟩⟩⟩
 ·have h2:y1≠y2:=by simpa using h2
  have:xs≠ys:=λe=>by rw [e,q2] at q1; exact h2 (Option.some.inj q1).symm
  exact ⟨by rw [U5 this],Gr.of_eq e2⟩
 ·have h2:y1 = y2:=by simpa using h2
  subst h2
  exact ⟨⟨by omega,by omega⟩,⟨j + 1,by simp,h1,by rw [UI,UI,hs,q1,q2],e2⟩,bK h1⟩
theorem GN {a a2:Wr} {l l2 c c2:Nat} {xs ys:List bI} (hx:aX (hp w) xs a l) (hy:aX (hp w) ys a2 l2) (hb:l<=4611686018427387904) (hbs:∀ x∈xs,x.acts.length<=4611686018427387904):ay Tryz.prog mH [.slice a l c,.slice a2 l2 c2] w λv w'=>v = .bool (decide (xs = ys))/\Gr w w':=by
 have hxl:=hx.1
 have hyl:=hy.1
 refine lz (aa (λh1=>?_) λh1=>?_)
 ·have h1:(l:Int)≠l2:=by simpa using h1
  have:xs≠ys:=λe=>h1 (by rw [<- hxl,<- hyl,e])
  exact ⟨by rw [U5 this],Gr.refl _⟩
 have h1:(l:Int) = l2:=by simpa using h1
 have h1:l2 = l:=by omega
 subst h1
 refine ⟨λz w'=>∃ j:Nat,z = j/\j<=l2/\xs.take j = ys.take j/\Gr w w',λz _=>l2 - z.toNat,⟨0,rfl,UM _,rfl,Gr.refl _⟩,?_⟩
 rintro _ _ w1 ⟨j,rfl,hj,hs,g1⟩
 refine aa (λh1=>?_) λh1=>?_
 rotate_left
 ·have h1:j = l2:=by have:=Uy h1; omega
  have:xs = ys:=A4 (by omega) (by rw [hxl,<- h1]; exact hs)
  exact ⟨by rw [U4 this],g1⟩
 have h1:j < l2:=by have:=Uz h1; omega
 intro w2 hd
 have g2:Gr w w2:=g1.trans (Gr.drawn hd)
 obtain ⟨y1,ad1,b1,d1,q1,p1,r1,t1⟩:=qS hx h1
 obtain ⟨y2,ad2,b2,d2,q2,p2,r2,t2⟩:=qS hy h1
 have no:y1≠y2->∀ {u:Ws},Gr w u->(.bool false:Value) = .bool (decide (xs = ys))/\Gr w u:=λhne u gu=>⟨by rw [U5 λe=>by rw [e,q2] at q1; exact hne (Option.some.inj q1).symm],gu⟩
 refine ⟨λu=>Gr w2 u,Gr.refl _,ak p1 h1 ⟨_,_,_,λu s=>r1.cell (sub.trans g2 s) (j:=2) rfl,ak p2 h1 ⟨_,_,_,λu s=>r2.cell (sub.trans g2 s) (j:=2) rfl,(mJ (t1.mono g2) (t2.mono g2) (hbs _ (UC q1))).mono ?_⟩⟩⟩
 rintro _ w5 ⟨rfl,g25⟩
 refine ⟨_,rfl,g25,λw6 hd6=>?_⟩
 have g6:Gr w w6:=g2.trans (g25.trans (Gr.drawn hd6))
 refine ⟨λu=>Gr w6 u,Gr.refl _,aa (λh4=>no (λe=>by rw [e] at h4; simp at h4) g6) λh4=>?_⟩
 refine ak p1 h1 ⟨_,λu s=>r1.cell0 (sub.trans g6 s),ak p2 h1 ⟨_,λu s=>r2.cell0 (sub.trans g6 s),aa (λh2=>no (λe=>by rw [e] at h2; simp at h2) g6) λh2=>?_⟩⟩
 refine ak p1 h1 ⟨_,λu s=>r1.cell (sub.trans g6 s) (j:=1) rfl,ak p2 h1 ⟨_,λu s=>r2.cell (sub.trans g6 s) (j:=1) rfl,aa (λh3=>no (λe=>by rw [e] at h3; simp at h3) g6) λh3=>?_⟩⟩
 have h2:y1.st = y2.st:=by simpa using h2
 have h3:y1.tm = y2.tm:=by simpa using h3
 have h4:y1.acts = y2.acts:=by simpa using h4
 have e:y1 = y2:=by cases y1; cases y2; simp at h2 h3 h4; simp [h2,h3,h4]
 subst e
 exact ⟨⟨by omega,by omega⟩,⟨j + 1,by simp,h1,by rw [UI,UI,hs,q1,q2],g6⟩,bK h1⟩
theorem GO (hg:gR (hp w) g x) (hb:iK g) (ht:dG (hp w)):ay Tryz.prog nL [.agg ⟨x.cells⟩] w (T6 g w):=by
 refine (A_ hg hb ht).mono ?_
 rintro _ w2 ⟨ss,ask,int,f,nn,oa,ca,og,cg,oc,cc,AL,GL,CL,rfl,hR,hn,hA,hG,hC,h⟩
 exact ⟨ss,ask,int,f,nn,oa,ca,og,cg,oc,cc,AL,GL,CL,rfl,hR,hn,hA,hG,hC,Qr h.l,bj 6 h.l⟩
end Go.Proofs.YtndaepmjkbmjmaaGreatDoor
namespace Go.V
section
variable {g:ae} {nn:List Bool} {ss:List SQ} {w:Ws} {L:List au} {h:Hp}
theorem GP:∀ (os:List (Wr × Nat)) (ps:List aO) (i:Nat) (o:Wr × Nat) (p:aO),os[i]? = some o->(os.zip ps).set i (o,p) = os.zip (ps.set i p)
 | [],ps,i,o,p,h=>by simp at h
 | a :: os,[],i,o,p,h=>by simp
 | a :: os,b :: ps,0,o,p,h=>by simp at h; subst h; rfl
 | a :: os,b :: ps,i + 1,o,p,h=>by
  rw [List.zip_cons_cons,Wl,Wl,List.zip_cons_cons,GP os ps i o p (by simpa using h)]
theorem yi:∀ (os:List (Wr × Nat)) (ps:List aO) (i:Nat) (p p' : aO),ps[i]? = some p->p'.right = p.right->bB os (ps.set i p') = bB os ps
 | [],ps,i,p,p',_,_=>rfl
 | a :: os,[],i,p,p',h,_=>by simp at h
 | a :: os,b :: ps,0,p,p',h,e=>by
  simp at h; subst h
  show (own 1 a.1 p'.right.length a.2 (iv p'.right)) :: bB os ps = (own 1 a.1 b.right.length a.2 (iv b.right)) :: bB os ps
  rw [e]
 | a :: os,b :: ps,i + 1,p,p',h,e=>by
  show (own 1 a.1 b.right.length a.2 (iv b.right)) :: bB os (ps.set i p') = (own 1 a.1 b.right.length a.2 (iv b.right)) :: bB os ps
  rw [yi os ps i p p' (by simpa using h) e]
def pT (t:h_):h_:=⟨t.name,0⟩
def pP (p:aO):aO:=⟨p.left,p.right,0⟩
def Ex {α : Type} (f:α->α) (xs:List α) (j:Nat):List α:=(xs.take j).map f ++ xs.drop j
theorem Ey {α : Type} {f:α->α} {xs:List α} {j:Nat}:(Ex f xs j).length = xs.length:=by unfold Ex; rw [UG,UH,U0,VU]; omega
theorem J6 {α : Type} {f:α->α} {xs:List α}:Ex f xs xs.length = xs.map f:=by unfold Ex; rw [UZ,List.drop_length,U3]
theorem Ir {α : Type} {f:α->α} {xs:List α} {j:Nat} {x:α} (h:xs[j]? = some x):(Ex f xs j)[j]? = some x:=by
 have hj:=(UA.1 h).1
 unfold Ex
 rw [UP (by simp; omega),UH,U0,V2 (by omega),Vu,Vb,Wo,h]
theorem Bd {α : Type} {f:α->α} {xs:List α} {j:Nat} {x:α} (h:xs[j]? = some x):Ex f xs (j + 1) = (Ex f xs j).set j (f x):=by
 have hj:=(UA.1 h).1
 have hlt:((xs.take j).map f).length = j:=by rw [UH,U0]; omega
 unfold Ex
 rw [VE _ _ (by omega),hlt,Vu,Vk hj,Wb,UI,h,U1,UK]
 rfl
end
end Go.V
namespace Go.Proofs.YtndaepmjkbmjmaaGreatDoor
variable {w:Ws} {L:List au} {g:ae} {x:GA}
theorem Be (hg:gR (hp w) g x) (hb:iK g) (hbT:g.terms.length * 24<=140737488355328) (hbN:g.nons.length * 16<=140737488355328) (ht:dG (hp w)):ay Tryz.prog kB [.agg ⟨x.cells⟩] w λv w'=>v = .bool true/\Gr w w':=by
 refine jF (cQ hg λk1 w1 gw hg1 B=>(rX (fp.mono gw ht)).mono ?_)
 rintro _ w2 ⟨rfl,g12⟩
 refine ⟨_,rfl,_,_,_,_,_,_,_,_,_,_,_,_,_,B.row g12,(MA (hg1.mono g12) hb hbT hbN).mono ?_⟩
 rintro _ w3 ⟨y,os,rfl,hX,hos,h3⟩
 refine ⟨_,_,_,_,_,_,_,_,_,_,_,_,_,rfl,af h3 λk18 w4 h=>aI h rfl (by intro v hv; simp at hv; rcases hv with rfl | rfl | rfl | rfl | rfl <;> rfl) λw5 h=>?_⟩
 clear h3
 have hbp:=hb.2.2.2.1
 have hbt:=hb.1
 have ytl:=hX.t
 have ypl:=hX.p
 refine ⟨λz u=>∃ j:Nat,z = j/\j<=g.terms.length/\St u (aS k18 y.cells :: own 2 y.ta g.terms.length y.tc (d_ (Ex pT g.terms j)) :: own 3 y.pa g.prods.length y.pc (cU os g.prods) :: aT (bB os g.prods) :: own 1 y.na g.nons.length y.nc (g.nons.map λs=>Value.string s) :: all w2),λz _=>g.terms.length - z.toNat,⟨0,rfl,UM _,?_⟩,?_⟩
 ·exact h.pick 6 [0,3,1,2,4]
 clear h
 rintro _ _ w6 ⟨j,rfl,hj,h⟩
 refine ⟨_,_,_,(ag 0 h.l).cell0 (sub.refl _),aa (λh1=>?_) λh1=>?_⟩
 ·have h1:j < g.terms.length:=by have:=Uz h1; omega
  obtain ⟨t,ht1⟩ : ∃ t,g.terms[j]? = some t:=⟨_,UB h1⟩
  have h:=h.pick 2 [1,0]
  obtain ⟨ad,hta⟩:=e_ h (by rw [nZ,Ey]; omega)
  refine ⟨_,_,_,(ag 1 h.l).cell0 (sub.refl _),ak hta (by omega) ?_⟩
  rw [aF,add_add]
  refine j4 h hta (by rw [nZ,Ey]; omega) λw7 h=>⟨⟨by omega,by omega⟩,⟨j + 1,by simp,h1,?_⟩,bK h1⟩
  have e:(d_ (Ex pT g.terms j)).set (j * 2 + 1) (.int .i64 0) = d_ (Ex pT g.terms (j + 1)):=by
   rw [Bd ht1]
   exact DW (f:=x_) (n:=2) (λ_=>rfl) _ j 1 t (pT t) _ (Ir ht1) (by decide) rfl
  rw [<- e]
  exact h.pick 2 [1,0]
 have h1:j = g.terms.length:=by have:=Uy h1; omega
 subst h1
 rw [J6] at h
 refine ⟨λz u=>∃ j:Nat,z = j/\j<=g.prods.length/\St u (aS k18 y.cells :: own 2 y.ta g.terms.length y.tc (d_ (g.terms.map pT)) :: own 3 y.pa g.prods.length y.pc (cU os (Ex pP g.prods j)) :: aT (bB os (Ex pP g.prods j)) :: own 1 y.na g.nons.length y.nc (g.nons.map λs=>Value.string s) :: all w2),λz _=>g.prods.length - z.toNat,⟨0,rfl,UM _,h⟩,?_⟩
 clear h
 rintro _ _ w8 ⟨j,rfl,hj,h⟩
 refine ⟨_,_,_,(ag 0 h.l).cell (sub.refl _) (j:=4) rfl,aa (λh1=>?_) λh1=>?_⟩
 ·have h1:j < g.prods.length:=by have:=Uz h1; omega
  obtain ⟨p,hp1⟩ : ∃ p,g.prods[j]? = some p:=⟨_,UB h1⟩
  obtain ⟨o,ho1⟩ : ∃ o,os[j]? = some o:=⟨_,UB (by omega)⟩
  have hvl:(cU os (Ex pP g.prods j)).length = g.prods.length * 3:=by
   unfold cU
   rw [kQ (f:=vk) (n:=3) (λ_=>rfl),List.length_zip,Ey,hos,Nat.min_self]
  have h:=h.pick 3 [2,0,1]
  obtain ⟨ad,hpa⟩:=e_ h (by rw [hvl]; omega)
  refine ⟨_,_,_,(ag 1 h.l).cell (sub.refl _) (j:=4) rfl,ak hpa (by omega) ?_⟩
  rw [aF,add_add]
  refine j4 h hpa (by rw [hvl]; omega) λw9 h=>⟨⟨by omega,by omega⟩,⟨j + 1,by simp,h1,?_⟩,bK h1⟩
  have e:(cU os (Ex pP g.prods j)).set (j * 3 + 2) (.int .i64 0) = cU os (Ex pP g.prods (j + 1)):=by
   rw [Bd hp1]
   unfold cU
   rw [<- GP os _ j o _ ho1]
   exact DW (f:=vk) (n:=3) (λ_=>rfl) _ j 2 (o,p) (o,pP p) _ (by rw [List.getElem?_zip_eq_some]; exact ⟨ho1,Ir hp1⟩) (by decide) rfl
  have e2:bB os (Ex pP g.prods (j + 1)) = bB os (Ex pP g.prods j):=by
   rw [Bd hp1]
   exact yi os _ j p (pP p) (Ir hp1) rfl
  rw [<- e,e2]
  exact h.pick 3 [1,2,0]
 have h1:j = g.prods.length:=by have:=Uy h1; omega
 subst h1
 rw [J6] at h
 rw [aV]
 refine bC (i:=2) h (by simp [GA.cells]) λw10 h=>?_
 have g210:Gr w2 w10:=bj 5 h.l
 obtain ⟨y',hy'⟩ : ∃ y' : GA,y' = ⟨y.ta,y.tl,y.tc,y.na,y.nl,y.nc,none,0,0,y.s,y.pa,y.pl,y.pc⟩:=⟨_,rfl⟩
 have hcell:y.cells.set 2 (.slice none 0 0) = y'.cells:=by rw [hy']; rfl
 rw [hcell] at h
 have B2:GB (hp w10) k18 y':=Ja (ag 0 h.l)
 have hy:gR (hp w10) (bg g) y':=by
  have hX' : Pt (bg g) y':=by
   rw [hy']
   exact ⟨by show y.tl = (g.terms.map _).length; rw [UH]; exact hX.t,hX.n,rfl,hX.s,by show y.pl = (g.prods.map _).length; rw [UH]; exact hX.p⟩
  have h8:St w10 (own 1 y'.la (bg g).levels.length y'.lc (iv (bg g).levels) :: aS k18 y'.cells :: own 2 y.ta g.terms.length y.tc (d_ (g.terms.map pT)) :: own 3 y.pa g.prods.length y.pc (cU os (g.prods.map pP)) :: aT (bB os (g.prods.map pP)) :: own 1 y.na g.nons.length y.nc (g.nons.map λs=>Value.string s) :: all w2):=by
   have e:y'.la = none/\y'.lc = 0:=by rw [hy']; exact ⟨rfl,rfl⟩
   rw [e.1,e.2]; exact az 1 h
  have h9:=h8.pick 6 [3,4,2,5,0]
  have e3:y'.pa = y.pa/\y'.pc = y.pc/\y'.ta = y.ta/\y'.tc = y.tc/\y'.na = y.na/\y'.nc = y.nc:=by rw [hy']; exact ⟨rfl,rfl,rfl,rfl,rfl,rfl⟩
  have eT:(bg g).terms.length = g.terms.length:=UH ..
  have eP:(bg g).prods.length = g.prods.length:=UH ..
  refine Jb (g:=bg g) (os:=os) hX' (by rw [eP]; exact hos) (L:=all w2) ?_
  unfold RC
  rw [eT,eP,e3.1,e3.2.1,e3.2.2.1,e3.2.2.2.1,e3.2.2.2.2.1,e3.2.2.2.2.2]
  exact h9.l
 clear h
 have hbq:=Ou hb
 obtain ⟨q,hq⟩ : ∃ q,q = bg g:=⟨_,rfl⟩
 have g110:=g12.trans g210
 have gw10:=gw.trans g110
 refine ⟨_,_,_,_,_,_,_,_,_,_,_,_,_,B2.row (sub.refl _),(Ld hy hbq (fp.mono gw10 ht)).mono ?_⟩
 rintro _ w11 ⟨ss,ask,int,f,nn,o,c,rfl,hR,hn,hr,g01⟩
 refine ⟨_,_,_,_,rfl,_,_,_,_,_,_,_,_,_,_,_,_,_,B2.row g01,(GO (hy.mono g01) hbq (fp.mono (gw10.trans g01) ht)).mono ?_⟩
 rintro _ w12 ⟨ss2,ask2,int2,f2,nn2,oa,ca,og,cg,oc,cc,AL,GL,CL,rfl,hR2,hn2,hAL,hGL,hCL,hTb,g112⟩
 obtain ⟨rfl,hc2,ha2,hl2⟩:=GK hR hn hR2 hn2
 rw [Lj,hc2] at hCL
 have hCLl:CL.length = (bR (bg g) nn ss 2).length:=by rw [<- hCL]; simp
 have hle:=Ew (l:=2) (nn:=nn) hR
 have hac:=J0 (nn:=nn) (ss:=ss) (l:=2) hbq
 refine ⟨_,_,_,_,_,_,_,_,_,_,rfl,af (St.all w12) λk51 w13 h=>aI h rfl (by simp [aH]) λw14 h=>?_⟩
 have r51:av (hp w14) (aM k51) [.slice oa AL.length ca,.slice og GL.length cg,.slice oc CL.length cc]:=ag 0 h.l
 have g14:Gr w12 w14:=h.aR
 clear h
 have hr14:=hr.mono (g112.trans g14)
 have hTb:=hTb.mono g14
 have hTc:=hTb.c
 rw [hCL] at hTc
 refine ⟨_,_,_,r51.cell (sub.refl _) (j:=2) rfl,(GN hr14 hTc (by omega) hac).mono ?_⟩
 rintro _ w15 ⟨rfl,g15⟩
 have gw15:=gw10.trans (g01.trans (g112.trans (g14.trans g15)))
 have hTb:=hTb.mono g15
 have r51:=r51.mono g15
 have hr15:=hr14.mono g15
 refine ⟨_,rfl,λb u=>w15 = u/\b = false,dZ (by simp) ⟨rfl,by simp⟩,?_⟩
 rintro _ _ _ ⟨rfl,rfl⟩
 refine dZ rfl ?_
 obtain ⟨C,hC⟩ : ∃ C,C = bR (bg g) nn ss 2:=⟨_,rfl⟩
 have hmem:∀ {z:bI},z∈C->∃ q t:Nat,q < ss.length/\t < (bg g).T/\2<=(bf (bg g) nn ss q t).length/\z = ⟨(q:Int),(t:Int),bf (bg g) nn ss q t⟩:=λ{z} hz=>by
  rw [hC] at hz; exact ia.1 hz
 rw [<- hC] at hr15 hle ⊢
 have hALl:AL.length = ss.length:=by
  have e:=congrArg List.length hAL
  rw [UH] at e
  rw [e,<- hl2]
  unfold Eo
  rw [UH,Vw]
 have hTk:∀ (q:Nat) b,AL[q]? = some b->b.2 = (List.range (bg g).T).map (Em (bg g) nn2 ss2 q):=λq b hb=>by
  have h1:(AL.map (·.2))[q]? = some b.2:=by rw [UD,hb]; rfl
  rw [hAL] at h1
  unfold Eo at h1
  rw [UD] at h1
  cases hh:(List.range ss2.length)[q]? with
  | none=>rw [hh] at h1; cases h1
  | some q' =>
   rw [hh] at h1
   have e:q' = q:=by
    obtain ⟨h3,h4⟩:=UA.1 hh
    rw [List.getElem_range] at h4; exact h4.symm
   subst e
   exact (Option.some.inj h1).symm
 -- what is taken,where there is no level
 have hTake:∀ q t,Em (bg g) nn2 ss2 q t = iQ (bf (bg g) nn2 ss2 q t,false):=λq t=>by unfold Em; rw [Bc]
 refine ⟨λz u=>∃ i:Nat,z = i/\i<=C.length/\Gr w15 u,λz _=>C.length - z.toNat,⟨0,rfl,UM _,Gr.refl _⟩,?_⟩
 rintro _ _ w17 ⟨i,rfl,hi,g17⟩
 have hr17:=hr15.mono g17
 have hTb:=hTb.mono g17
 have r51:=r51.mono g17
 refine aa (λh1=>?_) λh1=>?_
 ·have h1:i < C.length:=by have:=Uz h1; omega
  obtain ⟨z,ad,b,d,hz,ha,r,tt⟩:=qS hr17 h1
  obtain ⟨q,t,hq1,ht1,hlen,rfl⟩:=hmem (UC hz)
  have hf:f2 = 0:=by
   refine VI λhf=>?_
   have:=hR.nil hf
   subst this
   simp at hq1
  obtain ⟨bq,hbq1⟩ : ∃ bq,AL[q]? = some bq:=⟨_,UB (by omega)⟩
  obtain ⟨⟨ada,hoa,hca⟩,hrow⟩:=hTb.a q bq hbq1
  have hb2:=hTk q bq hbq1
  have hbl:bq.2.length = (bg g).T:=by rw [hb2]; simp
  obtain ⟨yv,yad,hyv,hya,ryv⟩:=bM hrow (show t < bq.2.length by omega)
  obtain ⟨a0,aad,ha0,haa,ra0⟩:=bM tt (show 0 < _ by show 0 < (bf (bg g) nn ss q t).length; omega)
  have ea:yv = a0:=by
   rw [hb2,UD,VN ht1] at hyv
   have e1:Em (bg g) nn2 ss2 q t = yv:=Option.some.inj hyv
   rw [hTake,ha2 hf q t] at e1
   have ha0:(bf (bg g) nn ss q t)[0]? = some a0:=ha0
   cases hl:bf (bg g) nn ss q t with
   | nil=>rw [hl] at hlen; simp at hlen
   | cons a1 l1 =>
    rw [hl] at e1 ha0
    simp at ha0
    rw [<- e1,<- ha0]; rfl
  subst ea
  refine ak ha h1 ⟨_,r.cell0 (sub.refl _),ak ha h1 ⟨_,r.cell (sub.refl _) (j:=1) rfl,λw18 hd=>?_⟩⟩
  have g18:Gr w17 w18:=Gr.drawn hd
  refine ⟨λu=>Gr w17 u,g18,dZ (U5 (by show ¬ ((q:Int) < 0); omega)) ⟨_,_,_,λu s=>r51.cell0 s,dZ (U5 (by show ¬ ((AL.length:Int)<=(q:Int)); omega)) (dZ (U5 (by show ¬ ((t:Int) < 0); omega)) ⟨_,_,_,λu s=>r51.cell0 s,aB hoa (by omega) ⟨_,_,_,λu s=>hca u s,dZ (U5 (by show ¬ ((bq.2.length:Int)<=(t:Int)); omega)) (ak ha h1 ⟨_,_,_,λu s=>r.cell s (j:=2) rfl,dZ ?_ ⟨_,_,_,λu s=>r51.cell0 s,aB hoa (by omega) ⟨_,_,_,λu s=>hca u s,ak hya (by omega) ⟨_,_,λu s=>ryv.at s rfl,ak ha h1 ⟨_,_,_,λu s=>r.cell s (j:=2) rfl,gk haa (by show 0 < (bf (bg g) nn ss q t).length; omega) ⟨_,_,λu s=>?_,_,λu s=>C0 u _ _ yv yv,_,rfl,dZ (by simp) ⟨⟨by omega,by omega⟩,⟨i + 1,by simp,h1,?_⟩,bK h1⟩⟩⟩⟩⟩⟩⟩)⟩⟩)⟩⟩
  ·simp; intro e; rw [e] at hlen; simp at hlen
  ·have:=ra0.at s (n:=2) rfl
   rw [show (cR 0 2) = 0 from rfl,show aad.add 0 = aad from by simp [Addr.add]] at this
   exact this
  ·exact g17.trans g18
 have hkind:∀ (q:Nat) b,AL[q]? = some b->∀ (t:Nat) v,b.2[t]? = some v->v.kind≠4:=λq b hb t v hv=>by
  rw [hTk q b hb,UD] at hv
  cases hh:(List.range (bg g).T)[t]? with
  | none=>rw [hh] at hv; cases hv
  | some t' =>
   rw [hh] at hv
   have e:Em (bg g) nn2 ss2 q t' = v:=Option.some.inj hv
   rw [<- e,hTake]
   by_cases hf:f2 = 0
   ·subst hf
    obtain ⟨hc,hA⟩:=hR2.FW rfl
    have ho:=Gx (nn:=nn2) hc hA q t'
    cases hl:bf (bg g) nn2 ss2 q t' with
    | nil=>decide
    | cons a1 l1 =>
     rw [hl] at ho
     show a1.kind≠4
     rcases Ii ho (Wc) with ⟨h,_⟩ | ⟨h,_⟩ | ⟨h,_⟩ <;> omega
   ·have hz:=hR2.nil hf
    have:q < AL.length:=(UA.1 hb).1
    rw [hALl,<- hl2,hz] at this
    simp at this
 have hALb:AL.length<=256:=by
  by_cases hf:f2 = 0
  ·have:=(hR2.FW hf).2.dn.2.1
   omega
  ·have hz:=hR2.nil hf
   rw [hALl,<- hl2,hz]; simp
 have hbb:∀ (q:Nat) b,AL[q]? = some b->b.2.length<=17592186044416:=λq b hb=>by
  rw [hTk q b hb,UH,Vw]
  show (g.terms.map _).length<=_
  rw [UH]; exact hbt
 refine ⟨λz u=>∃ q:Nat,z = q/\q<=AL.length/\w17 = u,λz _=>AL.length - z.toNat,⟨0,rfl,UM _,rfl⟩,?_⟩
 rintro _ _ _ ⟨q,rfl,hq,rfl⟩
 refine ⟨_,_,_,r51.cell0 (sub.refl _),aa (λh2=>?_) λh2=>⟨rfl,gw15.trans g17⟩⟩
 have h2:q < AL.length:=by have:=Uz h2; omega
 obtain ⟨b,hbq⟩ : ∃ b,AL[q]? = some b:=⟨_,UB h2⟩
 obtain ⟨⟨ada,hoa,hca⟩,hrow⟩:=hTb.a q b hbq
 have hbb:=hbb q b hbq
 refine ⟨λz u=>∃ t:Nat,z = t/\t<=b.2.length/\w17 = u,λz _=>b.2.length - z.toNat,⟨0,rfl,UM _,rfl⟩,?_⟩
 rintro _ _ _ ⟨t,rfl,htl,rfl⟩
 refine ⟨_,_,_,r51.cell0 (sub.refl _),aB hoa h2 ⟨_,_,_,hca _ (sub.refl _),aa (λh3=>?_) λh3=>⟨⟨by omega,by omega⟩,⟨q + 1,by simp,h2,rfl⟩,bK h2⟩⟩⟩
 have h3:t < b.2.length:=by have:=Uz h3; omega
 obtain ⟨v,vad,hv,hva,rv⟩:=bM hrow h3
 refine ⟨_,_,_,r51.cell0 (sub.refl _),aB hoa h2 ⟨_,_,_,hca _ (sub.refl _),ak hva h3 ⟨_,rv.cell0 (sub.refl _),dZ (by simpa using hkind q b hbq t v hv) ⟨⟨by omega,by omega⟩,⟨t + 1,by simp,h3,rfl⟩,bK h3⟩⟩⟩⟩
end Go.Proofs.YtndaepmjkbmjmaaGreatDoor
namespace Go.V
section
variable {g:ae} {nn:List Bool} {ss:List SQ}
theorem C5 {l m:Nat}:∀ {n:Nat},m<=n->∃ r,dJ g nn ss l n = dJ g nn ss l m ++ r
  | 0, h => ⟨[], by obtain rfl : m = 0 := by omega
                    simp⟩
  | n + 1,h=>by
    by_cases e:m = n + 1
    · subst e; exact ⟨[],by simp⟩
    · obtain ⟨r,hr⟩:=C5 (l:=l) (n:=n) (show m<=n by omega)
      exact ⟨r ++ fk g nn ss l n g.T,by rw [jb,hr,UK]⟩
theorem C6 {l q m:Nat}:∀ {n:Nat},m<=n->∃ r,fk g nn ss l q n = fk g nn ss l q m ++ r
  | 0, h => ⟨[], by obtain rfl : m = 0 := by omega
                    simp⟩
  | n + 1,h=>by
    by_cases e:m = n + 1
    · subst e; exact ⟨[],by simp⟩
    · obtain ⟨r,hr⟩:=C6 (l:=l) (q:=q) (n:=n) (show m<=n by omega)
      exact ⟨r ++ cellAt g nn ss l q n,by rw [ja,hr,UK]⟩
noncomputable def gD (g:ae) (nn:List Bool) (ss:List SQ) (q t:Nat):List bI:=dJ g nn ss 1 q ++ fk g nn ss 1 q t
theorem rY {q:Nat}:gD g nn ss q 0 = dJ g nn ss 1 q:=by unfold gD fk; simp
theorem GQ {q:Nat}:gD g nn ss q g.T = dJ g nn ss 1 (q + 1):=by unfold gD; rw [jb]
theorem nN {q t:Nat}:gD g nn ss q (t + 1) = gD g nn ss q t ++ cellAt g nn ss 1 q t:=by unfold gD; rw [ja,UK]
theorem wg {q t:Nat} (hq:q < ss.length) (ht:t<=g.T):∃ r,bR g nn ss 1 = gD g nn ss q t ++ r:=by
 obtain ⟨r1,h1⟩:=C5 (g:=g) (nn:=nn) (ss:=ss) (l:=1) (n:=ss.length) (show q + 1<=ss.length by omega)
 obtain ⟨r2,h2⟩:=C6 (g:=g) (nn:=nn) (ss:=ss) (l:=1) (q:=q) ht
 exact ⟨r2 ++ r1,by unfold bR gD; rw [h1,jb,h2]; simp⟩
theorem Lk {q t:Nat} (hq:q < ss.length) (ht:t < g.T) :
  (1<=(bf g nn ss q t).length/\(bR g nn ss 1)[(gD g nn ss q t).length]? = some ⟨(q:Int),(t:Int),bf g nn ss q t⟩/\(gD g nn ss q (t + 1)).length = (gD g nn ss q t).length + 1) \/
  (bf g nn ss q t = []/\(∀ z,(bR g nn ss 1)[(gD g nn ss q t).length]? = some z->¬(z.st = (q:Int)/\z.tm = (t:Int)))/\(gD g nn ss q (t + 1)).length = (gD g nn ss q t).length):=by
 by_cases h:1<=(bf g nn ss q t).length
 ·left
  have e:cellAt g nn ss 1 q t = [⟨(q:Int),(t:Int),bf g nn ss q t⟩]:=by unfold cellAt; rw [UJ h]
  obtain ⟨r,hr⟩:=wg (g:=g) (nn:=nn) hq (show t + 1<=g.T by omega)
  refine ⟨h,?_,by rw [nN,e]; simp⟩
  rw [hr,nN,e,UK,UP (US _),Vu]; rfl
 ·right
  have e0:bf g nn ss q t = []:=UL (by omega)
  have e:cellAt g nn ss 1 q t = []:=by unfold cellAt; rw [UE h]
  refine ⟨e0,λz hz hh=>?_,by rw [nN,e]; simp⟩
  obtain ⟨q',t',_,_,h1,rfl⟩:=ia.1 (UC hz)
  obtain ⟨h2,h3⟩:=hh
  have h2:(q' : Int) = q:=h2
  have h3:(t' : Int) = t:=h3
  obtain rfl:q' = q:=by omega
  obtain rfl:t' = t:=by omega
  exact h h1
noncomputable def im (g:ae) (nn:List Bool) (ss:List SQ) (q t:Nat):List bI:=(gD g nn ss q t).flatMap (yh g)
theorem Ll {q t:Nat} (hq:q < ss.length) (ht:t < g.T) :
  (2<=(aZ g t (bf g nn ss q t)).1.length/\(lU g nn ss)[(im g nn ss q t).length]? = some ⟨(q:Int),(t:Int),(aZ g t (bf g nn ss q t)).1⟩/\(im g nn ss q (t + 1)).length = (im g nn ss q t).length + 1) \/
  (¬ 2<=(aZ g t (bf g nn ss q t)).1.length/\(∀ z,(lU g nn ss)[(im g nn ss q t).length]? = some z->¬(z.st = (q:Int)/\z.tm = (t:Int)))/\(im g nn ss q (t + 1)).length = (im g nn ss q t).length):=by
 by_cases h:2<=(aZ g t (bf g nn ss q t)).1.length
 ·left
  have h1:1<=(bf g nn ss q t).length:=by have:=xw (g:=g) (t:=t) (l:=bf g nn ss q t); omega
  have e:cellAt g nn ss 1 q t = [⟨(q:Int),(t:Int),bf g nn ss q t⟩]:=by unfold cellAt; rw [UJ h1]
  have ec:yh g ⟨(q:Int),(t:Int),bf g nn ss q t⟩ = [⟨(q:Int),(t:Int),(aZ g t (bf g nn ss q t)).1⟩]:=by
   unfold yh
   show (if 2<=(aZ g (t:Int).toNat (bf g nn ss q t)).1.length then _ else _) = _
   rw [U9,UJ h]
  have ek:im g nn ss q (t + 1) = im g nn ss q t ++ [⟨(q:Int),(t:Int),(aZ g t (bf g nn ss q t)).1⟩]:=by
   unfold im
   rw [nN,e,U_]
   simp [ec]
  obtain ⟨r,hr⟩:=wg (g:=g) (nn:=nn) hq (show t + 1<=g.T by omega)
  refine ⟨h,?_,by rw [ek]; simp⟩
  have:lU g nn ss = im g nn ss q (t + 1) ++ r.flatMap (yh g):=by unfold lU im; rw [hr,U_]
  rw [this,ek,UK,UP (US _),Vu]; rfl
 ·right
  have ek:im g nn ss q (t + 1) = im g nn ss q t:=by
   unfold im
   rw [nN,U_]
   have:(cellAt g nn ss 1 q t).flatMap (yh g) = []:=by
    unfold cellAt
    split
    ·simp only [U6,List.flatMap_nil,U3]
     unfold yh
     show (if 2<=(aZ g (t:Int).toNat (bf g nn ss q t)).1.length then _ else _) = _
     rw [U9,UE h]
    ·rfl
   rw [this,U3]
  refine ⟨h,λz hz hh=>?_,by rw [ek]⟩
  obtain ⟨c,hc,hzc⟩:=VP.1 (UC hz)
  obtain ⟨q',t',_,_,h1,rfl⟩:=ia.1 hc
  unfold yh at hzc
  split at hzc
  ·rename_i h5
   rw [U2] at hzc
   subst hzc
   obtain ⟨h2,h3⟩:=hh
   have h2:(q' : Int) = q:=h2
   have h3:(t' : Int) = t:=h3
   obtain rfl:q' = q:=by omega
   obtain rfl:t' = t:=by omega
   have h5:2<=(aZ g (t' : Int).toNat (bf g nn ss q' t')).1.length:=h5
   rw [U9] at h5
   exact h h5
  ·cases hzc
theorem Ov {t:Nat} {l:List ax}:(l = []/\iQ (aZ g t l) = ⟨0,0⟩)\/(l≠[]/\iQ (aZ g t l)∈l)\/(2<=l.length/\iQ (aZ g t l) = ⟨4,0⟩):=by
 cases l with
 | nil=>exact .inl ⟨rfl,rfl⟩
 | cons a r =>
  right
  by_cases hk:a.kind = 1
  ·cases hl:(aZ g t (a :: r)).1 with
   | cons b m =>
    left
    refine ⟨by simp,?_⟩
    have e:iQ (aZ g t (a :: r)) = b:=by
     cases hh:aZ g t (a :: r) with
     | mk x y=>rw [hh] at hl; have hl:x = b :: m:=hl; subst hl; rfl
    rw [e]
    exact CV (g:=g) (t:=t) (by rw [hl]; exact Wc)
   | nil =>
    right
    have e:=ic (g:=g) (t:=t) (r:=r) hk
    rw [e] at hl
    have hl:(if r.all (oB g t) = true then [a] else []) ++ r.filter (nR g t) = []:=hl
    obtain ⟨h1,h2⟩:=List.append_eq_nil_iff.1 hl
    have h3:¬ r.all (oB g t) = true:=λh=>by rw [UJ h] at h1; cases h1
    rw [V3] at h3
    obtain ⟨y,hy,hyk⟩ : ∃ y,y∈r/\¬ oB g t y = true:=by
     refine VI λhn=>h3 λy hy=>VI λhh=>hn ⟨y,hy,hh⟩
    have h4:¬ nR g t y = true:=λh=>by have:=V5.1 h2 y hy; exact this h
    have h5:sR g t y = true:=by
     unfold sR
     unfold oB at hyk
     unfold nR at h4
     have a1:¬ (nK g t y≠2/\nK g t y≠3):=λh=>hyk (U4 h)
     have a2:¬ (nK g t y = 0\/nK g t y = 2):=λh=>h4 (U4 h)
     exact U4 (by omega)
    have h6:r.any (sR g t) = true:=V4.2 ⟨y,hy,h5⟩
    refine ⟨?_,?_⟩
    ·have:=List.length_pos_of_mem hy
     rw [Vc]; omega
    ·rw [e,hl,h6]; rfl
  ·left
   rw [kF hk]
   exact ⟨by simp,Wc⟩
end
end Go.V
namespace Go.Proofs.YtndaepmjkbmjmaaGreatDoor
variable {w:Ws} {L:List au} {g:ae} {x:GA}
theorem J7 {xs:List ax} {a:Wr} {l c:Nat} {d e:Int} (hr:aX (hp w) xs a l) (hb:l<=4611686018427387904):ay Tryz.prog qU [.slice a l c,.agg #[.int .i64 d,.int .i64 e]] w λv w'=>v = .bool (decide ((⟨d,e⟩ : ax)∈xs))/\Gr w w':=by
 have hl:=hr.1
 refine oG (af (St.all w) λk1 w1 h=>?_)
 have g1:Gr w w1:=h.aR
 have rk:av (hp w1) (aM k1) [.int .i64 d,.int .i64 e]:=ag 0 h.l
 clear h
 have hr:=hr.mono g1
 refine ⟨λz u=>∃ j:Nat,z = j/\j<=l/\(⟨d,e⟩ : ax)∉xs.take j/\Gr w1 u,λz _=>l - z.toNat,⟨0,rfl,UM _,by simp,Gr.refl _⟩,?_⟩
 rintro _ _ w3 ⟨j,rfl,hj,hno,e3⟩
 refine aa (λh1=>?_) λh1=>?_
 rotate_left
 ·have h1:j = l:=by have:=Uy h1; omega
  rw [UX (by omega)] at hno
  exact ⟨by rw [U5 hno],g1.trans e3⟩
 have h1:j < l:=by have:=Uz h1; omega
 obtain ⟨y,ad,hy,rfl,ry⟩:=bM hr h1
 intro w4 hd
 have e4:Gr w1 w4:=e3.trans (Gr.drawn hd)
 refine ⟨λu=>Gr w1 u,e4,ak rfl h1 ⟨_,_,λu s=>ry.at s rfl,_,_,λu s=>rk.at s rfl,_,λu _=>Ti u _ _ y ⟨d,e⟩,_,rfl,aa (λh2=>?_) λh2=>?_⟩⟩
 ·have h2:=Uz h2
  exact ⟨by rw [U4 (h2 ▸ UC hy)],g1.trans e4⟩
 ·have h2:=Uy h2
  refine ⟨⟨by omega,by omega⟩,⟨j + 1,by simp,h1,λhm=>?_,e4⟩,bK h1⟩
  rw [UI,hy,UF] at hm
  rcases hm with hm | hm
  ·exact hno hm
  ·simp at hm; exact h2 hm.symm
variable {w:Ws} {L:List au} {g:ae} {x:GA}
theorem Bf (hg:gR (hp w) g x) (hb:iK g) (hbT:g.terms.length * 24<=140737488355328) (hbN:g.nons.length * 16<=140737488355328) (ht:dG (hp w)):ay Tryz.prog kz [.agg ⟨x.cells⟩] w λv w'=>v = .bool true/\Gr w w':=by
 refine jB (cQ hg λk1 w1 gw hg1 B=>(rX (fp.mono gw ht)).mono ?_)
 rintro _ w2 ⟨rfl,g12⟩
 refine ⟨_,rfl,_,_,_,_,_,_,_,_,_,_,_,_,_,B.row g12,(Og (hg1.mono g12) hb (fp.mono (gw.trans g12) ht)).mono ?_⟩
 rintro _ w3 ⟨ss,ask,int,f,nn,o,c,rfl,hR,hn,hr,g23⟩
 have g13:=g12.trans g23
 refine ⟨_,_,_,_,rfl,_,_,_,_,_,_,_,_,_,_,_,_,_,B.row g13,(GO (hg1.mono g13) hb (fp.mono (gw.trans g13) ht)).mono ?_⟩
 rintro _ w4 ⟨ss2,ask2,int2,f2,nn2,oa,ca,og,cg,oc,cc,AL,GL,CL,rfl,hR2,hn2,hAL,hGL,hCL,hTb,g34⟩
 refine ⟨_,_,_,_,_,_,_,_,_,_,rfl,af (St.all w4) λk26 w5 h=>aI h rfl (by simp [aH]) λw6 h=>?_⟩
 have r26:av (hp w6) (aM k26) [.slice oa AL.length ca,.slice og GL.length cg,.slice oc CL.length cc]:=ag 0 h.l
 have g46:Gr w4 w6:=h.aR
 clear h
 have g16:=g13.trans (g34.trans g46)
 refine ⟨_,_,_,_,_,_,_,_,_,_,_,_,_,B.row g16,(nA (hg1.mono g16) hb).mono ?_⟩
 rintro _ w7 ⟨oA,cA,ss3,ask3,int3,f3,rfl,hR3,h7⟩
 have g67:Gr w6 w7:=bj 3 h7.l
 clear h7
 refine ⟨_,_,_,_,_,_,rfl,af (St.all w7) λk37 w8 h=>aI h rfl (by simp [aH]) λw9 h=>?_⟩
 have r37:av (hp w9) (aM k37) [.slice oA ss3.length cA,.int .i64 ask3,.int .i64 int3]:=ag 0 h.l
 have g79:Gr w7 w9:=h.aR
 clear h
 have g69:=g67.trans g79
 have g19:=g16.trans g69
 have hg9:=hg1.mono g19
 have B:GB (hp w9) k1 x:=⟨λs=>B.c0 (sub.trans g19 s),λs=>B.c1 (sub.trans g19 s),λs=>B.c2 (sub.trans g19 s),λs=>B.c3 (sub.trans g19 s),λs=>B.c4 (sub.trans g19 s),λs=>B.row (sub.trans g19 s)⟩
 have r26:=r26.mono g69
 have hTb:=hTb.mono (g46.trans g69)
 have hr:=hr.mono (g34.trans (g46.trans g69))
 have gw9:=gw.trans g19
 have hT:g.T = x.tl:=hg9.t.1
 obtain ⟨ef,hc2,ha2,hl2⟩:=GK hR hn hR2 hn2
 have hone:=hR.one hR3
 have ef3:f = f3:=hone.2.2.2.2.1
 have hl3:ss3.length = ss.length:=hone.2.2.2.2.2.symm
 rw [hl3] at r37
 subst ef3
 subst ef
 have hCo:lU g nn2 ss2 = lU g nn ss:=by unfold lU; rw [hc2]
 rw [hCo] at hCL
 have hle:=Ew (l:=1) (nn:=nn) hR
 have hac:=J0 (nn:=nn) (ss:=ss) (l:=1) hb
 clear g12 g23 g13 g34 g46 g16 g67 g79 g69 hg1 hg gw
 refine ⟨λb u=>w9 = u/\b = false,dZ (by simp) ⟨rfl,by simp⟩,?_⟩
 rintro _ _ _ ⟨rfl,rfl⟩
 refine dZ rfl (aa (λh1=>?_) λh1=>?_)
 ·have h1:f2≠0:=by simpa using h1
  refine ⟨_,_,_,_,_,_,_,_,_,_,_,_,_,B.row (sub.refl _),(z_ hg9 hb).mono ?_⟩
  rintro _ w11 ⟨⟨r,rfl,hrr⟩,g11⟩
  have hC0:CL = []:=by
   have e:=congrArg List.length hCL
   rw [hR.nil h1,UH] at e
   exact UL e
  subst hC0
  refine ⟨_,rfl,fb rfl ⟨_,_,_,r26.cell g11 (j:=2) rfl,fb rfl ⟨?_,gw9.trans g11⟩⟩⟩
  rcases hR with ⟨hno,_,_,_,rfl⟩ | ⟨hyes,_,_,_,_,rfl⟩ | ⟨_,_,_,_,rfl⟩
  ·have:r = false:=by
    cases r with
    | false=>rfl
    | true=>exact absurd (hrr.1 rfl) hno
   subst this; rfl
  ·have:r = true:=hrr.2 hyes
   subst this; rfl
  ·exact absurd rfl h1
 have h1:f2 = 0:=by simpa using h1
 subst h1
 have ha2:=ha2 rfl
 obtain ⟨hc,hA⟩:=hR.FW rfl
 have h256:=hA.dn.2.1
 obtain ⟨sT,_⟩:=hc.gB
 have hALl:AL.length = ss.length:=by
  have e:=congrArg List.length hAL
  rw [UH] at e
  rw [e,<- hl2]
  unfold Eo
  rw [UH,Vw]
 have hTk:∀ (q:Nat) b,AL[q]? = some b->b.2 = (List.range g.T).map λt=>iQ (aZ g t (bf g nn ss q t)):=λq b hb=>by
  have h1:(AL.map (·.2))[q]? = some b.2:=by rw [UD,hb]; rfl
  rw [hAL] at h1
  unfold Eo at h1
  rw [UD] at h1
  cases hh:(List.range ss2.length)[q]? with
  | none=>rw [hh] at h1; cases h1
  | some q' =>
   rw [hh] at h1
   have e:q' = q:=by
    obtain ⟨h3,h4⟩:=UA.1 hh
    rw [List.getElem_range] at h4; exact h4.symm
   subst e
   rw [<- Option.some.inj h1]
   refine VO λt _=>?_
   unfold Em
   rw [ha2]
 have hTc:=hTb.c
 rw [hCL] at hTc
 have hCLl:CL.length = (lU g nn ss).length:=by rw [<- hCL]; simp
 have hKl:(lU g nn ss).length<=16640:=by
  have hcf:∀ l:List bI,(l.flatMap (yh g)).length<=l.length:=λl=>by
   induction l with
   | nil=>simp
   | cons c l ih =>
    rw [U6,UG,Vc]
    have:(yh g c).length<=1:=by unfold yh; split <;> simp
    omega
  have:=hcf (bR g nn ss 1)
  unfold lU
  omega
 refine ⟨_,_,_,r26.cell0 (sub.refl _),_,_,_,r37.cell0 (sub.refl _),dZ (by rw [hALl]; simp) ?_⟩
 refine ⟨λn o z u=>∃ q:Nat,z = q/\q<=ss.length/\n = ((gD g nn ss q 0).length:Int)/\o = ((im g nn ss q 0).length:Int)/\Gr w9 u,λ_ _ z _=>ss.length - z.toNat,⟨0,rfl,UM _,by simp [gD,dJ,fk],by simp [im,gD,dJ,fk],Gr.refl _⟩,?_⟩
 rintro _ _ _ _ w12 ⟨q,rfl,hq,rfl,rfl,g12⟩
 refine ⟨_,_,_,r37.cell0 g12,aa (λh2=>?_) λh2=>?_⟩
 rotate_left
 ·have h2:q = ss.length:=by have:=Uy h2; omega
  subst h2
  have e1:(gD g nn ss ss.length 0).length = (bR g nn ss 1).length:=by rw [rY]; rfl
  have e2:(im g nn ss ss.length 0).length = CL.length:=by rw [hCLl]; unfold im; rw [rY]; rfl
  exact fb rfl (fb (by rw [e1]; simp) ⟨_,_,_,r26.cell g12 (j:=2) rfl,by rw [e2]; simp,gw9.trans g12⟩)
 have h2:q < ss.length:=by have:=Uz h2; omega
 obtain ⟨b,hbq⟩ : ∃ b,AL[q]? = some b:=⟨_,UB (by omega)⟩
 obtain ⟨⟨ada,hoa,hca⟩,hrow⟩:=hTb.a q b hbq
 have hb2:=hTk q b hbq
 have hbl:b.2.length = g.T:=by rw [hb2]; simp
 intro w13 hd
 have g13:Gr w9 w13:=g12.trans (Gr.drawn hd)
 refine ⟨λu=>Gr w9 u,g13,_,_,_,λu s=>r26.cell0 s,aB hoa (by omega) ⟨_,_,_,λu s=>hca u s,_,_,_,λu s=>B.c0 s,dZ (by rw [hbl,hT]; simp) ?_⟩⟩
 refine ⟨λn o z u=>∃ t:Nat,z = t/\t<=g.T/\n = ((gD g nn ss q t).length:Int)/\o = ((im g nn ss q t).length:Int)/\Gr w9 u,λ_ _ z _=>g.T - z.toNat,⟨0,rfl,UM _,rfl,rfl,g13⟩,?_⟩
 rintro _ _ _ _ w17 ⟨t,rfl,htl,rfl,rfl,g17⟩
 refine ⟨_,_,_,B.c0 g17,aa (λh3=>?_) λh3=>?_⟩
 rotate_left
 ·have h3:t = g.T:=by have:=Uy h3; omega
  subst h3
  exact ⟨⟨by omega,by omega⟩,⟨q + 1,by simp,h2,by rw [GQ,rY],by unfold im; rw [GQ,rY],g17⟩,bK h2⟩
 have h3:t < g.T:=by have:=Uz h3; omega
 obtain ⟨v,vad,hv,hva,rv⟩:=bM hrow (show t < b.2.length by omega)
 have ev:v = iQ (aZ g t (bf g nn ss q t)):=by
  rw [hb2,UD,VN h3] at hv
  exact (Option.some.inj hv).symm
 have pc:=Lk (nn:=nn) h2 h3
 have pk:=Ll (nn:=nn) h2 h3
 have hpc:(gD g nn ss q t).length<=16640:=by
  obtain ⟨r,hr'⟩:=wg (g:=g) (nn:=nn) h2 (Nat.le_of_lt h3)
  have:=congrArg List.length hr'
  rw [UG] at this
  omega
 have hpk:(im g nn ss q t).length<=16640:=by
  obtain ⟨r,hr'⟩:=wg (g:=g) (nn:=nn) h2 (Nat.le_of_lt h3)
  have e:lU g nn ss = im g nn ss q t ++ r.flatMap (yh g):=by unfold lU im; rw [hr',U_]
  have:=congrArg List.length e
  rw [UG] at this
  omega
 have hal:(bf g nn ss q t).length<=4611686018427387904:=by
  have:=Gw (g:=g) (nn:=nn) (ss:=ss) (q:=q) (t:=t)
  have:=hb.2.2.2.1
  omega
 refine ⟨λn o u=>n = ((gD g nn ss q (t + 1)).length:Int)/\o = ((im g nn ss q (t + 1)).length:Int)/\Gr w9 u,?_,?_⟩
 rotate_left
 ·rintro _ _ _ w29 ⟨rfl,rfl,g29⟩
  exact ⟨⟨by omega,by omega⟩,⟨t + 1,by simp,h3,rfl,rfl,g29⟩,bK h3⟩
 refine ⟨_,_,_,r26.cell0 g17,aB hoa (by omega) ⟨_,_,_,hca _ g17,ak hva (by omega) ⟨_,_,rv.at g17 rfl,af (St.all w17) λk66 w18 h=>aI h rfl (by simp [aH]) λw19 h=>?_⟩⟩⟩
 have r66:av (hp w19) (aM k66) (bD v):=ag 0 h.l
 have g19' : Gr w9 w19:=g17.trans h.aR
 clear h
 refine ⟨λn o' n' c' u=>n = ((gD g nn ss q (t + 1)).length:Int)/\n' = (bf g nn ss q t).length/\aX (hp w19) (bf g nn ss q t) o' n'/\w19 = u,?_,?_⟩
 ·have none:bf g nn ss q t = []->(gD g nn ss q (t + 1)).length = (gD g nn ss q t).length->(((gD g nn ss q t).length:Int) = ((gD g nn ss q (t + 1)).length:Int)/\0 = (bf g nn ss q t).length/\aX (hp w19) (bf g nn ss q t) none 0/\w19 = w19):=λe1 e2=>⟨by rw [e2],by rw [e1]; rfl,by rw [e1]; exact aX.nil,rfl⟩
  refine aa (λh4=>?_) λh4=>?_
  ·have h4:(gD g nn ss q t).length < (bR g nn ss 1).length:=by have:=Uz h4; omega
   obtain ⟨y,ad,a',c',hy,ha,ry,ty⟩:=qS (hr.mono g19') h4
   rcases pc with ⟨hlen,hcell,hn1⟩ | ⟨he,hno,hn1⟩
   ·rw [hcell] at hy
    cases hy
    exact ak ha h4 ⟨_,ry.cell0 (sub.refl _),fb (by simp) (ak ha h4 ⟨_,ry.cell (sub.refl _) (j:=1) rfl,fb (by simp) (ak ha h4 ⟨_,_,_,ry.cell (sub.refl _) (j:=2) rfl,⟨by omega,by omega⟩,by rw [hn1]; simp,rfl,ty,rfl⟩)⟩)⟩
   ·have hno:=hno y hy
    refine ak ha h4 ⟨_,ry.cell0 (sub.refl _),aa (λh5=>ak ha h4 ⟨_,ry.cell (sub.refl _) (j:=1) rfl,dZ ?_ (none he hn1)⟩) λh5=>none he hn1⟩
    have h5:y.st = (q:Int):=by simpa using h5
    have h6:y.tm≠(t:Int):=λh=>hno ⟨h5,h⟩
    simpa using h6
  ·have h4:¬ (gD g nn ss q t).length < (bR g nn ss 1).length:=by have:=Uy h4; omega
   rcases pc with ⟨hlen,hcell,hn1⟩ | ⟨he,hno,hn1⟩
   ·exact absurd (UA.1 hcell).1 h4
   ·exact none he hn1
 rintro _ _ o33 _ c33 _ ⟨rfl,rfl,hra,rfl⟩
 refine ⟨_,_,r66.at (sub.refl _) rfl,(J7 hra hal).mono ?_⟩
 rintro _ w21 ⟨rfl,g21⟩
 have gv:Gr w9 w21:=g19'.trans g21
 have r66:=r66.mono g21
 have hra:=hra.mono g21
 have dv:decide ((⟨v.kind,v.to⟩ : ax)∈bf g nn ss q t) = decide (v∈bf g nn ss q t):=rfl
 rw [dv]
 refine ⟨_,rfl,λu=>w21 = u,?_,?_⟩
 ·have hm:=Ov (g:=g) (t:=t) (l:=bf g nn ss q t)
  rw [<- ev] at hm
  rcases hm with ⟨h4,h5⟩ | ⟨h4,h5⟩ | ⟨h4,h5⟩
  ·rw [h4]
   refine fb rfl (fb (by simp) (dZ rfl ⟨_,_,r66.at (sub.refl _) rfl,_,C0 w21 _ _ v ⟨0,0⟩,_,rfl,dZ (by rw [h5]; rfl) (dZ rfl rfl)⟩))
  ·rw [U4 h5]
   exact aa (λ_=>dZ rfl (aa (λ_=>dZ rfl rfl) λ_=>rfl)) λ_=>aa (λ_=>dZ rfl rfl) λ_=>rfl
  ·refine dZ (U5 (by omega)) (fb (U4 (by omega)) (aa (λ_=>⟨_,_,r66.at (sub.refl _) rfl,_,C0 w21 _ _ v ⟨4,0⟩,_,rfl,dZ (by rw [h5]; rfl) rfl⟩) λ_=>rfl))
 rintro _ _ rfl
 have skip:(im g nn ss q (t + 1)).length = (im g nn ss q t).length->(((gD g nn ss q (t + 1)).length:Int) = ((gD g nn ss q (t + 1)).length:Int)/\((im g nn ss q t).length:Int) = ((im g nn ss q (t + 1)).length:Int)/\Gr w9 w21):=λe=>⟨rfl,by rw [e],gv⟩
 refine ⟨_,_,_,r26.cell gv (j:=2) rfl,aa (λh4=>?_) λh4=>?_⟩
 ·have h4:CL.length<=(im g nn ss q t).length:=by have:=Uz h4; omega
  rcases pk with ⟨_,hcell,_⟩ | ⟨_,_,hn1⟩
  ·have:=(UA.1 hcell).1; omega
  ·exact skip hn1
 have h4:(im g nn ss q t).length < CL.length:=by have:=Uy h4; omega
 obtain ⟨y,ad,a',c',hy,ha,ry,ty⟩:=qS (hTc.mono gv) h4
 refine ⟨_,_,_,r26.cell gv (j:=2) rfl,ak ha h4 ⟨_,ry.cell0 (sub.refl _),aa (λh5=>?_) λh5=>⟨_,_,_,r26.cell gv (j:=2) rfl,ak ha h4 ⟨_,ry.cell (sub.refl _) (j:=1) rfl,aa (λh6=>?_) λh6=>⟨_,_,_,r26.cell gv (j:=2) rfl,ak ha h4 ⟨_,_,_,ry.cell (sub.refl _) (j:=2) rfl,?_⟩⟩⟩⟩⟩⟩
 ·have h5:y.st≠(q:Int):=by simpa using h5
  rcases pk with ⟨_,hcell,_⟩ | ⟨_,_,hn1⟩
  ·rw [hcell] at hy; cases hy; exact absurd rfl h5
  ·exact skip hn1
 ·have h6:y.tm≠(t:Int):=by simpa using h6
  rcases pk with ⟨_,hcell,_⟩ | ⟨_,_,hn1⟩
  ·rw [hcell] at hy; cases hy; exact absurd rfl h6
  ·exact skip hn1
 have h5:y.st = (q:Int):=by simpa using h5
 have h6:y.tm = (t:Int):=by simpa using h6
 rcases pk with ⟨hlen,hcell,hn1⟩ | ⟨_,hno,_⟩
 rotate_left
 ·exact absurd ⟨h5,h6⟩ (hno y hy)
 have hl:y.acts = (aZ g t (bf g nn ss q t)).1:=by rw [hcell] at hy; rw [<- Option.some.inj hy]
 rw [<- hl] at hlen
 have hll:y.acts.length<=(bf g nn ss q t).length:=by rw [hl]; exact xw
 refine ⟨λz u=>∃ i:Nat,z = i/\i<=y.acts.length/\Gr w21 u,λz _=>y.acts.length - z.toNat,⟨0,rfl,UM _,Gr.refl _⟩,?_⟩
 rintro _ _ w23 ⟨i,rfl,hi,g23⟩
 refine aa (λh7=>?_) λh7=>?_
 ·have h7:i < y.acts.length:=by have:=Uz h7; omega
  obtain ⟨z,zad,hz,hza,rz⟩:=bM (ty.mono g23) h7
  refine ak hza h7 ⟨_,_,rz.at (sub.refl _) rfl,(J7 (hra.mono g23) hal).mono ?_⟩
  rintro _ w24 ⟨rfl,g24⟩
  have hzm:(⟨z.kind,z.to⟩ : ax)∈bf g nn ss q t:=CV (g:=g) (t:=t) (x:=z) (by rw [<- hl]; exact UC hz)
  exact ⟨_,rfl,dZ (by rw [U4 hzm]; rfl) ⟨⟨by omega,by omega⟩,⟨i + 1,by simp,h7,g23.trans g24⟩,bK h7⟩⟩
 ·intro w25 hd5
  have g25:Gr w21 w25:=g23.trans (Gr.drawn hd5)
  obtain ⟨z,zad,hz,hza,rz⟩:=bM (ty.mono g25) (show 0 < y.acts.length by omega)
  have ez:z = v:=by
   rw [ev]
   cases hh:aZ g t (bf g nn ss q t) with
   | mk X Y =>
    rw [hh] at hl
    have hl:y.acts = X:=hl
    rw [hl] at hz hlen
    cases X with
    | nil=>simp at hlen
    | cons a1 l1=>simp at hz; subst hz; rfl
  rw [show (cR 0 2) = 0 from rfl,show zad.add 0 = zad from by simp [Addr.add]] at rz
  refine ⟨λu=>Gr w25 u,Gr.refl _,dZ (U5 (by omega)) (gk hza (by omega) ⟨_,_,λu s=>rz.at s rfl,_,_,λu s=>(r66.mono g25).at s rfl,_,λu _=>C0 u _ _ z v,_,rfl,dZ (by rw [ez]; simp) ⟨⟨by omega,by omega⟩,rfl,by rw [hn1]; simp,gv.trans g25⟩⟩)⟩
end Go.Proofs.YtndaepmjkbmjmaaGreatDoor
namespace Go.V
theorem Ow {z:Int} (h:aw z):Kb z = z:=C_ h
end Go.V
namespace Go.Proofs.YtndaepmjkbmjmaaGreatDoor
variable {w:Ws} {L:List au} {g:ae} {x:GA}
theorem Tm {xs:List ax} {a:Wr} {l c:Nat} (hg:gR (hp w) g x) (hb:iK g) (hr:aX (hp w) xs a l) (hl:l<=4611686018427387904):ay Tryz.prog uC [.agg ⟨x.cells⟩,.slice a l c] w λv w'=>v = .bool (decide (lq g.prods.length xs))/\Gr w w':=by
 have hxl:=hr.1
 have hbp:=hb.2.2.2.1
 refine qX (cQ hg λk1 w1 gw hg1 B=>?_)
 have pl:=hg1.p.1
 have hr:=hr.mono gw
 refine ⟨λrank z u=>∃ (i:Nat) (last:Int),z = i/\i<=l/\rank = last + 1/\-1<=last/\(lq g.prods.length xs↔vX g.prods.length last (xs.drop i))/\Gr w1 u,λ_ z _=>l - z.toNat,⟨0,-1,rfl,UM _,rfl,Int.le_refl _,by rw [List.drop_zero]; exact Iff.rfl,Gr.refl _⟩,?_⟩
 rintro _ _ _ w2 ⟨i,last,rfl,hi,rfl,hlast,ho,g12⟩
 refine aa (λh1=>?_) λh1=>?_
 rotate_left
 ·have h1:i = l:=by have:=Uy h1; omega
  rw [List.drop_eq_nil_of_le (by omega)] at ho
  exact ⟨by rw [U4 (ho.2 trivial)],gw.trans g12⟩
 have h1:i < l:=by have:=Uz h1; omega
 obtain ⟨y,ad,hy,rfl,ry⟩:=bM (hr.mono g12) h1
 rw [CU hy] at ho
 rw [Ow (show aw ((i:Int) + 1) from ⟨by omega,by omega⟩)]
 refine ak rfl h1 ⟨_,_,ry.at (sub.refl _) rfl,af (St.all w2) λk2 w3 h=>aI h rfl (by simp [aH]) λw4 h=>?_⟩
 have r2:av (hp w4) (aM k2) [.int .i64 y.kind,.int .i64 y.to]:=ag 0 h.l
 have g24:Gr w2 w4:=h.aR
 clear h
 have c0:=r2.cell0 (sub.refl _)
 have c1:=r2.cell (sub.refl _) (j:=1) rfl
 have g14:=g12.trans g24
 have no:¬ last < jH g.prods.length y->(.bool false:Value) = .bool (decide (lq g.prods.length xs))/\Gr w w4:=λh=>⟨by rw [U5 λhh=>h (ho.1 hh).1],gw.trans g14⟩
 have yes:∀ r:Int,r = jH g.prods.length y + 1->last < jH g.prods.length y->(∃ (i' : Nat) (last:Int),(i:Int) + 1 = i'/\i'<=l/\r = last + 1/\-1<=last/\(lq g.prods.length xs↔vX g.prods.length last (xs.drop i'))/\Gr w1 w4)/\l - ((i:Int) + 1).toNat < l - (i:Int).toNat:=λr e h=>⟨⟨i + 1,_,by simp,h1,e,by omega,ho.trans ⟨λhh=>hh.2,λhh=>⟨h,hh⟩⟩,g14⟩,bK h1⟩
 refine ⟨_,c0,aa (λh2=>?_) λh2=>aa (λh3=>?_) λh3=>aa (λh4=>?_) λh4=>?_⟩
 ·have h2:y.kind = 1:=by simpa using h2
  refine ⟨_,c1,aa (λh3=>no ?_) λh3=>aa (λh4=>no ?_) λh4=>yes _ ?_ ?_⟩
  ·have h3:=Uz h3
   unfold jH; rw [UE (by omega),UE (by omega),UE (by omega)]; omega
  ·have h3:=Uy h3
   have h4:=Uz h4
   unfold jH; rw [UJ (by omega)]; omega
  ·have h3:=Uy h3
   unfold jH; rw [UJ (by omega)]; rfl
  ·have h3:=Uy h3
   have h4:=Uy h4
   unfold jH; rw [UJ (by omega)]; omega
 ·have h2:¬ y.kind = 1:=by simpa using h2
  have h3:y.kind = 3:=by simpa using h3
  refine ⟨_,c1,aa (λh4=>no ?_) λh4=>aa (λh5=>no ?_) λh5=>yes _ ?_ ?_⟩
  ·have h4:y.to≠0:=by simpa using h4
   unfold jH; rw [UE (by omega),UE (by omega),UE (by omega)]; omega
  ·have h4:y.to = 0:=by simpa using h4
   have h5:=Uz h5
   unfold jH; rw [UE (by omega),UJ (by omega)]; omega
  ·have h4:y.to = 0:=by simpa using h4
   unfold jH; rw [UE (by omega),UJ (by omega)]; rfl
  ·have h4:y.to = 0:=by simpa using h4
   have h5:=Uy h5
   unfold jH; rw [UE (by omega),UJ (by omega)]; omega
 ·have h2:¬ y.kind = 1:=by simpa using h2
  have h3:¬ y.kind = 3:=by simpa using h3
  have h4:y.kind = 2:=by simpa using h4
  refine ⟨_,c1,_,c1,aa (λh5=>no ?_) λh5=>⟨_,c1,_,_,_,B.c4 g14,aa (λh6=>no ?_) λh6=>?_⟩⟩
  ·have h5:=Uz h5
   unfold jH; rw [UE (by omega),UE (by omega),UE (by omega)]; omega
  ·have h6:=Uz h6
   unfold jH; rw [UE (by omega),UE (by omega),UE (by omega)]; omega
  ·have h5:=Uy h5
   have h6:=Uy h6
   rw [Ow (show aw (2 + y.to) from ⟨by omega,by omega⟩)]
   have e:jH g.prods.length y = 1 + y.to:=by unfold jH; rw [UE (by omega),UE (by omega),UJ (by omega)]
   refine aa (λh7=>no ?_) λh7=>yes _ ?_ ?_
   ·have h7:=Uz h7; omega
   ·omega
   ·have h7:=Uy h7; omega
 ·have h2:¬ y.kind = 1:=by simpa using h2
  have h3:¬ y.kind = 3:=by simpa using h3
  have h4:¬ y.kind = 2:=by simpa using h4
  refine fb (U4 (by omega)) (no ?_)
  unfold jH; rw [UE (by omega),UE (by omega),UE (by omega)]; omega
theorem Sk {xs:List ax} {a:Wr} {c:Nat} {d:Bool} (hr:aX (hp w) xs a xs.length):ay Tryz.prog tj [.slice a xs.length c,.bool d] w λv w'=>v = .agg ⟨bD (iQ (xs,d))⟩/\Gr w w':=by
 refine pH (af (St.all w) λk1 w1 h=>?_)
 have g1:Gr w w1:=h.aR
 refine aa (λh1=>?_) λh1=>aa (λh2=>?_) λh2=>?_
 ·have h1:0 < xs.length:=by have:=Uz h1; omega
  obtain ⟨y,ad,hy,rfl,ry⟩:=bM (hr.mono g1) h1
  rw [show (cR 0 2) = 0 from rfl,show ad.add 0 = ad from by simp [Addr.add]] at ry
  refine gk rfl h1 ⟨_,_,ry.at (sub.refl _) rfl,aI h rfl (by simp [aH]) λw2 h=>⟨_,_,(ag 0 h.l).at (sub.refl _) rfl,?_,h.aR⟩⟩
  cases xs with
  | nil=>simp at h1
  | cons z r=>simp at hy; subst hy; rfl
 ·have e:xs = []:=UL (by have:=Uy h1; omega)
  subst e
  subst h2
  exact aI h rfl (by simp [aH]) λw2 h=>⟨_,_,(ag 0 h.l).at (sub.refl _) rfl,rfl,h.aR⟩
 ·have e:xs = []:=UL (by have:=Uy h1; omega)
  subst e
  subst h2
  exact aI h rfl (by simp [aH]) λw2 h=>⟨_,_,(ag 0 h.l).at (sub.refl _) rfl,rfl,h.aR⟩
theorem Sl {xs:List ax} {a:Wr} {c t:Nat} (hc:aq g) (hg:gR (hp w) g x) (hr:aX (hp w) xs a xs.length) (ho:lq g.prods.length xs) (ht:t < g.T):ay Tryz.prog th [.agg ⟨x.cells⟩,.int .i64 (t:Int),.slice a xs.length c] w λv w'=>∃ (o:Wr) (c' : Nat),v = .tuple #[.slice o (aZ g t xs).1.length c',.bool (aZ g t xs).2]/\St w' (own 2 o (aZ g t xs).1.length c' (cZ (aZ g t xs).1) :: all w):=by
 obtain ⟨sT,sN,sP,sP2,_,_⟩:=hc.gB
 have hlen:=JZ (by omega) ho
 refine pF (cQ hg λk1 w1 gw hg1 B=>?_)
 have hr1:=hr.mono gw
 refine ⟨λb u=>w1 = u/\(b = true↔∃ y r,xs = y :: r/\y.kind = 1),aa (λh1=>?_) λh1=>⟨rfl,?_⟩,?_⟩
 ·have h1:0 < xs.length:=by have:=Uz h1; omega
  obtain ⟨y,ad,hy,rfl,ry⟩:=bM hr1 h1
  obtain ⟨r,hxr⟩ : ∃ r,xs = y :: r:=by
   cases xs with
   | nil=>simp at h1
   | cons z r=>simp at hy; subst hy; exact ⟨r,rfl⟩
  rw [show (cR 0 2) = 0 from rfl,show ad.add 0 = ad from by simp [Addr.add]] at ry
  refine gk rfl h1 ⟨_,ry.cell0 (sub.refl _),rfl,?_⟩
  rw [hxr]
  constructor
  ·intro h
   exact ⟨y,r,rfl,by simpa using h⟩
  ·rintro ⟨y',r',e,h⟩
   cases e
   simpa using h
 ·have e:xs = []:=UL (by have:=Uy h1; omega)
  subst e
  exact ⟨λh=>(by cases h),λ⟨_,_,h,_⟩=>(by cases h)⟩
 rintro _ b1 _ ⟨rfl,hb⟩
 -- an action's side
 have side:∀ y∈xs,y.kind = 2->∃ p:Nat,y.to = p/\p < g.prods.length/\nK g t y = bu g p t:=λy hy h2=>by
  obtain ⟨hp0,hp1⟩ : 0 < y.to/\y.to < g.prods.length:=by
   rcases Ii ho hy with ⟨h,_⟩ | ⟨h,_⟩ | ⟨_,h⟩
   ·omega
   ·omega
   ·exact h
  refine ⟨y.to.toNat,by omega,by omega,?_⟩
  unfold nK; rw [UJ h2]
 refine ⟨λb2 b3 z u=>∃ i:Nat,z = i/\i<=xs.length/\b2 = (!b1 || (xs.take i).all (oB g t))/\b3 = (b1 && (xs.take i).any (sR g t))/\Gr w1 u,λ_ _ z _=>xs.length - z.toNat,⟨0,rfl,UM _,by simp,by simp,Gr.refl _⟩,?_⟩
 rintro _ _ _ _ w3 ⟨i,rfl,hi,rfl,rfl,g13⟩
 refine aa (λh1=>?_) λh1=>?_
 ·have h1:i < xs.length:=by have:=Uz h1; omega
  obtain ⟨y,ad,hy,rfl,ry⟩:=bM (hr1.mono g13) h1
  have hym:=UC hy
  have htk:xs.take (i + 1) = xs.take i ++ [y]:=by rw [UI,hy]; rfl
  have next:∀ {u:Ws} (b2 b3:Bool),b2 = (!b1 || (xs.take (i + 1)).all (oB g t))->b3 = (b1 && (xs.take (i + 1)).any (sR g t))->Gr w1 u->aw ((i:Int) + 1)/\(∃ i' : Nat,(i:Int) + 1 = i'/\i'<=xs.length/\b2 = (!b1 || (xs.take i').all (oB g t))/\b3 = (b1 && (xs.take i').any (sR g t))/\Gr w1 u)/\xs.length - ((i:Int) + 1).toNat < xs.length - (i:Int).toNat:=λb2 b3 e2 e3 gu=>⟨⟨by omega,by omega⟩,⟨i + 1,by simp,h1,e2,e3,gu⟩,bK h1⟩
  refine ak rfl h1 ⟨_,ry.cell0 (sub.refl _),aa (λh2=>next _ _ ?_ ?_ g13) λh2=>aa (λh3=>next _ _ ?_ ?_ g13) λh3=>?_⟩
  ·have h2:y.kind≠2:=by simpa using h2
   rw [htk,Wh]; simp [J4 h2]
  ·have h2:y.kind≠2:=by simpa using h2
   rw [htk,List.any_append]; simp [J5 h2]
  ·have h3:b1 = false:=by simpa using h3
   rw [h3]; simp
  ·have h3:b1 = false:=by simpa using h3
   rw [h3]; simp
  have h2:y.kind = 2:=by simpa using h2
  have h3:b1 = true:=by simpa using h3
  obtain ⟨p,hp,hp1,es⟩:=side y hym h2
  intro w4 hd
  have g14:Gr w1 w4:=g13.trans (Gr.drawn hd)
  refine ⟨λu=>Gr w3 u,Gr.drawn hd,_,_,_,_,_,_,_,_,_,_,_,_,_,λu s=>B.row (sub.trans g13 s),ak rfl h1 ⟨_,λu s=>ry.cell s (j:=1) rfl,?_⟩⟩
  rw [hp]
  refine (On hc (hg1.mono g14) hp1 ht).mono ?_
  rintro _ w7 ⟨rfl,g47⟩
  rw [<- es]
  have g17:=g14.trans g47
  have hin:=N0 (g:=g) t y
  rw [h3] at next ⊢
  have e2:(!true || (xs.take (i + 1)).all (oB g t)) = ((xs.take i).all (oB g t) && (nK g t y != 2 && nK g t y != 3)):=by
   rw [htk,Wh]
   have:oB g t y = (nK g t y != 2 && nK g t y != 3):=by
    unfold oB
    by_cases h4:nK g t y = 2 <;> by_cases h5:nK g t y = 3 <;> simp [h4,h5]
   simp [this]
  have e3:(true && (xs.take (i + 1)).any (sR g t)) = ((xs.take i).any (sR g t) || (nK g t y == 3)):=by
   rw [htk,List.any_append]
   have:sR g t y = (nK g t y == 3):=by
    unfold sR
    by_cases h5:nK g t y = 3 <;> simp [h5]
   simp [this]
  have st:(!true || (xs.take i).all (oB g t)) = (xs.take i).all (oB g t):=by simp
  have nt:(true && (xs.take i).any (sR g t)) = (xs.take i).any (sR g t):=by simp
  rw [st,nt]
  refine ⟨_,rfl,(Gr.drawn hd).trans g47,aa (λh4=>aa (λh5=>aa (λh6=>?_) λh6=>?_) λh5=>aa (λh6=>?_) λh6=>?_) λh4=>aa (λh6=>?_) λh6=>?_⟩
  ·exact next _ _ (by rw [e2,h4,h5]; simp) (by rw [e3,h6]; simp) g17
  ·exact next _ _ (by rw [e2,h4,h5]; simp) (by rw [e3,h6]; simp) g17
  ·exact next _ _ (by rw [e2,h4,h5]; simp) (by rw [e3,h6]; simp) g17
  ·exact next _ _ (by rw [e2,h4,h5]; simp) (by rw [e3,h6]; simp) g17
  ·exact next _ _ (by rw [e2,h4]; simp) (by rw [e3,h6]; simp) g17
  ·exact next _ _ (by rw [e2,h4]; simp) (by rw [e3,h6]; simp) g17
 have h1:i = xs.length:=by have:=Uy h1; omega
 subst h1
 rw [UZ]
 obtain ⟨F,hF⟩ : ∃ F:ax->Bool,F = λx=>if b1 = true then (if x.kind = 1 then xs.all (oB g t) else nR g t x) else true:=⟨_,rfl⟩
 have hfl:∀ i,((xs.take i).filter F).length<=xs.length:=λi=>by
  have h1:=Vm F (xs.take i)
  rw [U0] at h1
  omega
 have hres:(xs.filter F,(b1 && xs.any (sR g t))) = aZ g t xs:=by
  by_cases h:b1 = true
  ·obtain ⟨y,r,rfl,hk⟩:=hb.1 h
   rw [<- Qo ho hk,hF,h]
   unfold Sj
   simp
  ·have e1:xs.filter F = xs:=List.filter_eq_self.2 λx _=>by rw [hF]; simp [h]
   have h:b1 = false:=by simpa using h
   rw [e1,h]
   cases xs with
   | nil=>rfl
   | cons y r=>exact (kF λhk=>by have:=hb.2 ⟨y,r,rfl,hk⟩; rw [h] at this; cases this).symm
 refine ⟨λo n c' z u=>∃ i:Nat,z = i/\i<=xs.length/\n = ((xs.take i).filter F).length/\St u (own 2 o n c' (cZ ((xs.take i).filter F)) :: has (hp w1) :: []),λ_ _ _ z _=>xs.length - z.toNat,⟨0,rfl,UM _,rfl,az 2 (St.here g13)⟩,?_⟩
 rintro _ o5 _ c5 _ w8 ⟨i,rfl,hi,rfl,h⟩
 have g18:Gr w1 w8:=bj 1 h.l
 refine aa (λh1=>?_) λh1=>?_
 rotate_left
 ·have h1:i = xs.length:=by have:=Uy h1; omega
  subst h1
  rw [UZ] at h ⊢
  rw [<- hres]
  exact ⟨_,_,rfl,St.u6 h (bY gw)⟩
 have h1:i < xs.length:=by have:=Uz h1; omega
 obtain ⟨y,ad,hy,rfl,ry⟩:=bM (hr1.mono g18) h1
 have hym:=UC hy
 have htk:xs.take (i + 1) = xs.take i ++ [y]:=by rw [UI,hy]; rfl
 have hfi:=hfl i
 refine ⟨λb4 u=>w8 = u/\b4 = (if y.kind = 1 then (!b1 || xs.all (oB g t)) else true),ak rfl h1 ⟨_,ry.cell0 (sub.refl _),aa (λh2=>⟨rfl,?_⟩) λh2=>⟨rfl,?_⟩⟩,?_⟩
 ·have h2:y.kind = 1:=by simpa using h2
  rw [UJ h2]
 ·have h2:¬ y.kind = 1:=by simpa using h2
  rw [UE h2]
 rintro _ b4 _ ⟨rfl,hb4⟩
 have hFy:F y = if b1 = true then (if y.kind = 1 then xs.all (oB g t) else nR g t y) else true:=by rw [hF]
 refine ⟨λb5 u=>Gr w8 u/\St u (own 2 o5 ((xs.take i).filter F).length c5 (cZ ((xs.take i).filter F)) :: has (hp w1) :: [])/\b5 = F y,ak rfl h1 ⟨_,ry.cell0 (sub.refl _),aa (λh2=>aa (λh3=>?_) λh3=>⟨Gr.refl _,h,?_⟩) λh2=>⟨Gr.refl _,h,?_⟩⟩,?_⟩
 ·have h2:y.kind = 2:=by simpa using h2
  obtain ⟨p,hp,hp1,es⟩:=side y hym h2
  intro w10 hd
  have g810:Gr w8 w10:=Gr.drawn hd
  refine ⟨λu=>Gr w8 u,g810,_,_,_,_,_,_,_,_,_,_,_,_,_,λu s=>B.row (sub.trans g18 s),ak rfl h1 ⟨_,λu s=>ry.cell s (j:=1) rfl,?_⟩⟩
  rw [hp]
  refine (On hc (hg1.mono (g18.trans g810)) hp1 ht).mono ?_
  rintro _ w13 ⟨rfl,g13'⟩
  have g813:=g810.trans g13'
  rw [<- es]
  refine ⟨_,rfl,g813,aa (λh4=>⟨g813,h.gr g813,?_⟩) λh4=>⟨g813,h.gr g813,?_⟩⟩
  ·have h4:nK g t y = 0:=by simpa using h4
   rw [hFy,UJ h3,UE (by omega)]
   exact (U4 (.inl h4)).symm
  ·have h4:¬ nK g t y = 0:=by simpa using h4
   rw [hFy,UJ h3,UE (by omega)]
   unfold nR
   by_cases h5:nK g t y = 2 <;> simp [h4,h5]
 ·rw [hFy,hb4,h3]; simp
 ·have h2:¬ y.kind = 2:=by simpa using h2
  rw [hFy,hb4]
  cases b1 with
  | false=>simp
  | true =>
   by_cases h3:y.kind = 1
   ·simp [h3]
   ·simp [h3,Qn h2]
 rintro _ b5 w14 ⟨g814,h,hb5⟩
 refine aa (λh2=>?_) λh2=>?_
 ·rw [h2] at hb5
  have e:(xs.take (i + 1)).filter F = (xs.take i).filter F ++ [y]:=by rw [htk,Vi,VF hb5.symm]; simp
  refine ak rfl h1 ⟨_,_,ry.at g814 rfl,af h λk20 w15 h=>?_⟩
  refine (aW (us:=cZ ((xs.take i).filter F)) aL (rfl:ah Ty _ = .slice _) (rfl:ah Ty _ = .slice _) rfl rfl rfl h rfl (by simp [aH]) (by show (((xs.take i).filter F).length + 1) * 16<=_; omega) (by omega)).mono ?_
  rintro _ w16 ⟨o4,c4,rfl,h⟩
  refine ⟨_,_,_,rfl,⟨by omega,by omega⟩,⟨i + 1,by simp,h1,by rw [e]; simp,?_⟩,bK h1⟩
  rw [e,zm]
  exact h.pick 2 [0]
 ·rw [h2] at hb5
  have e:(xs.take (i + 1)).filter F = (xs.take i).filter F:=by rw [htk,Vi,VG (by rw [<- hb5]; simp)]; simp
  exact ⟨⟨by omega,by omega⟩,⟨i + 1,by simp,h1,by rw [e],by rw [e]; exact h⟩,bK h1⟩
end Go.Proofs.YtndaepmjkbmjmaaGreatDoor
namespace Go.V
theorem Lm {g:ae} {t:Int} {xs:List ax} {a a' : ax} {l l' : List ax} {e e' : Int} (h:GJ g t xs a l e) (h' : GJ g t xs a' l' e'):a' = a/\l' = l/\e' = e:=by
 rcases h with ⟨h1,rfl,rfl,rfl⟩ | ⟨hc,ho,j,rfl,hj,rfl,rfl,rfl⟩ <;> rcases h' with ⟨k1,rfl,rfl,rfl⟩ | ⟨kc,ko,j',k2,kj,rfl,rfl,rfl⟩
 ·exact ⟨rfl,rfl,rfl⟩
 ·exact absurd ⟨kc,by omega,by omega,ko⟩ h1
 ·exact absurd ⟨hc,by omega,by omega,ho⟩ k1
 ·obtain rfl:j' = j:=by omega
  exact ⟨rfl,rfl,rfl⟩
theorem Ox {w:Ws} {L:List au} {o:Wr} {n c j:Nat} {ys:List ax} {y:ax} {X:Ws->Prop} (h:St w (own 2 o n c (cZ ys) :: L)) (hn:ys.length = n) (hj:j < n) (hX:∀ w',St w' (own 2 o n c (cZ (ys.set j y)) :: L)->X w'):idx o n (j:Int) 2 λa=>cG w a [.int .i64 y.kind,.int .i64 y.to] X:=by
 obtain ⟨ad,ha⟩:=e_ h (by rw [gF]; omega)
 refine ak ha hj ?_
 rw [aF]
 refine vq (i:=j * 2) h ha (by rw [gF]; simp; omega) (by simp [aH]) (by simp) λw' h=>hX w' ?_
 have e:=Io (f:=bD) (n:=2) (λ_=>rfl) ys j y (by omega)
 have h:St w' (own 2 o n c ((ys.flatMap bD).take (j * 2) ++ bD y ++ (ys.flatMap bD).drop (j * 2 + 2)) :: L):=h
 rw [e] at h
 exact h
theorem Qs {h:Hp} {xs:List ax} {a:Wr} {l n c:Nat} (r:aX h xs a l) (hn:n<=l) (hc:l<=c):aX h (xs.take n) (eJ a 0 c 2) n:=by
 have:=(r.take hn).drop (k:=0) (m:=c) (by omega) (by omega)
 exact this
end Go.V
namespace Go.Proofs.YtndaepmjkbmjmaaGreatDoor
variable {w:Ws} {L:List au} {g:ae} {x:GA}
theorem Oy {xs:List ax} {a:Wr} {c:Nat} {st t:Int} (hg:gR (hp w) g x) (hb:iK g) (hr:aX (hp w) xs a xs.length) (hl:xs.length<=4611686018427387904):ay Tryz.prog tf [.agg ⟨x.cells⟩,.agg #[.int .i64 st,.int .i64 t,.slice a xs.length c]] w λv w'=>∃ (ac:ax) (l:List ax) (e:Int) (o:Wr) (c' : Nat),v = .tuple #[.agg ⟨bD ac⟩,.slice o l.length c',.int .i64 e]/\GJ g t xs ac l e/\St w' (own 2 o l.length c' (cZ l) :: all w):=by
 refine pB (cQ hg λk1 w1 gw hg1 B=>af (St.all w1) λk2 w2 h=>af h λk3 w3 h=>?_)
 have g13:Gr w1 w3:=bj 2 h.l
 have r2:av (hp w3) (aM k2) [.int .i64 st,.int .i64 t,.slice a xs.length c]:=ag 1 h.l
 have tl:=hg1.t.1
 have eT:g.T = g.terms.length:=rfl
 have hr3:=hr.mono (gw.trans g13)
 have no:∀ {u:Ws},St u (aS k3 [.int .i64 0,.int .i64 0] :: aS k2 [.int .i64 st,.int .i64 t,.slice a xs.length c] :: all w1)->¬ (aq g/\0<=t/\t < g.T/\lq g.prods.length xs) ->
   cG u (aM k3) [.int .i64 0,.int .i64 0] λw6=>∃ n4 n5,V.rowAt w6 (aM k3) 0 2 = some [.int .i64 n4,.int .i64 n5]/\∃ (ac:ax) (l:List ax) (e:Int) (o:Wr) (c' : Nat),(.tuple #[.agg #[.int .i64 n4,.int .i64 n5],.slice none 0 0,.int .i64 1] : Value) = .tuple #[.agg ⟨bD ac⟩,.slice o l.length c',.int .i64 e]/\GJ g t xs ac l e/\St w6 (own 2 o l.length c' (cZ l) :: all w):=λhu hh =>
  aI hu rfl (by simp [aH]) λw7 h=>⟨_,_,(ag 0 h.l).at (sub.refl _) rfl,⟨0,0⟩,[],1,none,0,rfl,.inl ⟨hh,rfl,rfl,rfl⟩,az 2 (St.here (sub.trans gw (bj 2 h.l)))⟩
 refine ⟨_,_,_,_,_,_,_,_,_,_,_,_,_,B.row g13,(z_ (hg1.mono g13) hb).mono ?_⟩
 rintro _ w4 ⟨⟨r,rfl,hrr⟩,g34⟩
 refine ⟨_,rfl,λb u=>w4 = u/\(b = false↔(aq g/\0<=t/\t < g.T)),aa (λh1=>⟨rfl,?_⟩) λh1=>⟨_,r2.cell g34 (j:=1) rfl,aa (λh2=>⟨rfl,?_⟩) λh2=>⟨_,r2.cell g34 (j:=1) rfl,_,_,_,B.c0 (g13.trans g34),rfl,?_⟩⟩,?_⟩
 ·have:r = false:=by simpa using h1
  exact ⟨λh=>(by cases h),λh=>by rw [hrr.2 h.1] at this; cases this⟩
 ·have:=Uz h2
  exact ⟨λh=>(by cases h),λh=>by omega⟩
 ·have h1:r = true:=by simpa using h1
  have h2:=Uy h2
  refine ⟨λh=>?_,λh=>U5 (by omega)⟩
  have:=Uy h
  exact ⟨hrr.1 h1,by omega,by omega⟩
 rintro _ b _ ⟨rfl,hb6⟩
 have h:=h.gr g34
 refine aa (λh1=>?_) λh1=>?_
 ·subst h1
  exact no h λhh=>by cases hb6.2 ⟨hh.1,hh.2.1,hh.2.2.1⟩
 subst h1
 obtain ⟨hc,t0,t1⟩:=hb6.1 rfl
 obtain ⟨j,rfl⟩ : ∃ j:Nat,t = j:=⟨t.toNat,by omega⟩
 refine ⟨_,_,_,_,_,_,_,_,_,_,_,_,_,B.row (g13.trans g34),_,_,_,r2.cell g34 (j:=2) rfl,(Tm (hg1.mono (g13.trans g34)) hb (hr3.mono g34) hl).mono ?_⟩
 rintro _ w7 ⟨rfl,g47⟩
 have h:=h.gr g47
 have g17:=g13.trans (g34.trans g47)
 refine ⟨_,rfl,aa (λh1=>no h λhh=>?_) λh1=>?_⟩
 ·have h1:¬ lq g.prods.length xs:=by simpa using h1
  exact h1 hh.2.2.2
 have ho:lq g.prods.length xs:=by simpa using h1
 refine ⟨_,_,_,_,_,_,_,_,_,_,_,_,_,B.row g17,_,(r2.mono (g34.trans g47)).cell (sub.refl _) (j:=1) rfl,_,_,_,(r2.mono (g34.trans g47)).cell (sub.refl _) (j:=2) rfl,(Sl hc (hg1.mono g17) (hr3.mono (g34.trans g47)) ho (by omega)).mono ?_⟩
 rintro _ w9 ⟨o,c',rfl,h9⟩
 have h:=St.u6 h9 h.l
 obtain ⟨l,hl9⟩ : ∃ l,l = aZ g j xs:=⟨_,rfl⟩
 rw [<- hl9] at h h9 ⊢
 refine ⟨_,_,_,_,rfl,(Sk (xs:=l.1) (kv rfl (ee 0 h.l))).mono ?_⟩
 rintro _ w10 ⟨rfl,g910⟩
 have h:=h.gr g910
 refine ⟨_,_,rfl,af h λk36 w11 h=>aI h rfl (by simp [aH]) λw12 h=>aa (λh2=>?_) λh2=>?_⟩
 ·have h2:l.1.length < 2:=by have:=Uz h2; omega
  refine ⟨_,_,(ag 0 h.l).at (sub.refl _) rfl,?_⟩
  refine aI (h.pick 4 [2,0,1,3]) rfl (by simp [aH]) λw13 h=>?_
  refine ⟨_,_,(ag 0 h.l).at (sub.refl _) rfl,?_⟩
  refine ⟨iQ l,[],0,none,0,rfl,.inr ⟨hc,ho,j,rfl,by omega,by rw [hl9],?_,rfl⟩,az 2 (St.here (sub.trans gw (bj 4 h.l)))⟩
  rw [<- hl9]; unfold ib; rw [UE (by omega)]
 ·have h2:¬ l.1.length < 2:=by have:=Uy h2; omega
  refine ⟨_,_,(ag 0 h.l).at (sub.refl _) rfl,?_⟩
  refine aI (h.pick 4 [2,0,1,3]) rfl (by simp [aH]) λw13 h=>?_
  refine ⟨_,_,(ag 0 h.l).at (sub.refl _) rfl,?_⟩
  refine ⟨iQ l,l.1,0,o,c',rfl,.inr ⟨hc,ho,j,rfl,by omega,by rw [hl9],?_,rfl⟩,St.u6 (h.pick 4 [2]) (bY gw)⟩
  rw [<- hl9]; unfold ib; rw [UJ (by omega)]
theorem Bg {xs:List ax} {a:Wr} {c:Nat} {st t:Int} (hg:gR (hp w) g x) (hr:aX (hp w) xs a xs.length) (hb:iK g) (hbX:(xs.length + 1) * 16<=140737488355328) (ht:dG (hp w)):ay Tryz.prog ky [.agg ⟨x.cells⟩,.agg #[.int .i64 st,.int .i64 t,.slice a xs.length c]] w λv w'=>v = .bool true/\Gr w w':=by
 refine jz (cQ hg λk1 w1 gw hg1 B=>af (St.all w1) λk2 w2 h=>?_)
 have g12:Gr w1 w2:=h.aR
 have r2:av (hp w2) (aM k2) [.int .i64 st,.int .i64 t,.slice a xs.length c]:=ag 0 h.l
 clear h
 have hr1:=hr.mono gw
 refine (rX (fp.mono (gw.trans g12) ht)).mono ?_
 rintro _ w3 ⟨rfl,g23⟩
 have g13:=g12.trans g23
 refine ⟨_,rfl,_,_,_,r2.cell g23 (j:=2) rfl,(zc (us:=[]) (news:=cZ xs) aL (rfl:ah Ty _ = .slice _) (rfl:ah Ty _ = .slice _) rfl rfl rfl (az 2 (St.all w3)) (by rw [gF]) (by show 0 < 2; decide) (GH (hr1.mono g13)) (Eu xs) (by show (0 + xs.length) * 16<=_; omega) (by omega)).mono ?_⟩
 rintro _ w4 ⟨o2,c2,rfl,h⟩
 have h:St w4 (own 2 o2 (0 + xs.length) c2 (cZ xs) :: all w3):=h
 rw [Vr] at h ⊢
 refine ⟨_,_,_,rfl,af h λk7 w5 h=>?_⟩
 refine (aW (us:=cZ xs) aL (rfl:ah Ty _ = .slice _) (rfl:ah Ty _ = .slice _) rfl rfl rfl h rfl (by simp [aH]) (by show (xs.length + 1) * 16<=_; omega) (by omega)).mono ?_
 rintro _ w6 ⟨o3,c3,rfl,h⟩
 have g36:Gr w3 w6:=bj 2 h.l
 have hc3:=dj h
 obtain ⟨al,hal⟩ : ∃ al,al = xs ++ [(⟨7,7⟩ : ax)]:=⟨_,rfl⟩
 have hall:al.length = xs.length + 1:=by rw [hal]; simp
 have htk:al.take xs.length = xs:=by rw [hal]; simp
 have hA:aX (hp w6) al o3 (xs.length + 1):=kv hall (by rw [hal,zm]; exact ee 0 h.l)
 clear h
 have hI:aX (hp w6) xs (eJ o3 0 c3 2) xs.length:=by
  have:=Qs hA (n:=xs.length) (by omega) hc3
  rwa [htk] at this
 refine ⟨_,_,_,rfl,λw7 hd=>?_⟩
 have g67:Gr w6 w7:=Gr.drawn hd
 have g27:Gr w2 w7:=g23.trans (g36.trans g67)
 refine ⟨λu=>Gr w7 u,Gr.refl _,_,λu s=>r2.cell0 (g27.trans s),_,λu s=>r2.cell (g27.trans s) (j:=1) rfl,_,_,_,λu s=>r2.cell (g27.trans s) (j:=2) rfl,l9 (by omega) (af (St.all w7) λk14 w11 h=>⟨h.aR,aI h rfl (by simp [aH]) λw12 h=>?_⟩)⟩
 have g712:Gr w7 w12:=h.aR
 have r14:av (hp w12) (aM k14) [.int .i64 st,.int .i64 t,.slice (eJ o3 0 c3 2) xs.length c3]:=ag 0 h.l
 clear h
 have g612:=g67.trans g712
 have g212:=g27.trans g712
 have g112:=g12.trans g212
 refine ⟨λz u=>∃ i:Nat,z = i/\i<=2/\Gr w12 u,λz _=>2 - z.toNat,⟨0,rfl,by omega,Gr.refl _⟩,?_⟩
 rintro _ _ w13 ⟨i,rfl,hi,g1213⟩
 have g113:=g112.trans g1213
 have g613:=g612.trans g1213
 refine aa (λh1=>?_) λh1=>?_
 ·have h1:i < 2:=by have:=Uz h1; omega
  refine ⟨_,_,_,_,_,_,_,_,_,_,_,_,_,B.row g113,_,_,_,_,_,r14.at g1213 rfl,(Oe (hg1.mono g113) hb (hI.mono g613) (by omega) (by omega)).mono ?_⟩
  rintro _ w14 ⟨ac,l,e,o,c',rfl,hC,h⟩
  refine ⟨_,_,_,_,_,_,rfl,af h λk27 w15 h=>aI h rfl (by simp [aH]) λw16 h=>?_⟩
  have g1316:Gr w13 w16:=bj 2 h.l
  have g116:=g113.trans g1316
  refine ⟨_,_,_,_,_,_,_,_,_,_,_,_,_,B.row g116,_,_,_,_,_,r2.at (g212.trans (g1213.trans g1316)) rfl,(Oy (hg1.mono g116) hb (hr1.mono g116) (by omega)).mono ?_⟩
  rintro _ w17 ⟨ac',l',e',o',c'',rfl,hC',h'⟩
  obtain ⟨rfl,rfl,rfl⟩:=Lm hC hC'
  have hll:l'.length<=xs.length:=by
   rcases hC with ⟨_,_,rfl,_⟩ | ⟨_,_,j,_,_,_,rfl,_⟩
   ·simp
   ·exact U7 Od xw
  have h:=St.u6 h' h.l
  clear h'
  refine ⟨_,_,_,_,_,_,rfl,af h λk40 w18 h=>aI h rfl (by simp [aH]) λw19 h=>?_⟩
  refine (mJ (kv rfl (ee 3 h.l)) (kv rfl (ee 1 h.l)) ?_).mono ?_
  ·omega
  rintro _ w20 ⟨rfl,g1920⟩
  have h:=h.gr g1920
  refine ⟨_,rfl,λb u=>w20 = u/\b = false,dZ (by simp) ⟨_,_,(ag 2 h.l).at (sub.refl _) rfl,_,_,(ag 0 h.l).at (sub.refl _) rfl,_,C0 w20 _ _ _ _,_,rfl,dZ (by simp) ⟨rfl,by simp⟩⟩,?_⟩
  rintro _ _ _ ⟨rfl,rfl⟩
  refine dZ rfl ⟨λz u=>∃ (k:Nat) (ys:List ax),z = k/\k<=l'.length/\ys.length = l'.length/\St u (own 2 o l'.length c' (cZ ys) :: all w13),λz _=>l'.length - z.toNat,⟨0,l',rfl,UM _,rfl,h.pick 4 [3]⟩,?_⟩
  clear h
  rintro _ _ w22 ⟨k,ys,rfl,hk,hys,h⟩
  refine aa (λh2=>?_) λh2=>?_
  ·have h2:k < l'.length:=by have:=Uz h2; omega
   exact Ox (y:=⟨9,0⟩) h hys h2 λw23 h=>⟨⟨by omega,by omega⟩,⟨k + 1,_,by simp,h2,by rw [Vj,hys],h⟩,bK h2⟩
  ·exact ⟨⟨by omega,by omega⟩,⟨i + 1,by simp,h1,g1213.trans h.aR⟩,bK h1⟩
 ·intro w24 hd
  have g24:Gr w12 w24:=g1213.trans (Gr.drawn hd)
  have g224:=g212.trans g24
  refine ⟨λu=>Gr w24 u,Gr.refl _,_,_,_,λu s=>r2.cell (g224.trans s) (j:=2) rfl,l9 (by omega) ⟨_,_,_,λu s=>r2.cell (g224.trans s) (j:=2) rfl,(mJ (hI.mono (g612.trans g24)) (hr1.mono (g12.trans g224)) (by omega)).mono ?_⟩⟩
  rintro _ w27 ⟨rfl,g27'⟩
  have g627:=g612.trans (g24.trans g27')
  refine ⟨_,rfl,g27',fb rfl (fb (by simp) ⟨⟨by omega,by omega⟩,?_⟩)⟩
  obtain ⟨y,ad,hy,rfl,ry⟩:=bM (hA.mono g627) (show xs.length < xs.length + 1 by omega)
  have hy7:y = ⟨7,7⟩:=by rw [hal] at hy; simpa using hy.symm
  subst hy7
  rw [show ((xs.length + 1:Nat):Int) - 1 = (xs.length:Int) from by omega]
  exact ak rfl (by omega) ⟨_,ry.cell0 (sub.refl _),by simp,gw.trans (g12.trans (g224.trans g27'))⟩
end Go.Proofs.YtndaepmjkbmjmaaGreatDoor
namespace Go.V
open Go.RowKit Go.WideShapes Go.ChangeShapes
theorem GR {w:Ws} {a:Addr} {v:Value} (h:w.cell? a = some v):oN (hp w) a = some v:=by
 unfold World.cell? at h
 unfold oN hp
 cases ho:w.heap[a.block]? with
 | none=>rw [ho] at h; cases h
 | some o=>rw [ho] at h; cases o <;> first | exact h | cases h
theorem C7 {α β : Type} {f:α->Option β}:∀ {l:List α} {r:List β},l.mapM f = some r->r.length = l.length/\∀ (i:Nat) (a:α) (b:β),l[i]? = some a->r[i]? = some b->f a = some b
 | [],r,h=>by
  simp at h; subst h; exact ⟨rfl,λi a b ha=>by simp at ha⟩
 | x :: l,r,h=>by
  simp only [List.mapM_cons,Option.bind_eq_bind,Option.bind_eq_some_iff,Option.pure_def,Option.some.injEq] at h
  obtain ⟨b,hb,r',hr',rfl⟩:=h
  obtain ⟨h1,h2⟩:=C7 hr'
  refine ⟨by simp [h1],λi a b' ha hb'=>?_⟩
  cases i with
  | zero=>simp at ha hb'; subst ha; subst hb'; exact hb
  | succ i=>exact h2 i a b' (by simpa using ha) (by simpa using hb')
theorem Ln {w:Ws} {base n:Nat} {a:Addr} {vs:List Value} (h:w.cells? base a n = some vs):av (hp w) a vs:=by
 unfold World.cells? at h
 split at h
 ·obtain ⟨h1,h2⟩:=C7 h
  intro j v hj
  have hlt:=(UA.1 hj).1
  rw [h1,Vw] at hlt
  exact GR (h2 j j v (by simp [hlt]) hj)
 ·cases h
theorem qZ {H:Type} {P:Program} {e:TypeId} {N:Nat}:∀ {l:List (DataW H)},(DataW.weightsAll P e l).all (·<=N) = true->∀ d∈l,(d.weights P e).all (·<=N) = true
 | [],_,d,hd=>by simp at hd
 | x :: l,h,d,hd=>by
  rw [DataW.weightsAll,Wh,UT] at h
  rcases UR.1 hd with rfl | hd
  ·exact h.1
  ·exact qZ h.2 d hd
theorem ct {H:Type} {P:Program} {N:Nat}:∀ {ts:List TypeId} {l:List (DataW H)},(DataW.weightsEach P ts l).all (·<=N) = true->∀ (i:Nat) t d,ts[i]? = some t->l[i]? = some d->(d.weights P t).all (·<=N) = true
 | [],l,_,i,t,d,ht,_=>by simp at ht
 | _ :: _,[],_,i,t,d,_,hd=>by simp at hd
 | t0 :: ts,x :: l,h,i,t,d,ht,hd=>by
  rw [DataW.weightsEach,Wh,UT] at h
  cases i with
  | zero=>simp at ht hd; subst ht; subst hd; exact h.1
  | succ i=>exact ct h.2 i t d (by simpa using ht) (by simpa using hd)
def EB (P:Program) (α : Type) [nQ α] (bd:α->Prop) (t:TypeId):Prop :=
 ∀ {H:Type} (enc:TypeId × Value->H) (W:Ws) (n:Nat) (cs:List Value) (x:DataW H × List MemPlace),DataW.trod enc P W 0 (λ_=>true) true n t cs = some x->(x.1.weights P t).all (·<=reachBytes) = true->∃ y:α,rd (hp W) y cs/\bd y
def anyS:ByteArray->Prop:=λs=>s.size<=reachBytes
def GS {α : Type} (bytes:Nat) (bd:α->Prop):List α->Prop:=λxs=>xs.length * bytes<=reachBytes/\∀ x∈xs,bd x
section
variable {P:Program} {t e:TypeId}
theorem Qt (ht:P.underlying t = some (.int .i64)):EB P Int anyI t:=by
 intro H enc W n cs x h hw
 obtain ⟨z,rfl,_,hwf⟩:=DataW.trod_int ht h
 refine ⟨z,rfl,?_⟩
 have:IntKind.i64.min<=z/\z<=IntKind.i64.max:=by simpa [Lit.wf] using hwf
 exact this
theorem Qu (ht:P.underlying t = some .string):EB P ByteArray anyS t:=by
 intro H enc W n cs x h hw
 obtain ⟨z,rfl,rfl,_⟩:=DataW.trod_string ht h
 refine ⟨z,rfl,?_⟩
 simpa [DataW.weights,anyS] using hw
theorem nO {α : Type} [nQ α] {bd:α->Prop} {bb:Nat} (ht:P.underlying t = some (.slice e)) (hc:P.cellsOf e = nQ.n α) (hb:P.bytesOf e = bb) (he:EB P α bd e):EB P (List α) (GS bb bd) t:=by
 intro H enc W n cs x h hw
 rcases DataW.trod_slice ht h with ⟨rfl,rfl⟩ | ⟨a,len,cap,elems,rest,m,rfl,rfl,rfl,_,hlc,hcm,hel,hg,_,_⟩
 ·exact ⟨[],⟨none,0,0,rfl,US _,aX.nil⟩,by simp [reachBytes],λx hx=>by simp at hx⟩
 ·simp only [DataW.weights,ht,List.all_cons,Wh,UT,UO,UH] at hw
  obtain ⟨hw1,hw2,_⟩:=hw
  have key:∀ k,k<=len->∃ ys:List α,ys.length = k/\(∀ i y,ys[i]? = some y->∃ vs,av (hp W) (a.add (cR i (nQ.n α))) vs/\rd (hp W) y vs)/\∀ y∈ys,bd y:=by
   intro k
   induction k with
   | zero=>exact λ_=>⟨[],rfl,λi y hy=>by simp at hy,λy hy=>by simp at hy⟩
   | succ k ih =>
    intro hk
    obtain ⟨ys,h1,h2,h3⟩:=ih (by omega)
    have hgk:=hg k (by omega)
    obtain ⟨d,hd⟩ : ∃ d,elems[k]? = some d:=⟨elems[k]'(by omega),UB _⟩
    rw [hd,Option.bind_eq_some_iff] at hgk
    obtain ⟨vs,hv1,hv2⟩:=hgk
    obtain ⟨y,hy1,hy2⟩:=he enc W m vs d hv2 (qZ hw2 _ (by
     have:=UC hd
     exact List.mem_map_of_mem this))
    refine ⟨ys ++ [y],by simp [h1],λi z hz=>?_,λz hz=>?_⟩
    ·by_cases hi:i < k
     ·rw [UQ (by omega)] at hz
      exact h2 i z hz
     ·have:i = k:=by
       have:=(UA.1 hz).1
       simp at this; omega
      subst this
      rw [UP (by omega),h1,Vu] at hz
      cases hz
      refine ⟨vs,?_,hy1⟩
      rw [aF,<- hc]
      exact Ln hv1
    ·rcases UF.1 hz with hz | hz
     ·exact h3 z hz
     ·simp at hz; subst hz; exact hy2
  obtain ⟨ys,h1,h2,h3⟩:=key len (US _)
  refine ⟨ys,⟨some a,len,cap,rfl,hlc,h1,λi y hy=>?_⟩,?_,h3⟩
  ·obtain ⟨vs,h4,h5⟩:=h2 i y hy
   exact ⟨a,vs,rfl,h4,h5⟩
  ·rw [h1,<- hb,<- hel]
   exact U7 (VW _ (Nat.le_add_right _ _)) hw1
theorem lA {fs:Array Field} (ht:P.underlying t = some (.struct fs)) {H:Type} {enc:TypeId × Value->H} {W:Ws} {n:Nat} {cs:List Value} {x:DataW H × List MemPlace} (h:DataW.trod enc P W 0 (λ_=>true) true n t cs = some x) (hw:(x.1.weights P t).all (·<=reachBytes) = true) :
  cs.length = P.cellsOf t/\∀ (i:Nat) (f:Field) (ty k o:Nat),fs[i]? = some f->P.cellsOf ty = k->f.type = ty->f.offset = o->∃ (m:Nat) (d:DataW H × List MemPlace),DataW.trod enc P W 0 (λ_=>true) true m ty ((cs.drop o).take k) = some d/\(d.1.weights P ty).all (·<=reachBytes) = true:=by
 obtain ⟨xs,m,rfl,rfl,hl,hxs,hf⟩:=DataW.trod_struct ht h
 refine ⟨hl,?_⟩
 rintro i f _ _ _ hi rfl rfl rfl
 have hlt:=(Vd.1 hi).1
 obtain ⟨d,hd⟩ : ∃ d,xs[i]? = some d:=⟨xs[i]'(by omega),UB _⟩
 refine ⟨m,d,by rw [hf i f hi,hd],?_⟩
 simp only [DataW.weights,ht] at hw
 exact ct hw i f.type d.1 (by simp [hi]) (by simp [hd])
theorem Qv {α : Type} [nQ α] {bd:α->Prop} (ho:EB P α bd t) {H:Type} {enc:TypeId × Value->H} {W:Ws} {v:Value} {d:DataW H} {ps:List MemPlace} (h:DataW.Trod enc P W 0 (λ_=>true) true t v d ps)
  (hw:(d.weights P t).all (·<=reachBytes) = true):∃ y:α,rd (hp W) y v.cells.toList/\bd y:=by
 obtain ⟨n,h⟩:=h
 exact ho enc W n _ _ h hw
theorem J8 {H:Type} {enc:TypeId × Value->H} {W:Ws} {b:Nat} {v:Value} {d:DataW H} {ps:List MemPlace} (ht:P.underlying t = some (.int .i64)) (hval:Value.okWide P W .any b t v) (h:DataW.Trod enc P W 0 (λ_=>true) true t v d ps):∃ x:Int,v = .int .i64 x/\anyI x:=by
 obtain ⟨n,rfl,_,_,hwf⟩:=open_int ht hval h
 refine ⟨n,rfl,?_⟩
 have:IntKind.i64.min<=n/\n<=IntKind.i64.max:=by simpa [Lit.wf] using hwf
 exact this
theorem lB {α : Type} [nQ α] {bd:α->Prop} {fs:Array Field} (ho:EB P α bd t) (ht:P.underlying t = some (.struct fs)) {H:Type} {enc:TypeId × Value->H} {W:Ws} {b:Nat} {v:Value} {d:DataW H} {ps:List MemPlace}
  (hval:Value.okWide P W .any b t v) (h:DataW.Trod enc P W 0 (λ_=>true) true t v d ps) (hw:(d.weights P t).all (·<=reachBytes) = true):∃ (x:α) (cs:List Value),v = .agg ⟨cs⟩/\rd (hp W) x cs/\bd x:=by
 obtain ⟨x,hr,hb⟩:=Qv ho h hw
 simp only [Value.okWide,ht] at hval
 obtain ⟨cs,rfl,_⟩:=hval
 exact ⟨x,cs.toList,rfl,hr,hb⟩
theorem Oz {w w' : Ws} (h:Ev w w') (g:Gr w w'):Below w.heap.size w w':=by
 refine ⟨h.os,h.tape,h.output,h.size,λk hk=>?_⟩
 cases ho:w.heap[k]? with
 | none=>rw [Array.getElem?_eq_none_iff] at ho; omega
 | some o =>
  by_cases hd:ED o = true
  ·have:hp w k = some o:=by unfold hp; rw [ho,zq hd]
   exact mM (g k o this)
  ·cases o <;> first | exact absurd rfl hd | exact h.dfr _ _ ho
theorem tu (hl:laidOutB P = true) {H:Type} {enc:TypeId × Value->H} {W W' : Ws} (hb:Below W.heap.size W W') {sp:Nat->Bool}:∀ {ts:List TypeId} {vs:List Value} {ds:List (DataW H)} {ps:List MemPlace},
  (ts.all λt=>P.readableRec t && decide (t < P.types.size)) = true->DataW.TrodAll enc P W 0 (λ_=>true) true ts vs ds ps->(∀ x∈ps,x.block < W.heap.size)->(∀ x∈ps,sp x.block = true) ->
  DataW.TrodAll enc P W' 0 sp true ts vs ds ps
 | [],[],[],ps,_,h,_,_=>h
 | [],_ :: _,_,_,_,h,_,_=>h.elim
 | [],[],_ :: _,_,_,h,_,_=>h.elim
 | _ :: _,[],_,_,_,h,_,_=>h.elim
 | _ :: _,_ :: _,[],_,_,h,_,_=>h.elim
 | t :: ts,v :: vs,d :: ds,ps,ht,h,hlt,hsp=>by
  obtain ⟨p,q,h1,h2,rfl⟩:=h
  rw [List.all_cons,UT,UT,UO] at ht
  exact ⟨p,q,WideElems.Trod_stays hl ht.1.1 ht.1.2 h1 (λx hx=>hb.same (hlt x (by simp [hx]))) (λx hx=>hsp x (by simp [hx])),tu hl hb ht.2 h2 (λx hx=>hlt x (by simp [hx])) (λx hx=>hsp x (by simp [hx])),rfl⟩
theorem wh {H:Type} {enc:TypeId × Value->H} {s:ChangeSpec} {f:Func} {W W' : Ws} {args:Array Value} {ds gs:List (DataW H)} {before:List MemPlace} {tb:TypeId} (hv:s.vars = []) (hrt:f.resultTypes = #[tb]) (htb:P.underlying tb = some .bool)
  (hsp:s.fn H (ds ++ gs) = { results:=[.lit (.bool true)],args:=ds }) (hl:laidOutB P = true) (hrd:(f.params.toList.all λt=>P.readableRec t && decide (t < P.types.size)) = true)
  (hW:DataW.Whole enc P f.params.toList s.vars false W args.toList ds gs before) (hE:Ev W W') (hg:Gr W W'):s.post enc P f false true false false W args (.bool true) W':=by
 have hb:=Oz hE hg
 have hlt:∀ p∈before,p.block < W.heap.size:=λp hp=>hW.lt p hp
 have hold:∀ p∈before,(λb=>decide (b < W.heap.size)) p.block = true:=λp hp=>by simpa using hlt p hp
 have hW':=hW
 obtain ⟨p,q,h1,h2,rfl,h3,h4⟩:=hW
 have hq:q = []:=by
  rw [hv] at h2
  cases gs with
  | nil=>exact h2
  | cons _ _=>exact h2.elim
 subst hq
 rw [U3] at *
 have hargs:∀ sp:Nat->Bool,(∀ x∈p,sp x.block = true)->DataW.TrodAll enc P W' 0 sp true f.params.toList args.toList (s.fn H (ds ++ gs)).args p:=λsp hs=>by
  rw [hsp]; exact tu hl hb hrd h1 hlt hs
 have hvars:∀ sp:Nat->Bool,DataW.TrodVars enc P W' sp s.vars (s.fn H (ds ++ gs)).vars []:=λsp=>by
  rw [hsp,hv]; exact rfl
 have hres:∀ (b:Nat) (sp:Nat->Bool) (hd:Bool),DataW.TrodAll enc P W' b sp hd f.resultTypes.toList ((Value.bool true).resultList f.resultTypes.size) (s.fn H (ds ++ gs)).results []:=λb sp hd=>by
  rw [hsp,hrt]; exact trodAll_cons_mk (shut_bool htb _) trodAll_mk0
 have hok:∀ (j:Nat) (t:TypeId) (r:Value),f.resultTypes[j]? = some t->((Value.bool true).resultList f.resultTypes.size)[j]? = some r->Value.okWide P W' .any 0 t r:=ok_one hrt rfl (okWide_bool_mk htb _)
 refine ⟨ds,gs,p,[],p,[],hW',hres _ _ _,hargs _ hold,hvars _,World.keptBut_mono (λx hx=>⟨hx,?_⟩) (hb.frame (·∈p)),λ_=>?_⟩
 ·exact Or.inr (by simpa using hx)
 ·refine ⟨hok,_,_,([] ++ p) ++ [],⟨[] ++ p,[],trodAll_append (hargs _ (λ_ _=>rfl)) (hres _ _ _),hvars _,rfl,?_,?_⟩,?_⟩
  ·intro b off hp
   have hin:MemPlace.cell b off∈p:=by simpa using hp
   rw [hb.frozen (hlt _ hin)]
   exact h3 b off hin
  ·intro ha; cases ha
  ·intro x hx _
   simpa using hx
end
end Go.V
