/- Texts of this claim, one behind the other. -/
import Derived.Test.YtndaepmjkbmjmaaGreatDoorG1
import Derived.Test.YtndaepmjkbmjmaaGreatDoorG5
import Derived.Lib.UnsafeStr
set_option linter.unusedVariables false
set_option linter.unusedSectionVars false
set_option maxRecDepth 100000
set_option maxHeartbeats 16000000
namespace Go.V
end Go.V
namespace Go.Proofs.YtndaepmjkbmjmaaGreatDoor
end Go.Proofs.YtndaepmjkbmjmaaGreatDoor
open Go.V Go.Proofs.YtndaepmjkbmjmaaGreatDoor
namespace Go.Proofs.YtndaepmjkbmjmaaGreatDoor
abbrev Bb:FuncId:=31
def xK:bh:={ rngs:=[],loops:=[],joins:=[(2,[(32,(.one .bool))])],blocks:=[] }
theorem xL {a:WA} {b c:Nat} {d:WA} {e f:Nat} {g:WA} {i j:Nat} {k:Int} {l:WA} {m n:Nat} {o p:Int} {w:WB} {R:Value->WP} (h:new w (oC [vS a b c,vS d e f,vS g i j,iI k,vS l m n] 27) λk1 w1=>∃ (x1:lP [(32,oV)]),(∃ o1 k2 k3 o2 k4 k5 o3 k6 k7 n1 o4 k8 k9,rA w1 (aM k1) 5 [vS o1 k2 k3,vS o2 k4 k5,vS o3 k6 k7,iI n1,vS o4 k8 k9]/\rE 49 [vG [vS o1 k2 k3,vS o2 k4 k5,vS o3 k6 k7,iI n1,vS o4 k8 k9]] w1 λv1 w2=>∃ b1,v1 = vB b1/\br (!b1) (x1 true w2) (br (decide (o < 0)) (x1 true w2) (∃ o5 k10 k11,cL w2 (Addr.add (aM k1) 4) (vS o5 k10 k11)/\br (decide ((k10:Int)<=o)) (x1 true w2) (br (decide (p < 0)) (x1 true w2) (∃ o6 k12 k13,cL w2 (aM k1) (vS o6 k12 k13)/\x1 (decide ((k12:Int)<=p)) w2)))))/\∀ (I1:Nat->Value) (b2:Bool) (w3:WB),x1 b2 w3->br b2 (R (vU [iI 0,iI 1]) w3) (∃ o7 k14 k15 o8 k16 k17 o9 k18 k19 n2 o10 k20 k21,rA w3 (aM k1) 5 [vS o7 k14 k15,vS o8 k16 k17,vS o9 k18 k19,iI n2,vS o10 k20 k21]/\rE 65 [vG [vS o7 k14 k15,vS o8 k16 k17,vS o9 k18 k19,iI n2,vS o10 k20 k21],iI o,iI p] w3 λv2 w4=>∃ n3,v2 = iI n3/\R (vU [iI n3,iI 0]) w4)):ay Tryz.prog 31 [(.agg #[(.slice a b c),(.slice d e f),(.slice g i j),(.int .i64 k),(.slice l m n)]),(.int .i64 o),(.int .i64 p)] w R:=rv Tryz.func31 xK (by kernel_rfl) h
abbrev Bc:FuncId:=33
def xM:bh:={ rngs:=[],loops:=[],joins:=[(2,[(31,(.one .bool))])],blocks:=[] }
theorem xN {a:WA} {b c:Nat} {d:WA} {e f:Nat} {g:WA} {i j:Nat} {k:Int} {l:WA} {m n:Nat} {o p:Int} {q:WA} {s t:Nat} {w:WB} {R:Value->WP} (h:new w (oC [vS a b c,vS d e f,vS g i j,iI k,vS l m n] 27) λk1 w1=>new w1 (oC [iI o,iI p,vS q s t] 60) λk2 w2=>new w2 (oC [iI 0,iI 0] 62) λk3 w3=>∃ (x1:lP [(31,oV)]),(∃ o1 k4 k5 o2 k6 k7 o3 k8 k9 n1 o4 k10 k11,rA w3 (aM k1) 5 [vS o1 k4 k5,vS o2 k6 k7,vS o3 k8 k9,iI n1,vS o4 k10 k11]/\rE 49 [vG [vS o1 k4 k5,vS o2 k6 k7,vS o3 k8 k9,iI n1,vS o4 k10 k11]] w3 λv1 w4=>∃ b1,v1 = vB b1/\br (!b1) (x1 true w4) (∃ n2,cL w4 (Addr.add (aM k2) 1) (iI n2)/\br (decide (n2 < 0)) (x1 true w4) (∃ n3,cL w4 (Addr.add (aM k2) 1) (iI n3)/\∃ o5 k12 k13,cL w4 (aM k1) (vS o5 k12 k13)/\br (decide ((k12:Int)<=n3)) (x1 true w4) (∃ o6 k14 k15 o7 k16 k17 o8 k18 k19 n4 o9 k20 k21,rA w4 (aM k1) 5 [vS o6 k14 k15,vS o7 k16 k17,vS o8 k18 k19,iI n4,vS o9 k20 k21]/\∃ o10 k22 k23,cL w4 (Addr.add (aM k2) 2) (vS o10 k22 k23)/\rE 67 [vG [vS o6 k14 k15,vS o7 k16 k17,vS o8 k18 k19,iI n4,vS o9 k20 k21],vS o10 k22 k23] w4 λv2 w5=>∃ b2,v2 = vB b2/\x1 (!b2) w5))))/\∀ (I1:Nat->Value) (b3:Bool) (w6:WB),x1 b3 w6->br b3 (cH w6 (aM k3) [iI 0,iI 0] λw7=>∃ n5 n6,rA w7 (aM k3) 2 [iI n5,iI n6]/\R (vU [vG [iI n5,iI n6],vS none 0 0,iI 1]) w7) (∃ o11 k24 k25 o12 k26 k27 o13 k28 k29 n7 o14 k30 k31,rA w6 (aM k1) 5 [vS o11 k24 k25,vS o12 k26 k27,vS o13 k28 k29,iI n7,vS o14 k30 k31]/\∃ n8 n9 o15 k32 k33,rA w6 (aM k2) 3 [iI n8,iI n9,vS o15 k32 k33]/\rE 68 [vG [vS o11 k24 k25,vS o12 k26 k27,vS o13 k28 k29,iI n7,vS o14 k30 k31],vG [iI n8,iI n9,vS o15 k32 k33]] w6 λv3 w8=>∃ n10 n11 o16 k34 k35,v3 = vU [vG [iI n10,iI n11],vS o16 k34 k35]/\new w8 (oC [iI 0,iI 0] 62) λk36 w9=>cH w9 (aM k36) [iI n10,iI n11] λw10=>∃ n12 n13,rA w10 (aM k36) 2 [iI n12,iI n13]/\cH w10 (aM k3) [iI n12,iI n13] λw11=>∃ n14 n15,rA w11 (aM k3) 2 [iI n14,iI n15]/\R (vU [vG [iI n14,iI n15],vS o16 k34 k35,iI 0]) w11)):ay Tryz.prog 33 [(.agg #[(.slice a b c),(.slice d e f),(.slice g i j),(.int .i64 k),(.slice l m n)]),(.agg #[(.int .i64 o),(.int .i64 p),(.slice q s t)])] w R:=rv Tryz.func33 xM (by kernel_rfl) h
abbrev nO:FuncId:=37
def uG:bh:={ rngs:=[],loops:=[(7,[(36,(.one (.int .i64)))]),(11,[(46,(.one (.int .i64)))]),(16,[(56,(.one (.int .i64)))]),(25,[(99,(.one (.int .i64)))])],joins:=[],blocks:=[] }
theorem uH {a:WA} {b c:Nat} {d:WA} {e f:Nat} {g:WA} {i j:Nat} {k:Int} {l:WA} {m n:Nat} {w:WB} {R:Value->WP} (h:new w (oC [vS a b c,vS d e f,vS g i j,iI k,vS l m n] 27) λk1 w1=>new w1 (oC [vS none 0 0,vS none 0 0,vS none 0 0] 75) λk2 w2=>∃ o1 k3 k4 o2 k5 k6 o3 k7 k8 n1 o4 k9 k10,rA w2 (aM k1) 5 [vS o1 k3 k4,vS o2 k5 k6,vS o3 k7 k8,iI n1,vS o4 k9 k10]/\rE 15 [vG [vS o1 k3 k4,vS o2 k5 k6,vS o3 k7 k8,iI n1,vS o4 k9 k10]] w2 λv1 w3=>∃ o5 k11 k12 n2,v1 = vU [vS o5 k11 k12,iI n2]/\br (n2 != 0) (cH w3 (aM k2) [vS none 0 0,vS none 0 0,vS none 0 0] λw4=>∃ o6 k13 k14 o7 k15 k16 o8 k17 k18,rA w4 (aM k2) 3 [vS o6 k13 k14,vS o7 k15 k16,vS o8 k17 k18]/\R (vU [vG [vS o6 k13 k14,vS o7 k15 k16,vS o8 k17 k18],iI n2]) w4) (∃ o9 k19 k20 o10 k21 k22 o11 k23 k24 n3 o12 k25 k26,rA w3 (aM k1) 5 [vS o9 k19 k20,vS o10 k21 k22,vS o11 k23 k24,iI n3,vS o12 k25 k26]/\rE 26 [vG [vS o9 k19 k20,vS o10 k21 k22,vS o11 k23 k24,iI n3,vS o12 k25 k26]] w3 λv2 w5=>∃ o13 k27 k28 n4 n5 n6,v2 = vU [vG [vS o13 k27 k28,iI n4,iI n5],iI n6]/\new w5 (oC [vS none 0 0,iI 0,iI 0] 45) λk29 w6=>cH w6 (aM k29) [vS o13 k27 k28,iI n4,iI n5] λw7=>new w7 (oC [vS none 0 0,vS none 0 0,vS none 0 0] 75) λk30 w8=>∃ o14 k31 k32,cL w8 (aM k29) (vS o14 k31 k32)/\∃ (x1:lP [(36,aD)]),∃ (x2:lN [(36,aD)]),x1 0 w8/\∀ (I1:Nat->Value) (n7:Int) (w9:WB),x1 n7 w9->br (decide (n7 < (k31:Int))) (idx o14 k31 n7 2 λa1=>∃ o15 k33 k34 o16 k35 k36,rA w9 a1 2 [vS o15 k33 k34,vS o16 k35 k36]/\new w9 (oC [vS none 0 0,vS none 0 0] 54) λk37 w10=>cH w10 (aM k37) [vS o15 k33 k34,vS o16 k35 k36] λw11=>∃ o17 k38 k39,cL w11 (Addr.add (aM k1) 1) (vS o17 k38 k39)/\Dk (k38:Int) (k38:Int) 8/\new w11 (Obj.cells (Array.mk (lG (Int.toNat (k38:Int)) [iI 0])) 3) λk40 w12=>∃ (x3:lP [(46,aD)]),∃ (x4:lN [(46,aD)]),x3 0 w12/\∀ (I2:Nat->Value) (n8:Int) (w13:WB),x3 n8 w13->br (decide (n8 < (↑(Int.toNat (k38:Int)):Int))) (idx (some (aM k40)) (Int.toNat (k38:Int)) n8 1 λa2=>st1 w13 a2 (iI (-1)) λw14=>aw (n8 + 1)/\x3 (n8 + 1) w14/\x4 (n8 + 1) w14 < x4 n8 w13) (∃ o18 k41 k42,cL w13 (Addr.add (aM k37) 1) (vS o18 k41 k42)/\∃ (x5:lP [(56,aD)]),∃ (x6:lN [(56,aD)]),x5 0 w13/\∀ (I3:Nat->Value) (n9:Int) (w15:WB),x5 n9 w15->br (decide (n9 < (k41:Int))) (idx o18 k41 n9 2 λa3=>∃ n10 n11,rA w15 a3 2 [iI n10,iI n11]/\new w15 (oC [iI 0,iI 0] 56) λk43 w16=>cH w16 (aM k43) [iI n10,iI n11] λw17=>∃ n12,cL w17 (aM k43) (iI n12)/\∃ o19 k44 k45,cL w17 (aM k1) (vS o19 k44 k45)/\br (decide ((k44:Int)<=n12)) (∃ n13,cL w17 (aM k43) (iI n13)/\∃ o20 k46 k47,cL w17 (aM k1) (vS o20 k46 k47)/\aw (n13 - (k46:Int))/\∃ n14,cL w17 (Addr.add (aM k43) 1) (iI n14)/\idx (some (aM k40)) (Int.toNat (k38:Int)) (n13 - (k46:Int)) 1 λa4=>st1 w17 a4 (iI n14) λw18=>aw (n9 + 1)/\x5 (n9 + 1) w18/\x6 (n9 + 1) w18 < x6 n9 w15) (aw (n9 + 1)/\x5 (n9 + 1) w17/\x6 (n9 + 1) w17 < x6 n9 w15)) (∀ w19,drawn w15 w19->∃ (I4:WP),I4 w19/\∃ o21 k48 k49,(∀ w20,I4 w20->cL w20 (aM k30) (vS o21 k48 k49))/\∃ o22 k50 k51,(∀ w21,I4 w21->cL w21 (aM k1) (vS o22 k50 k51))/\Dk (k50:Int) (k50:Int) 16/\new w19 (Obj.cells (Array.mk (lG (Int.toNat (k50:Int)) [iI 0,iI 0])) 62) λk52 w22=>I4 w22/\new w22 (oC [vS (some (aM k52)) (Int.toNat (k50:Int)) (Int.toNat (k50:Int))] 38) λk53 w23=>I4 w23/\rS (jW 70 (Array.mk [vS o21 k48 k49,vS (some (aM k53)) 1 1])) w23 λv3 w24=>∃ o23 k54 k55,v3 = vS o23 k54 k55/\I4 w24/\st1 w24 (aM k30) (vS o23 k54 k55) λw25=>∃ o24 k56 k57,cL w25 (Addr.add (aM k30) 1) (vS o24 k56 k57)/\new w25 (oC [vS (some (aM k40)) (Int.toNat (k38:Int)) (Int.toNat (k38:Int))] 24) λk58 w26=>rS (jW 71 (Array.mk [vS o24 k56 k57,vS (some (aM k58)) 1 1])) w26 λv4 w27=>∃ o25 k59 k60,v4 = vS o25 k59 k60/\st1 w27 (Addr.add (aM k30) 1) (vS o25 k59 k60) λw28=>aw (n7 + 1)/\x1 (n7 + 1) w28/\x2 (n7 + 1) w28 < x2 n7 w9))) (∃ (x7:lP [(99,aD)]),∃ (x8:lN [(99,aD)]),x7 0 w9/\∀ (I5:Nat->Value) (n15:Int) (w29:WB),x7 n15 w29->br (decide (n15 < (k11:Int))) (idx o5 k11 n15 3 λa5=>∃ n16 n17 o26 k61 k62,rA w29 a5 3 [iI n16,iI n17,vS o26 k61 k62]/\new w29 (oC [iI 0,iI 0,vS none 0 0] 60) λk63 w30=>cH w30 (aM k63) [iI n16,iI n17,vS o26 k61 k62] λw31=>∃ o27 k64 k65 o28 k66 k67 o29 k68 k69 n18 o30 k70 k71,rA w31 (aM k1) 5 [vS o27 k64 k65,vS o28 k66 k67,vS o29 k68 k69,iI n18,vS o30 k70 k71]/\∃ n19 n20 o31 k72 k73,rA w31 (aM k63) 3 [iI n19,iI n20,vS o31 k72 k73]/\rE 68 [vG [vS o27 k64 k65,vS o28 k66 k67,vS o29 k68 k69,iI n18,vS o30 k70 k71],vG [iI n19,iI n20,vS o31 k72 k73]] w31 λv5 w32=>∃ n21 n22 o32 k74 k75,v5 = vU [vG [iI n21,iI n22],vS o32 k74 k75]/\new w32 (oC [iI 0,iI 0] 62) λk76 w33=>cH w33 (aM k76) [iI n21,iI n22] λw34=>∀ w35,drawn w34 w35->∃ (I6:WP),I6 w35/\∃ o33 k77 k78,(∀ w36,I6 w36->cL w36 (aM k30) (vS o33 k77 k78))/\∃ n23,(∀ w37,I6 w37->cL w37 (aM k63) (iI n23))/\idx o33 k77 n23 1 λa6=>∃ o34 k79 k80,(∀ w38,I6 w38->cL w38 a6 (vS o34 k79 k80))/\∃ n24,(∀ w39,I6 w39->cL w39 (Addr.add (aM k63) 1) (iI n24))/\∃ n25 n26,(∀ w40,I6 w40->rA w40 (aM k76) 2 [iI n25,iI n26])/\idx o34 k79 n24 2 λa7=>cH w35 a7 [iI n25,iI n26] λw41=>br (decide (0 < (k74:Int))) (∃ o35 k81 k82,cL w41 (Addr.add (aM k30) 2) (vS o35 k81 k82)/\∃ n27,cL w41 (aM k63) (iI n27)/\∃ n28,cL w41 (Addr.add (aM k63) 1) (iI n28)/\new w41 (oC [iI n27,iI n28,vS o32 k74 k75] 60) λk83 w42=>rS (jW 29 (Array.mk [vS o35 k81 k82,vS (some (aM k83)) 1 1])) w42 λv6 w43=>∃ o36 k84 k85,v6 = vS o36 k84 k85/\st1 w43 (Addr.add (aM k30) 2) (vS o36 k84 k85) λw44=>aw (n15 + 1)/\x7 (n15 + 1) w44/\x8 (n15 + 1) w44 < x8 n15 w29) (aw (n15 + 1)/\x7 (n15 + 1) w41/\x8 (n15 + 1) w41 < x8 n15 w29)) (∃ o37 k86 k87 o38 k88 k89 o39 k90 k91,rA w29 (aM k30) 3 [vS o37 k86 k87,vS o38 k88 k89,vS o39 k90 k91]/\cH w29 (aM k2) [vS o37 k86 k87,vS o38 k88 k89,vS o39 k90 k91] λw45=>∃ o40 k92 k93 o41 k94 k95 o42 k96 k97,rA w45 (aM k2) 3 [vS o40 k92 k93,vS o41 k94 k95,vS o42 k96 k97]/\R (vU [vG [vS o40 k92 k93,vS o41 k94 k95,vS o42 k96 k97],iI 0]) w45)))):ay Tryz.prog 37 [(.agg #[(.slice a b c),(.slice d e f),(.slice g i j),(.int .i64 k),(.slice l m n)])] w R:=rv Tryz.func37 uG (by kernel_rfl) h
abbrev xO:FuncId:=64
def uI:bh:={ rngs:=[],loops:=[(7,[(38,(.one (.int .i64)))]),(12,[(13,(.one .slice)),(52,(.one (.int .i64)))]),(24,[(99,(.one (.int .i64)))])],joins:=[],blocks:=[] }
theorem uJ {a:WA} {b c:Nat} {d:WA} {e f:Nat} {g:WA} {i j:Nat} {k:Int} {l:WA} {m n:Nat} {w:WB} {R:Value->WP} (h:new w (oC [vS a b c,vS d e f,vS g i j,iI k,vS l m n] 27) λk1 w1=>∃ o1 k2 k3 o2 k4 k5 o3 k6 k7 n1 o4 k8 k9,rA w1 (aM k1) 5 [vS o1 k2 k3,vS o2 k4 k5,vS o3 k6 k7,iI n1,vS o4 k8 k9]/\rE 37 [vG [vS o1 k2 k3,vS o2 k4 k5,vS o3 k6 k7,iI n1,vS o4 k8 k9]] w1 λv1 w2=>∃ o5 k10 k11 o6 k12 k13 o7 k14 k15 n2,v1 = vU [vG [vS o5 k10 k11,vS o6 k12 k13,vS o7 k14 k15],iI n2]/\new w2 (oC [vS none 0 0,vS none 0 0,vS none 0 0] 75) λk16 w3=>cH w3 (aM k16) [vS o5 k10 k11,vS o6 k12 k13,vS o7 k14 k15] λw4=>br (n2 != 0) (R (vU [Value.string (ByteArray.mk (Array.mk [])),iI n2]) w4) (∃ o8 k17 k18 o9 k19 k20 o10 k21 k22 n3 o11 k23 k24,rA w4 (aM k1) 5 [vS o8 k17 k18,vS o9 k19 k20,vS o10 k21 k22,iI n3,vS o11 k23 k24]/\rE 26 [vG [vS o8 k17 k18,vS o9 k19 k20,vS o10 k21 k22,iI n3,vS o11 k23 k24]] w4 λv2 w5=>∃ o12 k25 k26 n4 n5 n6,v2 = vU [vG [vS o12 k25 k26,iI n4,iI n5],iI n6]/\new w5 (oC [vS none 0 0,iI 0,iI 0] 45) λk27 w6=>cH w6 (aM k27) [vS o12 k25 k26,iI n4,iI n5] λw7=>new w7 (oC [vP none,vS none 0 0] 203) λk28 w8=>∃ o13 k29 k30,cL w8 (Addr.add (aM k16) 2) (vS o13 k29 k30)/\∃ (x1:lP [(38,aD)]),∃ (x2:lN [(38,aD)]),x1 0 w8/\∀ (I1:Nat->Value) (n7:Int) (w9:WB),x1 n7 w9->br (decide (n7 < (k29:Int))) (idx o13 k29 n7 3 λa1=>∃ n8 n9 o14 k31 k32,rA w9 a1 3 [iI n8,iI n9,vS o14 k31 k32]/\new w9 (oC [iI 0,iI 0,vS none 0 0] 60) λk33 w10=>cH w10 (aM k33) [iI n8,iI n9,vS o14 k31 k32] λw11=>∃ o15 k34 k35 o16 k36 k37 o17 k38 k39 n10 o18 k40 k41,rA w11 (aM k1) 5 [vS o15 k34 k35,vS o16 k36 k37,vS o17 k38 k39,iI n10,vS o18 k40 k41]/\∃ n11,cL w11 (Addr.add (aM k33) 1) (iI n11)/\rE 114 [vG [vS o15 k34 k35,vS o16 k36 k37,vS o17 k38 k39,iI n10,vS o18 k40 k41],iI n11] w11 λv3 w12=>∃ s1 n12,v3 = vU [Value.string s1,iI n12]/\∃ o19 k42 k43,cL w12 (Addr.add (aM k33) 2) (vS o19 k42 k43)/\∃ (x3:lP [(13,mP),(52,aD)]),∃ (x4:lN [(13,mP),(52,aD)]),x3 none 0 0 0 w12/\∀ (I2:Nat->Value) (o20:WA) (k44 k45:Nat) (n13:Int) (w13:WB),x3 o20 k44 k45 n13 w13->br (decide (n13 < (k42:Int))) (idx o19 k42 n13 2 λa2=>∃ n14 n15,rA w13 a2 2 [iI n14,iI n15]/\new w13 (oC [iI 0,iI 0] 62) λk46 w14=>cH w14 (aM k46) [iI n14,iI n15] λw15=>∃ n16,cL w15 (aM k46) (iI n16)/\br (n16 == 1) (new w15 (oC [Value.string (ByteArray.mk (Array.mk [115,104,105,102,116]))] 9) λk47 w16=>rS (jW 23 (Array.mk [vS o20 k44 k45,vS (some (aM k47)) 1 1])) w16 λv4 w17=>∃ o21 k48 k49,v4 = vS o21 k48 k49/\aw (n13 + 1)/\x3 o21 k48 k49 (n13 + 1) w17/\x4 o21 k48 k49 (n13 + 1) w17 < x4 o20 k44 k45 n13 w13) (br (n16 == 3) (new w15 (oC [Value.string (ByteArray.mk (Array.mk [97,99,99,101,112,116]))] 9) λk50 w18=>rS (jW 23 (Array.mk [vS o20 k44 k45,vS (some (aM k50)) 1 1])) w18 λv5 w19=>∃ o22 k51 k52,v5 = vS o22 k51 k52/\aw (n13 + 1)/\x3 o22 k51 k52 (n13 + 1) w19/\x4 o22 k51 k52 (n13 + 1) w19 < x4 o20 k44 k45 n13 w13) (∃ o23 k53 k54 o24 k55 k56 o25 k57 k58 n17 o26 k59 k60,rA w15 (aM k1) 5 [vS o23 k53 k54,vS o24 k55 k56,vS o25 k57 k58,iI n17,vS o26 k59 k60]/\∃ n18,cL w15 (Addr.add (aM k46) 1) (iI n18)/\rE 115 [vG [vS o23 k53 k54,vS o24 k55 k56,vS o25 k57 k58,iI n17,vS o26 k59 k60],iI n18] w15 λv6 w20=>∃ s2 n19,v6 = vU [Value.string s2,iI n19]/\(↑(ByteArray.size (ByteArray.mk (Array.mk [114,101,100,117,99,101,32]))):Int) + (↑(ByteArray.size s2):Int)<=9223372036854775807/\new w20 (oC [Value.string (ByteArray.mk (Array.mk [114,101,100,117,99,101,32]) ++ s2)] 9) λk61 w21=>rS (jW 23 (Array.mk [vS o20 k44 k45,vS (some (aM k61)) 1 1])) w21 λv7 w22=>∃ o27 k62 k63,v7 = vS o27 k62 k63/\aw (n13 + 1)/\x3 o27 k62 k63 (n13 + 1) w22/\x4 o27 k62 k63 (n13 + 1) w22 < x4 o20 k44 k45 n13 w13))) (∃ n20,cL w13 (aM k33) (iI n20)/\rE 117 [iI n20] w13 λv8 w23=>∃ s3,v8 = Value.string s3/\(↑(ByteArray.size (ByteArray.mk (Array.mk [115,116,97,116,101,32]))):Int) + (↑(ByteArray.size s3):Int)<=9223372036854775807/\(↑(ByteArray.size (ByteArray.mk (Array.mk [115,116,97,116,101,32]) ++ s3)):Int) + (↑(ByteArray.size (ByteArray.mk (Array.mk [32,97,116,32]))):Int)<=9223372036854775807/\(↑(ByteArray.size (ByteArray.mk (Array.mk [115,116,97,116,101,32]) ++ s3 ++ ByteArray.mk (Array.mk [32,97,116,32]))):Int) + (↑(ByteArray.size s1):Int)<=9223372036854775807/\(↑(ByteArray.size (ByteArray.mk (Array.mk [115,116,97,116,101,32]) ++ s3 ++ ByteArray.mk (Array.mk [32,97,116,32]) ++ s1)):Int) + (↑(ByteArray.size (ByteArray.mk (Array.mk [58,32]))):Int)<=9223372036854775807/\rE 118 [vS o20 k44 k45,Value.string (ByteArray.mk (Array.mk [44,32]))] w23 λv9 w24=>∃ s4,v9 = Value.string s4/\(↑(ByteArray.size (ByteArray.mk (Array.mk [115,116,97,116,101,32]) ++ s3 ++ ByteArray.mk (Array.mk [32,97,116,32]) ++ s1 ++ ByteArray.mk (Array.mk [58,32]))):Int) + (↑(ByteArray.size s4):Int)<=9223372036854775807/\(↑(ByteArray.size (ByteArray.mk (Array.mk [115,116,97,116,101,32]) ++ s3 ++ ByteArray.mk (Array.mk [32,97,116,32]) ++ s1 ++ ByteArray.mk (Array.mk [58,32]) ++ s4)):Int) + (↑(ByteArray.size (ByteArray.mk (Array.mk [10]))):Int)<=9223372036854775807/\rE 116 [vP (some (aM k28)),Value.string (ByteArray.mk (Array.mk [115,116,97,116,101,32]) ++ s3 ++ ByteArray.mk (Array.mk [32,97,116,32]) ++ s1 ++ ByteArray.mk (Array.mk [58,32]) ++ s4 ++ ByteArray.mk (Array.mk [10]))] w24 λv10 w25=>∃ n21 v11,v10 = vU [iI n21,v11]/\∃ o28 k64 k65 o29 k66 k67 o30 k68 k69 n22 o31 k70 k71,rA w25 (aM k1) 5 [vS o28 k64 k65,vS o29 k66 k67,vS o30 k68 k69,iI n22,vS o31 k70 k71]/\∃ o32 k72 k73 n23 n24,rA w25 (aM k27) 3 [vS o32 k72 k73,iI n23,iI n24]/\∃ n25 n26 o33 k74 k75,rA w25 (aM k33) 3 [iI n25,iI n26,vS o33 k74 k75]/\rE 119 [vG [vS o28 k64 k65,vS o29 k66 k67,vS o30 k68 k69,iI n22,vS o31 k70 k71],vG [vS o32 k72 k73,iI n23,iI n24],vG [iI n25,iI n26,vS o33 k74 k75]] w25 λv12 w26=>∃ o34 k76 k77,v12 = vS o34 k76 k77/\∃ (x5:lP [(99,aD)]),∃ (x6:lN [(99,aD)]),x5 0 w26/\∀ (I3:Nat->Value) (n27:Int) (w27:WB),x5 n27 w27->br (decide (n27 < (k76:Int))) (idx o34 k76 n27 2 λa3=>∃ n28 n29,rA w27 a3 2 [iI n28,iI n29]/\new w27 (oC [iI 0,iI 0] 104) λk78 w28=>cH w28 (aM k78) [iI n28,iI n29] λw29=>∃ o35 k79 k80 o36 k81 k82 o37 k83 k84 n30 o38 k85 k86,rA w29 (aM k1) 5 [vS o35 k79 k80,vS o36 k81 k82,vS o37 k83 k84,iI n30,vS o38 k85 k86]/\∃ n31 n32,rA w29 (aM k78) 2 [iI n31,iI n32]/\rE 120 [vG [vS o35 k79 k80,vS o36 k81 k82,vS o37 k83 k84,iI n30,vS o38 k85 k86],vG [iI n31,iI n32]] w29 λv13 w30=>∃ s5 n33,v13 = vU [Value.string s5,iI n33]/\(↑(ByteArray.size (ByteArray.mk (Array.mk [32,32]))):Int) + (↑(ByteArray.size s5):Int)<=9223372036854775807/\(↑(ByteArray.size (ByteArray.mk (Array.mk [32,32]) ++ s5)):Int) + (↑(ByteArray.size (ByteArray.mk (Array.mk [10]))):Int)<=9223372036854775807/\rE 116 [vP (some (aM k28)),Value.string (ByteArray.mk (Array.mk [32,32]) ++ s5 ++ ByteArray.mk (Array.mk [10]))] w30 λv14 w31=>∃ n34 v15,v14 = vU [iI n34,v15]/\aw (n27 + 1)/\x5 (n27 + 1) w31/\x6 (n27 + 1) w31 < x6 n27 w27) (aw (n7 + 1)/\x1 (n7 + 1) w27/\x2 (n7 + 1) w27 < x2 n7 w9))) (rE 121 [vP (some (aM k28))] w9 λv16 w32=>∃ s6,v16 = Value.string s6/\R (vU [Value.string s6,iI 0]) w32))):ay Tryz.prog 64 [(.agg #[(.slice a b c),(.slice d e f),(.slice g i j),(.int .i64 k),(.slice l m n)])] w R:=rv Tryz.func64 uI (by kernel_rfl) h
abbrev Bd:FuncId:=65
def xP:bh:={ rngs:=[],loops:=[],joins:=[],blocks:=[] }
theorem xQ {a:WA} {b c:Nat} {d:WA} {e f:Nat} {g:WA} {i j:Nat} {k:Int} {l:WA} {m n:Nat} {o p:Int} {w:WB} {R:Value->WP} (h:new w (oC [vS a b c,vS d e f,vS g i j,iI k,vS l m n] 27) λk1 w1=>new w1 (oC [iI 0,iI 0,iI 0,iI 0] 214) λk2 w2=>cH w2 (aM k2) [iI 0,iI 2,iI 1,iI 3] λw3=>∃ o1 k3 k4,cL w3 (Addr.add (aM k1) 4) (vS o1 k3 k4)/\idx o1 k3 o 3 λa1=>∃ n1,cL w3 (Addr.add a1 2) (iI n1)/\∃ o2 k5 k6,cL w3 (aM k1) (vS o2 k5 k6)/\idx o2 k5 p 2 λa2=>∃ n2,cL w3 (Addr.add a2 1) (iI n2)/\br (n1 == 0) (R (iI 0) w3) (br (n2 == 0) (R (iI 0) w3) (br (decide (n2 < n1)) (R (iI 2) w3) (br (decide (n1 < n2)) (R (iI 1) w3) (∃ o3 k7 k8,cL w3 (Addr.add (aM k1) 2) (vS o3 k7 k8)/\aw (n1 - 1)/\idx o3 k7 (n1 - 1) 1 λa3=>∃ n3,cL w3 a3 (iI n3)/\idx (some (aM k2)) 4 n3 1 λa4=>∃ n4,cL w3 a4 (iI n4)/\R (iI n4) w3))))):ay Tryz.prog 65 [(.agg #[(.slice a b c),(.slice d e f),(.slice g i j),(.int .i64 k),(.slice l m n)]),(.int .i64 o),(.int .i64 p)] w R:=rv Tryz.func65 xP (by kernel_rfl) h
abbrev wv:FuncId:=67
def tk:bh:={ rngs:=[],loops:=[(3,[(5,(.one (.int .i64))),(11,(.one (.int .i64)))])],joins:=[(16,[(8,(.one (.int .i64)))])],blocks:=[] }
theorem tp {a:WA} {b c:Nat} {d:WA} {e f:Nat} {g:WA} {i j:Nat} {k:Int} {l:WA} {m n:Nat} {o:WA} {p q:Nat} {w:WB} {R:Value->WP} (h:new w (oC [vS a b c,vS d e f,vS g i j,iI k,vS l m n] 27) λk1 w1=>∃ (x1:lP [(5,aD),(11,aD)]),∃ (x2:lN [(5,aD),(11,aD)]),x1 (-1) 0 w1/\∀ (I1:Nat->Value) (n1 n2:Int) (w2:WB),x1 n1 n2 w2->br (decide (n2 < (p:Int))) (idx o p n2 2 λa1=>∃ n3 n4,rA w2 a1 2 [iI n3,iI n4]/\new w2 (oC [iI 0,iI 0] 62) λk2 w3=>cH w3 (aM k2) [iI n3,iI n4] λw4=>∃ (x3:lP [(8,aD)]),(∃ n5,cL w4 (aM k2) (iI n5)/\br (n5 == 1) (∃ n6,cL w4 (Addr.add (aM k2) 1) (iI n6)/\br (decide (0<=n6)) (x3 0 w4) (x3 (-1) w4)) (br (n5 == 3) (∃ n7,cL w4 (Addr.add (aM k2) 1) (iI n7)/\br (n7 == 0) (x3 1 w4) (x3 (-1) w4)) (br (n5 == 2) (∃ n8,cL w4 (Addr.add (aM k2) 1) (iI n8)/\br (decide (0 < n8)) (∃ n9,cL w4 (Addr.add (aM k2) 1) (iI n9)/\∃ o1 k3 k4,cL w4 (Addr.add (aM k1) 4) (vS o1 k3 k4)/\br (decide (n9 < (k3:Int))) (∃ n10,cL w4 (Addr.add (aM k2) 1) (iI n10)/\aw (1 + n10)/\x3 (1 + n10) w4) (x3 (-1) w4)) (x3 (-1) w4)) (x3 (-1) w4))))/\∀ (I2:Nat->Value) (n11:Int) (w5:WB),x3 n11 w5->br (decide (n11<=n1)) (R (vB false) w5) (aw (n2 + 1)/\x1 n11 (n2 + 1) w5/\x2 n11 (n2 + 1) w5 < x2 n1 n2 w2)) (R (vB true) w2)):ay Tryz.prog 67 [(.agg #[(.slice a b c),(.slice d e f),(.slice g i j),(.int .i64 k),(.slice l m n)]),(.slice o p q)] w R:=rv Tryz.func67 tk (by kernel_rfl) h
abbrev wx:FuncId:=68
def tq:bh:={ rngs:=[],loops:=[],joins:=[],blocks:=[] }
theorem tu {a:WA} {b c:Nat} {d:WA} {e f:Nat} {g:WA} {i j:Nat} {k:Int} {l:WA} {m n:Nat} {o p:Int} {q:WA} {s t:Nat} {w:WB} {R:Value->WP} (h:new w (oC [vS a b c,vS d e f,vS g i j,iI k,vS l m n] 27) λk1 w1=>new w1 (oC [iI o,iI p,vS q s t] 60) λk2 w2=>new w2 (oC [iI 0,iI 0] 62) λk3 w3=>∃ o1 k4 k5 o2 k6 k7 o3 k8 k9 n1 o4 k10 k11,rA w3 (aM k1) 5 [vS o1 k4 k5,vS o2 k6 k7,vS o3 k8 k9,iI n1,vS o4 k10 k11]/\∃ n2,cL w3 (Addr.add (aM k2) 1) (iI n2)/\∃ o5 k12 k13,cL w3 (Addr.add (aM k2) 2) (vS o5 k12 k13)/\rE 122 [vG [vS o1 k4 k5,vS o2 k6 k7,vS o3 k8 k9,iI n1,vS o4 k10 k11],iI n2,vS o5 k12 k13] w3 λv1 w4=>∃ o6 k14 k15 b1,v1 = vU [vS o6 k14 k15,vB b1]/\br (decide (1 < (k14:Int))) (∀ w5,drawn w4 w5->∃ (I1:WP),I1 w5/\idx o6 k14 0 2 λa1=>∃ n3 n4,(∀ w6,I1 w6->rA w6 a1 2 [iI n3,iI n4])/\rE 123 [vS o6 k14 k15] w5 λv2 w7=>∃ o7 k16 k17,v2 = vS o7 k16 k17/\I1 w7/\cH w7 (aM k3) [iI n3,iI n4] λw8=>∃ n5 n6,rA w8 (aM k3) 2 [iI n5,iI n6]/\R (vU [vG [iI n5,iI n6],vS o7 k16 k17]) w8) (br ((k14:Int) == 1) (idx o6 k14 0 2 λa2=>∃ n7 n8,rA w4 a2 2 [iI n7,iI n8]/\cH w4 (aM k3) [iI n7,iI n8] λw9=>∃ n9 n10,rA w9 (aM k3) 2 [iI n9,iI n10]/\R (vU [vG [iI n9,iI n10],vS none 0 0]) w9) (br b1 (cH w4 (aM k3) [iI 4,iI 0] λw10=>∃ n11 n12,rA w10 (aM k3) 2 [iI n11,iI n12]/\R (vU [vG [iI n11,iI n12],vS none 0 0]) w10) (cH w4 (aM k3) [iI 0,iI 0] λw11=>∃ n13 n14,rA w11 (aM k3) 2 [iI n13,iI n14]/\R (vU [vG [iI n13,iI n14],vS none 0 0]) w11)))):ay Tryz.prog 68 [(.agg #[(.slice a b c),(.slice d e f),(.slice g i j),(.int .i64 k),(.slice l m n)]),(.agg #[(.int .i64 o),(.int .i64 p),(.slice q s t)])] w R:=rv Tryz.func68 tq (by kernel_rfl) h
abbrev Be:FuncId:=122
def xR:bh:={ rngs:=[],loops:=[(7,[(8,(.one .bool)),(9,(.one .bool)),(10,(.one .slice)),(29,(.one (.int .i64)))])],joins:=[(2,[(23,(.one .bool))])],blocks:=[] }
theorem xS {a:WA} {b c:Nat} {d:WA} {e f:Nat} {g:WA} {i j:Nat} {k:Int} {l:WA} {m n:Nat} {o:Int} {p:WA} {q s:Nat} {w:WB} {R:Value->WP} (h:new w (oC [vS a b c,vS d e f,vS g i j,iI k,vS l m n] 27) λk1 w1=>∃ (x1:lP [(23,oV)]),br ((q:Int) == 0) (x1 true w1) (idx p q 0 2 λa1=>∃ n1,cL w1 a1 (iI n1)/\x1 (n1 != 1) w1)/\∀ (I1:Nat->Value) (b1:Bool) (w2:WB),x1 b1 w2->br b1 (rE 176 [vS p q s] w2 λv1 w3=>∃ o1 k2 k3,v1 = vS o1 k2 k3/\R (vU [vS o1 k2 k3,vB false]) w3) (lY p q s (some 1) none none 2 λ(o2:WA) (k4 k5:Nat)=>∃ (x2:lP [(8,oV),(9,oV),(10,mP),(29,aD)]),∃ (x3:lN [(8,oV),(9,oV),(10,mP),(29,aD)]),x2 true false none 0 0 0 w2/\∀ (I2:Nat->Value) (b2 b3:Bool) (o3:WA) (k6 k7:Nat) (n2:Int) (w4:WB),x2 b2 b3 o3 k6 k7 n2 w4->br (decide (n2 < (k4:Int))) (idx o2 k4 n2 2 λa2=>∃ n3 n4,rA w4 a2 2 [iI n3,iI n4]/\new w4 (oC [iI 0,iI 0] 62) λk8 w5=>cH w5 (aM k8) [iI n3,iI n4] λw6=>∃ n5,cL w6 (aM k8) (iI n5)/\br (n5 == 2) (∃ o4 k9 k10 o5 k11 k12 o6 k13 k14 n6 o7 k15 k16,rA w6 (aM k1) 5 [vS o4 k9 k10,vS o5 k11 k12,vS o6 k13 k14,iI n6,vS o7 k15 k16]/\∃ n7,cL w6 (Addr.add (aM k8) 1) (iI n7)/\rE 65 [vG [vS o4 k9 k10,vS o5 k11 k12,vS o6 k13 k14,iI n6,vS o7 k15 k16],iI n7,iI o] w6 λv2 w7=>∃ n8,v2 = iI n8/\br (n8 == 3) (aw (n2 + 1)/\x2 false true o3 k6 k7 (n2 + 1) w7/\x3 false true o3 k6 k7 (n2 + 1) w7 < x3 b2 b3 o3 k6 k7 n2 w4) (br (n8 == 2) (∃ n9 n10,rA w7 (aM k8) 2 [iI n9,iI n10]/\new w7 (oC [iI n9,iI n10] 62) λk17 w8=>rS (jW 38 (Array.mk [vS o3 k6 k7,vS (some (aM k17)) 1 1])) w8 λv3 w9=>∃ o8 k18 k19,v3 = vS o8 k18 k19/\aw (n2 + 1)/\x2 false b3 o8 k18 k19 (n2 + 1) w9/\x3 false b3 o8 k18 k19 (n2 + 1) w9 < x3 b2 b3 o3 k6 k7 n2 w4) (br (n8 == 0) (∃ n11 n12,rA w7 (aM k8) 2 [iI n11,iI n12]/\new w7 (oC [iI n11,iI n12] 62) λk20 w10=>rS (jW 38 (Array.mk [vS o3 k6 k7,vS (some (aM k20)) 1 1])) w10 λv4 w11=>∃ o9 k21 k22,v4 = vS o9 k21 k22/\aw (n2 + 1)/\x2 b2 b3 o9 k21 k22 (n2 + 1) w11/\x3 b2 b3 o9 k21 k22 (n2 + 1) w11 < x3 b2 b3 o3 k6 k7 n2 w4) (aw (n2 + 1)/\x2 b2 b3 o3 k6 k7 (n2 + 1) w7/\x3 b2 b3 o3 k6 k7 (n2 + 1) w7 < x3 b2 b3 o3 k6 k7 n2 w4)))) (br (0 == 3) (aw (n2 + 1)/\x2 false true o3 k6 k7 (n2 + 1) w6/\x3 false true o3 k6 k7 (n2 + 1) w6 < x3 b2 b3 o3 k6 k7 n2 w4) (br (0 == 2) (∃ n13 n14,rA w6 (aM k8) 2 [iI n13,iI n14]/\new w6 (oC [iI n13,iI n14] 62) λk23 w12=>rS (jW 38 (Array.mk [vS o3 k6 k7,vS (some (aM k23)) 1 1])) w12 λv5 w13=>∃ o10 k24 k25,v5 = vS o10 k24 k25/\aw (n2 + 1)/\x2 false b3 o10 k24 k25 (n2 + 1) w13/\x3 false b3 o10 k24 k25 (n2 + 1) w13 < x3 b2 b3 o3 k6 k7 n2 w4) (br (0 == 0) (∃ n15 n16,rA w6 (aM k8) 2 [iI n15,iI n16]/\new w6 (oC [iI n15,iI n16] 62) λk26 w14=>rS (jW 38 (Array.mk [vS o3 k6 k7,vS (some (aM k26)) 1 1])) w14 λv6 w15=>∃ o11 k27 k28,v6 = vS o11 k27 k28/\aw (n2 + 1)/\x2 b2 b3 o11 k27 k28 (n2 + 1) w15/\x3 b2 b3 o11 k27 k28 (n2 + 1) w15 < x3 b2 b3 o3 k6 k7 n2 w4) (aw (n2 + 1)/\x2 b2 b3 o3 k6 k7 (n2 + 1) w6/\x3 b2 b3 o3 k6 k7 (n2 + 1) w6 < x3 b2 b3 o3 k6 k7 n2 w4))))) (br b2 (idx p q 0 2 λa3=>∃ n17 n18,rA w4 a3 2 [iI n17,iI n18]/\new w4 (oC [iI n17,iI n18] 62) λk29 w16=>rE 177 [vS o3 k6 k7,iI 0,vS (some (aM k29)) 1 1] w16 λv7 w17=>∃ o12 k30 k31,v7 = vS o12 k30 k31/\R (vU [vS o12 k30 k31,vB b3]) w17) (R (vU [vS o3 k6 k7,vB b3]) w4)))):ay Tryz.prog 122 [(.agg #[(.slice a b c),(.slice d e f),(.slice g i j),(.int .i64 k),(.slice l m n)]),(.int .i64 o),(.slice p q s)] w R:=rv Tryz.func122 xR (by kernel_rfl) h
def fm:bh:={ rngs:=[],loops:=[],joins:=[],blocks:=[] }
theorem fo {a:WA} {b c:Nat} {w:WB} {R:Value->WP} (h:lY a b c none (some (b:Int)) (some (b:Int)) 2 λ(o1:WA) (k1 k2:Nat)=>R (vS o1 k1 k2) w):ay Tryz.prog 123 [(.slice a b c)] w R:=rv Tryz.func123 fm (by kernel_rfl) h
abbrev fF:FuncId:=176
def eO:bh:={ rngs:=[],loops:=[],joins:=[],blocks:=[] }
theorem eQ {a:WA} {b c:Nat} {w:WB} {R:Value->WP} (h:br (Option.isNone a) (R (vS none 0 0) w) (new w (oC [] 62) λk1 w1=>rS (jW 38 (Array.mk [vS (some (aM k1)) 0 0,vS a b c])) w1 λv1 w2=>∃ o1 k2 k3,v1 = vS o1 k2 k3/\R (vS o1 k2 k3) w2)):ay Tryz.prog 176 [(.slice a b c)] w R:=rv Tryz.func176 eO (by kernel_rfl) h
abbrev fp:FuncId:=177
def eE:bh:={ rngs:=[],loops:=[],joins:=[],blocks:=[] }
theorem eF {a:WA} {b c:Nat} {d:Int} {e:WA} {f g:Nat} {w:WB} {R:Value->WP} (h:lY a b c (some d) none none 2 λ(o1:WA) (k1 k2:Nat)=>br ((f:Int) == 0) (R (vS a b c) w) (br (d == (b:Int)) (rS (jW 38 (Array.mk [vS a b c,vS e f g])) w λv1 w1=>∃ o2 k3 k4,v1 = vS o2 k3 k4/\R (vS o2 k3 k4) w1) (aw ((b:Int) + (f:Int))/\rS (Builtin.cap_ (Array.mk [38]) 3 (Array.mk [vS a b c])) w λv2 w2=>∃ n1,v2 = iI n1/\br (decide (n1 < (b:Int) + (f:Int))) (lY a b c none (some d) none 2 λ(o3:WA) (k5 k6:Nat)=>aw ((b:Int) + (f:Int))/\aw ((b:Int) + (f:Int) - d)/\rS (Builtin.append_ (Array.mk [38,3]) 38 (Array.mk [vS o3 k5 k6,iI ((b:Int) + (f:Int) - d)])) w2 λv3 w3=>∃ o4 k7 k8,v3 = vS o4 k7 k8/\lY o4 k7 k8 (some d) none none 2 λ(o5:WA) (k9 k10:Nat)=>rS (Builtin.copy_ (Array.mk [38,38]) 3 (Array.mk [vS o5 k9 k10,vS e f g])) w3 λv4 w4=>∃ n2,v4 = iI n2/\∀ w5,drawn w4 w5->∃ (I1:WP),I1 w5/\aw (d + (f:Int))/\lY o4 k7 k8 (some (d + (f:Int))) none none 2 λ(o6:WA) (k11 k12:Nat)=>lY a b c (some d) none none 2 λ(o7:WA) (k13 k14:Nat)=>rS (Builtin.copy_ (Array.mk [38,38]) 3 (Array.mk [vS o6 k11 k12,vS o7 k13 k14])) w5 λv5 w6=>∃ n3,v5 = iI n3/\R (vS o4 k7 k8) w6) (aw ((b:Int) + (f:Int))/\lY a b c none (some ((b:Int) + (f:Int))) none 2 λ(o8:WA) (k15 k16:Nat)=>aw (d + (f:Int))/\lY o8 k15 k16 (some (d + (f:Int))) none none 2 λ(o9:WA) (k17 k18:Nat)=>Rb Proofs.Tryz.prog 230 [vS e f g,vS o9 k17 k18] w2 λv6 w7=>∃ b1,v6 = vB b1/\br (!b1) (∀ w8,drawn w7 w8->∃ (I2:WP),I2 w8/\aw (d + (f:Int))/\lY o8 k15 k16 (some (d + (f:Int))) none none 2 λ(o10:WA) (k19 k20:Nat)=>lY o8 k15 k16 (some d) none none 2 λ(o11:WA) (k21 k22:Nat)=>rS (Builtin.copy_ (Array.mk [38,38]) 3 (Array.mk [vS o10 k19 k20,vS o11 k21 k22])) w8 λv7 w9=>∃ n4,v7 = iI n4/\lY o8 k15 k16 (some d) none none 2 λ(o12:WA) (k23 k24:Nat)=>rS (Builtin.copy_ (Array.mk [38,38]) 3 (Array.mk [vS o12 k23 k24,vS e f g])) w9 λv8 w10=>∃ n5,v8 = iI n5/\R (vS o8 k15 k16) w10) (lY o8 k15 k16 (some (b:Int)) none none 2 λ(o13:WA) (k25 k26:Nat)=>rS (Builtin.copy_ (Array.mk [38,38]) 3 (Array.mk [vS o13 k25 k26,vS e f g])) w7 λv9 w11=>∃ n6,v9 = iI n6/\lY o8 k15 k16 (some d) none none 2 λ(o14:WA) (k27 k28:Nat)=>rE 231 [vS o14 k27 k28,iI (f:Int)] w11 λv10 w12=>v10 = vU []/\R (vS o8 k15 k16) w12))))):ay Tryz.prog 177 [(.slice a b c),(.int .i64 d),(.slice e f g)] w R:=rv Tryz.func177 eE (by kernel_rfl) h
end Go.Proofs.YtndaepmjkbmjmaaGreatDoor
namespace Go.V
theorem GR {h:Hp} {xs:List ax} {a:WA} {l:Nat} (r:aX h xs a l):fb a (c_ xs) h:=by
 cases xs with
 | nil=>exact .inl rfl
 | cons x0 xs' =>
  obtain ⟨ad,vs,rfl,_⟩:=r.2 0 x0 rfl
  refine .inr ⟨ad,rfl,rU (n:=2) (λ_=>rfl) _ ad λi x hx=>?_⟩
  obtain ⟨ad',vs,e,h2,h3⟩:=r.2 i x hx
  cases e
  rw [show vs = bD x from h3] at h2
  exact h2
theorem ED (xs:List ax):∀ v∈c_ xs,aH v = true:=λv hv=>by
 obtain ⟨x,_,hv⟩:=VY.1 hv
 rcases U1.1 hv with rfl | hv
 ·rfl
 ·rw [Va] at hv; subst hv; rfl
end Go.V
namespace Go.Proofs.YtndaepmjkbmjmaaGreatDoor
variable {w:WB} {L:List au} {g:ae} {x:GA}
theorem On {xs:List ax} {a:WA} {l c:Nat} (hr:aX (hp w) xs a l) (hb:l * 16<=140737488355328):ay Tryz.prog fF [.slice a l c] w λv w'=>∃ o c',v = .slice o l c'/\St w' (own 2 o l c' (c_ xs) :: all w):=by
 have hl:=hr.1
 refine eQ (aa (λh=>?_) λh=>?_)
 ·have ha:a = none:=by simpa using h
  subst ha
  have hI:xs = []:=by
   cases xs with
   | nil=>rfl
   | cons x _=>obtain ⟨ad,_,e,_⟩:=hr.2 0 x rfl; cases e
  subst hI
  have:l = 0:=hl.symm
  subst this
  exact ⟨_,_,rfl,az 2 (St.all w)⟩
 ·refine af (St.all w) λk w1 h=>?_
  have g1:Gr w w1:=h.aR
  have h:St w1 (own 2 (some (aM k)) 0 0 [] :: all w):=dR (cs:=[]) h rfl rfl (U2 _)
  refine (zj (us:=[]) (news:=c_ xs) aL (rfl:ah Ty _ = .slice _) (rfl:ah Ty _ = .slice _) rfl rfl rfl h (by rw [gF,hl]) (by show 0 < 2; decide) (GR (hr.mono g1)) (ED xs) (by show (0 + l) * 16<=_; omega) (by omega)).mono ?_
  rintro _ w2 ⟨o,c',rfl,h⟩
  refine ⟨_,_,_,rfl,o,c',by simp,?_⟩
  have h2:St w2 (own 2 o (0 + l) c' (c_ xs) :: all w):=h
  rwa [VA] at h2
/-- one element goes ahead of the others -/
theorem Lk {xs:List ax} {y:ax} {o:WA} {c k:Nat} (h:St w (aS k (bD y) :: own 2 o xs.length c (c_ xs) :: L)) (hb:xs.length<=100000) :
  ay Tryz.prog fp [.slice o xs.length c,.int .i64 0,.slice (some (aM k)) 1 1] w λv w'=>∃ o' c',v = .slice o' (xs.length + 1) c'/\St w' (own 2 o' (xs.length + 1) c' (c_ (y :: xs)) :: L):=by
 obtain ⟨n,hn⟩ : ∃ n,n = xs.length:=⟨_,rfl⟩
 have hal:(c_ xs).length = n * 2:=by rw [gF,hn]
 have hle:=dj (h.pick 2 [1])
 have he:c_ (y :: xs) = bD y ++ c_ xs:=rfl
 have hx0:0 < xs.length->xs≠[]:=λh e=>by rw [e] at h; simp at h
 rw [<- hn] at h hle hb ⊢
 rw [he]
 have hy:∀ u∈bD y,aH u = true:=by simp [bD,aH]
 have hxs:=ED xs
 have rk:fb (some (aM k)) (bD y) (hp w):=.inr ⟨_,rfl,ag 0 h.l⟩
 obtain ⟨X,hX⟩ : ∃ X,X = c_ xs:=⟨_,rfl⟩
 rw [<- hX] at h hal hxs ⊢
 refine eF (GK hle (d_ (by simp) (aa (λh1=>?_) λh1=>?_)))
 ·have h1:n = 0:=by
   have:(0:Int) = (n:Int):=by simpa using h1
   omega
  subst h1
  have e:X = []:=UU (by omega)
  subst e
  refine (aW (us:=[]) aL (rfl:ah Ty _ = .slice _) (rfl:ah Ty _ = .slice _) rfl rfl rfl h rfl hy (by show (0 + 1) * 16<=_; omega) (by omega)).mono ?_
  rintro _ w2 ⟨o',c',rfl,h⟩
  exact ⟨_,_,_,rfl,o',c',rfl,by rw [Vb]; exact h.pick 2 [0]⟩
 have h1:0 < n:=by
  have:¬ (0:Int) = (n:Int):=by simpa using h1
  omega
 have i1:aw ((n:Int) + ((1:Nat):Int)):=⟨by omega,by omega⟩
 refine ⟨i1,⟨_,w,Qs aL (rfl:ah Ty _ = .slice _) o n c w,Ev.refl w,_,rfl,aa (λh2=>?_) λh2=>?_⟩⟩
 ·have h2:c = n:=by have:=UI h2; omega
  subst h2
  refine me (hi:=0) (UW _) ⟨i1,⟨by omega,by omega⟩,?_⟩
  have ez:(c:Int) + ((1:Nat):Int) - 0 = ((c + 1:Nat):Int):=by omega
  rw [ez]
  refine (Lf (i:=_) aL (rfl:ah Ty _ = .slice _) (rfl:ah Ty _ = .int .i64) rfl rfl rfl (by show 0 < 2; decide) h (by omega) (by omega) (by show (c + 1) * 16<=_; omega) (by omega)).mono ?_
  rintro _ w3 ⟨o4,c4,us,rfl,hul,h⟩
  have hul:us.length = (c + 1) * 2:=hul
  have h:St w3 (own 2 o4 (c + 1) c4 us :: aS k (bD y) :: own 2 o c c X :: L):=h
  have hle4:=dj h
  refine ⟨_,_,_,rfl,GK hle4 ?_⟩
  have hc0:=zt (k:=0) (n:=1) (news:=bD y) (t:=38) (tx:=38) (ty:=3) aL (rfl:ah Ty _ = .slice _) rfl (by show 0 < 2; decide) h rfl (.inr ⟨aM k,rfl,ag 1 h.l⟩) hy (by decide) (by omega) (sl:=1) (dl:=c + 1) (c2:=1) (dc:=c4) (Wb (by omega))
  rw [PX] at hc0
  refine hc0.mono ?_
  rintro _ w4 ⟨rfl,h⟩
  refine ⟨_,rfl,λw5 hd=>?_⟩
  have h:=h.drawn hd
  refine ⟨λ_=>True,trivial,⟨by omega,by omega⟩,?_⟩
  rw [show (0:Int) + ((1:Nat):Int) = ((1:Nat):Int) from rfl]
  refine cQ (lo:=1) (by omega) hle4 (GK (U2 _) ?_)
  have hc1:=zt (k:=1) (n:=c) (news:=X) (t:=38) (tx:=38) (ty:=3) aL (rfl:ah Ty _ = .slice _) rfl (by show 0 < 2; decide) h hal (eh 2 h.l) hxs h1 (by omega) (sl:=c) (dl:=c + 1 - 1) (c2:=c) (dc:=c4 - 1) (by show min c (c + 1 - 1) = c; omega)
  refine hc1.mono ?_
  rintro _ w6 ⟨rfl,h⟩
  refine ⟨_,rfl,o4,c4,rfl,?_⟩
  have h:St w6 (own 2 o4 (c + 1) c4 ((us.take (0 * 2) ++ bD y ++ us.drop (0 * 2 + (bD y).length)).take (1 * 2) ++ X ++ (us.take (0 * 2) ++ bD y ++ us.drop (0 * 2 + (bD y).length)).drop (1 * 2 + X.length)) :: aS k (bD y) :: own 2 o c c X :: L):=h
  have e1:(us.take (0 * 2) ++ bD y ++ us.drop (0 * 2 + (bD y).length)).take (1 * 2) = bD y:=by simp [bD]
  have e2:(us.take (0 * 2) ++ bD y ++ us.drop (0 * 2 + (bD y).length)).drop (1 * 2 + X.length) = []:=List.drop_eq_nil_of_le (by simp [bD]; omega)
  rw [e1,e2,Vb] at h
  exact h.pick 3 [0]
 have h2:n + 1<=c:=by have:=UH h2; omega
 obtain ⟨us,hul,h⟩:=Ob (m:=1) (h.pick 2 [1,0]) h2
 refine ⟨i1,me (hi:=n + 1) h2 ⟨⟨by omega,by omega⟩,?_⟩⟩
 rw [PX,show (0:Int) + ((1:Nat):Int) = ((1:Nat):Int) from rfl]
 refine cQ (lo:=1) (by omega) h2 ?_
 rcases ct h with ⟨_,he,_,_⟩ | ⟨b,pre,cs,post,rfl,hcl,_,_,_⟩
 ·omega
 have hs1:eL (some ⟨b,pre.length,none⟩) 1 c 2 = some ⟨b,pre.length + 2,none⟩:=by
  unfold eL
  rw [UN (by omega)]
  show some (Addr.add ⟨b,pre.length,none⟩ (1 * 2)) = _
  rw [add_lit]
 rw [hs1]
 refine GM (tR:=4) aL iN (by kernel_rfl) (by kernel_rfl) (by kernel_rfl) (by kernel_rfl) (rfl:ah Ty 38 = .slice _) rfl (hcl.pick 2 [1,0]) (λe=>by have:=congrArg List.length e; simp [hal] at this; omega) ⟨_,rfl,dZ rfl λw8 hd=>?_⟩
 clear hcl hs1
 have h:=h.drawn hd
 refine ⟨λ_=>True,trivial,⟨by omega,by omega⟩,cQ (lo:=1) (by omega) h2 (GK h2 ?_)⟩
 have hXd:fb (some ⟨b,pre.length,none⟩) X (hp w8):=by
  rcases eh 0 h.l with e | ⟨ad,e,hr⟩
  ·have:=congrArg List.length e
   simp [hal] at this; omega
  ·exact .inr ⟨ad,e,λj v hj=>hr j v (by rw [U0 (UJ.1 hj).1]; exact hj)⟩
 have hc1:=zt (k:=1) (n:=n) (news:=X) (t:=38) (tx:=38) (ty:=3) aL (rfl:ah Ty _ = .slice _) rfl (by show 0 < 2; decide) h hal hXd hxs h1 (by omega) (sl:=n + 1) (dl:=n + 1 - 1) (c2:=c) (dc:=c - 1) (by show min (n + 1) (n + 1 - 1) = n; omega)
 refine hc1.mono ?_
 rintro _ w9 ⟨rfl,h⟩
 refine ⟨_,rfl,GK h2 ?_⟩
 have h:St w9 (own 2 (some ⟨b,pre.length,none⟩) (n + 1) c ((X ++ us).take (1 * 2) ++ X ++ (X ++ us).drop (1 * 2 + X.length)) :: aS k (bD y) :: L):=h
 have e2:(X ++ us).drop (1 * 2 + X.length) = []:=List.drop_eq_nil_of_le (by simp [hul]; omega)
 rw [e2,Vb] at h
 have hc0:=zt (k:=0) (n:=1) (news:=bD y) (t:=38) (tx:=38) (ty:=3) aL (rfl:ah Ty _ = .slice _) rfl (by show 0 < 2; decide) h rfl (.inr ⟨aM k,rfl,ag 1 h.l⟩) hy (by decide) (by omega) (sl:=1) (dl:=n + 1) (c2:=1) (dc:=c) (Wb (by omega))
 rw [PX] at hc0
 refine hc0.mono ?_
 rintro _ w10 ⟨rfl,h⟩
 refine ⟨_,rfl,_,c,rfl,?_⟩
 have h:St w10 (own 2 (some ⟨b,pre.length,none⟩) (n + 1) c (((X ++ us).take (1 * 2) ++ X).take (0 * 2) ++ bD y ++ ((X ++ us).take (1 * 2) ++ X).drop (0 * 2 + (bD y).length)) :: aS k (bD y) :: L):=h
 have e3:((X ++ us).take (1 * 2) ++ X).drop (0 * 2 + (bD y).length) = X:=by
  have:((X ++ us).take (1 * 2)).length = 2:=by simp; omega
  rw [show 0 * 2 + (bD y).length = ((X ++ us).take (1 * 2)).length from by rw [this]; rfl,List.drop_left]
 rw [e3,Nat.zero_mul,List.take_zero,Vn] at h
 exact h.pick 2 [0]
theorem xT {h:Hp} {ts:List h_} {a:WA} {l i:Nat} (r:aX h ts a l) (hi:i < l):∃ t ad,ts[i]? = some t/\a = some ad/\av h (ad.add (cT i 2)) [.string t.name,.int .i64 t.level]:=by
 obtain ⟨t,ad,vs,h1,h2,h3,h4⟩:=r.get hi
 exact ⟨t,ad,h1,h2,(show vs = _ from h4) ▸ h3⟩
theorem xU {h:Hp} {ts:List aO} {a:WA} {l i:Nat} (r:aX h ts a l) (hi:i < l):∃ t ad b m c,ts[i]? = some t/\a = some ad/\av h (ad.add (cT i 3)) [.int .i64 t.left,.slice b m c,.int .i64 t.level]/\m<=c/\aX h t.right b m:=by
 obtain ⟨t,ad,vs,h1,h2,h3,b,m,c,h4,h5,h6⟩:=r.get hi
 subst h4
 exact ⟨t,ad,b,m,c,h1,h2,h3,h5,h6⟩
theorem Oo {p t:Nat} (hc:aq g) (hg:gR (hp w) g x) (hp1:p < g.prods.length) (ht:t < g.T):ay Tryz.prog Bd [.agg ⟨x.cells⟩,.int .i64 (p:Int),.int .i64 (t:Int)] w λv w'=>v = .int .i64 (bu g p t)/\Gr w w':=by
 refine xQ (cN hg λk1 w1 gw hg1 B=>af (St.all w1) λk2 w2 h=>aI h rfl (by simp [aH]) λw3 h=>?_)
 have g13:Gr w1 w3:=h.aR
 have r2:av (hp w3) (aM k2) [.int .i64 0,.int .i64 2,.int .i64 1,.int .i64 3]:=ag 0 h.l
 clear h
 have hg3:=hg1.mono g13
 have gw3:=gw.trans g13
 have pl:=hg3.p.1
 have tl:=hg3.t.1
 have ll:=hg3.l.1
 have eT:g.T = g.terms.length:=rfl
 obtain ⟨y,ad,_,_,_,hy,ha,ry,_,_⟩:=xU hg3.p (i:=p) (by omega)
 obtain ⟨z,ad2,hz,ha2,rz⟩:=xT hg3.t (i:=t) (by omega)
 have ep:uO g p = y.level:=by unfold uO; rw [hy]
 have et:It g t = z.level:=by unfold It; rw [hz]
 obtain ⟨p0,p1⟩:=Eu hc hy
 refine ⟨_,_,_,B.c4 g13,ak ha (by omega) ⟨_,ry.cell (sub.refl _) (j:=2) rfl,_,_,_,B.c0 g13,ak ha2 (by omega) ⟨_,rz.cell (sub.refl _) (j:=1) rfl,?_⟩⟩⟩
 have fin:∀ z:Int,z = bu g p t->(.int .i64 z:Value) = .int .i64 (bu g p t)/\Gr w w3:=λz e=>⟨by rw [e],gw3⟩
 refine aa (λh1=>fin _ ?_) λh1=>aa (λh2=>fin _ ?_) λh2=>aa (λh3=>fin _ ?_) λh3=>aa (λh4=>fin _ ?_) λh4=>?_
 ·have h1:y.level = 0:=by simpa using h1
  unfold bu
  rw [US (.inl (by rw [ep]; exact h1))]
 ·have h2:z.level = 0:=by simpa using h2
  unfold bu
  rw [US (.inr (by rw [et]; exact h2))]
 ·have h1:¬ y.level = 0:=by simpa using h1
  have h2:¬ z.level = 0:=by simpa using h2
  have h3:=UI h3
  unfold bu
  rw [ep,et,UN (by omega),US h3]
 ·have h1:¬ y.level = 0:=by simpa using h1
  have h2:¬ z.level = 0:=by simpa using h2
  have h4:=UI h4
  unfold bu
  rw [ep,et,UN (by omega),UN (by omega),US h4]
 have h1:¬ y.level = 0:=by simpa using h1
 have h2:¬ z.level = 0:=by simpa using h2
 have h3:=UH h3
 have h4:=UH h4
 obtain ⟨v,hv,ev,v1,v3⟩:=A4 hc (l:=y.level) (by omega) p1
 obtain ⟨ad3,ha3,rv⟩:=hg3.l.at hv
 have es:bu g p t = if v = 1 then 2 else if v = 2 then 1 else 3:=by
  unfold bu
  rw [ep,et,UN (by omega),UN h3,UN h4,ev]
 have hlv:=(UJ.1 hv).1
 have hl64:=oe hc.2.1
 refine ⟨_,_,_,B.c2 g13,⟨by omega,by omega⟩,ad3,ha3,by omega,by omega,v,rv _ (sub.refl _),aM k2,rfl,by omega,by omega,?_⟩
 rw [es]
 have hvv:v = 1\/v = 2\/v = 3:=by omega
 rcases hvv with rfl | rfl | rfl
 ·exact ⟨2,r2.cell (sub.refl _) (j:=1) rfl,rfl,gw3⟩
 ·exact ⟨1,r2.cell (sub.refl _) (j:=2) rfl,rfl,gw3⟩
 ·exact ⟨3,r2.cell (sub.refl _) (j:=3) rfl,rfl,gw3⟩
def J_ (g:ae) (p t z f:Int):Prop:=(¬ (aq g/\0<=p/\p < g.prods.length/\0<=t/\t < g.T)/\z = 0/\f = 1)\/(aq g/\∃ i j:Nat,p = i/\t = j/\i < g.prods.length/\j < g.T/\z = bu g i j/\f = 0)
theorem EE {p t:Int} (hg:gR (hp w) g x) (hb:iq g):ay Tryz.prog Bb [.agg ⟨x.cells⟩,.int .i64 p,.int .i64 t] w λv w'=>∃ z f:Int,v = .tuple #[.int .i64 z,.int .i64 f]/\J_ g p t z f/\Gr w w':=by
 refine xL (cN hg λk1 w1 gw hg1 B=>?_)
 have pl:=hg1.p.1
 have tl:=hg1.t.1
 have eT:g.T = g.terms.length:=rfl
 refine ⟨λb u=>Gr w1 u/\(b = false↔(aq g/\0<=p/\p < g.prods.length/\0<=t/\t < g.T)),⟨_,_,_,_,_,_,_,_,_,_,_,_,_,B.row (sub.refl _),(vu hg1 hb).mono ?_⟩,?_⟩
 ·rintro _ w2 ⟨⟨r,rfl,hr⟩,g12⟩
  refine ⟨_,rfl,aa (λh1=>⟨g12,?_⟩) λh1=>aa (λh2=>⟨g12,?_⟩) λh2=>⟨_,_,_,B.c4 g12,aa (λh3=>⟨g12,?_⟩) λh3=>aa (λh4=>⟨g12,?_⟩) λh4=>⟨_,_,_,B.c0 g12,g12,?_⟩⟩⟩
  ·have:r = false:=by simpa using h1
   exact ⟨λh=>(by cases h),λh=>by rw [hr.2 h.1] at this; cases this⟩
  ·have:=UI h2
   exact ⟨λh=>(by cases h),λh=>by omega⟩
  ·have:=UI h3
   exact ⟨λh=>(by cases h),λh=>by omega⟩
  ·have:=UI h4
   exact ⟨λh=>(by cases h),λh=>by omega⟩
  ·have h1:r = true:=by simpa using h1
   have h2:=UH h2
   have h3:=UH h3
   have h4:=UH h4
   refine ⟨λh=>?_,λh=>Vd (by omega)⟩
   have:=UH h
   exact ⟨hr.1 h1,by omega,by omega,by omega,by omega⟩
 rintro _ b w3 ⟨g13,hb3⟩
 refine aa (λh1=>?_) λh1=>?_
 ·subst h1
  exact ⟨0,1,rfl,.inl ⟨λh=>(by cases hb3.2 h),rfl,rfl⟩,gw.trans g13⟩
 subst h1
 obtain ⟨hc,p0,p1,t0,t1⟩:=hb3.1 rfl
 obtain ⟨i,rfl⟩ : ∃ i:Nat,p = i:=⟨p.toNat,by omega⟩
 obtain ⟨j,rfl⟩ : ∃ j:Nat,t = j:=⟨t.toNat,by omega⟩
 refine ⟨_,_,_,_,_,_,_,_,_,_,_,_,_,B.row g13,(Oo hc (hg1.mono g13) (by omega) (by omega)).mono ?_⟩
 rintro _ w4 ⟨rfl,g34⟩
 exact ⟨_,rfl,_,0,rfl,.inr ⟨hc,i,j,rfl,rfl,by omega,by omega,rfl,rfl⟩,gw.trans (g13.trans g34)⟩
end Go.Proofs.YtndaepmjkbmjmaaGreatDoor
namespace Go.V
section
variable {g:ae}
theorem Sq {n:Nat} (hn:1<=n) (a:ax):jK n a<=n:=by
 unfold jK
 split
 ·omega
 ·split
  ·omega
  ·split <;> omega
theorem GS {n:Nat} (hn:1<=n):∀ {l:List ax} {last:Int},wm n last l->l = []\/(l.length:Int) + last<=n
 | [],_,_=>.inl rfl
 | a :: l,last,h=>by
  right
  have h1:=h.1
  have h2:=Sq hn a
  rcases GS hn h.2 with rfl | h3
  ·simp; omega
  ·rw [Vl]; omega
theorem Ka {n:Nat} (hn:1<=n) {l:List ax} (h:ly n l):l.length<=n + 1:=by
 rcases GS hn h with rfl | h
 ·simp
 ·omega
def GU (g:ae) (t:Int) (xs:List ax) (a:ax) (l:List ax) (e:Int):Prop:=(¬ (aq g/\0<=t/\t < g.T/\ly g.prods.length xs)/\a = ⟨0,0⟩/\l = []/\e = 1)\/(aq g/\ly g.prods.length xs/\∃ j:Nat,t = j/\j < g.T/\a = iQ (aZ g j xs)/\l = ib (aZ g j xs).1/\e = 0)
end
end Go.V
namespace Go.Proofs.YtndaepmjkbmjmaaGreatDoor
variable {w:WB} {L:List au} {g:ae} {x:GA}
theorem Ll {xs:List ax} {a:WA} {l c:Nat} (hg:gR (hp w) g x) (hb:iq g) (hr:aX (hp w) xs a l) (hl:l<=4611686018427387904):ay Tryz.prog wv [.agg ⟨x.cells⟩,.slice a l c] w λv w'=>v = .bool (decide (ly g.prods.length xs))/\Gr w w':=by
 have hxl:=hr.1
 have hbp:=hb.2.2.2.1
 refine tp (cN hg λk1 w1 gw hg1 B=>?_)
 have pl:=hg1.p.1
 have hr:=hr.mono gw
 refine ⟨λlast z u=>∃ i:Nat,z = i/\i<=l/\(ly g.prods.length xs↔wm g.prods.length last (xs.drop i))/\Gr w1 u,λ_ z _=>l - z.toNat,⟨0,rfl,UW _,by rw [List.drop_zero]; exact Iff.rfl,Gr.refl _⟩,?_⟩
 rintro _ last _ w2 ⟨i,rfl,hi,ho,g12⟩
 refine aa (λh1=>?_) λh1=>?_
 rotate_left
 ·have h1:i = l:=by have:=UH h1; omega
  rw [List.drop_eq_nil_of_le (by omega)] at ho
  exact ⟨by rw [Vc (ho.2 trivial)],gw.trans g12⟩
 have h1:i < l:=by have:=UI h1; omega
 obtain ⟨y,ad,hy,rfl,ry⟩:=bM (hr.mono g12) h1
 rw [C4 hy] at ho
 refine ak rfl h1 ⟨_,_,ry.at (sub.refl _) rfl,af (St.all w2) λk2 w3 h=>aI h rfl (by simp [aH]) λw4 h=>?_⟩
 have r2:av (hp w4) (aM k2) [.int .i64 y.kind,.int .i64 y.to]:=ag 0 h.l
 have g24:Gr w2 w4:=h.aR
 clear h
 have c0:=r2.cell0 (sub.refl _)
 have c1:=r2.cell (sub.refl _) (j:=1) rfl
 refine ⟨λr u=>r = jK g.prods.length y/\u = w4,⟨_,c0,aa (λh2=>?_) λh2=>aa (λh3=>?_) λh3=>aa (λh4=>?_) λh4=>?_⟩,?_⟩
 ·have h2:y.kind = 1:=by simpa using h2
  refine ⟨_,c1,aa (λh3=>⟨?_,rfl⟩) λh3=>⟨?_,rfl⟩⟩
  ·have h3:=UI h3
   unfold jK; rw [US ⟨h2,h3⟩]
  ·have h3:=UH h3
   unfold jK; rw [UN (λh=>h3 h.2),UN (by omega),UN (by omega)]
 ·have h2:¬ y.kind = 1:=by simpa using h2
  have h3:y.kind = 3:=by simpa using h3
  refine ⟨_,c1,aa (λh4=>⟨?_,rfl⟩) λh4=>⟨?_,rfl⟩⟩
  ·have h4:y.to = 0:=by simpa using h4
   unfold jK; rw [UN (λh=>h2 h.1),US ⟨h3,h4⟩]
  ·have h4:¬ y.to = 0:=by simpa using h4
   unfold jK; rw [UN (λh=>h2 h.1),UN (λh=>h4 h.2),UN (by omega)]
 ·have h2:¬ y.kind = 1:=by simpa using h2
  have h3:¬ y.kind = 3:=by simpa using h3
  have h4:y.kind = 2:=by simpa using h4
  refine ⟨_,c1,aa (λh5=>⟨_,c1,_,_,_,B.c4 (g12.trans g24),aa (λh6=>?_) λh6=>⟨?_,rfl⟩⟩) λh5=>⟨?_,rfl⟩⟩
  ·have h5:=UI h5
   have h6:=UI h6
   refine ⟨_,c1,⟨by omega,by omega⟩,?_,rfl⟩
   unfold jK; rw [UN (λh=>h2 h.1),UN (λh=>h3 h.1),US ⟨h4,h5,by omega⟩]
  ·have h6:=UH h6
   unfold jK; rw [UN (λh=>h2 h.1),UN (λh=>h3 h.1),UN (by omega)]
  ·have h5:=UH h5
   unfold jK; rw [UN (λh=>h2 h.1),UN (λh=>h3 h.1),UN (by omega)]
 ·have h2:¬ y.kind = 1:=by simpa using h2
  have h3:¬ y.kind = 3:=by simpa using h3
  have h4:¬ y.kind = 2:=by simpa using h4
  refine ⟨?_,rfl⟩
  unfold jK; rw [UN (λh=>h2 h.1),UN (λh=>h3 h.1),UN (λh=>h4 h.1)]
 rintro _ _ _ ⟨rfl,rfl⟩
 refine aa (λh2=>?_) λh2=>?_
 ·have h2:=UI h2
  exact ⟨by rw [Vd λh=>by have:=(ho.1 h).1; omega],gw.trans (g12.trans g24)⟩
 ·have h2:=UH h2
  exact ⟨⟨by omega,by omega⟩,⟨i + 1,by simp,h1,ho.trans ⟨λh=>h.2,λh=>⟨by omega,h⟩⟩,g12.trans g24⟩,bK h1⟩
theorem Sr {xs:List ax} {a:WA} {c t:Nat} (hc:aq g) (hg:gR (hp w) g x) (hr:aX (hp w) xs a xs.length) (hcl:xs.length<=c) (ho:ly g.prods.length xs) (ht:t < g.T):ay Tryz.prog Be [.agg ⟨x.cells⟩,.int .i64 (t:Int),.slice a xs.length c] w λv w'=>∃ (o:WA) (c' : Nat),v = .tuple #[.slice o (aZ g t xs).1.length c',.bool (aZ g t xs).2]/\St w' (own 2 o (aZ g t xs).1.length c' (c_ (aZ g t xs).1) :: all w):=by
 obtain ⟨sT,sN,sP,sP2,_,_⟩:=hc.gB
 have hlen:=Ka (by omega) ho
 refine xS (cN hg λk1 w1 gw hg1 B=>?_)
 have hr1:=hr.mono gw
 refine ⟨λb u=>w1 = u/\(b = false↔∃ y r,xs = y :: r/\y.kind = 1),aa (λh1=>⟨rfl,?_⟩) λh1=>?_,?_⟩
 ·have h1:xs.length = 0:=by
   have:(xs.length:Int) = 0:=by simpa using h1
   omega
  have e:xs = []:=UU h1
  subst e
  exact ⟨λh=>(by cases h),λ⟨_,_,h,_⟩=>(by cases h)⟩
 ·have h1:0 < xs.length:=by
   have:¬ (xs.length:Int) = 0:=by simpa using h1
   omega
  obtain ⟨y,ad,hy,rfl,ry⟩:=bM hr1 h1
  obtain ⟨r,hxr⟩ : ∃ r,xs = y :: r:=by
   cases xs with
   | nil=>simp at h1
   | cons z r=>simp at hy; subst hy; exact ⟨r,rfl⟩
  rw [show (cT 0 2) = 0 from rfl] at ry
  refine gk rfl h1 ⟨_,by simpa [Addr.add] using ry.cell0 (sub.refl _),rfl,?_⟩
  rw [hxr]
  constructor
  ·intro h
   exact ⟨y,r,rfl,by simpa using h⟩
  ·rintro ⟨y',r',e,h⟩
   cases e
   simpa using h
 rintro _ b _ ⟨rfl,hb⟩
 refine aa (λh1=>(On hr1 (by omega)).mono ?_) λh1=>?_
 ·rintro _ w3 ⟨o,c',rfl,h⟩
  subst h1
  have e:aZ g t xs = (xs,false):=by
   cases xs with
   | nil=>rfl
   | cons y r=>exact kJ λhk=>by cases hb.2 ⟨y,r,rfl,hk⟩
  rw [e]
  exact ⟨_,_,_,rfl,o,c',rfl,St.vf h (b_ gw)⟩
 obtain ⟨y0,r,rfl,hk0⟩:=hb.1 h1
 clear hb h1
 rw [ic hk0]
 have hrl:(y0 :: r).length = r.length + 1:=rfl
 have hrd:aX (hp w1) r (eL a 1 c 2) ((y0 :: r).length - 1):=hr1.drop (k:=1) (m:=c) (by simp) hcl
 refine cQ (lo:=1) (by simp) hcl ?_
 have hfl:∀ i,((r.take i).filter (nW g t)).length<=r.length:=λi=>by
  have h1:=Vv (nW g t) (r.take i)
  rw [U9] at h1
  omega
 refine ⟨λb2 b3 o n c' z u=>∃ i:Nat,z = i/\i<=r.length/\b2 = (r.take i).all (oH g t)/\b3 = (r.take i).any (te g t)/\n = ((r.take i).filter (nW g t)).length/\St u (own 2 o n c' (c_ ((r.take i).filter (nW g t))) :: all w1),λ_ _ _ _ _ z _=>r.length - z.toNat,⟨0,rfl,UW _,rfl,rfl,rfl,az 2 (St.all w1)⟩,?_⟩
 rintro _ b2 b3 o3 _ c3 _ w4 ⟨i,rfl,hi,hb2,hb3,rfl,h⟩
 have g14:Gr w1 w4:=bj 1 h.l
 refine aa (λh1=>?_) λh1=>?_
 rotate_left
 ·have h1:i = r.length:=by have:=UH h1; rw [hrl] at this; omega
  rw [h1,U8] at hb2 hb3 h
  have hfl2:=hfl r.length
  rw [U8] at hfl2
  rw [h1,U8]
  refine aa (λh2=>?_) λh2=>?_
  ·obtain ⟨y,ad,hy,rfl,ry⟩:=bM (hr1.mono g14) (show 0 < (y0 :: r).length by simp)
   simp only [Wn,Option.some.injEq] at hy
   subst hy
   rw [show (cT 0 2) = 0 from rfl,show ad.add 0 = ad from by simp [Addr.add]] at ry
   refine gk rfl (by simp) ⟨_,_,ry.at (sub.refl _) rfl,af h λk29 w16 h=>(Lk (y:=y0) h (by omega)).mono ?_⟩
   rintro _ w17 ⟨o',c',rfl,h⟩
   rw [h2] at hb2
   rw [US hb2.symm,hb3]
   exact ⟨_,_,_,rfl,o',c',rfl,St.vf h (b_ gw)⟩
  ·rw [h2] at hb2
   rw [UN (by rw [<- hb2]; simp),hb3,Vn]
   exact ⟨_,_,rfl,St.vf h (b_ gw)⟩
 have h1:i < r.length:=by have:=UI h1; rw [hrl] at this; omega
 obtain ⟨y,ad,hy,hya,ry⟩:=bM (hrd.mono g14) (show i < (y0 :: r).length - 1 by rw [hrl]; omega)
 have hym:y∈y0 :: r:=Wm _ (UL hy)
 have htk:r.take (i + 1) = r.take i ++ [y]:=by rw [UR,hy]; rfl
 have hfi:=hfl i
 have sd:nN g t y = if y.kind = 2 then bu g y.to.toNat t else 0:=rfl
 -- the four ends of a round
 have stay:∀ {u:WB} (b2' b3' : Bool),St u (own 2 o3 ((r.take i).filter (nW g t)).length c3 (c_ ((r.take i).filter (nW g t))) :: all w1)->nW g t y = false->b2' = (b2 && oH g t y)->b3' = (b3 || te g t y) ->
   aw ((i:Int) + 1)/\(∃ i' : Nat,(i:Int) + 1 = i'/\i'<=r.length/\b2' = (r.take i').all (oH g t)/\b3' = (r.take i').any (te g t)/\((r.take i).filter (nW g t)).length = ((r.take i').filter (nW g t)).length/\St u (own 2 o3 ((r.take i).filter (nW g t)).length c3 (c_ ((r.take i').filter (nW g t))) :: all w1))/\r.length - ((i:Int) + 1).toNat < r.length - (i:Int).toNat:=λ{u} b2' b3' hu h2 h3 h4=>by
  have e:(r.take (i + 1)).filter (nW g t) = (r.take i).filter (nW g t):=by rw [htk,Vr,VP (by rw [h2]; simp)]; simp
  exact ⟨⟨by omega,by omega⟩,⟨i + 1,by simp,h1,by rw [htk,Wq,<- hb2,h3]; simp,by rw [htk,List.any_append,<- hb3,h4]; simp,by rw [e],by rw [e]; exact hu⟩,bK h1⟩
 have more:∀ {u:WB} {k:Nat} (b2' b3' : Bool),St u (aS k (bD y) :: own 2 o3 ((r.take i).filter (nW g t)).length c3 (c_ ((r.take i).filter (nW g t))) :: all w1)->nW g t y = true->b2' = (b2 && oH g t y)->b3' = (b3 || te g t y) ->
   aU Tryz.prog (Builtin.append_ (Array.mk [jP,jP]) jP (Array.mk [.slice o3 ((r.take i).filter (nW g t)).length c3,.slice (some (aM k)) 1 1])) u λv u'=>∃ o4 n4 c4,v = .slice o4 n4 c4/\aw ((i:Int) + 1)/\(∃ i' : Nat,(i:Int) + 1 = i'/\i'<=r.length/\b2' = (r.take i').all (oH g t)/\b3' = (r.take i').any (te g t)/\n4 = ((r.take i').filter (nW g t)).length/\St u' (own 2 o4 n4 c4 (c_ ((r.take i').filter (nW g t))) :: all w1))/\r.length - ((i:Int) + 1).toNat < r.length - (i:Int).toNat:=λ{u k} b2' b3' hu h2 h3 h4=>by
  have e:(r.take (i + 1)).filter (nW g t) = (r.take i).filter (nW g t) ++ [y]:=by rw [htk,Vr,VO h2]; simp
  refine (aW (us:=c_ ((r.take i).filter (nW g t))) aL (rfl:ah Ty _ = .slice _) (rfl:ah Ty _ = .slice _) rfl rfl rfl hu rfl (by simp [bD,aH]) (by show (((r.take i).filter (nW g t)).length + 1) * 16<=_; omega) (by omega)).mono ?_
  rintro _ w9 ⟨o4,c4,rfl,h⟩
  refine ⟨_,_,_,rfl,⟨by omega,by omega⟩,⟨i + 1,by simp,h1,by rw [htk,Wq,<- hb2,h3]; simp,by rw [htk,List.any_append,<- hb3,h4]; simp,by rw [e]; simp,?_⟩,bK h1⟩
  rw [e,zu]
  exact h.pick 2 [0]
 refine ak hya (by rw [hrl]; omega) ⟨_,_,ry.at (sub.refl _) rfl,af h λk8 w5 h=>aI h rfl (by simp [aH]) λw6 h=>?_⟩
 have r8:av (hp w6) (aM k8) (bD y):=ag 0 h.l
 have g16:Gr w1 w6:=bj 2 h.l
 have c0:=r8.cell0 (sub.refl _)
 refine ⟨_,c0,aa (λh2=>?_) λh2=>?_⟩
 ·have h2:y.kind = 2:=by simpa using h2
  obtain ⟨hp0,hp1⟩ : 0 < y.to/\y.to < g.prods.length:=by
   rcases Iu ho hym with ⟨h,_⟩ | ⟨h,_⟩ | ⟨_,h⟩
   ·omega
   ·omega
   ·exact h
  obtain ⟨p,hp⟩ : ∃ p:Nat,y.to = p:=⟨y.to.toNat,by omega⟩
  have es:nN g t y = bu g p t:=by rw [sd,US h2,hp,Vh]
  refine ⟨_,_,_,_,_,_,_,_,_,_,_,_,_,B.row g16,_,r8.cell (sub.refl _) (j:=1) rfl,?_⟩
  rw [hp]
  refine (Oo hc (hg1.mono g16) (by omega) ht).mono ?_
  rintro _ w7 ⟨rfl,g67⟩
  have h:=h.gr g67
  have r8:=r8.mono g67
  rw [<- es]
  have hin:=N_ (g:=g) t y
  refine ⟨_,rfl,aa (λh3=>?_) λh3=>aa (λh4=>?_) λh4=>aa (λh5=>?_) λh5=>?_⟩
  ·have h3:nN g t y = 3:=by simpa using h3
   exact stay false true (h.pick 2 [1]) (Vd (by omega)) (by rw [show oH g t y = false from Vd (by omega)]; simp) (by rw [show te g t y = true from Vc h3]; simp)
  ·have h3:¬ nN g t y = 3:=by simpa using h3
   have h4:nN g t y = 2:=by simpa using h4
   refine ⟨_,_,r8.at (sub.refl _) rfl,af (h.pick 2 [1]) λk17 w8 h=>more false b3 h (Vc (.inr h4)) (by rw [show oH g t y = false from Vd (by omega)]; simp) (by rw [show te g t y = false from Vd h3]; simp)⟩
  ·have h5:nN g t y = 0:=by simpa using h5
   refine ⟨_,_,r8.at (sub.refl _) rfl,af (h.pick 2 [1]) λk17 w8 h=>more b2 b3 h (Vc (.inl h5)) (by rw [show oH g t y = true from Vc ⟨by omega,by omega⟩]; simp) (by rw [show te g t y = false from Vd (by omega)]; simp)⟩
  ·have h3:¬ nN g t y = 3:=by simpa using h3
   have h4:¬ nN g t y = 2:=by simpa using h4
   have h5:¬ nN g t y = 0:=by simpa using h5
   exact stay b2 b3 (h.pick 2 [1]) (Vd (by omega)) (by rw [show oH g t y = true from Vc ⟨h4,h3⟩]; simp) (by rw [show te g t y = false from Vd h3]; simp)
 ·have h2:¬ y.kind = 2:=by simpa using h2
  have es:nN g t y = 0:=by rw [sd,UN h2]
  refine d_ rfl (d_ rfl (dZ rfl ⟨_,_,r8.at (sub.refl _) rfl,af (h.pick 2 [1]) λk26 w14 h=>more b2 b3 h (Vc (.inl es)) (by rw [show oH g t y = true from Vc ⟨by omega,by omega⟩]; simp) (by rw [show te g t y = false from Vd (by omega)]; simp)⟩))
theorem Oq {l:List ax}:(ib l).length<=l.length:=by unfold ib; split <;> simp
theorem Da {xs:List ax} {a:WA} {c t:Nat} {st:Int} (hc:aq g) (hg:gR (hp w) g x) (hr:aX (hp w) xs a xs.length) (hcl:xs.length<=c) (ho:ly g.prods.length xs) (ht:t < g.T):ay Tryz.prog wx [.agg ⟨x.cells⟩,.agg #[.int .i64 st,.int .i64 (t:Int),.slice a xs.length c]] w λv w'=>∃ (o:WA) (c' : Nat),v = .tuple #[.agg ⟨bD (iQ (aZ g t xs))⟩,.slice o (ib (aZ g t xs).1).length c']/\St w' (own 2 o (ib (aZ g t xs).1).length c' (c_ (ib (aZ g t xs).1)) :: all w):=by
 refine tu (cN hg λk1 w1 gw hg1 B=>af (St.all w1) λk2 w2 h=>af h λk3 w3 h=>?_)
 have g13:Gr w1 w3:=bj 2 h.l
 have r2:av (hp w3) (aM k2) [.int .i64 st,.int .i64 (t:Int),.slice a xs.length c]:=ag 1 h.l
 refine ⟨_,_,_,_,_,_,_,_,_,_,_,_,_,B.row g13,_,r2.cell (sub.refl _) (j:=1) rfl,_,_,_,r2.cell (sub.refl _) (j:=2) rfl,(Sr hc (hg1.mono g13) (hr.mono (gw.trans g13)) hcl ho ht).mono ?_⟩
 obtain ⟨l,hl⟩ : ∃ l,l = aZ g t xs:=⟨_,rfl⟩
 rw [<- hl]
 rintro _ w4 ⟨o,c',rfl,h4⟩
 have h:St w4 (own 2 o l.1.length c' (c_ l.1) :: aS k3 [.int .i64 0,.int .i64 0] :: aS k2 [.int .i64 st,.int .i64 (t:Int),.slice a xs.length c] :: all w1):=St.vf h4 h.l
 clear h4
 obtain ⟨l,b⟩:=l
 have fr:∀ {u:WB} {L' : List au} {h0:Hp},St u (L' ++ [has h0])->sub h0 (hp u):=λh=>St.gone h
 refine ⟨_,_,_,_,rfl,aa (λh1=>?_) λh1=>aa (λh2=>?_) λh2=>aa (λh3=>?_) λh3=>?_⟩
 ·have h1:1 < l.length:=by have:(1:Int) < (l.length:Int):=UI h1; omega
  have hop:ib l = l:=by unfold ib; rw [US (by omega)]
  intro w5 hd
  have h:=h.drawn hd
  obtain ⟨y,r,rfl⟩ : ∃ y r,l = y :: r:=by
   cases l with
   | nil=>simp at h1
   | cons y r=>exact ⟨y,r,rfl⟩
  obtain ⟨ad,rfl⟩:=fa h (by rw [gF]; simp)
  have ry:av (hp w5) ad (bD y):=av.take (vs:=c_ r) (by
   rcases eh 0 h.l with e | ⟨ad',e,hr⟩
   ·simp [c_,bD] at e
   ·cases e; exact hr)
  refine ⟨λu=>Gr w5 u,Gr.refl _,gk rfl (by show 0 < (y :: r).length; simp) ⟨_,_,λu s=>ry.at s rfl,?_⟩⟩
  have hle:=dj h
  refine fo (fi hle ⟨_,_,_,rfl,Gr.refl _,?_⟩)
  refine aI ((fh h).pick 2 [1,0]) rfl (by simp [aH]) λw8 h=>⟨_,_,(ag 0 h.l).at (sub.refl _) rfl,?_⟩
  show ∃ (o:WA) (c' : Nat),_/\St w8 (own 2 o (ib (y :: r)).length c' (c_ (ib (y :: r))) :: all w)
  rw [hop]
  exact ⟨_,_,rfl,St.vf (h.pick 3 [1]) (b_ gw)⟩
 ·have h1:¬ 1 < l.length:=by have:¬ (1:Int) < (l.length:Int):=UH h1; omega
  have h2:l.length = 1:=by
   have:(l.length:Int) = 1:=by simpa using h2
   omega
  have hop:ib l = []:=by unfold ib; rw [UN (by omega)]
  obtain ⟨y,rfl⟩ : ∃ y,l = [y]:=by
   match l,h2 with
   | [y],_=>exact ⟨y,rfl⟩
  obtain ⟨ad,rfl⟩:=fa h (by rw [gF]; simp)
  have ry:av (hp w4) ad (bD y):=by
   rcases eh 0 h.l with e | ⟨ad',e,hr⟩
   ·simp [c_,bD] at e
   ·cases e; exact hr
  refine gk rfl (by simp) ⟨_,_,ry.at (sub.refl _) rfl,aI (h.pick 2 [1]) rfl (by simp [aH]) λw8 h=>⟨_,_,(ag 0 h.l).at (sub.refl _) rfl,none,0,?_,?_⟩⟩
  ·rw [hop]; rfl
  ·rw [hop]; exact az 2 (St.here (sub.trans gw (bj 2 h.l)))
 ·have h1:¬ 1 < l.length:=by have:¬ (1:Int) < (l.length:Int):=UH h1; omega
  have h2:¬ l.length = 1:=by
   have:¬ (l.length:Int) = 1:=by simpa using h2
   omega
  have e:l = []:=UU (by omega)
  subst e
  have h3:b = true:=h3
  subst h3
  refine aI (h.pick 2 [1]) rfl (by simp [aH]) λw8 h=>⟨_,_,(ag 0 h.l).at (sub.refl _) rfl,none,0,rfl,az 2 (St.here (sub.trans gw (bj 2 h.l)))⟩
 ·have h1:¬ 1 < l.length:=by have:¬ (1:Int) < (l.length:Int):=UH h1; omega
  have h2:¬ l.length = 1:=by
   have:¬ (l.length:Int) = 1:=by simpa using h2
   omega
  have e:l = []:=UU (by omega)
  subst e
  have h3:b = false:=h3
  subst h3
  refine aI (h.pick 2 [1]) rfl (by simp [aH]) λw8 h=>⟨_,_,(ag 0 h.l).at (sub.refl _) rfl,none,0,rfl,az 2 (St.here (sub.trans gw (bj 2 h.l)))⟩
theorem Ot {xs:List ax} {a:WA} {c:Nat} {st t:Int} (hg:gR (hp w) g x) (hb:iq g) (hr:aX (hp w) xs a xs.length) (hcl:xs.length<=c) (hl:xs.length<=4611686018427387904):ay Tryz.prog Bc [.agg ⟨x.cells⟩,.agg #[.int .i64 st,.int .i64 t,.slice a xs.length c]] w λv w'=>∃ (ac:ax) (l:List ax) (e:Int) (o:WA) (c' : Nat),v = .tuple #[.agg ⟨bD ac⟩,.slice o l.length c',.int .i64 e]/\GU g t xs ac l e/\St w' (own 2 o l.length c' (c_ l) :: all w):=by
 refine xN (cN hg λk1 w1 gw hg1 B=>af (St.all w1) λk2 w2 h=>af h λk3 w3 h=>?_)
 have g13:Gr w1 w3:=bj 2 h.l
 have r2:av (hp w3) (aM k2) [.int .i64 st,.int .i64 t,.slice a xs.length c]:=ag 1 h.l
 have tl:=hg1.t.1
 have eT:g.T = g.terms.length:=rfl
 have hr3:=hr.mono (gw.trans g13)
 refine ⟨λb u=>(b = false↔(aq g/\0<=t/\t < g.T/\ly g.prods.length xs))/\Gr w3 u,⟨_,_,_,_,_,_,_,_,_,_,_,_,_,B.row g13,(vu (hg1.mono g13) hb).mono ?_⟩,?_⟩
 ·rintro _ w4 ⟨⟨r,rfl,hrr⟩,g34⟩
  refine ⟨_,rfl,aa (λh1=>⟨?_,g34⟩) λh1=>⟨_,r2.cell g34 (j:=1) rfl,aa (λh2=>⟨?_,g34⟩) λh2=>⟨_,r2.cell g34 (j:=1) rfl,_,_,_,B.c0 (g13.trans g34),aa (λh3=>⟨?_,g34⟩) λh3=>⟨_,_,_,_,_,_,_,_,_,_,_,_,_,B.row (g13.trans g34),_,_,_,r2.cell g34 (j:=2) rfl,(Ll (hg1.mono (g13.trans g34)) hb (hr3.mono g34) hl).mono ?_⟩⟩⟩⟩
  ·have:r = false:=by simpa using h1
   exact ⟨λh=>(by cases h),λh=>by rw [hrr.2 h.1] at this; cases this⟩
  ·have:=UI h2
   exact ⟨λh=>(by cases h),λh=>by omega⟩
  ·have:=UI h3
   exact ⟨λh=>(by cases h),λh=>by omega⟩
  ·rintro _ w5 ⟨rfl,g45⟩
   have h1:r = true:=by simpa using h1
   have h2:=UH h2
   have h3:=UH h3
   refine ⟨_,rfl,?_,g34.trans g45⟩
   rw [Bool.not_eq_false',decide_eq_true_iff]
   exact ⟨λh=>⟨hrr.1 h1,by omega,by omega,h⟩,λh=>h.2.2.2⟩
 rintro _ b w6 ⟨hb6,g36⟩
 have h:=h.gr g36
 refine aa (λh1=>?_) λh1=>?_
 ·subst h1
  refine aI h rfl (by simp [aH]) λw7 h=>⟨_,_,(ag 0 h.l).at (sub.refl _) rfl,⟨0,0⟩,[],1,none,0,rfl,.inl ⟨λhh=>(by cases hb6.2 hh),rfl,rfl,rfl⟩,az 2 (St.here (sub.trans gw (bj 2 h.l)))⟩
 subst h1
 obtain ⟨hc,t0,t1,ho⟩:=hb6.1 rfl
 obtain ⟨j,rfl⟩ : ∃ j:Nat,t = j:=⟨t.toNat,by omega⟩
 refine ⟨_,_,_,_,_,_,_,_,_,_,_,_,_,B.row (g13.trans g36),_,_,_,_,_,(r2.mono g36).at (sub.refl _) rfl,(Da hc (hg1.mono (g13.trans g36)) (hr3.mono g36) hcl ho (by omega)).mono ?_⟩
 rintro _ w8 ⟨o,c',rfl,h8⟩
 have h:=St.vf h8 h.l
 refine ⟨_,_,_,_,_,rfl,af h λk36 w9 h=>aI h rfl (by simp [aH]) λw10 h=>?_⟩
 refine ⟨_,_,(ag 0 h.l).at (sub.refl _) rfl,?_⟩
 refine aI (h.pick 3 [2,0,1]) rfl (by simp [aH]) λw11 h=>?_
 refine ⟨_,_,(ag 0 h.l).at (sub.refl _) rfl,?_⟩
 exact ⟨_,_,0,o,c',rfl,.inr ⟨hc,ho,j,rfl,by omega,rfl,rfl,rfl⟩,St.vf (h.pick 4 [2]) (b_ gw)⟩
end Go.Proofs.YtndaepmjkbmjmaaGreatDoor
namespace Go.V
theorem Iy {α : Type} {f:α->List Value} {n:Nat} (hf:∀ x,(f x).length = n):∀ (xs:List α) (i:Nat) (y:α),i < xs.length->(xs.flatMap f).take (i * n) ++ f y ++ (xs.flatMap f).drop (i * n + n) = (xs.set i y).flatMap f
 | [],i,y,h=>by simp at h
 | x :: xs,0,y,_=>by
  rw [Ve,Wk,Ve]
  rw [show 0 * n = 0 from Nat.zero_mul n,List.take_zero,Vn,VA,List.drop_append,V1 (by rw [hf]; omega),hf,VD]
  rfl
 | x :: xs,i + 1,y,h=>by
  have hx:=hf x
  have ih:=Iy hf xs i y (by simpa using h)
  rw [Ve,Wu,Ve,<- ih]
  have e:(i + 1) * n = n + i * n:=by rw [V_,Nat.add_comm]
  rw [e,List.take_append,List.drop_append,U6 (by omega),V1 (by omega),hx,Vy,show n + i * n + n - n = i * n + n from by omega]
  simp
theorem Ss {w:WB} {L:List au} {n c i:Nat} {o:WA} {ds:List wz} {b:wz} (h:St w (own 3 o n c (EC ds) :: L)) (hb:ds[i]? = some b):∃ ad,o = some ad/\av (hp w) (ad.add (cT i 3)) (Tp b):=by
 rcases eh 0 h.l with e | ⟨ad,e,hc⟩
 ·have h1:=congrArg List.length e
  rw [J4,VK] at h1
  have:=(UJ.1 hb).1; omega
 ·exact ⟨ad,e,cd (n:=3) (λ_=>rfl) ds ad hc i b hb⟩
end Go.V
namespace Go.Proofs.YtndaepmjkbmjmaaGreatDoor
variable {w:WB} {L:List au} {g:ae} {x:GA}
theorem GV {ss ss' : List SQ} {nn nn' : List Bool} {a i f a' i' f' : Int} (hR:r_ g ss a i f) (hn:f = 0->ur g nn) (hR' : r_ g ss' a' i' f') (hn' : f' = 0->ur g nn'):f' = f/\(∀ l,bR g nn' ss' l = bR g nn ss l)/\(f = 0->∀ q t,bf g nn' ss' q t = bf g nn ss q t)/\ss'.length = ss.length:=by
 obtain ⟨hk,hes,_,_,rfl,hl⟩:=hR.one hR'
 have hk:ss.map (·.1.2) = ss'.map (·.1.2):=hk
 refine ⟨rfl,λl=>?_,λhf q t=>?_,hl.symm⟩
 ·by_cases hf:f = 0
  ·rw [(hn' hf).inj (hn hf)]; exact (GQ hes hk).symm
  ·rw [hR.nil hf,hR'.nil hf]; rfl
 ·rw [(hn' hf).inj (hn hf)]; exact (J7 hes hk q t).symm
theorem EF {ss:List SQ} {nn:List Bool} {a i f:Int} {l:Nat} (hR:r_ g ss a i f):(bR g nn ss l).length<=16640:=by
 by_cases hf:f = 0
 ·obtain ⟨hc,hA⟩:=hR.F5 hf
  have h256:=hA.dn.2.1
  obtain ⟨sT,_⟩:=hc.gB
  have h1:=C3 (g:=g) (nn:=nn) (ss:=ss) (least:=l) (n:=ss.length)
  have h2:ss.length * g.T<=256 * 65:=Nat.mul_le_mul (by omega) sT
  unfold bR
  omega
 ·rw [hR.nil hf]; exact UW _
theorem Kb {ss:List SQ} {nn:List Bool} {l:Nat} (hb:iq g):∀ c∈bR g nn ss l,c.acts.length<=4611686018427387904:=λc hc=>by
 obtain ⟨q,t,_,_,_,rfl⟩:=ia.1 hc
 have:=GI (g:=g) (nn:=nn) (ss:=ss) (q:=q) (t:=t)
 have:=hb.2.2.2.1
 show (bf g nn ss q t).length<=_
 omega
theorem Ou (hg:gR (hp w) g x) (hb:iq g) (ht:dy (hp w)):ay Tryz.prog qY [.agg ⟨x.cells⟩] w λv w'=>∃ (ss:List SQ) (ask int f:Int) (nn:List Bool) (o:WA) (c:Nat),v = .tuple #[.slice o (bR g nn ss 1).length c,.int .i64 f]/\r_ g ss ask int f/\(f = 0->ur g nn)/\aX (hp w') (bR g nn ss 1) o (bR g nn ss 1).length/\Gr w w':=by
 refine (GP hg hb ht).mono ?_
 rintro _ w' ⟨ss,ask,int,f,nn,o,c,ds,rfl,hR,hn,hds,h⟩
 have r:=Tr h
 have e:ds.length = (bR g nn ss 1).length:=by rw [<- hds]; simp
 rw [hds,e] at r
 exact ⟨ss,ask,int,f,nn,o,c,by rw [e],hR,hn,r,bj 2 h.l⟩
theorem Lm (hg:gR (hp w) g x) (hb:iq g) (ht:dy (hp w)):ay Tryz.prog oU [.agg ⟨x.cells⟩] w λv w'=>∃ (ss:List SQ) (ask int f:Int) (nn:List Bool) (o:WA) (c:Nat),v = .tuple #[.slice o (bR g nn ss 2).length c,.int .i64 f]/\r_ g ss ask int f/\(f = 0->ur g nn)/\aX (hp w') (bR g nn ss 2) o (bR g nn ss 2).length/\Gr w w':=by
 refine (Lj hg hb ht).mono ?_
 rintro _ w' ⟨ss,ask,int,f,nn,o,c,ds,rfl,hR,hn,hds,h⟩
 have r:=Tr h
 have e:ds.length = (bR g nn ss 2).length:=by rw [<- hds]; simp
 rw [hds,e] at r
 exact ⟨ss,ask,int,f,nn,o,c,by rw [e],hR,hn,r,bj 2 h.l⟩
end Go.Proofs.YtndaepmjkbmjmaaGreatDoor
namespace Go.V
section
variable {g:ae} {nn:List Bool} {ss ss' : List SQ} {w:WB} {L:List au}
def Bf (g:ae) (es:List aN):List Int:=(List.range g.N).map λj=>match es.find? λe=>decide (e.sym = ((g.T + j:Nat):Int)) with
 | some e=>e.to
 | none=>-1
theorem GW {es:List aN}:(Bf g es).length = g.N:=by simp [Bf]
theorem Ov:Bf g [] = List.replicate g.N (-1):=by
 show (List.range g.N).map (λ_=>(-1:Int)) = _
 rw [List.map_const',VF]
theorem Db {es:List aN} {e:aN} (hn:∀ x∈es,x.sym≠e.sym) (h1:e.sym < g.T + g.N):Bf g (es ++ [e]) = if (g.T:Int)<=e.sym then (Bf g es).set (e.sym - g.T).toNat e.to else Bf g es:=by
 refine Vz λj=>?_
 have base:∀ es:List aN,(Bf g es)[j]? = if j < g.N then some (match es.find? λe=>decide (e.sym = ((g.T + j:Nat):Int)) with | some e=>e.to | none=>-1) else none:=λes=>by
  unfold Bf
  rw [UM]
  by_cases h:j < g.N
  ·rw [VW h,US h]; rfl
  ·rw [U5 (by simp; omega),UN h]; rfl
 have hnone:e.sym = ((g.T + j:Nat):Int)->es.find? (λe=>decide (e.sym = ((g.T + j:Nat):Int))) = none:=λhe=>by
  rw [List.find?_eq_none]
  intro x hx hh
  exact hn x hx (by rw [UI hh,he])
 rw [base,List.find?_append]
 by_cases he:e.sym = ((g.T + j:Nat):Int)
 ·have hT:(g.T:Int)<=e.sym:=by omega
  have hj:j < g.N:=by omega
  have hj2:(e.sym - (g.T:Int)).toNat = j:=by omega
  rw [hnone he,US hT,US hj,VL,US hj2,GW,US (by omega)]
  simp [he]
 ·have e1:([e].find? λe=>decide (e.sym = ((g.T + j:Nat):Int))) = none:=by rw [List.find?_cons_of_neg (by simpa using he)]; rfl
  rw [e1,Option.or_none,<- base]
  by_cases hT:(g.T:Int)<=e.sym
  ·rw [US hT,VL,UN (by omega)]
  ·rw [UN hT]
def BZ (g:ae) (ss:List SQ) (q:Nat):List Int:=(List.range g.N).map λj=>JD ss q ((g.T + j:Nat):Int)
theorem Ow {q:Nat} {r:SQ} (hr:ss[q]? = some r):Bf g r.2.2 = BZ g ss q:=by
 unfold Bf BZ
 refine VX λj _=>?_
 unfold JD
 rw [nF hr]
 cases r.2.2.find? λe=>decide (e.sym = ((g.T + j:Nat):Int)) with
 | none=>rfl
 | some e=>rfl
theorem Qv (h:bm ss = bm ss'):Oa g ss = Oa g ss':=by
 unfold Oa
 rw [Az h]
 refine VX λq _=>VX λj _=>?_
 unfold JD
 rw [Ay h]
theorem Kc:∀ n,lG n [.int .i64 0,.int .i64 0] = c_ (List.replicate n ⟨0,0⟩)
 | 0=>rfl
 | n + 1=>by
  rw [We]
  show [.int .i64 0,.int .i64 0] ++ lG n _ = bD ⟨0,0⟩ ++ c_ (List.replicate n ⟨0,0⟩)
  rw [Kc n]; rfl
theorem Qw (h:bm ss = bm ss') (hk:ss.map (·.1.2) = ss'.map (·.1.2)):lX g nn ss = lX g nn ss':=by
 unfold lX; rw [GQ h hk]
def Ox (oa:WA) (ca:Nat) (og:WA) (cg:Nat) (oc:WA) (cc:Nat) (AL:List (Lq ax)) (GL:List (Lq Int)) (CL:List wz):List au :=
 [own 1 oa AL.length ca (AL.map cG),aT (AL.map (cf 2 c_)),own 1 og GL.length cg (GL.map cG),aT (GL.map (cf 1 iv)),own 3 oc CL.length cc (EC CL),aT (A9 CL)]
def T6 (g:ae) (w:WB) (v:Value) (w' : WB):Prop:=∃ (ss:List SQ) (ask int f:Int) (nn:List Bool) (oa:WA) (ca:Nat) (og:WA) (cg:Nat) (oc:WA) (cc:Nat) (AL:List (Lq ax)) (GL:List (Lq Int)) (CL:List wz),
 v = .tuple #[.agg #[.slice oa AL.length ca,.slice og GL.length cg,.slice oc CL.length cc],.int .i64 f]/\r_ g ss ask int f/\(f = 0->ur g nn)/\AL.map (·.2) = Ey g nn ss/\GL.map (·.2) = Oa g ss/\CL.map mJ = lX g nn ss/\St w' (Ox oa ca og cg oc cc AL GL CL ++ all w)
theorem Tt {ds:List wz} {i:Nat} {b:wz} (h:St w (aT (A9 ds) :: L)) (hb:ds[i]? = some b):b.2.2.length<=b.2.1.2/\aX (hp w) b.2.2 b.2.1.1 b.2.2.length:=by
 have hA:(A9 ds)[i]? = some (cf 2 c_ b.2):=by unfold A9; rw [UM,hb]; rfl
 have h2:=St.out h hA
 exact ⟨dj h2,kA rfl (eh 0 h2.l)⟩
theorem Tu {n c q t:Nat} {o:WA} {AL:List (Lq ax)} {b:Lq ax} {y:ax} {X:WB->Prop} (hq:AL[q]? = some b) (ht:t < b.2.length) (h:St w (own 1 o n c (AL.map cG) :: aT (AL.map (cf 2 c_)) :: L))
  (hX:∀ w',St w' (own 1 o n c ((AL.set q (b.1,b.2.set t y)).map cG) :: aT ((AL.set q (b.1,b.2.set t y)).map (cf 2 c_)) :: L)->X w'):idx b.1.1 b.2.length (t:Int) 2 λa=>cH w a [.int .i64 y.kind,.int .i64 y.to] X:=by
 have hil:=(UJ.1 hq).1
 have hA:(AL.map (cf 2 c_))[q]? = some (cf 2 c_ b):=by rw [UM,hq]; rfl
 have h:=St.MM (h.pick 2 [1,0]) hA
 have h:St w (own 2 b.1.1 b.2.length b.1.2 (c_ b.2) :: aT ((AL.map (cf 2 c_)).take q ++ (AL.map (cf 2 c_)).drop (q + 1)) :: own 1 o n c (AL.map cG) :: L):=h
 obtain ⟨ad,ha⟩:=fa h (by rw [gF]; omega)
 refine ak ha ht ?_
 rw [aF]
 refine vD (i:=t * 2) h ha (by rw [gF]; simp; omega) (by simp [aH]) (by simp) λw' h=>hX w' ?_
 have e:=Iy (f:=bD) (n:=2) (λ_=>rfl) b.2 t y ht
 have h:St w' (own 2 b.1.1 b.2.length b.1.2 ((b.2.flatMap bD).take (t * 2) ++ bD y ++ (b.2.flatMap bD).drop (t * 2 + 2)) :: aT ((AL.map (cf 2 c_)).take q ++ (AL.map (cf 2 c_)).drop (q + 1)) :: own 1 o n c (AL.map cG) :: L):=h
 rw [e] at h
 have e3:cf 2 c_ (b.1,b.2.set t y) = own 2 b.1.1 b.2.length b.1.2 ((b.2.set t y).flatMap bD):=by unfold cf; rw [Vs]; rfl
 rw [<- e3] at h
 have e4:(AL.set q (b.1,b.2.set t y)).map cG = AL.map cG:=by
  rw [VU]
  refine qx ?_
  rw [UM,hq]
  show some (cG b) = some (cG (b.1,b.2.set t y))
  unfold cG; simp
 rw [e4,VU]
 exact (St.RO (M:=AL.map (cf 2 c_)) (n:=q) (by rw [UQ]; exact hil) h).swap
end
end Go.V
namespace Go.Proofs.YtndaepmjkbmjmaaGreatDoor
variable {w:WB} {L:List au} {g:ae} {x:GA}
theorem Bg (hg:gR (hp w) g x) (hb:iq g) (ht:dy (hp w)):ay Tryz.prog nO [.agg ⟨x.cells⟩] w (T6 g w):=by
 refine uH (cN hg λk1 w1 gw hg1 B=>af (St.all w1) λk2 w2 h=>?_)
 have g12:Gr w1 w2:=h.aR
 refine ⟨_,_,_,_,_,_,_,_,_,_,_,_,_,B.row g12,(GP (hg1.mono g12) hb (fb.mono (gw.trans g12) ht)).mono ?_⟩
 rintro _ w3 ⟨ss,ask,int,f,nn,o5,c5,ds,rfl,hR,hn,hds,h3⟩
 have h:=St.Je h3 h.l
 clear h3
 refine ⟨_,_,_,_,rfl,aa (λh1=>?_) λh1=>?_⟩
 ·have h1:f≠0:=by simpa using h1
  have hz:=hR.nil h1
  subst hz
  refine aI (h.pick 3 [2]) rfl (by simp [aH]) λw4 h=>⟨_,_,_,_,_,_,_,_,_,(ag 0 h.l).at (sub.refl _) rfl,[],ask,int,f,nn,none,0,none,0,none,0,[],[],[],rfl,hR,hn,rfl,rfl,rfl,?_⟩
  exact az 1 ((St.flat (M:=[])).2 (az 1 ((St.flat (M:=[])).2 (az 3 ((St.flat (M:=[])).2 (St.here (sub.trans gw (bj 1 h.l))))))))
 have h1:f = 0:=by simpa using h1
 subst h1
 obtain ⟨hc,hA⟩:=hR.F5 rfl
 have hnn:=hn rfl
 obtain ⟨sT,sN,sP,sP2,_,_⟩:=hc.gB
 have h256:=hA.dn.2.1
 have tl:=hg1.t.1
 have nl:=hg1.n.1
 have eT:g.T = g.terms.length:=rfl
 have eN:g.N = g.nons.length:=rfl
 -- the cells,as they are read
 have hrow:∀ (i:Nat) d,ds[i]? = some d->∃ ad,o5 = some ad/\av (hp w3) (ad.add (cT i 3)) (Tp d):=λi d hd=>Ss h hd
 have hact:∀ (i:Nat) d,ds[i]? = some d->d.2.2.length<=d.2.1.2/\aX (hp w3) d.2.2 d.2.1.1 d.2.2.length:=λi d hd=>Tt (h.pick 2 [1,0]) hd
 have hdl:ds.length<=16640:=by
  have e:=congrArg List.length hds
  have:=EF (l:=1) (nn:=nn) hR
  rw [UQ] at e; omega
 have h:St w3 [aS k2 [.slice none 0 0,.slice none 0 0,.slice none 0 0],has (hp w1)]:=h.pick 3 [2]
 obtain ⟨H3,hH3⟩ : ∃ H3,H3 = hp w3:=⟨_,rfl⟩
 have g13:Gr w1 w3:=bj 1 h.l
 refine ⟨_,_,_,_,_,_,_,_,_,_,_,_,_,B.row g13,(nD (hg1.mono g13) hb).mono ?_⟩
 rintro _ w5 ⟨oA,cA,ss2,ask2,int2,f2,rfl,hR2,h5⟩
 have g35:Gr w3 w5:=bj 3 h5.l
 have ha:F0 (hp w5) ss2 oA:=zk h5.l
 clear h5
 have hone:=hR.one hR2
 have hes:bm ss = bm ss2:=hone.2.1
 obtain rfl:(0:Int) = f2:=hone.2.2.2.2.1
 obtain ⟨_,hA2⟩:=hR2.F5 rfl
 have hsl:ss2.length = ss.length:=hone.2.2.2.2.2.symm
 refine ⟨_,_,_,_,_,_,rfl,af (St.all w5) λk29 w6 h6=>aI h6 rfl (by simp [aH]) λw7 h7=>?_⟩
 have r29:av (hp w7) (aM k29) [.slice oA ss2.length cA,.int .i64 ask2,.int .i64 int2]:=ag 0 h7.l
 have g57:Gr w5 w7:=h7.aR
 clear h6 h7
 have ha:=ha.mono g57
 have g37:=g35.trans g57
 have g17:=g13.trans g37
 have hkl2:=hA2.BQ hc
 have h:=h.gr g37
 -- all that stands still,in one frame
 have hX:St w7 [aS k2 [.slice none 0 0,.slice none 0 0,.slice none 0 0],has (hp w1)]:=h
 refine af (St.all w7) λk30 w8 h=>⟨_,_,_,r29.cell0 (bj 1 h.l),?_⟩
 rw [hsl]
 refine ⟨λz u=>∃ (q:Nat) (AL:List (Lq ax)) (GL:List (Lq Int)) (oa:WA) (ca:Nat) (og:WA) (cg:Nat),z = q/\q<=ss.length/\AL.length = q/\GL.length = q/\AL.map (·.2) = List.replicate q (List.replicate g.T ⟨0,0⟩)/\GL.map (·.2) = (List.range q).map (BZ g ss2)/\St u (aS k30 [.slice oa q ca,.slice og q cg,.slice none 0 0] :: own 1 oa q ca (AL.map cG) :: aT (AL.map (cf 2 c_)) :: own 1 og q cg (GL.map cG) :: aT (GL.map (cf 1 iv)) :: all w7),λz _=>ss.length - z.toNat,⟨0,[],[],none,0,none,0,rfl,UW _,rfl,rfl,rfl,rfl,?_⟩,?_⟩
 ·exact (az 1 ((St.flat (M:=[])).2 (az 1 ((St.flat (M:=[])).2 h)))).pick 5 [4,0,1,2,3]
 clear h
 rintro _ _ w9 ⟨q,AL,GL,oa,ca,og,cg,rfl,hq,hALl,hGLl,hAL,hGL,h⟩
 have g79:Gr w7 w9:=bj 5 h.l
 refine aa (λh1=>?_) λh1=>?_
 ·have h1:q < ss.length:=by have:=UI h1; omega
  obtain ⟨r,hr⟩ : ∃ r,ss2[q]? = some r:=⟨_,UK (by omega)⟩
  obtain ⟨ad,eA,rs,_,re⟩:=ha q r hr
  have hrl:=(hkl2 r (UL hr)).2
  have hnd:=xb hA2 hr
  refine ak eA h1 ⟨_,_,_,_,_,_,rs.at g79 rfl,af h λk37 w10 h=>aI h rfl (by simp [aH]) λw11 h=>⟨_,_,_,B.c1 (sub.trans g17 (bj 6 h.l)),⟨by omega,rfl,by omega⟩,?_⟩⟩
  rw [Vh,js,<- nl,<- eN]
  refine af h λk40 w12 h=>?_
  have h:St w12 (aS k40 (iv (List.replicate 0 (-1) ++ List.replicate (g.N - 0) 0)) :: aS k37 (KV r) :: aS k30 [.slice oa q ca,.slice og q cg,.slice none 0 0] :: own 1 oa q ca (AL.map cG) :: aT (AL.map (cf 2 c_)) :: own 1 og q cg (GL.map cG) :: aT (GL.map (cf 1 iv)) :: all w7):=by
   have e:List.replicate g.N (Value.int .i64 0) = iv (List.replicate 0 (-1) ++ List.replicate (g.N - 0) 0):=by simp [iv]
   rw [<- e]; exact h
  refine ⟨λz u=>∃ j:Nat,z = j/\j<=g.N/\St u (aS k40 (iv (List.replicate j (-1) ++ List.replicate (g.N - j) 0)) :: aS k37 (KV r) :: aS k30 [.slice oa q ca,.slice og q cg,.slice none 0 0] :: own 1 oa q ca (AL.map cG) :: aT (AL.map (cf 2 c_)) :: own 1 og q cg (GL.map cG) :: aT (GL.map (cf 1 iv)) :: all w7),λz _=>g.N - z.toNat,⟨0,rfl,UW _,h⟩,?_⟩
  clear h
  rintro _ _ w13 ⟨j,rfl,hj,h⟩
  refine aa (λh2=>?_) λh2=>?_
  ·have h2:j < g.N:=by have:=UI h2; omega
   refine ak rfl h2 ?_
   rw [aF,VJ,aV]
   refine bC h (by simp [iv]; omega) λw14 h=>⟨⟨by omega,by omega⟩,⟨j + 1,by simp,h2,?_⟩,bK h2⟩
   have e:(iv (List.replicate j (-1) ++ List.replicate (g.N - j) 0)).set j (.int .i64 (-1)) = iv (List.replicate (j + 1) (-1) ++ List.replicate (g.N - (j + 1)) 0):=by
    rw [zi]
    congr 1
    rw [show g.N - j = (g.N - (j + 1)) + 1 from by omega,We,VN _ _ (by simp),Wg,VD,Wk,List.replicate_succ',UT]
    rfl
   rw [<- e]
   exact h
  have h2:j = g.N:=by have:=UH h2; omega
  rw [h2,VD,List.replicate_zero,Vb,<- Ov] at h
  refine ⟨_,_,_,(ag 1 h.l).cell (sub.refl _) (j:=1) rfl,λz u=>∃ k:Nat,z = k/\k<=r.2.2.length/\St u (aS k40 (iv (Bf g (r.2.2.take k))) :: aS k37 (KV r) :: aS k30 [.slice oa q ca,.slice og q cg,.slice none 0 0] :: own 1 oa q ca (AL.map cG) :: aT (AL.map (cf 2 c_)) :: own 1 og q cg (GL.map cG) :: aT (GL.map (cf 1 iv)) :: all w7),λz _=>r.2.2.length - z.toNat,⟨0,rfl,UW _,h⟩,?_⟩
  clear h
  rintro _ _ w15 ⟨k,rfl,hk,h⟩
  refine aa (λh3=>?_) λh3=>?_
  ·have h3:k < r.2.2.length:=by have:=UI h3; omega
   obtain ⟨e,ead,he,hea,re'⟩:=kV re h3
   have etk:r.2.2.take (k + 1) = r.2.2.take k ++ [e]:=by rw [UR,he]; rfl
   have hen:∀ y∈r.2.2.take k,y.sym≠e.sym:=λy hy=>by
    obtain ⟨i,hi⟩:=Vo hy
    rw [VT] at hi
    split at hi
    ·rename_i hik
     intro hh
     have h1:(r.2.2.map (·.sym))[i]? = some y.sym:=by rw [UM,hi]; rfl
     have h2:(r.2.2.map (·.sym))[k]? = some e.sym:=by rw [UM,he]; rfl
     obtain ⟨p1,q1⟩:=UJ.1 h1
     obtain ⟨p2,q2⟩:=UJ.1 h2
     exact Wv.1 (VI.1 hnd) i k p1 p2 hik (by rw [q1,q2,hh])
    ·cases hi
   obtain ⟨e1,e2,_⟩:=kW hc hA2 hr he
   refine ak hea h3 ⟨_,_,re'.at (bj 7 h.l) rfl,af h λk43 w16 h=>aI h rfl (by simp [aH]) λw17 h=>⟨_,(ag 0 h.l).cell0 (sub.refl _),_,_,_,B.c0 (sub.trans g17 (bj 8 h.l)),aa (λh4=>?_) λh4=>?_⟩⟩
   ·have h4:(g.T:Int)<=e.sym:=by have:=UI h4; omega
    refine ⟨_,(ag 0 h.l).cell0 (sub.refl _),_,_,_,B.c0 (sub.trans g17 (bj 8 h.l)),⟨by omega,by omega⟩,_,(ag 0 h.l).cell (sub.refl _) (j:=1) rfl,aM k40,rfl,by omega,by omega,?_⟩
    rw [aF,VJ,aV]
    refine bC (h.pick 2 [1]) (by rw [iW,GW]; omega) λw18 h=>⟨⟨by omega,by omega⟩,⟨k + 1,by simp,h3,?_⟩,bK h3⟩
    rw [etk,Db hen e2,US h4,<- zi,eT,tl]
    exact h
   ·have h4:¬ (g.T:Int)<=e.sym:=by have:=UH h4; omega
    refine ⟨⟨by omega,by omega⟩,⟨k + 1,by simp,h3,?_⟩,bK h3⟩
    rw [etk,Db hen e2,UN h4]
    exact h.tail
  have h3:k = r.2.2.length:=by have:=UH h3; omega
  rw [h3,U8,Ow hr] at h
  have hgl:(BZ g ss2 q).length = g.N:=by simp [BZ]
  intro w19 hd
  have h:=h.drawn hd
  have hT2:x.tl = g.T:=by omega
  refine ⟨λu=>Gr w7 u/\u.cell? (aM k30) = some (.slice oa q ca),⟨bj 7 h.l,(ag 2 h.l).cell0 (sub.refl _)⟩,_,_,_,λu s=>s.2,_,_,_,λu s=>B.c0 (sub.trans g17 s.1),⟨by omega,rfl,by omega⟩,?_⟩
  rw [Vh,Kc,hT2]
  refine af h λk52 w22 h=>⟨⟨bj 8 h.l,(ag 3 h.l).cell0 (sub.refl _)⟩,af h λk53 w23 h=>⟨⟨bj 9 h.l,(ag 4 h.l).cell0 (sub.refl _)⟩,?_⟩⟩
  have hAq:(AL.map cG).length = q:=by rw [UQ,hALl]
  refine (aW (us:=AL.map cG) aL (rfl:ah Ty _ = .slice _) (rfl:ah Ty _ = .slice _) rfl rfl rfl (h.pick 6 [0,5,1,2,3,4]) rfl (by simp [aH]) (by show (q + 1) * 24<=_; omega) (by omega)).mono ?_
  rintro _ w24 ⟨o23,c23,rfl,h⟩
  refine ⟨_,_,_,rfl,⟨bj 9 h.l,(ag 5 h.l).cell0 (sub.refl _)⟩,bC (i:=0) (h.pick 6 [5,0,2,3]) (by simp) λw25 h=>?_⟩
  refine ⟨_,_,_,(ag 0 h.l).cell (sub.refl _) (j:=1) rfl,af h λk58 w26 h=>?_⟩
  refine (aW (us:=GL.map cG) aL (rfl:ah Ty _ = .slice _) (rfl:ah Ty _ = .slice _) rfl rfl rfl (h.pick 7 [0,6,1,2,3,4,5]) rfl (by simp [aH]) (by show (q + 1) * 24<=_; omega) (by omega)).mono ?_
  rintro _ w27 ⟨o25,c25,rfl,h⟩
  refine ⟨_,_,_,rfl,?_⟩
  rw [aV]
  refine bC (i:=1) (h.pick 3 [2,0]) (by simp) λw28 h=>?_
  refine ⟨⟨by omega,by omega⟩,⟨q + 1,AL ++ [((some (aM k52),g.T),List.replicate g.T ⟨0,0⟩)],GL ++ [((some (aM k40),g.N),BZ g ss2 q)],o23,c23,o25,c25,by simp,h1,by simp [hALl],by simp [hGLl],by rw [U_,hAL,List.replicate_succ']; rfl,by rw [U_,hGL,V6,U_]; rfl,?_⟩,bK h1⟩
  have eA:(AL ++ [((some (aM k52),g.T),List.replicate g.T (⟨0,0⟩ : ax))]).map cG = AL.map cG ++ [vS (some (aM k52)) g.T g.T]:=by rw [U_]; simp [cG]
  have eA2:(AL ++ [((some (aM k52),g.T),List.replicate g.T (⟨0,0⟩ : ax))]).map (cf 2 c_) = AL.map (cf 2 c_) ++ [own 2 (some (aM k52)) g.T g.T (c_ (List.replicate g.T ⟨0,0⟩))]:=by rw [U_]; simp [cf]
  have eG:(GL ++ [((some (aM k40),g.N),BZ g ss2 q)]).map cG = GL.map cG ++ [vS (some (aM k40)) g.N g.N]:=by rw [U_]; simp [cG,hgl]
  have eG2:(GL ++ [((some (aM k40),g.N),BZ g ss2 q)]).map (cf 1 iv) = GL.map (cf 1 iv) ++ [own 1 (some (aM k40)) g.N g.N (iv (BZ g ss2 q))]:=by rw [U_]; simp [cf,hgl]
  rw [eA,eA2,eG,eG2]
  have h1:=h.pick 7 [3,5,4,6,0,2,1]
  have h2:=St.snoc (dR (sz:=2) (l:=g.T) (c:=g.T) (cs:=[]) (by rw [Vb]; exact h1) (by rw [gF,Wg]) (by rw [Vb,gF,Wg]) (U2 _))
  have h3:=h2.pick 3 [1,2,0]
  have h4:=St.snoc (dR (sz:=1) (l:=g.N) (c:=g.N) (cs:=[]) (by rw [Vb]; exact h3) (by rw [iW,hgl,VJ]) (by rw [Vb,iW,hgl,VJ]) (U2 _))
  exact h4.pick 5 [2,3,1,4,0]
 have h1:q = ss.length:=by have:=UH h1; omega
 subst h1
 obtain ⟨C,hC⟩ : ∃ C,C = bR g nn ss 1:=⟨_,rfl⟩
 have hCl:C.length = ds.length:=by rw [hC,<- hds,UQ]
 have hmem:∀ {z:bI},z∈C->∃ q t:Nat,q < ss.length/\t < g.T/\1<=(bf g nn ss q t).length/\z = ⟨(q:Int),(t:Int),bf g nn ss q t⟩:=λ{z} hz=>by
  rw [hC] at hz; exact ia.1 hz
 have hinj:∀ {i j:Nat} {a b:bI},C[i]? = some a->C[j]? = some b->a.st = b.st->a.tm = b.tm->i = j:=λha hb=>by
  rw [hC] at ha hb; exact N4 ha hb
 have hcf:∀ l:List bI,(l.flatMap (yq g)).length<=l.length:=λl=>by
  induction l with
  | nil=>simp
  | cons c l ih =>
   rw [Ve,UP,Vl]
   have:(yq g c).length<=1:=by unfold yq; split <;> simp
   omega
 have h0:St w9 (aS k30 [.slice oa ss.length ca,.slice og ss.length cg,.slice none 0 0] :: own 1 oa ss.length ca (AL.map cG) :: aT (AL.map (cf 2 c_)) :: own 1 og ss.length cg (GL.map cG) :: aT (GL.map (cf 1 iv)) :: own 3 none 0 0 (EC []) :: aT (A9 []) :: all w7) :=
  (az 3 ((St.flat (M:=[])).2 h)).pick 7 [2,3,4,5,6,0,1]
 refine ⟨λz u=>∃ (i:Nat) (AL:List (Lq ax)) (CL:List wz) (oc:WA) (cc:Nat),z = i/\i<=ds.length/\Ez g ss.length (C.take i) (AL.map (·.2))/\CL.map mJ = (C.take i).flatMap (yq g)/\St u (aS k30 [.slice oa ss.length ca,.slice og ss.length cg,.slice oc CL.length cc] :: own 1 oa ss.length ca (AL.map cG) :: aT (AL.map (cf 2 c_)) :: own 1 og ss.length cg (GL.map cG) :: aT (GL.map (cf 1 iv)) :: own 3 oc CL.length cc (EC CL) :: aT (A9 CL) :: all w7),λz _=>ds.length - z.toNat,⟨0,AL,[],none,0,rfl,UW _,by rw [hAL]; exact Ez.zero,rfl,h0⟩,?_⟩
 clear h h0 hAL hALl
 rintro _ _ w29 ⟨i,AL,CL,oc,cc,rfl,hi,hD,hCL,h⟩
 have g729:Gr w7 w29:=bj 7 h.l
 have hALl:AL.length = ss.length:=by have:=hD.1; simpa using this
 refine aa (λh1=>?_) λh1=>?_
 rotate_left
 ·have h1:i = ds.length:=by have:=UH h1; omega
  subst h1
  rw [U6 (by omega),hC] at hD hCL
  have h8:=St.on (N:=[_,_,_,_,_,_,_]) h hX.l
  refine ⟨_,_,_,_,_,_,_,_,_,(ag 0 h.l).at (sub.refl _) rfl,?_⟩
  have h9:St w29 (aS k2 [.slice none 0 0,.slice none 0 0,.slice none 0 0] :: own 1 oa ss.length ca (AL.map cG) :: aT (AL.map (cf 2 c_)) :: own 1 og ss.length cg (GL.map cG) :: aT (GL.map (cf 1 iv)) :: own 3 oc CL.length cc (EC CL) :: aT (A9 CL) :: [has (hp w1)]):=h8.pick 8 [7,1,2,3,4,5,6]
  refine aI h9 rfl (by simp [aH]) λw45 h=>?_
  refine ⟨_,_,_,_,_,_,_,_,_,(ag 0 h.l).at (sub.refl _) rfl,?_⟩
  refine ⟨ss,ask,int,0,nn,oa,ca,og,cg,oc,cc,AL,GL,CL,by rw [hALl,hGLl],hR,hn,hD.all,by rw [hGL,Qv hes]; exact congrArg (λn=>(List.range n).map (BZ g ss2)) hsl.symm,hCL,?_⟩
  unfold Ox
  rw [hALl,hGLl]
  exact St.on (N:=[_,_,_,_,_,_]) h.tail (b_ gw)
 have h1:i < ds.length:=by have:=UI h1; omega
 obtain ⟨d,hd⟩ : ∃ d,ds[i]? = some d:=⟨_,UK h1⟩
 have hCi:C[i]? = some (mJ d):=by rw [hC,<- hds,UM,hd]; rfl
 obtain ⟨q,t,hq,ht1,_,ez⟩:=hmem (UL hCi)
 have e1:d.1.1 = (q:Int):=congrArg bI.st ez
 have e2:d.1.2 = (t:Int):=congrArg bI.tm ez
 have e3:d.2.2 = bf g nn ss q t:=congrArg bI.acts ez
 have htk:C.take (i + 1) = C.take i ++ [mJ d]:=by rw [UR,hCi]; rfl
 have hCLl:CL.length<=16640:=by
  have e:=congrArg List.length hCL
  have:=hcf (C.take i)
  rw [UQ] at e
  rw [U9] at this
  omega
 have hnew:∀ c∈C.take i,¬(c.st = (q:Int)/\c.tm = (t:Int)):=λc hcm hh=>by
  obtain ⟨j,hj⟩:=Vo hcm
  rw [VT] at hj
  split at hj
  ·have:=hinj hj hCi (by rw [hh.1]; exact e1.symm) (by rw [hh.2]; exact e2.symm)
   omega
  ·cases hj
 obtain ⟨b,hbq⟩ : ∃ b,AL[q]? = some b:=⟨_,UK (by omega)⟩
 have hAq:(AL.map (·.2))[q]? = some b.2:=by rw [UM,hbq]; rfl
 have hbl:b.2.length = g.T:=(hD.2 q b.2 hAq).1
 have hD':=hD.put (c:=mJ d) hAq e1 e2 hnew
 rw [<- htk] at hD'
 have hfm:(C.take (i + 1)).flatMap (yq g) = (C.take i).flatMap (yq g) ++ yq g (mJ d):=by rw [htk,Vi]; simp
 obtain ⟨hdc,hdr⟩:=hact i d hd
 obtain ⟨ad,ho5,rb⟩:=hrow i d hd
 have rb:av (hp w3) (ad.add (cT i 3)) [.int .i64 (q:Int),.int .i64 (t:Int),.slice d.2.1.1 d.2.2.length d.2.1.2]:=by rw [<- e1,<- e2]; exact rb
 have hord:ly g.prods.length d.2.2:=by rw [e3]; exact GJ hc hA q t
 refine ak ho5 h1 ⟨_,_,_,_,_,rb.at (g37.trans g729) rfl,af h λk63 w30 h=>aI h rfl (by simp [aH]) λw31 h=>⟨_,_,_,_,_,_,_,_,_,_,_,_,_,B.row (sub.trans g17 (bj 8 h.l)),_,_,_,_,_,(ag 0 h.l).at (sub.refl _) rfl,(Da hc (hg1.mono (sub.trans g17 (bj 8 h.l))) (hdr.mono (sub.trans g37 (bj 8 h.l))) hdc hord ht1).mono ?_⟩⟩
 obtain ⟨l,hl⟩ : ∃ l,l = aZ g t d.2.2:=⟨_,rfl⟩
 rw [<- hl]
 have hput:(AL.set q (b.1,b.2.set t (iQ l))).map (·.2) = (AL.map (·.2)).set q (b.2.set t (iQ (aZ g t (mJ d).acts))):=by rw [VU,hl]; rfl
 rw [<- hput] at hD'
 rintro _ w32 ⟨o32,c32,rfl,h32⟩
 have h:=St.vf h32 h.l
 clear h32
 refine ⟨_,_,_,_,_,rfl,af h λk76 w33 h=>aI h rfl (by simp [aH]) λw34 h=>?_⟩
 intro w35 hdr35
 have h:=h.drawn hdr35
 obtain ⟨ada,hoa,hca⟩:=bZ (h.pick 5 [4]) (j:=q) (v:=cG b) (by rw [UM,hbq]; rfl)
 refine ⟨λu=>w35 = u,rfl,_,_,_,by rintro _ rfl; exact (ag 3 h.l).cell0 (sub.refl _),_,by rintro _ rfl; exact (ag 2 h.l).cell0 (sub.refl _),aB hoa hq ⟨_,_,_,by rintro _ rfl; exact hca,_,by rintro _ rfl; exact (ag 2 h.l).cell (sub.refl _) (j:=1) rfl,_,_,by rintro _ rfl; exact (ag 0 h.l).at (sub.refl _) rfl,?_⟩⟩
 refine Tu (y:=iQ l) hbq (by omega) (h.pick 6 [4,5,1,2,3]) λw41 h=>?_
 refine aa (λh2=>?_) λh2=>?_
 ·have h2:2<=l.1.length:=by
   have:(0:Int) < ((ib l.1).length:Int):=UI h2
   unfold ib at this
   split at this
   ·assumption
   ·simp at this
  have hop:ib l.1 = l.1:=by unfold ib; rw [US h2]
  rw [hop] at h ⊢
  have hcfd:yq g (mJ d) = [⟨(q:Int),(t:Int),l.1⟩]:=by
   unfold yq
   rw [ez]
   show (if 2<=(aZ g (t:Int).toNat (bf g nn ss q t)).1.length then _ else _) = _
   rw [Vh,<- e3,<- hl,US h2]
  refine ⟨_,_,_,(ag 4 h.l).cell (sub.refl _) (j:=2) rfl,_,(ag 3 h.l).cell0 (sub.refl _),_,(ag 3 h.l).cell (sub.refl _) (j:=1) rfl,af h λk83 w42 h=>?_⟩
  refine (aW (us:=EC CL) aL (rfl:ah Ty _ = .slice _) (rfl:ah Ty _ = .slice _) rfl rfl rfl (h.pick 9 [0,8,1,2,3,5,6,7]) rfl (by simp [aH]) (by show (CL.length + 1) * 40<=_; omega) (by omega)).mono ?_
  rintro _ w43 ⟨o36,c36,rfl,h⟩
  refine ⟨_,_,_,rfl,?_⟩
  rw [aV]
  refine bC (i:=2) (h.pick 8 [5,0,2,3,4,6,7]) (by simp) λw44 h=>?_
  refine ⟨⟨by omega,by omega⟩,⟨i + 1,_,CL ++ [(((q:Int),(t:Int)),((o32,c32),l.1))],o36,c36,by simp,h1,hD',by rw [U_,hCL,hfm,hcfd]; rfl,?_⟩,bK h1⟩
  have eC:A9 (CL ++ [(((q:Int),(t:Int)),((o32,c32),l.1))]) = A9 CL ++ [own 2 o32 l.1.length c32 (c_ l.1)]:=by unfold A9; rw [U_]; rfl
  rw [eC,J5,show (CL ++ [(((q:Int),(t:Int)),((o32,c32),l.1))]).length = CL.length + 1 from by simp]
  have h2:=St.snoc (h.pick 8 [4,7,0,2,3,5,6,1])
  exact h2.pick 7 [1,2,3,4,5,6,0]
 ·have h2:¬ 2<=l.1.length:=by
   intro hh
   have:¬ (0:Int) < ((ib l.1).length:Int):=UH h2
   unfold ib at this
   rw [US hh] at this
   omega
  have hcfd:yq g (mJ d) = []:=by
   unfold yq
   rw [ez]
   show (if 2<=(aZ g (t:Int).toNat (bf g nn ss q t)).1.length then _ else _) = _
   rw [Vh,<- e3,<- hl,UN h2]
  refine ⟨⟨by omega,by omega⟩,⟨i + 1,_,CL,oc,cc,by simp,h1,hD',by rw [hCL,hfm,hcfd,Vb],?_⟩,bK h1⟩
  exact h.pick 9 [4,0,1,5,6,7,8]
abbrev mK:FuncId:=121
def lz:bh:={ rngs:=[],loops:=[],joins:=[],blocks:=[] }
theorem lA {a:WA} {w:WB} {R:Value->WP} (h:∀ w1,drawn w w1->∃ (I1:WP),I1 w1/\nn a λa1=>∃ o1 k1 k2,(∀ w2,I1 w2->World.cell? w2 (Addr.add a1 1) = some (vS o1 k1 k2))/\nn a λa2=>∃ o2 k3 k4,(∀ w3,I1 w3->World.cell? w3 (Addr.add a2 1) = some (vS o2 k3 k4))/\rS (Builtin.unsafeSliceData_ (Array.mk [201]) 254 (Array.mk [vS o1 k1 k2])) w1 λv1 w4=>∃ o3,v1 = vP o3/\I1 w4/\rS (Builtin.unsafeString_ (Array.mk [254,3]) 9 (Array.mk [vP o3,iI (k3:Int)])) w4 λv2 w5=>∃ s1,v2 = Value.string s1/\I1 w5/\R (Value.string s1) w5):ay Tryz.prog 121 [(.pointer a)] w R:=rv Tryz.func121 lz (by kernel_rfl) h
abbrev kB:FuncId:=8
def jz:bh:={ rngs:=[],loops:=[],joins:=[],blocks:=[] }
theorem jA {a:WA} {b c:Nat} {d:WA} {e f:Nat} {g:WA} {i j:Nat} {k:Int} {l:WA} {m n:Nat} {o p:Int} {w:WB} {R:Value->WP} (h:new w (oC [vS a b c,vS d e f,vS g i j,iI k,vS l m n] 27) λk1 w1=>rE 30 [] w1 λv1 w2=>∃ b1,v1 = vB b1/\∃ o1 k2 k3 o2 k4 k5 o3 k6 k7 n1 o4 k8 k9,rA w2 (aM k1) 5 [vS o1 k2 k3,vS o2 k4 k5,vS o3 k6 k7,iI n1,vS o4 k8 k9]/\rE 31 [vG [vS o1 k2 k3,vS o2 k4 k5,vS o3 k6 k7,iI n1,vS o4 k8 k9],iI o,iI p] w2 λv2 w3=>∃ n2 n3,v2 = vU [iI n2,iI n3]/\∃ o5 k10 k11 o6 k12 k13 o7 k14 k15 n4 o8 k16 k17,rA w3 (aM k1) 5 [vS o5 k10 k11,vS o6 k12 k13,vS o7 k14 k15,iI n4,vS o8 k16 k17]/\rE 32 [vG [vS o5 k10 k11,vS o6 k12 k13,vS o7 k14 k15,iI n4,vS o8 k16 k17],iI o,iI p] w3 λv3 w4=>∃ n5 n6,v3 = vU [iI n5,iI n6]/\br b1 (br (n2 == n5) (R (vB (n3 == n6)) w4) (R (vB false) w4)) (R (vB false) w4)):ay Tryz.prog 8 [(.agg #[(.slice a b c),(.slice d e f),(.slice g i j),(.int .i64 k),(.slice l m n)]),(.int .i64 o),(.int .i64 p)] w R:=rv Tryz.func8 jz (by kernel_rfl) h
abbrev kC:FuncId:=9
def jB:bh:={ rngs:=[],loops:=[(7,[(8,(.one (.int .i64)))]),(15,[(16,(.one (.int .i64)))])],joins:=[(13,[(69,(.one .bool))])],blocks:=[] }
theorem jC {a:WA} {b c:Nat} {d:WA} {e f:Nat} {g:WA} {i j:Nat} {k:Int} {l:WA} {m n:Nat} {o p:Int} {q:WA} {s t:Nat} {w:WB} {R:Value->WP} (h:new w (oC [vS a b c,vS d e f,vS g i j,iI k,vS l m n] 27) λk1 w1=>new w1 (oC [iI o,iI p,vS q s t] 60) λk2 w2=>rE 30 [] w2 λv1 w3=>∃ b1,v1 = vB b1/\∃ o1 k3 k4,cL w3 (Addr.add (aM k2) 2) (vS o1 k3 k4)/\rS (jW 38 (Array.mk [vS none 0 0,vS o1 k3 k4])) w3 λv2 w4=>∃ o2 k5 k6,v2 = vS o2 k5 k6/\new w4 (oC [iI 7,iI 7] 62) λk7 w5=>rS (jW 38 (Array.mk [vS o2 k5 k6,vS (some (aM k7)) 1 1])) w5 λv3 w6=>∃ o3 k8 k9,v3 = vS o3 k8 k9/\∀ w7,drawn w6 w7->∃ (I1:WP),I1 w7/\∃ n1,(∀ w8,I1 w8->cL w8 (aM k2) (iI n1))/\∃ n2,(∀ w9,I1 w9->cL w9 (Addr.add (aM k2) 1) (iI n2))/\∃ o4 k10 k11,(∀ w10,I1 w10->cL w10 (Addr.add (aM k2) 2) (vS o4 k10 k11))/\lY o3 k8 k9 none (some (k10:Int)) none 2 λ(o5:WA) (k12 k13:Nat)=>new w7 (oC [iI 0,iI 0,vS none 0 0] 60) λk14 w11=>I1 w11/\cH w11 (aM k14) [iI n1,iI n2,vS o5 k12 k13] λw12=>∃ (x1:lP [(8,aD)]),∃ (x2:lN [(8,aD)]),x1 0 w12/\∀ (I2:Nat->Value) (n3:Int) (w13:WB),x1 n3 w13->br (decide (n3 < 2)) (∃ o6 k15 k16 o7 k17 k18 o8 k19 k20 n4 o9 k21 k22,rA w13 (aM k1) 5 [vS o6 k15 k16,vS o7 k17 k18,vS o8 k19 k20,iI n4,vS o9 k21 k22]/\∃ n5 n6 o10 k23 k24,rA w13 (aM k14) 3 [iI n5,iI n6,vS o10 k23 k24]/\rE 33 [vG [vS o6 k15 k16,vS o7 k17 k18,vS o8 k19 k20,iI n4,vS o9 k21 k22],vG [iI n5,iI n6,vS o10 k23 k24]] w13 λv4 w14=>∃ n7 n8 o11 k25 k26 n9,v4 = vU [vG [iI n7,iI n8],vS o11 k25 k26,iI n9]/\new w14 (oC [iI 0,iI 0] 62) λk27 w15=>cH w15 (aM k27) [iI n7,iI n8] λw16=>∃ o12 k28 k29 o13 k30 k31 o14 k32 k33 n10 o15 k34 k35,rA w16 (aM k1) 5 [vS o12 k28 k29,vS o13 k30 k31,vS o14 k32 k33,iI n10,vS o15 k34 k35]/\∃ n11 n12 o16 k36 k37,rA w16 (aM k2) 3 [iI n11,iI n12,vS o16 k36 k37]/\rE 34 [vG [vS o12 k28 k29,vS o13 k30 k31,vS o14 k32 k33,iI n10,vS o15 k34 k35],vG [iI n11,iI n12,vS o16 k36 k37]] w16 λv5 w17=>∃ n13 n14 o17 k38 k39 n15,v5 = vU [vG [iI n13,iI n14],vS o17 k38 k39,iI n15]/\new w17 (oC [iI 0,iI 0] 62) λk40 w18=>cH w18 (aM k40) [iI n13,iI n14] λw19=>rE 35 [vS o11 k25 k26,vS o17 k38 k39] w19 λv6 w20=>∃ b2,v6 = vB b2/\∃ (x3:lP [(69,oV)]),br (!b2) (x3 true w20) (∃ n16 n17,rA w20 (aM k27) 2 [iI n16,iI n17]/\∃ n18 n19,rA w20 (aM k40) 2 [iI n18,iI n19]/\∃ v7,Sem.run Proofs.Tryz.prog (fu BinOp.neq 62 (Operand.tmp 61) (Operand.tmp 62) (vG [iI n16,iI n17]) (vG [iI n18,iI n19])) w20 = Result.ok v7 w20/\∃ b3,v7 = vB b3/\br b3 (x3 true w20) (x3 (n9 != n15) w20))/\∀ (I3:Nat->Value) (b4:Bool) (w21:WB),x3 b4 w21->br b4 (R (vB false) w21) (∃ (x4:lP [(16,aD)]),∃ (x5:lN [(16,aD)]),x4 0 w21/\∀ (I4:Nat->Value) (n20:Int) (w22:WB),x4 n20 w22->br (decide (n20 < (k25:Int))) (idx o11 k25 n20 2 λa1=>cH w22 a1 [iI 9,iI 0] λw23=>aw (n20 + 1)/\x4 (n20 + 1) w23/\x5 (n20 + 1) w23 < x5 n20 w22) (aw (n3 + 1)/\x1 (n3 + 1) w22/\x2 (n3 + 1) w22 < x2 n3 w13))) (∀ w24,drawn w13 w24->∃ (I5:WP),I5 w24/\∃ o18 k41 k42,(∀ w25,I5 w25->cL w25 (Addr.add (aM k2) 2) (vS o18 k41 k42))/\lY o3 k8 k9 none (some (k41:Int)) none 2 λ(o19:WA) (k43 k44:Nat)=>∃ o20 k45 k46,(∀ w26,I5 w26->cL w26 (Addr.add (aM k2) 2) (vS o20 k45 k46))/\rE 35 [vS o19 k43 k44,vS o20 k45 k46] w24 λv8 w27=>∃ b5,v8 = vB b5/\I5 w27/\br b1 (br b5 (aw ((k8:Int) - 1)/\idx o3 k8 ((k8:Int) - 1) 2 λa2=>∃ n21,cL w27 a2 (iI n21)/\R (vB (n21 == 7)) w27) (R (vB false) w27)) (R (vB false) w27))):ay Tryz.prog 9 [(.agg #[(.slice a b c),(.slice d e f),(.slice g i j),(.int .i64 k),(.slice l m n)]),(.agg #[(.int .i64 o),(.int .i64 p),(.slice q s t)])] w R:=rv Tryz.func9 jB (by kernel_rfl) h
abbrev kD:FuncId:=11
def jD:bh:={ rngs:=[],loops:=[(15,[(11,(.one (.int .i64))),(12,(.one (.int .i64))),(13,(.one (.int .i64)))]),(20,[(11,(.one (.int .i64))),(12,(.one (.int .i64))),(14,(.one (.int .i64)))]),(33,[(19,(.one (.int .i64)))])],joins:=[(6,[(44,(.one .bool))]),(21,[(11,(.one (.int .i64))),(12,(.one (.int .i64)))]),(27,[(11,(.one (.int .i64))),(16,(.one .slice))]),(30,[])],blocks:=[] }
theorem jE {a:WA} {b c:Nat} {d:WA} {e f:Nat} {g:WA} {i j:Nat} {k:Int} {l:WA} {m n:Nat} {w:WB} {R:Value->WP} (h:new w (oC [vS a b c,vS d e f,vS g i j,iI k,vS l m n] 27) λk1 w1=>rE 30 [] w1 λv1 w2=>∃ b1,v1 = vB b1/\∃ o1 k2 k3 o2 k4 k5 o3 k6 k7 n1 o4 k8 k9,rA w2 (aM k1) 5 [vS o1 k2 k3,vS o2 k4 k5,vS o3 k6 k7,iI n1,vS o4 k8 k9]/\rE 15 [vG [vS o1 k2 k3,vS o2 k4 k5,vS o3 k6 k7,iI n1,vS o4 k8 k9]] w2 λv2 w3=>∃ o5 k10 k11 n2,v2 = vU [vS o5 k10 k11,iI n2]/\∃ o6 k12 k13 o7 k14 k15 o8 k16 k17 n3 o9 k18 k19,rA w3 (aM k1) 5 [vS o6 k12 k13,vS o7 k14 k15,vS o8 k16 k17,iI n3,vS o9 k18 k19]/\rE 37 [vG [vS o6 k12 k13,vS o7 k14 k15,vS o8 k16 k17,iI n3,vS o9 k18 k19]] w3 λv3 w4=>∃ o10 k20 k21 o11 k22 k23 o12 k24 k25 n4,v3 = vU [vG [vS o10 k20 k21,vS o11 k22 k23,vS o12 k24 k25],iI n4]/\new w4 (oC [vS none 0 0,vS none 0 0,vS none 0 0] 75) λk26 w5=>cH w5 (aM k26) [vS o10 k20 k21,vS o11 k22 k23,vS o12 k24 k25] λw6=>∃ o13 k27 k28 o14 k29 k30 o15 k31 k32 n5 o16 k33 k34,rA w6 (aM k1) 5 [vS o13 k27 k28,vS o14 k29 k30,vS o15 k31 k32,iI n5,vS o16 k33 k34]/\rE 26 [vG [vS o13 k27 k28,vS o14 k29 k30,vS o15 k31 k32,iI n5,vS o16 k33 k34]] w6 λv4 w7=>∃ o17 k35 k36 n6 n7 n8,v4 = vU [vG [vS o17 k35 k36,iI n6,iI n7],iI n8]/\new w7 (oC [vS none 0 0,iI 0,iI 0] 45) λk37 w8=>cH w8 (aM k37) [vS o17 k35 k36,iI n6,iI n7] λw9=>∃ (x1:lP [(44,oV)]),br (n2 != n4) (x1 true w9) (x1 (n2 != n8) w9)/\∀ (I1:Nat->Value) (b2:Bool) (w10:WB),x1 b2 w10->br b2 (R (vB false) w10) (br (n2 != 0) (∃ o18 k38 k39 o19 k40 k41 o20 k42 k43 n9 o21 k44 k45,rA w10 (aM k1) 5 [vS o18 k38 k39,vS o19 k40 k41,vS o20 k42 k43,iI n9,vS o21 k44 k45]/\rE 39 [vG [vS o18 k38 k39,vS o19 k40 k41,vS o20 k42 k43,iI n9,vS o21 k44 k45]] w10 λv5 w11=>∃ b3,v5 = vB b3/\br b1 (∃ o22 k46 k47,cL w11 (Addr.add (aM k26) 2) (vS o22 k46 k47)/\br ((k46:Int) == 0) (R (vB (b3 == (n2 == 11))) w11) (R (vB false) w11)) (R (vB false) w11)) (∃ o23 k48 k49,cL w10 (aM k26) (vS o23 k48 k49)/\∃ o24 k50 k51,cL w10 (aM k37) (vS o24 k50 k51)/\br ((k48:Int) != (k50:Int)) (R (vB false) w10) (∃ (x2:lP [(11,aD),(12,aD),(13,aD)]),∃ (x3:lN [(11,aD),(12,aD),(13,aD)]),x2 0 0 0 w10/\∀ (I2:Nat->Value) (n10 n11 n12:Int) (w12:WB),x2 n10 n11 n12 w12->∃ o25 k52 k53,cL w12 (aM k37) (vS o25 k52 k53)/\br (decide (n12 < (k52:Int))) (∀ w13,drawn w12 w13->∃ (I3:WP),I3 w13/\∃ o26 k54 k55,(∀ w14,I3 w14->cL w14 (aM k26) (vS o26 k54 k55))/\idx o26 k54 n12 1 λa1=>∃ o27 k56 k57,(∀ w15,I3 w15->cL w15 a1 (vS o27 k56 k57))/\∃ o28 k58 k59,(∀ w16,I3 w16->cL w16 (aM k1) (vS o28 k58 k59))/\br ((k56:Int) != (k58:Int)) (R (vB false) w13) (∃ (x4:lP [(11,aD),(12,aD),(14,aD)]),∃ (x5:lN [(11,aD),(12,aD),(14,aD)]),x4 n10 n11 0 w13/\∀ (I4:Nat->Value) (n13 n14 n15:Int) (w17:WB),x4 n13 n14 n15 w17->∃ o29 k60 k61,cL w17 (aM k1) (vS o29 k60 k61)/\br (decide (n15 < (k60:Int))) (∃ (x6:lP [(11,aD),(12,aD)]),(∃ o30 k62 k63,cL w17 (aM k26) (vS o30 k62 k63)/\idx o30 k62 n12 1 λa2=>∃ o31 k64 k65,cL w17 a2 (vS o31 k64 k65)/\idx o31 k64 n15 2 λa3=>∃ n16 n17,rA w17 a3 2 [iI n16,iI n17]/\new w17 (oC [iI 0,iI 0] 62) λk66 w18=>cH w18 (aM k66) [iI n16,iI n17] λw19=>∃ (x7:lP [(11,aD),(16,mP)]),br (decide (n13 < (k10:Int))) (idx o5 k10 n13 3 λa4=>∃ n18,cL w19 a4 (iI n18)/\br (n18 == n12) (idx o5 k10 n13 3 λa5=>∃ n19,cL w19 (Addr.add a5 1) (iI n19)/\br (n19 == n15) (idx o5 k10 n13 3 λa6=>∃ o32 k67 k68,cL w19 (Addr.add a6 2) (vS o32 k67 k68)/\aw (n13 + 1)/\x7 (n13 + 1) o32 k67 k68 w19) (x7 n13 none 0 0 w19)) (x7 n13 none 0 0 w19)) (x7 n13 none 0 0 w19)/\∀ (I5:Nat->Value) (n20:Int) (o33:WA) (k69 k70:Nat) (w20:WB),x7 n20 o33 k69 k70 w20->∃ n21 n22,rA w20 (aM k66) 2 [iI n21,iI n22]/\rE 40 [vS o33 k69 k70,vG [iI n21,iI n22]] w20 λv6 w21=>∃ b4,v6 = vB b4/\∃ (x8:lP []),br (decide ((k69:Int) < 2)) (br (!b4) (br (decide (0 < (k69:Int))) (R (vB false) w21) (∃ n23 n24,rA w21 (aM k66) 2 [iI n23,iI n24]/\∃ v7,Sem.run Proofs.Tryz.prog (fu BinOp.neq 62 (Operand.tmp 148) (Operand.tmp 149) (vG [iI n23,iI n24]) (vG [iI 0,iI 0])) w21 = Result.ok v7 w21/\∃ b5,v7 = vB b5/\br b5 (R (vB false) w21) (br (decide (1 < (k69:Int))) (br (!b4) (∃ n25 n26,rA w21 (aM k66) 2 [iI n25,iI n26]/\∃ v8,Sem.run Proofs.Tryz.prog (fu BinOp.neq 62 (Operand.tmp 162) (Operand.tmp 163) (vG [iI n25,iI n26]) (vG [iI 4,iI 0])) w21 = Result.ok v8 w21/\∃ b6,v8 = vB b6/\br b6 (R (vB false) w21) (x8 w21)) (x8 w21)) (x8 w21)))) (br (decide (1 < (k69:Int))) (br (!b4) (∃ n27 n28,rA w21 (aM k66) 2 [iI n27,iI n28]/\∃ v9,Sem.run Proofs.Tryz.prog (fu BinOp.neq 62 (Operand.tmp 162) (Operand.tmp 163) (vG [iI n27,iI n28]) (vG [iI 4,iI 0])) w21 = Result.ok v9 w21/\∃ b7,v9 = vB b7/\br b7 (R (vB false) w21) (x8 w21)) (x8 w21)) (x8 w21))) (br (decide (1 < (k69:Int))) (br (!b4) (∃ n29 n30,rA w21 (aM k66) 2 [iI n29,iI n30]/\∃ v10,Sem.run Proofs.Tryz.prog (fu BinOp.neq 62 (Operand.tmp 162) (Operand.tmp 163) (vG [iI n29,iI n30]) (vG [iI 4,iI 0])) w21 = Result.ok v10 w21/\∃ b8,v10 = vB b8/\br b8 (R (vB false) w21) (x8 w21)) (x8 w21)) (x8 w21))/\∀ (I6:Nat->Value) (w22:WB),x8 w22->∃ o34 k71 k72,cL w22 (Addr.add (aM k26) 2) (vS o34 k71 k72)/\br (decide ((k71:Int)<=n14)) (x6 n20 n14 w22) (∃ o35 k73 k74,cL w22 (Addr.add (aM k26) 2) (vS o35 k73 k74)/\idx o35 k73 n14 3 λa7=>∃ n31,cL w22 a7 (iI n31)/\br (n31 != n12) (x6 n20 n14 w22) (∃ o36 k75 k76,cL w22 (Addr.add (aM k26) 2) (vS o36 k75 k76)/\idx o36 k75 n14 3 λa8=>∃ n32,cL w22 (Addr.add a8 1) (iI n32)/\br (n32 != n15) (x6 n20 n14 w22) (∃ o37 k77 k78,cL w22 (Addr.add (aM k26) 2) (vS o37 k77 k78)/\idx o37 k77 n14 3 λa9=>∃ o38 k79 k80,cL w22 (Addr.add a9 2) (vS o38 k79 k80)/\∃ (x9:lP [(19,aD)]),∃ (x10:lN [(19,aD)]),x9 0 w22/\∀ (I7:Nat->Value) (n33:Int) (w23:WB),x9 n33 w23->br (decide (n33 < (k79:Int))) (idx o38 k79 n33 2 λa10=>∃ n34 n35,rA w23 a10 2 [iI n34,iI n35]/\rE 40 [vS o33 k69 k70,vG [iI n34,iI n35]] w23 λv11 w24=>∃ b9,v11 = vB b9/\br (!b9) (R (vB false) w24) (aw (n33 + 1)/\x9 (n33 + 1) w24/\x10 (n33 + 1) w24 < x10 n33 w23)) (∀ w25,drawn w23 w25->∃ (I8:WP),I8 w25/\br (decide ((k79:Int) < 2)) (R (vB false) w25) (idx o38 k79 0 2 λa11=>∃ n36 n37,(∀ w26,I8 w26->rA w26 a11 2 [iI n36,iI n37])/\∃ n38 n39,(∀ w27,I8 w27->rA w27 (aM k66) 2 [iI n38,iI n39])/\∃ v12,(∀ w28,I8 w28->Sem.run Proofs.Tryz.prog (fu BinOp.neq 62 (Operand.tmp 218) (Operand.tmp 219) (vG [iI n36,iI n37]) (vG [iI n38,iI n39])) w28 = Result.ok v12 w28)/\∃ b10,v12 = vB b10/\br b10 (R (vB false) w25) (aw (n14 + 1)/\x6 n20 (n14 + 1) w25)))))))/\∀ (I9:Nat->Value) (n40 n41:Int) (w29:WB),x6 n40 n41 w29->aw (n15 + 1)/\x4 n40 n41 (n15 + 1) w29/\x5 n40 n41 (n15 + 1) w29 < x5 n13 n14 n15 w17) (aw (n12 + 1)/\x2 n13 n14 (n12 + 1) w17/\x3 n13 n14 (n12 + 1) w17 < x3 n10 n11 n12 w12))) (br b1 (br (n10 == (k10:Int)) (∃ o39 k81 k82,cL w12 (Addr.add (aM k26) 2) (vS o39 k81 k82)/\R (vB (n11 == (k81:Int))) w12) (R (vB false) w12)) (R (vB false) w12)))))):ay Tryz.prog 11 [(.agg #[(.slice a b c),(.slice d e f),(.slice g i j),(.int .i64 k),(.slice l m n)])] w R:=rv Tryz.func11 jD (by kernel_rfl) h
abbrev kE:FuncId:=12
def jF:bh:={ rngs:=[],loops:=[(4,[(9,(.one (.int .i64)))])],joins:=[(12,[(89,(.one .bool))]),(14,[(112,(.one .bool))])],blocks:=[] }
theorem jG {a:WA} {b c:Nat} {d:WA} {e f:Nat} {g:WA} {i j:Nat} {k:Int} {l:WA} {m n:Nat} {o p:Int} {w:WB} {R:Value->WP} (h:new w (oC [vS a b c,vS d e f,vS g i j,iI k,vS l m n] 27) λk1 w1=>rE 30 [] w1 λv1 w2=>∃ b1,v1 = vB b1/\∃ o1 k2 k3 o2 k4 k5 o3 k6 k7 n1 o4 k8 k9,rA w2 (aM k1) 5 [vS o1 k2 k3,vS o2 k4 k5,vS o3 k6 k7,iI n1,vS o4 k8 k9]/\rE 14 [vG [vS o1 k2 k3,vS o2 k4 k5,vS o3 k6 k7,iI n1,vS o4 k8 k9]] w2 λv2 w3=>∃ o5 k10 k11 o6 k12 k13 o7 k14 k15 n2 o8 k16 k17,v2 = vG [vS o5 k10 k11,vS o6 k12 k13,vS o7 k14 k15,iI n2,vS o8 k16 k17]/\new w3 (oC [vS none 0 0,vS none 0 0,vS none 0 0,iI 0,vS none 0 0] 27) λk18 w4=>cH w4 (aM k18) [vS o5 k10 k11,vS o6 k12 k13,vS o7 k14 k15,iI n2,vS o8 k16 k17] λw5=>∃ (x1:lP [(9,aD)]),∃ (x2:lN [(9,aD)]),x1 0 w5/\∀ (I1:Nat->Value) (n3:Int) (w6:WB),x1 n3 w6->∃ o9 k19 k20,cL w6 (Addr.add (aM k18) 2) (vS o9 k19 k20)/\br (decide (n3 < (k19:Int))) (∃ o10 k21 k22,cL w6 (Addr.add (aM k18) 2) (vS o10 k21 k22)/\idx o10 k21 n3 1 λa1=>∃ n4,cL w6 a1 (iI n4)/\br (n4 == 1) (∀ w7,drawn w6 w7->∃ (I2:WP),I2 w7/\∃ o11 k23 k24,(∀ w8,I2 w8->cL w8 (Addr.add (aM k18) 2) (vS o11 k23 k24))/\∃ o12 k25 k26,(∀ w9,I2 w9->cL w9 (Addr.add (aM k18) 2) (vS o12 k25 k26))/\idx o12 k25 n3 1 λa2=>∃ n5,(∀ w10,I2 w10->cL w10 a2 (iI n5))/\aw (3 - n5)/\idx o11 k23 n3 1 λa3=>st1 w7 a3 (iI (3 - n5)) λw11=>aw (n3 + 1)/\x1 (n3 + 1) w11/\x2 (n3 + 1) w11 < x2 n3 w6) (∃ o13 k27 k28,cL w6 (Addr.add (aM k18) 2) (vS o13 k27 k28)/\idx o13 k27 n3 1 λa4=>∃ n6,cL w6 a4 (iI n6)/\br (n6 == 2) (∀ w12,drawn w6 w12->∃ (I3:WP),I3 w12/\∃ o14 k29 k30,(∀ w13,I3 w13->cL w13 (Addr.add (aM k18) 2) (vS o14 k29 k30))/\∃ o15 k31 k32,(∀ w14,I3 w14->cL w14 (Addr.add (aM k18) 2) (vS o15 k31 k32))/\idx o15 k31 n3 1 λa5=>∃ n7,(∀ w15,I3 w15->cL w15 a5 (iI n7))/\aw (3 - n7)/\idx o14 k29 n3 1 λa6=>st1 w12 a6 (iI (3 - n7)) λw16=>aw (n3 + 1)/\x1 (n3 + 1) w16/\x2 (n3 + 1) w16 < x2 n3 w6) (aw (n3 + 1)/\x1 (n3 + 1) w6/\x2 (n3 + 1) w6 < x2 n3 w6))) (∃ o16 k33 k34 o17 k35 k36 o18 k37 k38 n8 o19 k39 k40,rA w6 (aM k1) 5 [vS o16 k33 k34,vS o17 k35 k36,vS o18 k37 k38,iI n8,vS o19 k39 k40]/\rE 31 [vG [vS o16 k33 k34,vS o17 k35 k36,vS o18 k37 k38,iI n8,vS o19 k39 k40],iI o,iI p] w6 λv3 w17=>∃ n9 n10,v3 = vU [iI n9,iI n10]/\∃ o20 k41 k42 o21 k43 k44 o22 k45 k46 n11 o23 k47 k48,rA w17 (aM k18) 5 [vS o20 k41 k42,vS o21 k43 k44,vS o22 k45 k46,iI n11,vS o23 k47 k48]/\rE 31 [vG [vS o20 k41 k42,vS o21 k43 k44,vS o22 k45 k46,iI n11,vS o23 k47 k48],iI o,iI p] w17 λv4 w18=>∃ n12 n13,v4 = vU [iI n12,iI n13]/\∃ o24 k49 k50 o25 k51 k52 o26 k53 k54 n14 o27 k55 k56,rA w18 (aM k1) 5 [vS o24 k49 k50,vS o25 k51 k52,vS o26 k53 k54,iI n14,vS o27 k55 k56]/\rE 39 [vG [vS o24 k49 k50,vS o25 k51 k52,vS o26 k53 k54,iI n14,vS o27 k55 k56]] w18 λv5 w19=>∃ b2,v5 = vB b2/\∃ (x3:lP [(89,oV)]),br (!b2) (x3 true w19) (br (decide (o < 0)) (x3 true w19) (∃ o28 k57 k58,cL w19 (Addr.add (aM k1) 4) (vS o28 k57 k58)/\br (decide ((k57:Int)<=o)) (x3 true w19) (br (decide (p < 0)) (x3 true w19) (∃ o29 k59 k60,cL w19 (aM k1) (vS o29 k59 k60)/\x3 (decide ((k59:Int)<=p)) w19))))/\∀ (I4:Nat->Value) (b3:Bool) (w20:WB),x3 b3 w20->br b3 (br b1 (br (n10 == 1) (br (n13 == 1) (br (n9 == 0) (R (vB (n12 == 0)) w20) (R (vB false) w20)) (R (vB false) w20)) (R (vB false) w20)) (R (vB false) w20)) (∃ (x4:lP [(112,oV)]),br (n10 != 0) (x4 true w20) (x4 (n13 != 0) w20)/\∀ (I5:Nat->Value) (b4:Bool) (w21:WB),x4 b4 w21->br b4 (R (vB false) w21) (∃ o30 k61 k62,cL w21 (Addr.add (aM k1) 4) (vS o30 k61 k62)/\idx o30 k61 o 3 λa7=>∃ n15,cL w21 (Addr.add a7 2) (iI n15)/\∃ o31 k63 k64,cL w21 (aM k1) (vS o31 k63 k64)/\idx o31 k63 p 2 λa8=>∃ n16,cL w21 (Addr.add a8 1) (iI n16)/\br (n15 != n16) (br b1 (R (vB (n9 == n12)) w21) (R (vB false) w21)) (br (n15 == 0) (br b1 (R (vB (n9 == n12)) w21) (R (vB false) w21)) (∃ o32 k65 k66,cL w21 (Addr.add (aM k1) 2) (vS o32 k65 k66)/\aw (n15 - 1)/\idx o32 k65 (n15 - 1) 1 λa9=>∃ n17,cL w21 a9 (iI n17)/\br (n17 == 3) (br b1 (R (vB (n9 == n12)) w21) (R (vB false) w21)) (br b1 (aw (n9 + n12)/\br (n9 + n12 == 3) (R (vB (n9 != n12)) w21) (R (vB false) w21)) (R (vB false) w21)))))))):ay Tryz.prog 12 [(.agg #[(.slice a b c),(.slice d e f),(.slice g i j),(.int .i64 k),(.slice l m n)]),(.int .i64 o),(.int .i64 p)] w R:=rv Tryz.func12 jF (by kernel_rfl) h
abbrev kF:FuncId:=13
def jH:bh:={ rngs:=[],loops:=[(4,[(5,(.one (.int .i64)))]),(8,[(6,(.one (.int .i64)))]),(18,[(12,(.one (.int .i64)))]),(25,[(15,(.one (.int .i64)))]),(28,[(16,(.one (.int .i64)))])],joins:=[(16,[(65,(.one .bool))])],blocks:=[] }
theorem jI {a:WA} {b c:Nat} {d:WA} {e f:Nat} {g:WA} {i j:Nat} {k:Int} {l:WA} {m n:Nat} {w:WB} {R:Value->WP} (h:new w (oC [vS a b c,vS d e f,vS g i j,iI k,vS l m n] 27) λk1 w1=>rE 30 [] w1 λv1 w2=>∃ b1,v1 = vB b1/\∃ o1 k2 k3 o2 k4 k5 o3 k6 k7 n1 o4 k8 k9,rA w2 (aM k1) 5 [vS o1 k2 k3,vS o2 k4 k5,vS o3 k6 k7,iI n1,vS o4 k8 k9]/\rE 14 [vG [vS o1 k2 k3,vS o2 k4 k5,vS o3 k6 k7,iI n1,vS o4 k8 k9]] w2 λv2 w3=>∃ o5 k10 k11 o6 k12 k13 o7 k14 k15 n2 o8 k16 k17,v2 = vG [vS o5 k10 k11,vS o6 k12 k13,vS o7 k14 k15,iI n2,vS o8 k16 k17]/\new w3 (oC [vS none 0 0,vS none 0 0,vS none 0 0,iI 0,vS none 0 0] 27) λk18 w4=>cH w4 (aM k18) [vS o5 k10 k11,vS o6 k12 k13,vS o7 k14 k15,iI n2,vS o8 k16 k17] λw5=>∃ (x1:lP [(5,aD)]),∃ (x2:lN [(5,aD)]),x1 0 w5/\∀ (I1:Nat->Value) (n3:Int) (w6:WB),x1 n3 w6->∃ o9 k19 k20,cL w6 (aM k18) (vS o9 k19 k20)/\br (decide (n3 < (k19:Int))) (∃ o10 k21 k22,cL w6 (aM k18) (vS o10 k21 k22)/\idx o10 k21 n3 2 λa1=>st1 w6 (Addr.add a1 1) (iI 0) λw7=>aw (n3 + 1)/\x1 (n3 + 1) w7/\x2 (n3 + 1) w7 < x2 n3 w6) (∃ (x3:lP [(6,aD)]),∃ (x4:lN [(6,aD)]),x3 0 w6/\∀ (I2:Nat->Value) (n4:Int) (w8:WB),x3 n4 w8->∃ o11 k23 k24,cL w8 (Addr.add (aM k18) 4) (vS o11 k23 k24)/\br (decide (n4 < (k23:Int))) (∃ o12 k25 k26,cL w8 (Addr.add (aM k18) 4) (vS o12 k25 k26)/\idx o12 k25 n4 3 λa2=>st1 w8 (Addr.add a2 2) (iI 0) λw9=>aw (n4 + 1)/\x3 (n4 + 1) w9/\x4 (n4 + 1) w9 < x4 n4 w8) (st1 w8 (Addr.add (aM k18) 2) (vS none 0 0) λw10=>∃ o13 k27 k28 o14 k29 k30 o15 k31 k32 n5 o16 k33 k34,rA w10 (aM k18) 5 [vS o13 k27 k28,vS o14 k29 k30,vS o15 k31 k32,iI n5,vS o16 k33 k34]/\rE 21 [vG [vS o13 k27 k28,vS o14 k29 k30,vS o15 k31 k32,iI n5,vS o16 k33 k34]] w10 λv3 w11=>∃ o17 k35 k36 n6,v3 = vU [vS o17 k35 k36,iI n6]/\∃ o18 k37 k38 o19 k39 k40 o20 k41 k42 n7 o21 k43 k44,rA w11 (aM k18) 5 [vS o18 k37 k38,vS o19 k39 k40,vS o20 k41 k42,iI n7,vS o21 k43 k44]/\rE 37 [vG [vS o18 k37 k38,vS o19 k39 k40,vS o20 k41 k42,iI n7,vS o21 k43 k44]] w11 λv4 w12=>∃ o22 k45 k46 o23 k47 k48 o24 k49 k50 n8,v4 = vU [vG [vS o22 k45 k46,vS o23 k47 k48,vS o24 k49 k50],iI n8]/\new w12 (oC [vS none 0 0,vS none 0 0,vS none 0 0] 75) λk51 w13=>cH w13 (aM k51) [vS o22 k45 k46,vS o23 k47 k48,vS o24 k49 k50] λw14=>∃ o25 k52 k53,cL w14 (Addr.add (aM k51) 2) (vS o25 k52 k53)/\rE 41 [vS o17 k35 k36,vS o25 k52 k53] w14 λv5 w15=>∃ b2,v5 = vB b2/\∃ (x5:lP [(65,oV)]),br (n6 != n8) (x5 true w15) (x5 (!b2) w15)/\∀ (I3:Nat->Value) (b3:Bool) (w16:WB),x5 b3 w16->br b3 (R (vB false) w16) (∃ (x6:lP [(12,aD)]),∃ (x7:lN [(12,aD)]),x6 0 w16/\∀ (I4:Nat->Value) (n9:Int) (w17:WB),x6 n9 w17->br (decide (n9 < (k35:Int))) (idx o17 k35 n9 3 λa3=>∃ n10,cL w17 a3 (iI n10)/\idx o17 k35 n9 3 λa4=>∃ n11,cL w17 (Addr.add a4 1) (iI n11)/\∀ w18,drawn w17 w18->∃ (I5:WP),I5 w18/\br (decide (n10 < 0)) (R (vB false) w18) (∃ o26 k54 k55,(∀ w19,I5 w19->cL w19 (aM k51) (vS o26 k54 k55))/\br (decide ((k54:Int)<=n10)) (R (vB false) w18) (br (decide (n11 < 0)) (R (vB false) w18) (∃ o27 k56 k57,(∀ w20,I5 w20->cL w20 (aM k51) (vS o27 k56 k57))/\idx o27 k56 n10 1 λa5=>∃ o28 k58 k59,(∀ w21,I5 w21->cL w21 a5 (vS o28 k58 k59))/\br (decide ((k58:Int)<=n11)) (R (vB false) w18) (idx o17 k35 n9 3 λa6=>∃ o29 k60 k61,(∀ w22,I5 w22->cL w22 (Addr.add a6 2) (vS o29 k60 k61))/\br ((k60:Int) == 0) (R (vB false) w18) (∃ o30 k62 k63,(∀ w23,I5 w23->cL w23 (aM k51) (vS o30 k62 k63))/\idx o30 k62 n10 1 λa7=>∃ o31 k64 k65,(∀ w24,I5 w24->cL w24 a7 (vS o31 k64 k65))/\idx o31 k64 n11 2 λa8=>∃ n12 n13,(∀ w25,I5 w25->rA w25 a8 2 [iI n12,iI n13])/\idx o17 k35 n9 3 λa9=>∃ o32 k66 k67,(∀ w26,I5 w26->cL w26 (Addr.add a9 2) (vS o32 k66 k67))/\idx o32 k66 0 2 λa10=>∃ n14 n15,(∀ w27,I5 w27->rA w27 a10 2 [iI n14,iI n15])/\∃ v6,(∀ w28,I5 w28->Sem.run Proofs.Tryz.prog (fu BinOp.neq 62 (Operand.tmp 125) (Operand.tmp 132) (vG [iI n12,iI n13]) (vG [iI n14,iI n15])) w28 = Result.ok v6 w28)/\∃ b4,v6 = vB b4/\br b4 (R (vB false) w18) (aw (n9 + 1)/\x6 (n9 + 1) w18/\x7 (n9 + 1) w18 < x7 n9 w17))))))) (∃ (x8:lP [(15,aD)]),∃ (x9:lN [(15,aD)]),x8 0 w17/\∀ (I6:Nat->Value) (n16:Int) (w29:WB),x8 n16 w29->∃ o33 k68 k69,cL w29 (aM k51) (vS o33 k68 k69)/\br (decide (n16 < (k68:Int))) (∃ (x10:lP [(16,aD)]),∃ (x11:lN [(16,aD)]),x10 0 w29/\∀ (I7:Nat->Value) (n17:Int) (w30:WB),x10 n17 w30->∃ o34 k70 k71,cL w30 (aM k51) (vS o34 k70 k71)/\idx o34 k70 n16 1 λa11=>∃ o35 k72 k73,cL w30 a11 (vS o35 k72 k73)/\br (decide (n17 < (k72:Int))) (∃ o36 k74 k75,cL w30 (aM k51) (vS o36 k74 k75)/\idx o36 k74 n16 1 λa12=>∃ o37 k76 k77,cL w30 a12 (vS o37 k76 k77)/\idx o37 k76 n17 2 λa13=>∃ n18,cL w30 a13 (iI n18)/\br (n18 == 4) (R (vB false) w30) (aw (n17 + 1)/\x10 (n17 + 1) w30/\x11 (n17 + 1) w30 < x11 n17 w30)) (aw (n16 + 1)/\x8 (n16 + 1) w30/\x9 (n16 + 1) w30 < x9 n16 w29)) (R (vB b1) w29)))))):ay Tryz.prog 13 [(.agg #[(.slice a b c),(.slice d e f),(.slice g i j),(.int .i64 k),(.slice l m n)])] w R:=rv Tryz.func13 jH (by kernel_rfl) h
abbrev q8:FuncId:=30
def oI:bh:={ rngs:=[],loops:=[],joins:=[],blocks:=[] }
theorem oJ  {w:WB} {R:Value->WP} (h:rE 63 [] w λv1 w1=>∃ o1 k1 k2 o2 k3 k4 o3 k5 k6 n1 o4 k7 k8,v1 = vG [vS o1 k1 k2,vS o2 k3 k4,vS o3 k5 k6,iI n1,vS o4 k7 k8]/\new w1 (oC [vS none 0 0,vS none 0 0,vS none 0 0,iI 0,vS none 0 0] 27) λk9 w2=>cH w2 (aM k9) [vS o1 k1 k2,vS o2 k3 k4,vS o3 k5 k6,iI n1,vS o4 k7 k8] λw3=>∃ o5 k10 k11 o6 k12 k13 o7 k14 k15 n2 o8 k16 k17,rA w3 (aM k9) 5 [vS o5 k10 k11,vS o6 k12 k13,vS o7 k14 k15,iI n2,vS o8 k16 k17]/\rE 31 [vG [vS o5 k10 k11,vS o6 k12 k13,vS o7 k14 k15,iI n2,vS o8 k16 k17],iI 1,iI 1] w3 λv2 w4=>∃ n3 n4,v2 = vU [iI n3,iI n4]/\∃ o9 k18 k19 o10 k20 k21 o11 k22 k23 n5 o12 k24 k25,rA w4 (aM k9) 5 [vS o9 k18 k19,vS o10 k20 k21,vS o11 k22 k23,iI n5,vS o12 k24 k25]/\new w4 (oC [iI 1,iI 6,iI 2,iI 1] 62) λk26 w5=>rE 33 [vG [vS o9 k18 k19,vS o10 k20 k21,vS o11 k22 k23,iI n5,vS o12 k24 k25],vG [iI 0,iI 2,vS (some (aM k26)) 2 2]] w5 λv3 w6=>∃ n6 n7 o13 k27 k28 n8,v3 = vU [vG [iI n6,iI n7],vS o13 k27 k28,iI n8]/\new w6 (oC [iI 0,iI 0] 62) λk29 w7=>cH w7 (aM k29) [iI n6,iI n7] λw8=>∃ o14 k30 k31 o15 k32 k33 o16 k34 k35 n9 o17 k36 k37,rA w8 (aM k9) 5 [vS o14 k30 k31,vS o15 k32 k33,vS o16 k34 k35,iI n9,vS o17 k36 k37]/\rE 37 [vG [vS o14 k30 k31,vS o15 k32 k33,vS o16 k34 k35,iI n9,vS o17 k36 k37]] w8 λv4 w9=>∃ o18 k38 k39 o19 k40 k41 o20 k42 k43 n10,v4 = vU [vG [vS o18 k38 k39,vS o19 k40 k41,vS o20 k42 k43],iI n10]/\new w9 (oC [vS none 0 0,vS none 0 0,vS none 0 0] 75) λk44 w10=>cH w10 (aM k44) [vS o18 k38 k39,vS o19 k40 k41,vS o20 k42 k43] λw11=>∃ o21 k45 k46 o22 k47 k48 o23 k49 k50 n11 o24 k51 k52,rA w11 (aM k9) 5 [vS o21 k45 k46,vS o22 k47 k48,vS o23 k49 k50,iI n11,vS o24 k51 k52]/\rE 64 [vG [vS o21 k45 k46,vS o22 k47 k48,vS o23 k49 k50,iI n11,vS o24 k51 k52]] w11 λv5 w12=>∃ s1 n12,v5 = vU [Value.string s1,iI n12]/\br (n4 == 0) (br (n8 == 0) (br (n10 == 0) (br (n12 == 0) (br (n3 == 2) (∃ n13,cL w12 (aM k29) (iI n13)/\br (n13 == 1) (∃ n14,cL w12 (Addr.add (aM k29) 1) (iI n14)/\br (n14 == 6) (br ((k27:Int) == 2) (∃ o25 k53 k54,cL w12 (aM k44) (vS o25 k53 k54)/\br ((k53:Int) == 5) (∃ o26 k55 k56,cL w12 (Addr.add (aM k44) 2) (vS o26 k55 k56)/\br ((k55:Int) == 0) (R (vB (ByteArray.toList s1 == ByteArray.toList (ByteArray.mk (Array.mk [])))) w12) (R (vB false) w12)) (R (vB false) w12)) (R (vB false) w12)) (R (vB false) w12)) (R (vB false) w12)) (R (vB false) w12)) (R (vB false) w12)) (R (vB false) w12)) (R (vB false) w12)) (R (vB false) w12)):ay Tryz.prog 30 [] w R:=rv Tryz.func30 oI (by kernel_rfl) h
abbrev q9:FuncId:=40
def oK:bh:={ rngs:=[],loops:=[(2,[(5,(.one (.int .i64)))])],joins:=[],blocks:=[] }
theorem oM {a:WA} {b c:Nat} {d e:Int} {w:WB} {R:Value->WP} (h:new w (oC [iI d,iI e] 62) λk1 w1=>∃ (x1:lP [(5,aD)]),∃ (x2:lN [(5,aD)]),x1 0 w1/\∀ (I1:Nat->Value) (n1:Int) (w2:WB),x1 n1 w2->br (decide (n1 < (b:Int))) (∀ w3,drawn w2 w3->∃ (I2:WP),I2 w3/\idx a b n1 2 λa1=>∃ n2 n3,(∀ w4,I2 w4->rA w4 a1 2 [iI n2,iI n3])/\∃ n4 n5,(∀ w5,I2 w5->rA w5 (aM k1) 2 [iI n4,iI n5])/\∃ v1,(∀ w6,I2 w6->Sem.run Proofs.Tryz.prog (fu BinOp.eql 62 (Operand.tmp 15) (Operand.tmp 16) (vG [iI n2,iI n3]) (vG [iI n4,iI n5])) w6 = Result.ok v1 w6)/\∃ b1,v1 = vB b1/\br b1 (R (vB true) w3) (aw (n1 + 1)/\x1 (n1 + 1) w3/\x2 (n1 + 1) w3 < x2 n1 w2)) (R (vB false) w2)):ay Tryz.prog 40 [(.slice a b c),(.agg #[(.int .i64 d),(.int .i64 e)])] w R:=rv Tryz.func40 oK (by kernel_rfl) h
abbrev q_:FuncId:=63
def oN:bh:={ rngs:=[],loops:=[],joins:=[],blocks:=[] }
theorem oO  {w:WB} {R:Value->WP} (h:new w (oC [vS none 0 0,vS none 0 0,vS none 0 0,iI 0,vS none 0 0] 27) λk1 w1=>new w1 (oC [Value.string (ByteArray.mk (Array.mk [])),iI 0,Value.string (ByteArray.mk (Array.mk [43])),iI 1,Value.string (ByteArray.mk (Array.mk [110])),iI 0] 83) λk2 w2=>new w2 (oC [Value.string (ByteArray.mk (Array.mk [])),Value.string (ByteArray.mk (Array.mk [101]))] 9) λk3 w3=>new w3 (oC [iI 1] 3) λk4 w4=>new w4 (oC [iI 4] 3) λk5 w5=>new w5 (oC [iI 4,iI 1,iI 4] 3) λk6 w6=>new w6 (oC [iI 2] 3) λk7 w7=>new w7 (oC [iI 3,vS (some (aM k5)) 1 1,iI 0,iI 4,vS (some (aM k6)) 3 3,iI 1,iI 4,vS (some (aM k7)) 1 1,iI 0] 81) λk8 w8=>cH w8 (aM k1) [vS (some (aM k2)) 3 3,vS (some (aM k3)) 2 2,vS (some (aM k4)) 1 1,iI 4,vS (some (aM k8)) 3 3] λw9=>∃ o1 k9 k10 o2 k11 k12 o3 k13 k14 n1 o4 k15 k16,rA w9 (aM k1) 5 [vS o1 k9 k10,vS o2 k11 k12,vS o3 k13 k14,iI n1,vS o4 k15 k16]/\R (vG [vS o1 k9 k10,vS o2 k11 k12,vS o3 k13 k14,iI n1,vS o4 k15 k16]) w9):ay Tryz.prog 63 [] w R:=rv Tryz.func63 oN (by kernel_rfl) h
end Go.Proofs.YtndaepmjkbmjmaaGreatDoor
namespace Go.V
def nP:ae:=⟨[⟨⟨⟨[]⟩⟩,0⟩,⟨⟨⟨[43]⟩⟩,1⟩,⟨⟨⟨[110]⟩⟩,0⟩],[⟨⟨[]⟩⟩,⟨⟨[101]⟩⟩],[1],4,[⟨3,[4],0⟩,⟨4,[4,1,4],1⟩,⟨4,[2],0⟩]⟩
theorem xV:aq nP:=by
 refine ⟨rfl,⟨rfl,by decide,by decide,by decide,by decide,?_,?_,?_,?_,?_⟩,⟨by decide,by decide,?_,by decide,by decide,by decide⟩,⟨3,[4],0⟩,rfl,rfl,rfl,rfl⟩
 ·decide
 ·intro i v h
  match i,h with
  | 0,h=>cases h; exact ⟨by decide,by decide,⟨⟨⟨[43]⟩⟩,1⟩,by simp [nP],rfl⟩
  | i + 1,h=>cases h
 ·decide
 ·decide
 ·decide
 ·intro p hp
  simp only [List.drop_succ_cons,List.drop_zero,nP,U1,List.not_mem_nil,or_false] at hp
  unfold mB fH
  rcases hp with rfl | rfl
  ·refine ⟨by decide,?_⟩
   intro s hs; simp at hs
   rcases hs with rfl | rfl | rfl <;> decide
  ·refine ⟨by decide,?_⟩
   intro s hs; simp at hs; subst hs; decide
theorem Ke:iq nP:=by
 refine ⟨by decide,by decide,by decide,by decide,?_,by decide,by decide⟩
 intro t ht
 simp only [nP,U1,List.not_mem_nil,or_false] at ht
 unfold anyI
 rcases ht with rfl | rfl | rfl <;> decide
theorem Oy:(dI nP 5).1.length = 5/\∀ i,i < 5->i < (dI nP i).1.length:=by decide +kernel
theorem Kf:FK nP 5:=⟨Oy.1,by decide,Oy.2⟩
def Ha:List SQ:=((dI nP 5).1.zip (dI nP 5).2).map λp=>(((none,0),p.1),((none,0),p.2))
def Qx:List Bool:=[false,false]
theorem Su:ur nP Qx:=by
 have key:∀ s,Nr nP s->False:=λs h=>by
  induction h with
  | mk p hp _ ih =>
   simp only [nP,U1,List.not_mem_nil,or_false] at hp
   rcases hp with rfl | rfl | rfl
   ·exact ih 4 (by simp)
   ·exact ih 4 (by simp)
   ·exact ih 2 (by simp)
 refine ⟨rfl,λi=>⟨λh=>?_,λh=>(key _ h).elim⟩⟩
 match i with
 | 0=>cases h
 | 1=>cases h
 | i + 2=>simp [cr,Qx] at h
def T7:List (List Int):=[[0,1],[1]]
def T8:List (List Int):=[[0,1],[0,1]]
def T9:List eJ:=(ox nP Ha).map (NX nP T8)
def TG (q t:Nat):List ax:=JZ Ha q t ++ Ld Ha q t ++ GD T9 q t
theorem uK:Qo (AF nP Qx Ha) (BW nP Ha) T7 5 = true/\Qo (yU nP Qx Ha) T7 T8 5 = true/\(Om TG 5 3 1).flatMap (yq nP) = []/\bu nP 1 1 = 2/\aZ nP 2 [⟨1,6⟩,⟨2,1⟩] = ([⟨1,6⟩,⟨2,1⟩],false)/\Ha.length = 5:=by decide +kernel
theorem T_:OZ nP Qx Ha = T7:=(JY uK.1).symm
theorem Ua:JT nP Qx Ha = T8:=by
 unfold JT
 rw [T_]
 exact (JY uK.2.1).symm
theorem Ub:cq nP Qx Ha = T9:=by
 unfold cq T9
 rw [Ua]
 exact VX λb _=>NY _ _ _
theorem Uc (q t:Nat):bf nP Qx Ha q t = TG q t:=by unfold bf TG; rw [Ub]
theorem Ud (least:Nat):bR nP Qx Ha least = Om TG 5 3 least:=by
 unfold bR dJ fl cellAt Om
 rw [uK.2.2.2.2.2]
 simp only [Uc]
 rfl
theorem Iz {ss:List SQ} {a i f:Int} (h:r_ nP ss a i f):f = 0/\bm ss = bm Ha/\ss.map (·.1.2) = Ha.map (·.1.2):=by
 rcases h with ⟨hn,_⟩ | ⟨_,hbig,_⟩ | ⟨_,hA,_,_,rfl⟩
 ·exact absurd xV hn
 ·exact (Am Kf hbig).elim
 ·have e5:=FL hA.dn Kf
  have hl:(dI nP 5).1.length = (dI nP 5).2.length:=by decide +kernel
  refine ⟨rfl,?_,?_⟩
  ·rw [hA.es,e5]
   unfold Ha bm
   rw [Wi]
   show _ = ((dI nP 5).1.zip (dI nP 5).2).map Prod.snd
   rw [List.map_snd_zip (by omega)]
  ·show dg ss = _
   rw [hA.ks,e5]
   unfold Ha
   rw [Wi]
   show _ = ((dI nP 5).1.zip (dI nP 5).2).map Prod.fst
   rw [List.map_fst_zip (by omega)]
theorem Oz {ss:List SQ} {nn:List Bool} {a i f:Int} (h:r_ nP ss a i f) (hn:ur nP nn):lX nP nn ss = []:=by
 obtain ⟨_,h1,h2⟩:=Iz h
 rw [hn.inj Su,Qw h1 h2]
 unfold lX
 rw [Ud]
 exact uK.2.2.1
end Go.V
namespace Go.Proofs.YtndaepmjkbmjmaaGreatDoor
variable {w:WB} {L:List au} {g:ae} {x:GA}
theorem Ln {k:Nat} {p:Value} (r:av (hp w) (aM k) [p,.slice none 0 0]):ay Tryz.prog mK [.pointer (some (aM k))] w λv w'=>v = .string .empty/\Gr w w':=by
 refine lA λw1 hd=>?_
 have g1:Gr w w1:=Gr.drawn hd
 have c1:w1.cell? ((aM k).add 1) = some (.slice none 0 0):=r.cell g1 (j:=1) rfl
 refine ⟨λu=>w1 = u,rfl,?_⟩
 show ∃ o1 k1 k2,_
 refine ⟨none,0,0,by rintro _ rfl; exact c1,?_⟩
 show ∃ o2 k3 k4,_
 refine ⟨none,0,0,by rintro _ rfl; exact c1,⟨_,w1,Lib.run_unsafeSliceData_nil _ _ _ 0 0,Ev.refl _,none,rfl,rfl,⟨_,w1,Lib.run_unsafeString_none _ _ _ _ none,Ev.refl _,.empty,rfl,rfl,rfl,g1⟩⟩⟩
theorem Lo (hg:gR (hp w) g x) (hb:iq g) (ht:dy (hp w)) (hz:∀ ss ask int nn,r_ g ss ask int 0->ur g nn->lX g nn ss = []):ay Tryz.prog xO [.agg ⟨x.cells⟩] w λv w'=>∃ f:Int,v = .tuple #[.string .empty,.int .i64 f]/\(∃ ss a i,r_ g ss a i f)/\Gr w w':=by
 refine uJ (cN hg λk1 w1 gw hg1 B=>?_)
 refine ⟨_,_,_,_,_,_,_,_,_,_,_,_,_,B.row (sub.refl _),(Bg hg1 hb (fb.mono gw ht)).mono ?_⟩
 rintro _ w2 ⟨ss,ask,int,f,nn,oa,ca,og,cg,oc,cc,AL,GL,CL,rfl,hR,hn,_,_,hCL,h⟩
 have g12:Gr w1 w2:=bj 6 h.l
 clear h
 refine ⟨_,_,_,_,_,_,_,_,_,_,rfl,af (St.all w2) λk16 w3 h=>aI h rfl (by simp [aH]) λw4 h=>?_⟩
 have g24:Gr w2 w4:=h.aR
 have r16:av (hp w4) (aM k16) [.slice oa AL.length ca,.slice og GL.length cg,.slice oc CL.length cc]:=ag 0 h.l
 clear h
 have g14:=g12.trans g24
 refine aa (λh1=>⟨f,rfl,⟨ss,ask,int,hR⟩,gw.trans g14⟩) λh1=>?_
 have h1:f = 0:=by simpa using h1
 subst h1
 have hC0:CL = []:=by
  have e:=congrArg List.length hCL
  rw [hz ss ask int nn hR (hn rfl),UQ] at e
  exact UU e
 subst hC0
 refine ⟨_,_,_,_,_,_,_,_,_,_,_,_,_,B.row g14,(nD (hg1.mono g14) hb).mono ?_⟩
 rintro _ w5 ⟨oA,cA,ss2,ask2,int2,f2,rfl,hR2,h5⟩
 have g45:Gr w4 w5:=bj 3 h5.l
 clear h5
 refine ⟨_,_,_,_,_,_,rfl,af (St.all w5) λk27 w6 h6=>aI h6 rfl (by simp [aH]) λw7 h7=>af h7 λk28 w8 h8=>?_⟩
 have g58:Gr w5 w8:=bj 2 h8.l
 have r28:av (hp w8) (aM k28) [.pointer none,.slice none 0 0]:=ag 0 h8.l
 clear h6 h7 h8
 have g48:=g45.trans g58
 refine ⟨_,_,_,r16.cell g48 (j:=2) rfl,λz u=>z = 0/\w8 = u,λ_ _=>0,⟨rfl,rfl⟩,?_⟩
 rintro _ _ _ ⟨rfl,rfl⟩
 refine d_ rfl ((Ln r28).mono ?_)
 rintro _ w9 ⟨rfl,g9⟩
 exact ⟨_,rfl,0,rfl,⟨ss,ask,int,hR⟩,gw.trans (g14.trans (g48.trans g9))⟩
theorem Lp:ay Tryz.prog q_ [] w λv w'=>∃ x:GA,v = .agg ⟨x.cells⟩/\gR (hp w') nP x/\Gr w w':=by
 refine oO ?_
 refine af (St.all w) λk1 w1 h=>af h λk2 w2 h=>af h λk3 w3 h=>af h λk4 w4 h=>af h λk5 w5 h=>af h λk6 w6 h=>af h λk7 w7 h=>af h λk8 w8 h=>aI (h.pick 8 [7,0,1,2,3,4,5,6]) rfl (by intro v hv; simp at hv; rcases hv with rfl | rfl | rfl | rfl | rfl <;> rfl) λw9 h=>?_
 have r1:av (hp w9) ⟨k1,0,none⟩ _:=ag 0 h.l
 have r8:av (hp w9) ⟨k8,0,none⟩ _:=ag 1 h.l
 have r7:av (hp w9) ⟨k7,0,none⟩ _:=ag 2 h.l
 have r6:av (hp w9) ⟨k6,0,none⟩ _:=ag 3 h.l
 have r5:av (hp w9) ⟨k5,0,none⟩ _:=ag 4 h.l
 have r4:av (hp w9) ⟨k4,0,none⟩ _:=ag 5 h.l
 have r3:av (hp w9) ⟨k3,0,none⟩ _:=ag 6 h.l
 have r2:av (hp w9) ⟨k2,0,none⟩ _:=ag 7 h.l
 have g9:Gr w w9:=bj 8 h.l
 clear h
 have p5:aX (hp w9) ([4] : List Int) (some ⟨k5,0,none⟩) 1:=dO rfl (.inr ⟨_,rfl,r5⟩)
 have p6:aX (hp w9) ([4,1,4] : List Int) (some ⟨k6,0,none⟩) 3:=dO rfl (.inr ⟨_,rfl,r6⟩)
 have p7:aX (hp w9) ([2] : List Int) (some ⟨k7,0,none⟩) 1:=dO rfl (.inr ⟨_,rfl,r7⟩)
 refine ⟨_,_,_,_,_,_,_,_,_,_,_,_,_,r1.at (sub.refl _) rfl,⟨some ⟨k2,0,none⟩,3,3,some ⟨k3,0,none⟩,2,2,some ⟨k4,0,none⟩,1,1,4,some ⟨k8,0,none⟩,3,3⟩,rfl,⟨?_,?_,?_,rfl,?_,U2 _,U2 _,U2 _,U2 _⟩,g9⟩
 ·refine F1 (xs:=nP.terms) r2 λi t hi=>?_
  match i,hi with
  | 0,hi=>cases hi; rfl
  | 1,hi=>cases hi; rfl
  | 2,hi=>cases hi; rfl
  | i + 3,hi=>cases hi
 ·exact dN (xs:=nP.nons) rfl (.inr ⟨_,rfl,r3⟩)
 ·exact dN (xs:=nP.levels) rfl (.inr ⟨_,rfl,r4⟩)
 ·refine F1 (xs:=nP.prods) r8 λi t hi=>?_
  match i,hi with
  | 0,hi=>cases hi; exact ⟨_,_,_,rfl,by decide,p5⟩
  | 1,hi=>cases hi; exact ⟨_,_,_,rfl,by decide,p6⟩
  | 2,hi=>cases hi; exact ⟨_,_,_,rfl,by decide,p7⟩
  | i + 3,hi=>cases hi
theorem nQ (ht:dy (hp w)):ay Tryz.prog q8 [] w λv w'=>v = .bool true/\Gr w w':=by
 refine oJ (Lp.mono ?_)
 rintro _ w1 ⟨y,rfl,hy,g1⟩
 refine ⟨_,_,_,_,_,_,_,_,_,_,_,_,_,rfl,af (St.all w1) λk9 w2 h=>aI h rfl (by intro v hv; simp at hv; rcases hv with rfl | rfl | rfl | rfl | rfl <;> rfl) λw3 h=>?_⟩
 have g13:Gr w1 w3:=h.aR
 have B:GB (hp w3) k9 y:=Jl (ag 0 h.l)
 clear h
 have hy:=hy.mono g13
 have gw3:=g1.trans g13
 refine ⟨_,_,_,_,_,_,_,_,_,_,_,_,_,B.row (sub.refl _),(EE (p:=1) (t:=1) hy Ke).mono ?_⟩
 rintro _ w4 ⟨z,f,rfl,hS,g34⟩
 obtain ⟨rfl,rfl⟩ : z = 2/\f = 0:=by
  rcases hS with ⟨h,_⟩ | ⟨_,i,j,hi,hj,_,_,rfl,rfl⟩
  ·exact absurd ⟨xV,by decide,by decide,by decide,by decide⟩ h
  ·obtain rfl:i = 1:=by omega
   obtain rfl:j = 1:=by omega
   exact ⟨uK.2.2.2.1,rfl⟩
 refine ⟨_,_,rfl,_,_,_,_,_,_,_,_,_,_,_,_,_,B.row g34,af (St.all w4) λk26 w5 h=>?_⟩
 have g45:Gr w4 w5:=h.aR
 have hr:aX (hp w5) ([⟨1,6⟩,⟨2,1⟩] : List ax) (some (aM k26)) 2:=kA rfl (.inr ⟨_,rfl,ag 0 h.l⟩)
 clear h
 have g35:=g34.trans g45
 refine (Ot (xs:=[⟨1,6⟩,⟨2,1⟩]) (st:=0) (t:=2) (hy.mono g35) Ke hr (by decide) (by decide)).mono ?_
 rintro _ w6 ⟨ac,l,e,o,c',rfl,hC,h6⟩
 have g56:Gr w5 w6:=bj 1 h6.l
 clear h6
 obtain ⟨rfl,rfl,rfl⟩ : ac = ⟨1,6⟩/\l = [⟨1,6⟩,⟨2,1⟩]/\e = 0:=by
  rcases hC with ⟨h,_⟩ | ⟨_,_,j,hj,_,rfl,rfl,rfl⟩
  ·exact absurd ⟨xV,by decide,by decide,by decide⟩ h
  ·obtain rfl:j = 2:=by omega
   rw [uK.2.2.2.2.1]
   exact ⟨rfl,rfl,rfl⟩
 refine ⟨_,_,_,_,_,_,rfl,af (St.all w6) λk29 w7 h=>aI h rfl (by simp [aH]) λw8 h=>?_⟩
 have g68:Gr w6 w8:=h.aR
 have r29:av (hp w8) (aM k29) [.int .i64 1,.int .i64 6]:=ag 0 h.l
 clear h
 have g38:=g35.trans (g56.trans g68)
 refine ⟨_,_,_,_,_,_,_,_,_,_,_,_,_,B.row g38,(Bg (hy.mono g38) Ke (fb.mono (gw3.trans g38) ht)).mono ?_⟩
 rintro _ w9 ⟨ss,ask,int,f,nn,oa,ca,og,cg,oc,cc,AL,GL,CL,rfl,hR,hn,hAL,_,hCL,h⟩
 have g89:Gr w8 w9:=bj 6 h.l
 clear h
 obtain ⟨rfl,hes,hks⟩:=Iz hR
 have hC0:CL = []:=by
  have e:=congrArg List.length hCL
  rw [Oz hR (hn rfl),UQ] at e
  exact UU e
 subst hC0
 have hAl:AL.length = 5:=by
  have e:=congrArg List.length hAL
  rw [UQ] at e
  rw [e]
  unfold Ey
  rw [UQ,VF,Az hes,uK.2.2.2.2.2]
 refine ⟨_,_,_,_,_,_,_,_,_,_,rfl,af (St.all w9) λk44 w10 h=>aI h rfl (by simp [aH]) λw11 h=>?_⟩
 have g911:Gr w9 w11:=h.aR
 have r44:av (hp w11) (aM k44) [.slice oa AL.length ca,.slice og GL.length cg,.slice oc 0 cc]:=ag 0 h.l
 clear h
 have g311:=g38.trans (g89.trans g911)
 refine ⟨_,_,_,_,_,_,_,_,_,_,_,_,_,B.row g311,(Lo (hy.mono g311) Ke (fb.mono (gw3.trans g311) ht) λss ask int nn h h'=>Oz h h').mono ?_⟩
 rintro _ w12 ⟨f,rfl,⟨ss3,a3,i3,hR3⟩,g12⟩
 obtain ⟨rfl,_,_⟩:=Iz hR3
 have g812:Gr w8 w12:=g89.trans (g911.trans g12)
 refine ⟨_,_,rfl,dZ rfl (dZ rfl (dZ rfl (dZ rfl (dZ rfl ⟨_,r29.cell0 g812,dZ rfl ⟨_,r29.cell g812 (j:=1) rfl,dZ rfl (dZ rfl ⟨_,_,_,r44.cell0 g12,dZ (by rw [hAl]; rfl) ⟨_,_,_,r44.cell g12 (j:=2) rfl,dZ rfl ⟨by rw [vn]; rfl,gw3.trans (g311.trans g12)⟩⟩⟩)⟩⟩))))⟩
abbrev tw:FuncId:=32
def pG:bh:={ rngs:=[],loops:=[],joins:=[(3,[(34,(.one .bool))])],blocks:=[] }
theorem pH {a:WA} {b c:Nat} {d:WA} {e f:Nat} {g:WA} {i j:Nat} {k:Int} {l:WA} {m n:Nat} {o p:Int} {w:WB} {R:Value->WP} (h:new w (oC [vS a b c,vS d e f,vS g i j,iI k,vS l m n] 27) λk1 w1=>∃ o1 k2 k3 o2 k4 k5 o3 k6 k7 n1 o4 k8 k9,rA w1 (aM k1) 5 [vS o1 k2 k3,vS o2 k4 k5,vS o3 k6 k7,iI n1,vS o4 k8 k9]/\rE 39 [vG [vS o1 k2 k3,vS o2 k4 k5,vS o3 k6 k7,iI n1,vS o4 k8 k9]] w1 λv1 w2=>∃ b1,v1 = vB b1/\∃ (x1:lP [(34,oV)]),br (!b1) (x1 true w2) (br (decide (o < 0)) (x1 true w2) (∃ o5 k10 k11,cL w2 (Addr.add (aM k1) 4) (vS o5 k10 k11)/\br (decide ((k10:Int)<=o)) (x1 true w2) (br (decide (p < 0)) (x1 true w2) (∃ o6 k12 k13,cL w2 (aM k1) (vS o6 k12 k13)/\x1 (decide ((k12:Int)<=p)) w2))))/\∀ (I1:Nat->Value) (b2:Bool) (w3:WB),x1 b2 w3->br b2 (R (vU [iI 0,iI 1]) w3) (∃ o7 k14 k15 o8 k16 k17 o9 k18 k19 n2 o10 k20 k21,rA w3 (aM k1) 5 [vS o7 k14 k15,vS o8 k16 k17,vS o9 k18 k19,iI n2,vS o10 k20 k21]/\rE 66 [vG [vS o7 k14 k15,vS o8 k16 k17,vS o9 k18 k19,iI n2,vS o10 k20 k21],iI o,iI p] w3 λv2 w4=>∃ n3,v2 = iI n3/\R (vU [iI n3,iI 0]) w4)):ay Tryz.prog 32 [(.agg #[(.slice a b c),(.slice d e f),(.slice g i j),(.int .i64 k),(.slice l m n)]),(.int .i64 o),(.int .i64 p)] w R:=rv Tryz.func32 pG (by kernel_rfl) h
abbrev tz:FuncId:=34
def pI:bh:={ rngs:=[],loops:=[],joins:=[(3,[(28,(.one .bool))])],blocks:=[] }
theorem pJ {a:WA} {b c:Nat} {d:WA} {e f:Nat} {g:WA} {i j:Nat} {k:Int} {l:WA} {m n:Nat} {o p:Int} {q:WA} {s t:Nat} {w:WB} {R:Value->WP} (h:new w (oC [vS a b c,vS d e f,vS g i j,iI k,vS l m n] 27) λk1 w1=>new w1 (oC [iI o,iI p,vS q s t] 60) λk2 w2=>new w2 (oC [iI 0,iI 0] 62) λk3 w3=>∃ o1 k4 k5 o2 k6 k7 o3 k8 k9 n1 o4 k10 k11,rA w3 (aM k1) 5 [vS o1 k4 k5,vS o2 k6 k7,vS o3 k8 k9,iI n1,vS o4 k10 k11]/\rE 39 [vG [vS o1 k4 k5,vS o2 k6 k7,vS o3 k8 k9,iI n1,vS o4 k10 k11]] w3 λv1 w4=>∃ b1,v1 = vB b1/\∃ (x1:lP [(28,oV)]),br (!b1) (x1 true w4) (∃ n2,cL w4 (Addr.add (aM k2) 1) (iI n2)/\br (decide (n2 < 0)) (x1 true w4) (∃ n3,cL w4 (Addr.add (aM k2) 1) (iI n3)/\∃ o5 k12 k13,cL w4 (aM k1) (vS o5 k12 k13)/\x1 (decide ((k12:Int)<=n3)) w4))/\∀ (I1:Nat->Value) (b2:Bool) (w5:WB),x1 b2 w5->br b2 (cH w5 (aM k3) [iI 0,iI 0] λw6=>∃ n4 n5,rA w6 (aM k3) 2 [iI n4,iI n5]/\R (vU [vG [iI n4,iI n5],vS none 0 0,iI 1]) w6) (∃ o6 k14 k15 o7 k16 k17 o8 k18 k19 n6 o9 k20 k21,rA w5 (aM k1) 5 [vS o6 k14 k15,vS o7 k16 k17,vS o8 k18 k19,iI n6,vS o9 k20 k21]/\∃ o10 k22 k23,cL w5 (Addr.add (aM k2) 2) (vS o10 k22 k23)/\rE 69 [vG [vS o6 k14 k15,vS o7 k16 k17,vS o8 k18 k19,iI n6,vS o9 k20 k21],vS o10 k22 k23] w5 λv2 w7=>∃ b3,v2 = vB b3/\br (!b3) (cH w7 (aM k3) [iI 0,iI 0] λw8=>∃ n7 n8,rA w8 (aM k3) 2 [iI n7,iI n8]/\R (vU [vG [iI n7,iI n8],vS none 0 0,iI 1]) w8) (∃ o11 k24 k25 o12 k26 k27 o13 k28 k29 n9 o14 k30 k31,rA w7 (aM k1) 5 [vS o11 k24 k25,vS o12 k26 k27,vS o13 k28 k29,iI n9,vS o14 k30 k31]/\∃ n10,cL w7 (Addr.add (aM k2) 1) (iI n10)/\∃ o15 k32 k33,cL w7 (Addr.add (aM k2) 2) (vS o15 k32 k33)/\rE 70 [vG [vS o11 k24 k25,vS o12 k26 k27,vS o13 k28 k29,iI n9,vS o14 k30 k31],iI n10,vS o15 k32 k33] w7 λv3 w9=>∃ o16 k34 k35 b4,v3 = vU [vS o16 k34 k35,vB b4]/\rE 71 [vS o16 k34 k35,vB b4] w9 λv4 w10=>∃ n11 n12,v4 = vG [iI n11,iI n12]/\new w10 (oC [iI 0,iI 0] 62) λk36 w11=>cH w11 (aM k36) [iI n11,iI n12] λw12=>br (decide ((k34:Int) < 2)) (∃ n13 n14,rA w12 (aM k36) 2 [iI n13,iI n14]/\cH w12 (aM k3) [iI n13,iI n14] λw13=>∃ n15 n16,rA w13 (aM k3) 2 [iI n15,iI n16]/\R (vU [vG [iI n15,iI n16],vS none 0 0,iI 0]) w13) (∃ n17 n18,rA w12 (aM k36) 2 [iI n17,iI n18]/\cH w12 (aM k3) [iI n17,iI n18] λw14=>∃ n19 n20,rA w14 (aM k3) 2 [iI n19,iI n20]/\R (vU [vG [iI n19,iI n20],vS o16 k34 k35,iI 0]) w14)))):ay Tryz.prog 34 [(.agg #[(.slice a b c),(.slice d e f),(.slice g i j),(.int .i64 k),(.slice l m n)]),(.agg #[(.int .i64 o),(.int .i64 p),(.slice q s t)])] w R:=rv Tryz.func34 pI (by kernel_rfl) h
abbrev lB:FuncId:=35
def jU:bh:={ rngs:=[],loops:=[(4,[(5,(.one (.int .i64)))])],joins:=[],blocks:=[] }
theorem jV {a:WA} {b c:Nat} {d:WA} {e f:Nat} {w:WB} {R:Value->WP} (h:br ((b:Int) != (e:Int)) (R (vB false) w) (∃ (x1:lP [(5,aD)]),∃ (x2:lN [(5,aD)]),x1 0 w/\∀ (I1:Nat->Value) (n1:Int) (w1:WB),x1 n1 w1->br (decide (n1 < (b:Int))) (∀ w2,drawn w1 w2->∃ (I2:WP),I2 w2/\idx a b n1 2 λa1=>∃ n2 n3,(∀ w3,I2 w3->rA w3 a1 2 [iI n2,iI n3])/\idx d e n1 2 λa2=>∃ n4 n5,(∀ w4,I2 w4->rA w4 a2 2 [iI n4,iI n5])/\∃ v1,(∀ w5,I2 w5->Sem.run Proofs.Tryz.prog (fu BinOp.neq 62 (Operand.tmp 20) (Operand.tmp 24) (vG [iI n2,iI n3]) (vG [iI n4,iI n5])) w5 = Result.ok v1 w5)/\∃ b1,v1 = vB b1/\br b1 (R (vB false) w2) (aw (n1 + 1)/\x1 (n1 + 1) w2/\x2 (n1 + 1) w2 < x2 n1 w1)) (R (vB true) w1))):ay Tryz.prog 35 [(.slice a b c),(.slice d e f)] w R:=rv Tryz.func35 jU (by kernel_rfl) h
abbrev mL:FuncId:=41
def lC:bh:={ rngs:=[],loops:=[(4,[(5,(.one (.int .i64)))])],joins:=[],blocks:=[] }
theorem lD {a:WA} {b c:Nat} {d:WA} {e f:Nat} {w:WB} {R:Value->WP} (h:br ((b:Int) != (e:Int)) (R (vB false) w) (∃ (x1:lP [(5,aD)]),∃ (x2:lN [(5,aD)]),x1 0 w/\∀ (I1:Nat->Value) (n1:Int) (w1:WB),x1 n1 w1->br (decide (n1 < (b:Int))) (∀ w2,drawn w1 w2->∃ (I2:WP),I2 w2/\idx a b n1 3 λa1=>∃ o1 k1 k2,(∀ w3,I2 w3->cL w3 (Addr.add a1 2) (vS o1 k1 k2))/\idx d e n1 3 λa2=>∃ o2 k3 k4,(∀ w4,I2 w4->cL w4 (Addr.add a2 2) (vS o2 k3 k4))/\rE 35 [vS o1 k1 k2,vS o2 k3 k4] w2 λv1 w5=>∃ b1,v1 = vB b1/\I2 w5/\∀ w6,drawn w5 w6->∃ (I3:WP),I3 w6/\br (!b1) (R (vB false) w6) (idx a b n1 3 λa3=>∃ n2,(∀ w7,I3 w7->cL w7 a3 (iI n2))/\idx d e n1 3 λa4=>∃ n3,(∀ w8,I3 w8->cL w8 a4 (iI n3))/\br (n2 != n3) (R (vB false) w6) (idx a b n1 3 λa5=>∃ n4,(∀ w9,I3 w9->cL w9 (Addr.add a5 1) (iI n4))/\idx d e n1 3 λa6=>∃ n5,(∀ w10,I3 w10->cL w10 (Addr.add a6 1) (iI n5))/\br (n4 != n5) (R (vB false) w6) (aw (n1 + 1)/\x1 (n1 + 1) w6/\x2 (n1 + 1) w6 < x2 n1 w1)))) (R (vB true) w1))):ay Tryz.prog 41 [(.slice a b c),(.slice d e f)] w R:=rv Tryz.func41 lC (by kernel_rfl) h
abbrev tA:FuncId:=66
def pK:bh:={ rngs:=[],loops:=[],joins:=[],blocks:=[] }
theorem pM {a:WA} {b c:Nat} {d:WA} {e f:Nat} {g:WA} {i j:Nat} {k:Int} {l:WA} {m n:Nat} {o p:Int} {w:WB} {R:Value->WP} (h:new w (oC [vS a b c,vS d e f,vS g i j,iI k,vS l m n] 27) λk1 w1=>∃ o1 k2 k3,cL w1 (Addr.add (aM k1) 4) (vS o1 k2 k3)/\idx o1 k2 o 3 λa1=>∃ n1,cL w1 (Addr.add a1 2) (iI n1)/\∃ o2 k4 k5,cL w1 (aM k1) (vS o2 k4 k5)/\idx o2 k4 p 2 λa2=>∃ n2,cL w1 (Addr.add a2 1) (iI n2)/\br (n1 == 0) (R (iI 0) w1) (br (n2 == 0) (R (iI 0) w1) (br (decide (n2 < n1)) (R (iI 2) w1) (br (decide (n1 < n2)) (R (iI 1) w1) (∃ o3 k6 k7,cL w1 (Addr.add (aM k1) 2) (vS o3 k6 k7)/\aw (n1 - 1)/\idx o3 k6 (n1 - 1) 1 λa3=>∃ n3,cL w1 a3 (iI n3)/\br (n3 == 1) (R (iI 2) w1) (br (n3 == 2) (R (iI 1) w1) (R (iI 3) w1))))))):ay Tryz.prog 66 [(.agg #[(.slice a b c),(.slice d e f),(.slice g i j),(.int .i64 k),(.slice l m n)]),(.int .i64 o),(.int .i64 p)] w R:=rv Tryz.func66 pK (by kernel_rfl) h
abbrev tB:FuncId:=70
def pO:bh:={ rngs:=[],loops:=[(6,[(10,(.one .bool)),(11,(.one .bool)),(12,(.one (.int .i64)))]),(13,[(8,(.one .slice)),(14,(.one (.int .i64)))])],joins:=[(3,[(9,(.one .bool))]),(18,[(15,(.one .bool))]),(21,[(15,(.one .bool))])],blocks:=[] }
theorem pQ {a:WA} {b c:Nat} {d:WA} {e f:Nat} {g:WA} {i j:Nat} {k:Int} {l:WA} {m n:Nat} {o:Int} {p:WA} {q s:Nat} {w:WB} {R:Value->WP} (h:new w (oC [vS a b c,vS d e f,vS g i j,iI k,vS l m n] 27) λk1 w1=>∃ (x1:lP [(9,oV)]),br (decide (0 < (q:Int))) (idx p q 0 2 λa1=>∃ n1,cL w1 a1 (iI n1)/\x1 (n1 == 1) w1) (x1 false w1)/\∀ (I1:Nat->Value) (b1:Bool) (w2:WB),x1 b1 w2->∃ (x2:lP [(10,oV),(11,oV),(12,aD)]),∃ (x3:lN [(10,oV),(11,oV),(12,aD)]),x2 true false 0 w2/\∀ (I2:Nat->Value) (b2 b3:Bool) (n2:Int) (w3:WB),x2 b2 b3 n2 w3->br (decide (n2 < (q:Int))) (idx p q n2 2 λa2=>∃ n3,cL w3 a2 (iI n3)/\br (n3 != 2) (aw (n2 + 1)/\x2 b2 b3 (n2 + 1) w3/\x3 b2 b3 (n2 + 1) w3 < x3 b2 b3 n2 w3) (br (!b1) (aw (n2 + 1)/\x2 b2 b3 (n2 + 1) w3/\x3 b2 b3 (n2 + 1) w3 < x3 b2 b3 n2 w3) (∀ w4,drawn w3 w4->∃ (I3:WP),I3 w4/\∃ o1 k2 k3 o2 k4 k5 o3 k6 k7 n4 o4 k8 k9,(∀ w5,I3 w5->rA w5 (aM k1) 5 [vS o1 k2 k3,vS o2 k4 k5,vS o3 k6 k7,iI n4,vS o4 k8 k9])/\idx p q n2 2 λa3=>∃ n5,(∀ w6,I3 w6->cL w6 (Addr.add a3 1) (iI n5))/\rE 66 [vG [vS o1 k2 k3,vS o2 k4 k5,vS o3 k6 k7,iI n4,vS o4 k8 k9],iI n5,iI o] w4 λv1 w7=>∃ n6,v1 = iI n6/\I3 w7/\br b2 (br (n6 != 2) (br b3 (aw (n2 + 1)/\x2 (n6 != 3) true (n2 + 1) w7/\x3 (n6 != 3) true (n2 + 1) w7 < x3 b2 b3 n2 w3) (aw (n2 + 1)/\x2 (n6 != 3) (n6 == 3) (n2 + 1) w7/\x3 (n6 != 3) (n6 == 3) (n2 + 1) w7 < x3 b2 b3 n2 w3)) (br b3 (aw (n2 + 1)/\x2 false true (n2 + 1) w7/\x3 false true (n2 + 1) w7 < x3 b2 b3 n2 w3) (aw (n2 + 1)/\x2 false (n6 == 3) (n2 + 1) w7/\x3 false (n6 == 3) (n2 + 1) w7 < x3 b2 b3 n2 w3))) (br b3 (aw (n2 + 1)/\x2 false true (n2 + 1) w7/\x3 false true (n2 + 1) w7 < x3 b2 b3 n2 w3) (aw (n2 + 1)/\x2 false (n6 == 3) (n2 + 1) w7/\x3 false (n6 == 3) (n2 + 1) w7 < x3 b2 b3 n2 w3))))) (∃ (x4:lP [(8,mP),(14,aD)]),∃ (x5:lN [(8,mP),(14,aD)]),x4 none 0 0 0 w3/\∀ (I4:Nat->Value) (o5:WA) (k10 k11:Nat) (n7:Int) (w8:WB),x4 o5 k10 k11 n7 w8->br (decide (n7 < (q:Int))) (∃ (x6:lP [(15,oV)]),(idx p q n7 2 λa4=>∃ n8,cL w8 a4 (iI n8)/\br (n8 == 1) (x6 b2 w8) (x6 true w8))/\∀ (I5:Nat->Value) (b4:Bool) (w9:WB),x6 b4 w9->∃ (x7:lP [(15,oV)]),(idx p q n7 2 λa5=>∃ n9,cL w9 a5 (iI n9)/\br (n9 == 2) (br b1 (∀ w10,drawn w9 w10->∃ (I6:WP),I6 w10/\∃ o6 k12 k13 o7 k14 k15 o8 k16 k17 n10 o9 k18 k19,(∀ w11,I6 w11->rA w11 (aM k1) 5 [vS o6 k12 k13,vS o7 k14 k15,vS o8 k16 k17,iI n10,vS o9 k18 k19])/\idx p q n7 2 λa6=>∃ n11,(∀ w12,I6 w12->cL w12 (Addr.add a6 1) (iI n11))/\rE 66 [vG [vS o6 k12 k13,vS o7 k14 k15,vS o8 k16 k17,iI n10,vS o9 k18 k19],iI n11,iI o] w10 λv2 w13=>∃ n12,v2 = iI n12/\I6 w13/\br (n12 == 0) (x7 true w13) (x7 (n12 == 2) w13)) (x7 b4 w9)) (x7 b4 w9))/\∀ (I7:Nat->Value) (b5:Bool) (w14:WB),x7 b5 w14->br b5 (idx p q n7 2 λa7=>∃ n13 n14,rA w14 a7 2 [iI n13,iI n14]/\new w14 (oC [iI n13,iI n14] 62) λk20 w15=>rS (jW 38 (Array.mk [vS o5 k10 k11,vS (some (aM k20)) 1 1])) w15 λv3 w16=>∃ o10 k21 k22,v3 = vS o10 k21 k22/\aw (n7 + 1)/\x4 o10 k21 k22 (n7 + 1) w16/\x5 o10 k21 k22 (n7 + 1) w16 < x5 o5 k10 k11 n7 w8) (aw (n7 + 1)/\x4 o5 k10 k11 (n7 + 1) w14/\x5 o5 k10 k11 (n7 + 1) w14 < x5 o5 k10 k11 n7 w8)) (R (vU [vS o5 k10 k11,vB b3]) w8))):ay Tryz.prog 70 [(.agg #[(.slice a b c),(.slice d e f),(.slice g i j),(.int .i64 k),(.slice l m n)]),(.int .i64 o),(.slice p q s)] w R:=rv Tryz.func70 pO (by kernel_rfl) h
abbrev tC:FuncId:=71
def pR:bh:={ rngs:=[],loops:=[],joins:=[],blocks:=[] }
theorem pU {a:WA} {b c:Nat} {d:Bool} {w:WB} {R:Value->WP} (h:new w (oC [iI 0,iI 0] 62) λk1 w1=>br (decide (0 < (b:Int))) (idx a b 0 2 λa1=>∃ n1 n2,rA w1 a1 2 [iI n1,iI n2]/\cH w1 (aM k1) [iI n1,iI n2] λw2=>∃ n3 n4,rA w2 (aM k1) 2 [iI n3,iI n4]/\R (vG [iI n3,iI n4]) w2) (br d (cH w1 (aM k1) [iI 4,iI 0] λw3=>∃ n5 n6,rA w3 (aM k1) 2 [iI n5,iI n6]/\R (vG [iI n5,iI n6]) w3) (cH w1 (aM k1) [iI 0,iI 0] λw4=>∃ n7 n8,rA w4 (aM k1) 2 [iI n7,iI n8]/\R (vG [iI n7,iI n8]) w4))):ay Tryz.prog 71 [(.slice a b c),(.bool d)] w R:=rv Tryz.func71 pR (by kernel_rfl) h
abbrev uL:FuncId:=69
def rh:bh:={ rngs:=[],loops:=[(3,[(5,(.one (.int .i64))),(6,(.one (.int .i64)))])],joins:=[],blocks:=[] }
theorem ri {a:WA} {b c:Nat} {d:WA} {e f:Nat} {g:WA} {i j:Nat} {k:Int} {l:WA} {m n:Nat} {o:WA} {p q:Nat} {w:WB} {R:Value->WP} (h:new w (oC [vS a b c,vS d e f,vS g i j,iI k,vS l m n] 27) λk1 w1=>∃ (x1:lP [(5,aD),(6,aD)]),∃ (x2:lN [(5,aD),(6,aD)]),x1 0 0 w1/\∀ (I1:Nat->Value) (n1 n2:Int) (w2:WB),x1 n1 n2 w2->br (decide (n2 < (p:Int))) (idx o p n2 2 λa1=>∃ n3 n4,rA w2 a1 2 [iI n3,iI n4]/\new w2 (oC [iI 0,iI 0] 62) λk2 w3=>cH w3 (aM k2) [iI n3,iI n4] λw4=>∃ n5,cL w4 (aM k2) (iI n5)/\br (n5 == 1) (∃ n6,cL w4 (Addr.add (aM k2) 1) (iI n6)/\br (decide (n6 < 0)) (R (vB false) w4) (br (decide (1<=n1)) (R (vB false) w4) (x1 1 (Kl (n2 + 1)) w4/\x2 1 (Kl (n2 + 1)) w4 < x2 n1 n2 w2))) (br (n5 == 3) (∃ n7,cL w4 (Addr.add (aM k2) 1) (iI n7)/\br (n7 != 0) (R (vB false) w4) (br (decide (2<=n1)) (R (vB false) w4) (x1 2 (Kl (n2 + 1)) w4/\x2 2 (Kl (n2 + 1)) w4 < x2 n1 n2 w2))) (br (n5 == 2) (∃ n8,cL w4 (Addr.add (aM k2) 1) (iI n8)/\∃ n9,cL w4 (Addr.add (aM k2) 1) (iI n9)/\br (decide (n9 < 1)) (R (vB false) w4) (∃ n10,cL w4 (Addr.add (aM k2) 1) (iI n10)/\∃ o1 k3 k4,cL w4 (Addr.add (aM k1) 4) (vS o1 k3 k4)/\br (decide ((k3:Int)<=n10)) (R (vB false) w4) (br (decide (Kl (2 + n8)<=n1)) (R (vB false) w4) (x1 (Kl (2 + n8)) (Kl (n2 + 1)) w4/\x2 (Kl (2 + n8)) (Kl (n2 + 1)) w4 < x2 n1 n2 w2)))) (br (decide (0<=n1)) (R (vB false) w4) (x1 0 (Kl (n2 + 1)) w4/\x2 0 (Kl (n2 + 1)) w4 < x2 n1 n2 w2))))) (R (vB true) w2)):ay Tryz.prog 69 [(.agg #[(.slice a b c),(.slice d e f),(.slice g i j),(.int .i64 k),(.slice l m n)]),(.slice o p q)] w R:=Ur Tryz.func69 rh (by kernel_rfl) h
end Go.Proofs.YtndaepmjkbmjmaaGreatDoor
namespace Go.V
section
variable {g:ae}
def Sv (g:ae) (t:Nat) (l:List ax):List ax:=l.filter λx=>if x.kind = 1 then l.all (oH g t) else nW g t x
theorem Kg {t:Nat} {x:ax} (h:x.kind≠2):oH g t x = true:=by
 unfold oH nN; rw [UN h]; decide
theorem Qy {t:Nat} {x:ax} (h:x.kind≠2):nW g t x = true:=by
 unfold nW nN; rw [UN h]; decide
theorem Kh {t:Nat} {x:ax} (h:x.kind≠2):te g t x = false:=by
 unfold te nN; rw [UN h]; decide
theorem Qz {n t:Nat} {y:ax} {r:List ax} (ho:ly n (y :: r)) (hk:y.kind = 1):(Sv g t (y :: r),(y :: r).any (te g t)) = aZ g t (y :: r):=by
 rw [ic hk]
 have h2:oH g t y = true:=Kg (by omega)
 have h3:te g t y = false:=Kh (by omega)
 have e1:(y :: r).all (oH g t) = r.all (oH g t):=by rw [List.all_cons,h2]; rfl
 have e2:(y :: r).any (te g t) = r.any (te g t):=by rw [List.any_cons,h3]; rfl
 rw [e2]
 congr 1
 unfold Sv
 rw [e1]
 have e3:r.filter (λx=>if x.kind = 1 then r.all (oH g t) else nW g t x) = r.filter (nW g t):=V9 λx hx=>by rw [UN (N9 ho hx)]
 by_cases h:r.all (oH g t) = true
 ·rw [US h,VO (by rw [US hk]; exact h),e3]; rfl
 ·rw [UN h,VP (by rw [US hk]; exact h),e3]; rfl
end
end Go.V
namespace Go.Proofs.YtndaepmjkbmjmaaGreatDoor
variable {w:WB} {L:List au} {g:ae} {x:GA}
theorem IA {p t:Nat} (hc:aq g) (hg:gR (hp w) g x) (hp1:p < g.prods.length) (ht:t < g.T):ay Tryz.prog tA [.agg ⟨x.cells⟩,.int .i64 (p:Int),.int .i64 (t:Int)] w λv w'=>v = .int .i64 (bu g p t)/\Gr w w':=by
 refine pM (cN hg λk1 w1 gw hg1 B=>?_)
 have pl:=hg1.p.1
 have tl:=hg1.t.1
 have ll:=hg1.l.1
 have eT:g.T = g.terms.length:=rfl
 obtain ⟨y,ad,_,_,_,hy,ha,ry,_,_⟩:=xU hg1.p (i:=p) (by omega)
 obtain ⟨z,ad2,hz,ha2,rz⟩:=xT hg1.t (i:=t) (by omega)
 have ep:uO g p = y.level:=by unfold uO; rw [hy]
 have et:It g t = z.level:=by unfold It; rw [hz]
 obtain ⟨p0,p1⟩:=Eu hc hy
 refine ⟨_,_,_,B.c4 (sub.refl _),ak ha (by omega) ⟨_,ry.cell (sub.refl _) (j:=2) rfl,_,_,_,B.c0 (sub.refl _),ak ha2 (by omega) ⟨_,rz.cell (sub.refl _) (j:=1) rfl,?_⟩⟩⟩
 have fin:∀ z:Int,z = bu g p t->(.int .i64 z:Value) = .int .i64 (bu g p t)/\Gr w w1:=λz e=>⟨by rw [e],gw⟩
 refine aa (λh1=>fin _ ?_) λh1=>aa (λh2=>fin _ ?_) λh2=>aa (λh3=>fin _ ?_) λh3=>aa (λh4=>fin _ ?_) λh4=>?_
 ·have h1:y.level = 0:=by simpa using h1
  unfold bu
  rw [US (.inl (by rw [ep]; exact h1))]
 ·have h2:z.level = 0:=by simpa using h2
  unfold bu
  rw [US (.inr (by rw [et]; exact h2))]
 ·have h1:¬ y.level = 0:=by simpa using h1
  have h2:¬ z.level = 0:=by simpa using h2
  have h3:=UI h3
  unfold bu
  rw [ep,et,UN (by omega),US h3]
 ·have h1:¬ y.level = 0:=by simpa using h1
  have h2:¬ z.level = 0:=by simpa using h2
  have h4:=UI h4
  unfold bu
  rw [ep,et,UN (by omega),UN (by omega),US h4]
 have h1:¬ y.level = 0:=by simpa using h1
 have h2:¬ z.level = 0:=by simpa using h2
 have h3:=UH h3
 have h4:=UH h4
 obtain ⟨v,hv,ev,v1,v3⟩:=A4 hc (l:=y.level) (by omega) p1
 obtain ⟨ad3,ha3,rv⟩:=hg1.l.at hv
 have es:bu g p t = if v = 1 then 2 else if v = 2 then 1 else 3:=by
  unfold bu
  rw [ep,et,UN (by omega),UN h3,UN h4,ev]
 have hlv:=(UJ.1 hv).1
 have hl64:=oe hc.2.1
 refine ⟨_,_,_,B.c2 (sub.refl _),⟨by omega,by omega⟩,ad3,ha3,by omega,by omega,v,rv _ (sub.refl _),?_⟩
 rw [es]
 refine aa (λh5=>?_) λh5=>aa (λh6=>?_) λh6=>?_
 ·have h5:v = 1:=by simpa using h5
  exact ⟨by rw [US h5],gw⟩
 ·have h5:¬ v = 1:=by simpa using h5
  have h6:v = 2:=by simpa using h6
  exact ⟨by rw [UN h5,US h6],gw⟩
 ·have h5:¬ v = 1:=by simpa using h5
  have h6:¬ v = 2:=by simpa using h6
  exact ⟨by rw [UN h5,UN h6],gw⟩
theorem OA {p t:Int} (hg:gR (hp w) g x) (hb:iq g):ay Tryz.prog tw [.agg ⟨x.cells⟩,.int .i64 p,.int .i64 t] w λv w'=>∃ z f:Int,v = .tuple #[.int .i64 z,.int .i64 f]/\J_ g p t z f/\Gr w w':=by
 refine pH (cN hg λk1 w1 gw hg1 B=>?_)
 have pl:=hg1.p.1
 have tl:=hg1.t.1
 have eT:g.T = g.terms.length:=rfl
 refine ⟨_,_,_,_,_,_,_,_,_,_,_,_,_,B.row (sub.refl _),(vt hg1 hb).mono ?_⟩
 rintro _ w2 ⟨⟨r,rfl,hr⟩,g12⟩
 refine ⟨_,rfl,λb u=>w2 = u/\(b = false↔(aq g/\0<=p/\p < g.prods.length/\0<=t/\t < g.T)),aa (λh1=>⟨rfl,?_⟩) λh1=>aa (λh2=>⟨rfl,?_⟩) λh2=>⟨_,_,_,B.c4 g12,aa (λh3=>⟨rfl,?_⟩) λh3=>aa (λh4=>⟨rfl,?_⟩) λh4=>⟨_,_,_,B.c0 g12,rfl,?_⟩⟩,?_⟩
 ·have:r = false:=by simpa using h1
  exact ⟨λh=>(by cases h),λh=>by rw [hr.2 h.1] at this; cases this⟩
 ·have:=UI h2
  exact ⟨λh=>(by cases h),λh=>by omega⟩
 ·have:=UI h3
  exact ⟨λh=>(by cases h),λh=>by omega⟩
 ·have:=UI h4
  exact ⟨λh=>(by cases h),λh=>by omega⟩
 ·have h1:r = true:=by simpa using h1
  have h2:=UH h2
  have h3:=UH h3
  have h4:=UH h4
  refine ⟨λh=>?_,λh=>Vd (by omega)⟩
  have:=UH h
  exact ⟨hr.1 h1,by omega,by omega,by omega,by omega⟩
 rintro _ b _ ⟨rfl,hb3⟩
 refine aa (λh1=>?_) λh1=>?_
 ·subst h1
  exact ⟨0,1,rfl,.inl ⟨λh=>(by cases hb3.2 h),rfl,rfl⟩,gw.trans g12⟩
 subst h1
 obtain ⟨hc,p0,p1,t0,t1⟩:=hb3.1 rfl
 obtain ⟨i,rfl⟩ : ∃ i:Nat,p = i:=⟨p.toNat,by omega⟩
 obtain ⟨j,rfl⟩ : ∃ j:Nat,t = j:=⟨t.toNat,by omega⟩
 refine ⟨_,_,_,_,_,_,_,_,_,_,_,_,_,B.row g12,(IA hc (hg1.mono g12) (by omega) (by omega)).mono ?_⟩
 rintro _ w4 ⟨rfl,g34⟩
 exact ⟨_,rfl,_,0,rfl,.inr ⟨hc,i,j,rfl,rfl,by omega,by omega,rfl,rfl⟩,gw.trans (g12.trans g34)⟩
theorem Lr {p t z f z' f' : Int} (h:J_ g p t z f) (h' : J_ g p t z' f'):z' = z/\f' = f:=by
 rcases h with ⟨h1,rfl,rfl⟩ | ⟨h1,i,j,hi,hj,h2,h3,rfl,rfl⟩ <;> rcases h' with ⟨k1,rfl,rfl⟩ | ⟨k1,i',j',hi',hj',k2,k3,rfl,rfl⟩
 ·exact ⟨rfl,rfl⟩
 ·exact absurd ⟨k1,by omega,by omega,by omega,by omega⟩ h1
 ·exact absurd ⟨h1,by omega,by omega,by omega,by omega⟩ k1
 ·obtain rfl:i' = i:=by omega
  obtain rfl:j' = j:=by omega
  exact ⟨rfl,rfl⟩
theorem Bh {p t:Int} (hg:gR (hp w) g x) (hb:iq g) (hbT:g.terms.length * 24<=140737488355328) (hbN:g.nons.length * 16<=140737488355328) (ht:dy (hp w)):ay Tryz.prog kB [.agg ⟨x.cells⟩,.int .i64 p,.int .i64 t] w λv w'=>v = .bool true/\Gr w w':=by
 refine jA (cN hg λk1 w1 gw hg1 B=>(nQ (fb.mono gw ht)).mono ?_)
 rintro _ w2 ⟨rfl,g12⟩
 refine ⟨_,rfl,_,_,_,_,_,_,_,_,_,_,_,_,_,B.row g12,(EE (p:=p) (t:=t) (hg1.mono g12) hb).mono ?_⟩
 rintro _ w3 ⟨z,f,rfl,hS,g23⟩
 have g13:=g12.trans g23
 refine ⟨_,_,rfl,_,_,_,_,_,_,_,_,_,_,_,_,_,B.row g13,(OA (p:=p) (t:=t) (hg1.mono g13) hb).mono ?_⟩
 rintro _ w4 ⟨z',f',rfl,hS',g34⟩
 obtain ⟨rfl,rfl⟩:=Lr hS hS'
 exact ⟨_,_,rfl,dZ rfl (dZ (by simp) ⟨by simp,gw.trans (g13.trans g34)⟩)⟩
end Go.Proofs.YtndaepmjkbmjmaaGreatDoor
namespace Go.V
section
variable {g:ae}
def fV (v:Int):Int:=if v = 1\/v = 2 then 3 - v else v
def fI (g:ae):ae:=⟨g.terms,g.nons,g.levels.map fV,g.start,g.prods⟩
theorem QA (v:Int):fV (fV v) = v:=by
 unfold fV
 by_cases h:v = 1\/v = 2
 ·rw [US h,US (by omega)]; omega
 ·rw [UN h,UN h]
theorem Lt:fI (fI g) = g:=by
 unfold fI
 have:(g.levels.map fV).map fV = g.levels:=by
  rw [Wi]
  have:fV ∘ fV = id:=funext QA
  rw [this,List.map_id]
 rw [this]
theorem rj (h:aq g):aq (fI g):=by
 obtain ⟨h1,⟨a1,a2,a3,a4,a5,a6,a7,a8,a9,a10⟩,⟨b1,b2,b3,b4,b5,b6⟩,h4⟩:=h
 have hl:(fI g).levels.length = g.levels.length:=UQ ..
 refine ⟨h1,⟨a1,a2,a3,a4,a5,λt ht=>?_,λi v hv=>?_,a8,a9,a10⟩,⟨b1,b2,λp hp=>?_,b4,b5,b6⟩,h4⟩
 ·rw [hl]; exact a6 t ht
 ·have hv:(g.levels.map fV)[i]? = some v:=hv
  rw [UM] at hv
  cases hu:g.levels[i]? with
  | none=>rw [hu] at hv; cases hv
  | some u =>
   rw [hu] at hv
   cases hv
   obtain ⟨c1,c2,c3⟩:=a7 i u hu
   have:1<=fV u/\fV u<=3:=by unfold fV; split <;> omega
   exact ⟨this.1,this.2,c3⟩
 ·obtain ⟨⟨c1,c2,c3,c4⟩,c5⟩:=b3 p hp
  exact ⟨⟨c1,c2,c3,by rw [hl]; exact c4⟩,c5⟩
theorem y7:aq (fI g)↔aq g:=⟨λh=>by have:=rj h; rwa [Lt] at this,rj⟩
theorem QB (h:iq g):iq (fI g):=by
 obtain ⟨b1,b2,b3,b4,b5,b6,b7⟩:=h
 exact ⟨b1,b2,by show (g.levels.map fV).length<=_; rw [UQ]; exact b3,b4,b5,b6,b7⟩
theorem OB {l:Int} (hc:aq g) (h1:1<=l) (h2:l<=g.levels.length):Le (fI g) l = fV (Le g l):=by
 obtain ⟨v,hv,ev,_,_⟩:=A4 hc h1 h2
 rw [ev]
 unfold Le fI
 rw [UM,hv]; rfl
theorem Lu (hc:aq g) {i j:Nat} (hi:i < g.prods.length) (hj:j < g.T) :
  (uO g i≠It g j\/uO g i = 0->bu (fI g) i j = bu g i j)/\(uO g i = It g j->uO g i≠0->(Le g (uO g i) = 3->bu (fI g) i j = bu g i j)/\(Le g (uO g i)≠3->bu g i j + bu (fI g) i j = 3/\bu g i j≠bu (fI g) i j)):=by
 have e1:uO (fI g) i = uO g i:=rfl
 have e2:It (fI g) j = It g j:=rfl
 constructor
 ·intro h
  unfold bu
  rw [e1,e2]
  by_cases h0:uO g i = 0\/It g j = 0
  ·rw [US h0,US h0]
  ·rw [UN h0,UN h0]
   by_cases h3:It g j < uO g i
   ·rw [US h3,US h3]
   ·rw [UN h3,UN h3,US (by omega),US (by omega)]
 ·intro h h0
  obtain ⟨y,hy⟩ : ∃ y,g.prods[i]? = some y:=⟨_,UK hi⟩
  have ep:uO g i = y.level:=by unfold uO; rw [hy]
  have hb:=Eu hc hy
  rw [<- ep] at hb
  obtain ⟨v,hv,ev,v1,v3⟩:=A4 hc (l:=uO g i) (by omega) hb.2
  have eS:bu g i j = if Le g (uO g i) = 1 then 2 else if Le g (uO g i) = 2 then 1 else 3:=by
   unfold bu
   rw [UN (by omega),UN (by omega),UN (by omega)]
  have eT:bu (fI g) i j = if fV (Le g (uO g i)) = 1 then 2 else if fV (Le g (uO g i)) = 2 then 1 else 3:=by
   unfold bu
   rw [e1,e2,UN (by omega),UN (by omega),UN (by omega),OB hc (by omega) hb.2]
  rw [eS,eT,ev]
  have hvv:v = 1\/v = 2\/v = 3:=by omega
  rcases hvv with rfl | rfl | rfl
  ·exact ⟨λh=>by omega,λ_=>by decide⟩
  ·exact ⟨λh=>by omega,λ_=>by decide⟩
  ·exact ⟨λ_=>by decide,λh=>absurd rfl h⟩
end
end Go.V
namespace Go.Proofs.YtndaepmjkbmjmaaGreatDoor
variable {w:WB} {L:List au} {g:ae} {x:GA}
theorem Bi {p t:Int} (hg:gR (hp w) g x) (hb:iq g) (hbT:g.terms.length * 24<=140737488355328) (hbN:g.nons.length * 16<=140737488355328) (ht:dy (hp w)):ay Tryz.prog kE [.agg ⟨x.cells⟩,.int .i64 p,.int .i64 t] w λv w'=>v = .bool true/\Gr w w':=by
 refine jG (cN hg λk1 w1 gw hg1 B=>(nQ (fb.mono gw ht)).mono ?_)
 rintro _ w2 ⟨rfl,g12⟩
 refine ⟨_,rfl,_,_,_,_,_,_,_,_,_,_,_,_,_,B.row g12,(MK (hg1.mono g12) hb hbT hbN).mono ?_⟩
 rintro _ w3 ⟨y,os,rfl,hX,hos,h3⟩
 refine ⟨_,_,_,_,_,_,_,_,_,_,_,_,_,rfl,af h3 λk18 w4 h=>aI h rfl (by intro v hv; simp at hv; rcases hv with rfl | rfl | rfl | rfl | rfl <;> rfl) λw5 h=>?_⟩
 clear h3
 have hll:=hX.l
 obtain ⟨n,hn⟩ : ∃ n,n = g.levels.length:=⟨_,rfl⟩
 have hn64:n<=17592186044416:=by rw [hn]; exact hb.2.2.1
 have lv:∀ j,((g.levels.take j).map fV ++ g.levels.drop j).length = n:=λj=>by rw [UP,UQ,U9,V3]; omega
 refine ⟨λz u=>∃ j:Nat,z = j/\j<=n/\St u (aS k18 y.cells :: own 1 y.la n y.lc (iv ((g.levels.take j).map fV ++ g.levels.drop j)) :: own 3 y.pa g.prods.length y.pc (cV os g.prods) :: aT (bB os g.prods) :: own 2 y.ta g.terms.length y.tc (ee g.terms) :: own 1 y.na g.nons.length y.nc (g.nons.map λs=>Value.string s) :: all w2),λz _=>n - z.toNat,⟨0,rfl,UW _,?_⟩,?_⟩
 ·rw [hn]
  exact h.pick 6 [0,5,1,2,3,4]
 clear h
 rintro _ _ w6 ⟨j,rfl,hj,h⟩
 have ck:∀ {u:WB},St u (aS k18 y.cells :: own 1 y.la n y.lc (iv ((g.levels.take j).map fV ++ g.levels.drop j)) :: own 3 y.pa g.prods.length y.pc (cV os g.prods) :: aT (bB os g.prods) :: own 2 y.ta g.terms.length y.tc (ee g.terms) :: own 1 y.na g.nons.length y.nc (g.nons.map λs=>Value.string s) :: all w2)->u.cell? ((aM k18).add 2) = some (.slice y.la y.ll y.lc):=λh=>(ag 0 h.l).cell (sub.refl _) (j:=2) rfl
 refine ⟨_,_,_,ck h,aa (λh1=>?_) λh1=>?_⟩
 ·have h1:j < n:=by have:=UI h1; omega
  obtain ⟨v,hv⟩ : ∃ v,g.levels[j]? = some v:=⟨_,UK (by omega)⟩
  have hvj:(iv ((g.levels.take j).map fV ++ g.levels.drop j))[j]? = some (.int .i64 v):=by
   unfold iv
   rw [UM,UZ (by simp; omega),UQ,U9,Wb (by omega),VD,Vk,Wx,hv]
   rfl
  obtain ⟨ad,hla,hcv⟩:=bZ (h.pick 2 [1,0]) hvj
  have step:(iv ((g.levels.take j).map fV ++ g.levels.drop j)).set j (.int .i64 (fV v)) = iv ((g.levels.take (j + 1)).map fV ++ g.levels.drop (j + 1)):=by
   have hlt:((g.levels.take j).map fV).length = j:=by rw [UQ,U9]; omega
   rw [zi]
   congr 1
   rw [VN _ _ (by omega),hlt,VD,Vt (by omega),Wk,UR,hv,U_,UT]
   rfl
  have hvg:g.levels[j]? = some v:=hv
  have put:∀ {X:WB->Prop} {z:Int} {u:WB},z = fV v->hp u = hp w6->(∀ u',St u' (aS k18 y.cells :: own 1 y.la n y.lc (iv ((g.levels.take (j + 1)).map fV ++ g.levels.drop (j + 1))) :: own 3 y.pa g.prods.length y.pc (cV os g.prods) :: aT (bB os g.prods) :: own 2 y.ta g.terms.length y.tc (ee g.terms) :: own 1 y.na g.nons.length y.nc (g.nons.map λs=>Value.string s) :: all w2)->X u')->st1 u (ad.add j) (.int .i64 z) X:=λ{X z u} hz hu hX'=>by
   subst hz
   refine j7 ((h.eq hu).pick 2 [1,0]) hla (by rw [iW,lv]; omega) λu' h'=>hX' u' ?_
   rw [step] at h'
   exact h'.pick 2 [1,0]
  have cell:∀ {u:WB},hp u = hp w6->u.cell? (ad.add j) = some (.int .i64 v):=λhu=>by rw [ft hu]; exact hcv
  have cell2:∀ {u:WB},hp u = hp w6->u.cell? ((aM k18).add 2) = some (.slice y.la y.ll y.lc):=λhu=>ck (h.eq hu)
  have keep:fV v = v->aw ((j:Int) + 1)/\(∃ j' : Nat,(j:Int) + 1 = j'/\j'<=n/\St w6 (aS k18 y.cells :: own 1 y.la n y.lc (iv ((g.levels.take j').map fV ++ g.levels.drop j')) :: own 3 y.pa g.prods.length y.pc (cV os g.prods) :: aT (bB os g.prods) :: own 2 y.ta g.terms.length y.tc (ee g.terms) :: own 1 y.na g.nons.length y.nc (g.nons.map λs=>Value.string s) :: all w2))/\n - ((j:Int) + 1).toNat < n - (j:Int).toNat:=λe=>by
   refine ⟨⟨by omega,by omega⟩,⟨j + 1,by simp,h1,?_⟩,bK h1⟩
   rw [<- step,e,qx hvj]
   exact h
  have hl1:j < y.ll:=by omega
  refine ⟨_,_,_,ck h,aB hla hl1 ⟨v,cell rfl,aa (λh2=>?_) λh2=>⟨_,_,_,ck h,aB hla hl1 ⟨v,cell rfl,aa (λh3=>?_) λh3=>keep ?_⟩⟩⟩⟩
  ·have h2:v = 1:=by simpa using h2
   intro w7 hd
   have e7:hp w7 = hp w6:=aE hd
   refine ⟨λu=>hp u = hp w6,e7,_,_,_,λu e=>cell2 e,_,_,_,λu e=>cell2 e,aB hla hl1 ⟨v,λu e=>cell e,⟨by omega,by omega⟩,aB hla hl1 (put (by unfold fV; rw [US (by omega)]) e7 λw11 h=>⟨⟨by omega,by omega⟩,⟨j + 1,by simp,h1,h⟩,bK h1⟩)⟩⟩
  ·have h3:v = 2:=by simpa using h3
   intro w7 hd
   have e7:hp w7 = hp w6:=aE hd
   refine ⟨λu=>hp u = hp w6,e7,_,_,_,λu e=>cell2 e,_,_,_,λu e=>cell2 e,aB hla hl1 ⟨v,λu e=>cell e,⟨by omega,by omega⟩,aB hla hl1 (put (by unfold fV; rw [US (by omega)]) e7 λw11 h=>⟨⟨by omega,by omega⟩,⟨j + 1,by simp,h1,h⟩,bK h1⟩)⟩⟩
  ·have h2:¬ v = 1:=by simpa using h2
   have h3:¬ v = 2:=by simpa using h3
   unfold fV; rw [UN (by omega)]
 have h1:j = n:=by have:=UH h1; omega
 rw [h1,hn,U8,List.drop_length,Vb] at h
 have g26:Gr w2 w6:=bj 6 h.l
 have B2:GB (hp w6) k18 y:=Jl (ag 0 h.l)
 have hy:gR (hp w6) (fI g) y:=by
  have hX' : PE (fI g) y:=⟨hX.t,hX.n,by rw [hX.l]; show _ = (g.levels.map fV).length; rw [UQ],hX.s,hX.p⟩
  have h8:=h.pick 6 [2,3,4,5,1]
  rw [show g.levels.length = (fI g).levels.length from by show _ = (g.levels.map fV).length; rw [UQ]] at h8
  exact Jm (g:=fI g) hX' hos h8.l
 clear h ck
 have g16:=g12.trans g26
 have pl:=hg1.p.1
 have tl:=hg1.t.1
 have eT:g.T = g.terms.length:=rfl
 refine ⟨_,_,_,_,_,_,_,_,_,_,_,_,_,B.row g16,(EE (p:=p) (t:=t) (hg1.mono g16) hb).mono ?_⟩
 rintro _ w17 ⟨z,f,rfl,hS,g617⟩
 refine ⟨_,_,rfl,_,_,_,_,_,_,_,_,_,_,_,_,_,B2.row g617,(EE (p:=p) (t:=t) (hy.mono g617) (QB hb)).mono ?_⟩
 rintro _ w18 ⟨z',f',rfl,hS',g78⟩
 have g18:=g16.trans (g617.trans g78)
 refine ⟨_,_,rfl,_,_,_,_,_,_,_,_,_,_,_,_,_,B.row g18,(vt (hg1.mono g18) hb).mono ?_⟩
 rintro _ w19 ⟨⟨r,rfl,hr⟩,g89⟩
 have g19:=g18.trans g89
 have gw19:=gw.trans g19
 refine ⟨_,rfl,λb u=>w19 = u/\(b = false↔(aq g/\0<=p/\p < g.prods.length/\0<=t/\t < g.T)),aa (λh1=>⟨rfl,?_⟩) λh1=>aa (λh2=>⟨rfl,?_⟩) λh2=>⟨_,_,_,B.c4 g19,aa (λh3=>⟨rfl,?_⟩) λh3=>aa (λh4=>⟨rfl,?_⟩) λh4=>⟨_,_,_,B.c0 g19,rfl,?_⟩⟩,?_⟩
 ·have:r = false:=by simpa using h1
  exact ⟨λh=>(by cases h),λh=>by rw [hr.2 h.1] at this; cases this⟩
 ·have:=UI h2
  exact ⟨λh=>(by cases h),λh=>by omega⟩
 ·have:=UI h3
  exact ⟨λh=>(by cases h),λh=>by omega⟩
 ·have:=UI h4
  exact ⟨λh=>(by cases h),λh=>by omega⟩
 ·have h1:r = true:=by simpa using h1
  have h2:=UH h2
  have h3:=UH h3
  have h4:=UH h4
  refine ⟨λh=>?_,λh=>Vd (by omega)⟩
  have:=UH h
  exact ⟨hr.1 h1,by omega,by omega,by omega,by omega⟩
 rintro _ b _ ⟨rfl,hb3⟩
 refine aa (λh1=>?_) λh1=>?_
 ·subst h1
  have hno:¬ (aq g/\0<=p/\p < g.prods.length/\0<=t/\t < g.T):=λh=>(by cases hb3.2 h)
  obtain ⟨rfl,rfl⟩ : z = 0/\f = 1:=by
   rcases hS with ⟨_,h⟩ | ⟨hc,i,j,hi,hj,h2,h3,_⟩
   ·exact h
   ·exact absurd ⟨hc,by omega,by omega,by omega,by omega⟩ hno
  obtain ⟨rfl,rfl⟩ : z' = 0/\f' = 1:=by
   rcases hS' with ⟨_,h⟩ | ⟨hc,i,j,hi,hj,h2,h3,_⟩
   ·exact h
   ·exact absurd ⟨y7.1 hc,by omega,by have h2:i < g.prods.length:=h2; omega,by omega,by have h3:j < g.T:=h3; omega⟩ hno
  exact dZ rfl (dZ rfl (dZ rfl (dZ rfl ⟨rfl,gw19⟩)))
 subst h1
 obtain ⟨hc,p0,p1,t0,t1⟩:=hb3.1 rfl
 obtain ⟨i,rfl⟩ : ∃ i:Nat,p = i:=⟨p.toNat,by omega⟩
 obtain ⟨j,rfl⟩ : ∃ j:Nat,t = j:=⟨t.toNat,by omega⟩
 have hi:i < g.prods.length:=by omega
 have hj:j < g.T:=by omega
 obtain ⟨rfl,rfl⟩ : z = bu g i j/\f = 0:=by
  rcases hS with ⟨h,_⟩ | ⟨_,i',j',hi',hj',_,_,h,h'⟩
  ·exact absurd ⟨hc,by omega,by omega,by omega,by omega⟩ h
  ·obtain rfl:i' = i:=by omega
   obtain rfl:j' = j:=by omega
   exact ⟨h,h'⟩
 obtain ⟨rfl,rfl⟩ : z' = bu (fI g) i j/\f' = 0:=by
  rcases hS' with ⟨h,_⟩ | ⟨_,i',j',hi',hj',_,_,h,h'⟩
  ·exact absurd ⟨rj hc,by omega,by show (i:Int) < (g.prods.length:Int); omega,by omega,by show (j:Int) < (g.T:Int); omega⟩ h
  ·obtain rfl:i' = i:=by omega
   obtain rfl:j' = j:=by omega
   exact ⟨h,h'⟩
 obtain ⟨s1,s2⟩:=Lu hc hi hj
 refine ⟨λb u=>w19 = u/\b = false,d_ rfl ⟨rfl,rfl⟩,?_⟩
 rintro _ _ _ ⟨rfl,rfl⟩
 have hg9:=hg1.mono g19
 obtain ⟨y1,ad,_,_,_,hy1,ha,ry,_,_⟩:=xU hg9.p (i:=i) (by omega)
 obtain ⟨z1,ad2,hz1,ha2,rz⟩:=xT hg9.t (i:=j) (by omega)
 have ep:uO g i = y1.level:=by unfold uO; rw [hy1]
 have et:It g j = z1.level:=by unfold It; rw [hz1]
 obtain ⟨p0,p1⟩:=Eu hc hy1
 rw [ep,et] at s1 s2
 refine d_ rfl ⟨_,_,_,B.c4 g19,ak ha (by omega) ⟨_,ry.cell (sub.refl _) (j:=2) rfl,_,_,_,B.c0 g19,ak ha2 (by omega) ⟨_,rz.cell (sub.refl _) (j:=1) rfl,?_⟩⟩⟩
 refine aa (λh1=>?_) λh1=>aa (λh2=>?_) λh2=>?_
 ·have h1:y1.level≠z1.level:=by simpa using h1
  exact dZ rfl ⟨by rw [s1 (.inl h1)]; simp,gw19⟩
 ·have h2:y1.level = 0:=by simpa using h2
  exact dZ rfl ⟨by rw [s1 (.inr h2)]; simp,gw19⟩
 have h1:y1.level = z1.level:=by simpa using h1
 have h2:y1.level≠0:=by simpa using h2
 obtain ⟨s3,s4⟩:=s2 h1 h2
 obtain ⟨v,hv,ev,v1,v3⟩:=A4 hc (l:=y1.level) (by omega) p1
 obtain ⟨ad3,ha3,rv⟩:=hg9.l.at hv
 have hlv:=(UJ.1 hv).1
 have hl64:=oe hc.2.1
 have ll:=hg9.l.1
 refine ⟨_,_,_,B.c2 g19,⟨by omega,by omega⟩,ad3,ha3,by omega,by omega,v,rv _ (sub.refl _),aa (λh3=>?_) λh3=>dZ rfl ?_⟩
 ·have h3:v = 3:=by simpa using h3
  exact dZ rfl ⟨by rw [s3 (by rw [ev]; exact h3)]; simp,gw19⟩
 ·have h3:v≠3:=by simpa using h3
  obtain ⟨s5,s6⟩:=s4 (by rw [ev]; exact h3)
  have b1:=A5 (g:=g) i j
  have b2:=A5 (g:=fI g) i j
  exact ⟨⟨by omega,by omega⟩,dZ (by rw [s5]; rfl) ⟨by simp [s6],gw19⟩⟩
end Go.Proofs.YtndaepmjkbmjmaaGreatDoor
namespace Go.V
section
variable {g:ae} {nn:List Bool} {ss:List SQ} {w:WB} {L:List au} {h:Hp}
structure OC (h:Hp) (oa og oc:WA) (AL:List (Lq ax)) (GL:List (Lq Int)) (CL:List wz):Prop where
 a:∀ (q:Nat) b,AL[q]? = some b->(∃ ad,oa = some ad/\∀ u:WB,sub h (hp u)->u.cell? (ad.add q) = some (cG b))/\aX h b.2 b.1.1 b.2.length
 g:∀ (q:Nat) b,GL[q]? = some b->(∃ ad,og = some ad/\∀ u:WB,sub h (hp u)->u.cell? (ad.add q) = some (cG b))/\aX h b.2 b.1.1 b.2.length
 c:aX h (CL.map mJ) oc CL.length
theorem OD {o:WA} {vs:List Value} {q:Nat} {v:Value} (r:fb o vs h) (hv:vs[q]? = some v):∃ ad,o = some ad/\∀ u:WB,sub h (hp u)->u.cell? (ad.add q) = some v:=by
 rcases r with e | ⟨ad,e,hc⟩
 ·rw [e] at hv; simp at hv
 ·exact ⟨ad,e,λu s=>j8 (nm s (hc q v hv))⟩
theorem QC {oa og oc:WA} {ca cg cc:Nat} {AL:List (Lq ax)} {GL:List (Lq Int)} {CL:List wz} (hs:aG (Ox oa ca og cg oc cc AL GL CL ++ L) h):OC h oa og oc AL GL CL:=by
 have hs:aG (own 1 oa AL.length ca (AL.map cG) :: aT (AL.map (cf 2 c_)) :: own 1 og GL.length cg (GL.map cG) :: aT (GL.map (cf 1 iv)) :: own 3 oc CL.length cc (EC CL) :: aT (A9 CL) :: L) h:=hs
 refine ⟨λq b hb=>⟨OD (eh 0 hs) (by rw [UM,hb]; rfl),?_⟩,λq b hb=>⟨OD (eh 2 hs) (by rw [UM,hb]; rfl),?_⟩,J8 (eh 4 hs) λd hd=>?_⟩
 ·obtain ⟨h3,hs3,ho3⟩:=ot (A:=cf 2 c_ b) (i:=q) (aQ hs) (by rw [UM,hb]; rfl)
  exact (kA rfl (eh 0 (rY ho3))).mono hs3
 ·obtain ⟨h3,hs3,ho3⟩:=ot (A:=cf 1 iv b) (i:=q) (aQ (aQ (aQ hs))) (by rw [UM,hb]; rfl)
  exact (dO rfl (eh 0 (rY ho3))).mono hs3
 ·obtain ⟨i,hi⟩:=Vo hd
  obtain ⟨h3,hs3,ho3⟩:=ot (A:=cf 2 c_ d.2) (i:=i) (aQ (aQ (aQ (aQ (aQ hs))))) (by unfold A9; rw [UM,hi]; rfl)
  exact (kA rfl (eh 0 (rY ho3))).mono hs3
theorem OC.mono {h' : Hp} {oa og oc:WA} {AL:List (Lq ax)} {GL:List (Lq Int)} {CL:List wz} (s:sub h h') (r:OC h oa og oc AL GL CL):OC h' oa og oc AL GL CL :=
 ⟨λq b hb=>by obtain ⟨⟨ad,e,hc⟩,r1⟩:=r.a q b hb; exact ⟨⟨ad,e,λu su=>hc u (sub.trans s su)⟩,r1.mono s⟩,λq b hb=>by obtain ⟨⟨ad,e,hc⟩,r1⟩:=r.g q b hb; exact ⟨⟨ad,e,λu su=>hc u (sub.trans s su)⟩,r1.mono s⟩,r.c.mono s⟩
def Ue (g:ae) (w:WB) (v:Value) (w' : WB):Prop:=∃ (ss:List SQ) (ask int f:Int) (nn:List Bool) (oa:WA) (ca:Nat) (og:WA) (cg:Nat) (oc:WA) (cc:Nat) (AL:List (Lq ax)) (GL:List (Lq Int)) (CL:List wz),
 v = .tuple #[.agg #[.slice oa AL.length ca,.slice og GL.length cg,.slice oc CL.length cc],.int .i64 f]/\r_ g ss ask int f/\(f = 0->ur g nn)/\AL.map (·.2) = Ey g nn ss/\GL.map (·.2) = Oa g ss/\CL.map mJ = lX g nn ss/\OC (hp w') oa og oc AL GL CL/\Gr w w'
def bg (g:ae):ae:=⟨g.terms.map λt=>⟨t.name,0⟩,g.nons,[],g.start,g.prods.map λp=>⟨p.left,p.right,0⟩⟩
theorem OE (h:iq g):iq (bg g):=by
 obtain ⟨b1,b2,b3,b4,b5,b6,b7⟩:=h
 refine ⟨by show (g.terms.map _).length<=_; rw [UQ]; exact b1,b2,by show 0<=_; omega,by show (g.prods.map _).length * 40<=_; rw [UQ]; exact b4,λt ht=>?_,b6,λp hp=>?_⟩
 ·obtain ⟨u,hu,rfl⟩:=U4.1 ht
  exact ⟨(b5 u hu).1,by show anyI 0; unfold anyI; decide⟩
 ·obtain ⟨u,hu,rfl⟩:=U4.1 hp
  exact b7 u hu
theorem IB (p t:Nat):bu (bg g) p t = 0:=by
 have:uO (bg g) p = 0:=by
  unfold uO bg
  rw [UM]
  cases g.prods[p]? <;> rfl
 unfold bu
 rw [US (.inl this)]
theorem Bj (t:Nat) (x:ax):nN (bg g) t x = 0:=by
 unfold nN
 split
 ·exact IB _ _
 ·rfl
theorem Bk (t:Nat) (l:List ax):aZ (bg g) t l = (l,false):=by
 cases l with
 | nil=>rfl
 | cons a r =>
  by_cases h:a.kind = 1
  ·rw [ic h]
   have h1:r.all (oH (bg g) t) = true:=V7.2 λx _=>by unfold oH; rw [Bj]; decide
   have h2:r.filter (nW (bg g) t) = r:=List.filter_eq_self.2 λx _=>by unfold nW; rw [Bj]; decide
   have h3:r.any (te (bg g) t) = false:=Wy.2 λx _=>by unfold te; rw [Bj]; decide
   rw [US h1,h2,h3]; rfl
  ·exact kJ h
theorem Lv:lX (bg g) nn ss = bR (bg g) nn ss 2:=by
 rw [<- N5]
 unfold lX
 have key:∀ l:List bI,l.flatMap (yq (bg g)) = l.filter λx=>decide (1 < x.acts.length):=λl=>by
  induction l with
  | nil=>rfl
  | cons c l ih =>
   rw [Ve,ih]
   unfold yq
   rw [Bk]
   by_cases h:1 < c.acts.length
   ·rw [US (show 2<=_ from h),VO (by simpa using h)]; rfl
   ·rw [UN (show ¬ 2<=_ from h),VP (by simpa using h)]; rfl
 exact key _
end
end Go.V
namespace Go.Proofs.YtndaepmjkbmjmaaGreatDoor
variable {w:WB} {L:List au} {g:ae} {x:GA}
theorem mM {a a2:WA} {l l2 c c2:Nat} {xs ys:List ax} (hx:aX (hp w) xs a l) (hy:aX (hp w) ys a2 l2) (hb:l<=4611686018427387904):ay Tryz.prog lB [.slice a l c,.slice a2 l2 c2] w λv w'=>v = .bool (decide (xs = ys))/\Gr w w':=by
 have hxl:=hx.1
 have hyl:=hy.1
 refine jV (aa (λh1=>?_) λh1=>?_)
 ·have h1:(l:Int)≠l2:=by simpa using h1
  have:xs≠ys:=λe=>h1 (by rw [<- hxl,<- hyl,e])
  exact ⟨by rw [Vd this],Gr.refl _⟩
 have h1:(l:Int) = l2:=by simpa using h1
 have h1:l2 = l:=by omega
 subst h1
 refine ⟨λz w'=>∃ j:Nat,z = j/\j<=l2/\xs.take j = ys.take j/\hp w' = hp w,λz _=>l2 - z.toNat,⟨0,rfl,UW _,rfl,rfl⟩,?_⟩
 rintro _ _ w1 ⟨j,rfl,hj,hs,e1⟩
 refine aa (λh1=>?_) λh1=>?_
 rotate_left
 ·have h1:j = l2:=by have:=UH h1; omega
  have:xs = ys:=Ba (by omega) (by rw [hxl,<- h1]; exact hs)
  exact ⟨by rw [Vc this],Gr.of_eq e1⟩
 have h1:j < l2:=by have:=UI h1; omega
 intro w2 hd
 have e2:hp w2 = hp w:=(aE hd).trans e1
 have sb:∀ u:WB,hp u = hp w->sub (hp w) (hp u):=λu e=>by rw [e]; exact sub.refl _
 obtain ⟨y1,ad1,q1,p1,r1⟩:=bM hx h1
 obtain ⟨y2,ad2,q2,p2,r2⟩:=bM hy h1
 refine ⟨λu=>hp u = hp w,e2,ak p1 h1 ⟨_,_,λu e=>r1.at (sb u e) rfl,ak p2 h1 ⟨_,_,λu e=>r2.at (sb u e) rfl,_,λu _=>C_ u _ _ y1 y2,_,rfl,aa (λh2=>?_) λh2=>?_⟩⟩⟩
 ·have h2:y1≠y2:=by simpa using h2
  have:xs≠ys:=λe=>by rw [e,q2] at q1; exact h2 (Option.some.inj q1).symm
  exact ⟨by rw [Vd this],Gr.of_eq e2⟩
 ·have h2:y1 = y2:=by simpa using h2
  subst h2
  exact ⟨⟨by omega,by omega⟩,⟨j + 1,by simp,h1,by rw [UR,UR,hs,q1,q2],e2⟩,bK h1⟩
theorem GX {a a2:WA} {l l2 c c2:Nat} {xs ys:List bI} (hx:aX (hp w) xs a l) (hy:aX (hp w) ys a2 l2) (hb:l<=4611686018427387904) (hbs:∀ x∈xs,x.acts.length<=4611686018427387904):ay Tryz.prog mL [.slice a l c,.slice a2 l2 c2] w λv w'=>v = .bool (decide (xs = ys))/\Gr w w':=by
 have hxl:=hx.1
 have hyl:=hy.1
 refine lD (aa (λh1=>?_) λh1=>?_)
 ·have h1:(l:Int)≠l2:=by simpa using h1
  have:xs≠ys:=λe=>h1 (by rw [<- hxl,<- hyl,e])
  exact ⟨by rw [Vd this],Gr.refl _⟩
 have h1:(l:Int) = l2:=by simpa using h1
 have h1:l2 = l:=by omega
 subst h1
 refine ⟨λz w'=>∃ j:Nat,z = j/\j<=l2/\xs.take j = ys.take j/\Gr w w',λz _=>l2 - z.toNat,⟨0,rfl,UW _,rfl,Gr.refl _⟩,?_⟩
 rintro _ _ w1 ⟨j,rfl,hj,hs,g1⟩
 refine aa (λh1=>?_) λh1=>?_
 rotate_left
 ·have h1:j = l2:=by have:=UH h1; omega
  have:xs = ys:=Ba (by omega) (by rw [hxl,<- h1]; exact hs)
  exact ⟨by rw [Vc this],g1⟩
 have h1:j < l2:=by have:=UI h1; omega
 intro w2 hd
 have g2:Gr w w2:=g1.trans (Gr.drawn hd)
 obtain ⟨y1,ad1,b1,d1,q1,p1,r1,t1⟩:=qZ hx h1
 obtain ⟨y2,ad2,b2,d2,q2,p2,r2,t2⟩:=qZ hy h1
 have no:y1≠y2->∀ {u:WB},Gr w u->(.bool false:Value) = .bool (decide (xs = ys))/\Gr w u:=λhne u gu=>⟨by rw [Vd λe=>by rw [e,q2] at q1; exact hne (Option.some.inj q1).symm],gu⟩
 refine ⟨λu=>Gr w2 u,Gr.refl _,ak p1 h1 ⟨_,_,_,λu s=>r1.cell (sub.trans g2 s) (j:=2) rfl,ak p2 h1 ⟨_,_,_,λu s=>r2.cell (sub.trans g2 s) (j:=2) rfl,(mM (t1.mono g2) (t2.mono g2) (hbs _ (UL q1))).mono ?_⟩⟩⟩
 rintro _ w5 ⟨rfl,g25⟩
 refine ⟨_,rfl,g25,λw6 hd6=>?_⟩
 have g6:Gr w w6:=g2.trans (g25.trans (Gr.drawn hd6))
 refine ⟨λu=>Gr w6 u,Gr.refl _,aa (λh4=>no (λe=>by rw [e] at h4; simp at h4) g6) λh4=>?_⟩
 refine ak p1 h1 ⟨_,λu s=>r1.cell0 (sub.trans g6 s),ak p2 h1 ⟨_,λu s=>r2.cell0 (sub.trans g6 s),aa (λh2=>no (λe=>by rw [e] at h2; simp at h2) g6) λh2=>?_⟩⟩
 refine ak p1 h1 ⟨_,λu s=>r1.cell (sub.trans g6 s) (j:=1) rfl,ak p2 h1 ⟨_,λu s=>r2.cell (sub.trans g6 s) (j:=1) rfl,aa (λh3=>no (λe=>by rw [e] at h3; simp at h3) g6) λh3=>?_⟩⟩
 have h2:y1.st = y2.st:=by simpa using h2
 have h3:y1.tm = y2.tm:=by simpa using h3
 have h4:y1.acts = y2.acts:=by simpa using h4
 have e:y1 = y2:=by cases y1; cases y2; simp at h2 h3 h4; simp [h2,h3,h4]
 subst e
 exact ⟨⟨by omega,by omega⟩,⟨j + 1,by simp,h1,by rw [UR,UR,hs,q1,q2],g6⟩,bK h1⟩
theorem GY (hg:gR (hp w) g x) (hb:iq g) (ht:dy (hp w)):ay Tryz.prog nO [.agg ⟨x.cells⟩] w (Ue g w):=by
 refine (Bg hg hb ht).mono ?_
 rintro _ w2 ⟨ss,ask,int,f,nn,oa,ca,og,cg,oc,cc,AL,GL,CL,rfl,hR,hn,hA,hG,hC,h⟩
 exact ⟨ss,ask,int,f,nn,oa,ca,og,cg,oc,cc,AL,GL,CL,rfl,hR,hn,hA,hG,hC,QC h.l,bj 6 h.l⟩
end Go.Proofs.YtndaepmjkbmjmaaGreatDoor
namespace Go.V
section
variable {g:ae} {nn:List Bool} {ss:List SQ} {w:WB} {L:List au} {h:Hp}
theorem GZ:∀ (os:List (WA × Nat)) (ps:List aO) (i:Nat) (o:WA × Nat) (p:aO),os[i]? = some o->(os.zip ps).set i (o,p) = os.zip (ps.set i p)
 | [],ps,i,o,p,h=>by simp at h
 | a :: os,[],i,o,p,h=>by simp
 | a :: os,b :: ps,0,o,p,h=>by simp at h; subst h; rfl
 | a :: os,b :: ps,i + 1,o,p,h=>by
  rw [List.zip_cons_cons,Wu,Wu,List.zip_cons_cons,GZ os ps i o p (by simpa using h)]
theorem yr:∀ (os:List (WA × Nat)) (ps:List aO) (i:Nat) (p p' : aO),ps[i]? = some p->p'.right = p.right->bB os (ps.set i p') = bB os ps
 | [],ps,i,p,p',_,_=>rfl
 | a :: os,[],i,p,p',h,_=>by simp at h
 | a :: os,b :: ps,0,p,p',h,e=>by
  simp at h; subst h
  show (own 1 a.1 p'.right.length a.2 (iv p'.right)) :: bB os ps = (own 1 a.1 b.right.length a.2 (iv b.right)) :: bB os ps
  rw [e]
 | a :: os,b :: ps,i + 1,p,p',h,e=>by
  show (own 1 a.1 b.right.length a.2 (iv b.right)) :: bB os (ps.set i p') = (own 1 a.1 b.right.length a.2 (iv b.right)) :: bB os ps
  rw [yr os ps i p p' (by simpa using h) e]
def pT (t:h_):h_:=⟨t.name,0⟩
def pP (p:aO):aO:=⟨p.left,p.right,0⟩
def EG {α : Type} (f:α->α) (xs:List α) (j:Nat):List α:=(xs.take j).map f ++ xs.drop j
theorem EH {α : Type} {f:α->α} {xs:List α} {j:Nat}:(EG f xs j).length = xs.length:=by unfold EG; rw [UP,UQ,U9,V3]; omega
theorem Ki {α : Type} {f:α->α} {xs:List α}:EG f xs xs.length = xs.map f:=by unfold EG; rw [U8,List.drop_length,Vb]
theorem IC {α : Type} {f:α->α} {xs:List α} {j:Nat} {x:α} (h:xs[j]? = some x):(EG f xs j)[j]? = some x:=by
 have hj:=(UJ.1 h).1
 unfold EG
 rw [UZ (by simp; omega),UQ,U9,Wb (by omega),VD,Vk,Wx,h]
theorem Bl {α : Type} {f:α->α} {xs:List α} {j:Nat} {x:α} (h:xs[j]? = some x):EG f xs (j + 1) = (EG f xs j).set j (f x):=by
 have hj:=(UJ.1 h).1
 have hlt:((xs.take j).map f).length = j:=by rw [UQ,U9]; omega
 unfold EG
 rw [VN _ _ (by omega),hlt,VD,Vt hj,Wk,UR,h,U_,UT]
 rfl
end
end Go.V
namespace Go.Proofs.YtndaepmjkbmjmaaGreatDoor
variable {w:WB} {L:List au} {g:ae} {x:GA}
theorem Bm (hg:gR (hp w) g x) (hb:iq g) (hbT:g.terms.length * 24<=140737488355328) (hbN:g.nons.length * 16<=140737488355328) (ht:dy (hp w)):ay Tryz.prog kF [.agg ⟨x.cells⟩] w λv w'=>v = .bool true/\Gr w w':=by
 refine jI (cN hg λk1 w1 gw hg1 B=>(nQ (fb.mono gw ht)).mono ?_)
 rintro _ w2 ⟨rfl,g12⟩
 refine ⟨_,rfl,_,_,_,_,_,_,_,_,_,_,_,_,_,B.row g12,(MK (hg1.mono g12) hb hbT hbN).mono ?_⟩
 rintro _ w3 ⟨y,os,rfl,hX,hos,h3⟩
 refine ⟨_,_,_,_,_,_,_,_,_,_,_,_,_,rfl,af h3 λk18 w4 h=>aI h rfl (by intro v hv; simp at hv; rcases hv with rfl | rfl | rfl | rfl | rfl <;> rfl) λw5 h=>?_⟩
 clear h3
 have hbp:=hb.2.2.2.1
 have hbt:=hb.1
 have ytl:=hX.t
 have ypl:=hX.p
 refine ⟨λz u=>∃ j:Nat,z = j/\j<=g.terms.length/\St u (aS k18 y.cells :: own 2 y.ta g.terms.length y.tc (ee (EG pT g.terms j)) :: own 3 y.pa g.prods.length y.pc (cV os g.prods) :: aT (bB os g.prods) :: own 1 y.na g.nons.length y.nc (g.nons.map λs=>Value.string s) :: all w2),λz _=>g.terms.length - z.toNat,⟨0,rfl,UW _,?_⟩,?_⟩
 ·exact h.pick 6 [0,3,1,2,4]
 clear h
 rintro _ _ w6 ⟨j,rfl,hj,h⟩
 refine ⟨_,_,_,(ag 0 h.l).cell0 (sub.refl _),aa (λh1=>?_) λh1=>?_⟩
 ·have h1:j < g.terms.length:=by have:=UI h1; omega
  obtain ⟨t,ht1⟩ : ∃ t,g.terms[j]? = some t:=⟨_,UK h1⟩
  have h:=h.pick 2 [1,0]
  obtain ⟨ad,hta⟩:=fa h (by rw [oh,EH]; omega)
  refine ⟨_,_,_,(ag 1 h.l).cell0 (sub.refl _),ak hta (by omega) ?_⟩
  rw [aF,add_add]
  refine j7 h hta (by rw [oh,EH]; omega) λw7 h=>⟨⟨by omega,by omega⟩,⟨j + 1,by simp,h1,?_⟩,bK h1⟩
  have e:(ee (EG pT g.terms j)).set (j * 2 + 1) (.int .i64 0) = ee (EG pT g.terms (j + 1)):=by
   rw [Bl ht1]
   exact D6 (f:=yg) (n:=2) (λ_=>rfl) _ j 1 t (pT t) _ (IC ht1) (by decide) rfl
  rw [<- e]
  exact h.pick 2 [1,0]
 have h1:j = g.terms.length:=by have:=UH h1; omega
 subst h1
 rw [Ki] at h
 refine ⟨λz u=>∃ j:Nat,z = j/\j<=g.prods.length/\St u (aS k18 y.cells :: own 2 y.ta g.terms.length y.tc (ee (g.terms.map pT)) :: own 3 y.pa g.prods.length y.pc (cV os (EG pP g.prods j)) :: aT (bB os (EG pP g.prods j)) :: own 1 y.na g.nons.length y.nc (g.nons.map λs=>Value.string s) :: all w2),λz _=>g.prods.length - z.toNat,⟨0,rfl,UW _,h⟩,?_⟩
 clear h
 rintro _ _ w8 ⟨j,rfl,hj,h⟩
 refine ⟨_,_,_,(ag 0 h.l).cell (sub.refl _) (j:=4) rfl,aa (λh1=>?_) λh1=>?_⟩
 ·have h1:j < g.prods.length:=by have:=UI h1; omega
  obtain ⟨p,hp1⟩ : ∃ p,g.prods[j]? = some p:=⟨_,UK h1⟩
  obtain ⟨o,ho1⟩ : ∃ o,os[j]? = some o:=⟨_,UK (by omega)⟩
  have hvl:(cV os (EG pP g.prods j)).length = g.prods.length * 3:=by
   unfold cV
   rw [kU (f:=vv) (n:=3) (λ_=>rfl),List.length_zip,EH,hos,Nat.min_self]
  have h:=h.pick 3 [2,0,1]
  obtain ⟨ad,hpa⟩:=fa h (by rw [hvl]; omega)
  refine ⟨_,_,_,(ag 1 h.l).cell (sub.refl _) (j:=4) rfl,ak hpa (by omega) ?_⟩
  rw [aF,add_add]
  refine j7 h hpa (by rw [hvl]; omega) λw9 h=>⟨⟨by omega,by omega⟩,⟨j + 1,by simp,h1,?_⟩,bK h1⟩
  have e:(cV os (EG pP g.prods j)).set (j * 3 + 2) (.int .i64 0) = cV os (EG pP g.prods (j + 1)):=by
   rw [Bl hp1]
   unfold cV
   rw [<- GZ os _ j o _ ho1]
   exact D6 (f:=vv) (n:=3) (λ_=>rfl) _ j 2 (o,p) (o,pP p) _ (by rw [List.getElem?_zip_eq_some]; exact ⟨ho1,IC hp1⟩) (by decide) rfl
  have e2:bB os (EG pP g.prods (j + 1)) = bB os (EG pP g.prods j):=by
   rw [Bl hp1]
   exact yr os _ j p (pP p) (IC hp1) rfl
  rw [<- e,e2]
  exact h.pick 3 [1,2,0]
 have h1:j = g.prods.length:=by have:=UH h1; omega
 subst h1
 rw [Ki] at h
 rw [aV]
 refine bC (i:=2) h (by simp [GA.cells]) λw10 h=>?_
 have g210:Gr w2 w10:=bj 5 h.l
 obtain ⟨y',hy'⟩ : ∃ y' : GA,y' = ⟨y.ta,y.tl,y.tc,y.na,y.nl,y.nc,none,0,0,y.s,y.pa,y.pl,y.pc⟩:=⟨_,rfl⟩
 have hcell:y.cells.set 2 (.slice none 0 0) = y'.cells:=by rw [hy']; rfl
 rw [hcell] at h
 have B2:GB (hp w10) k18 y':=Jl (ag 0 h.l)
 have hy:gR (hp w10) (bg g) y':=by
  have hX' : PE (bg g) y':=by
   rw [hy']
   exact ⟨by show y.tl = (g.terms.map _).length; rw [UQ]; exact hX.t,hX.n,rfl,hX.s,by show y.pl = (g.prods.map _).length; rw [UQ]; exact hX.p⟩
  have h8:St w10 (own 1 y'.la (bg g).levels.length y'.lc (iv (bg g).levels) :: aS k18 y'.cells :: own 2 y.ta g.terms.length y.tc (ee (g.terms.map pT)) :: own 3 y.pa g.prods.length y.pc (cV os (g.prods.map pP)) :: aT (bB os (g.prods.map pP)) :: own 1 y.na g.nons.length y.nc (g.nons.map λs=>Value.string s) :: all w2):=by
   have e:y'.la = none/\y'.lc = 0:=by rw [hy']; exact ⟨rfl,rfl⟩
   rw [e.1,e.2]; exact az 1 h
  have h9:=h8.pick 6 [3,4,2,5,0]
  have e3:y'.pa = y.pa/\y'.pc = y.pc/\y'.ta = y.ta/\y'.tc = y.tc/\y'.na = y.na/\y'.nc = y.nc:=by rw [hy']; exact ⟨rfl,rfl,rfl,rfl,rfl,rfl⟩
  have eT:(bg g).terms.length = g.terms.length:=UQ ..
  have eP:(bg g).prods.length = g.prods.length:=UQ ..
  refine Jm (g:=bg g) (os:=os) hX' (by rw [eP]; exact hos) (L:=all w2) ?_
  unfold RM
  rw [eT,eP,e3.1,e3.2.1,e3.2.2.1,e3.2.2.2.1,e3.2.2.2.2.1,e3.2.2.2.2.2]
  exact h9.l
 clear h
 have hbq:=OE hb
 obtain ⟨q,hq⟩ : ∃ q,q = bg g:=⟨_,rfl⟩
 have g110:=g12.trans g210
 have gw10:=gw.trans g110
 refine ⟨_,_,_,_,_,_,_,_,_,_,_,_,_,B2.row (sub.refl _),(Lm hy hbq (fb.mono gw10 ht)).mono ?_⟩
 rintro _ w11 ⟨ss,ask,int,f,nn,o,c,rfl,hR,hn,hr,g01⟩
 refine ⟨_,_,_,_,rfl,_,_,_,_,_,_,_,_,_,_,_,_,_,B2.row g01,(GY (hy.mono g01) hbq (fb.mono (gw10.trans g01) ht)).mono ?_⟩
 rintro _ w12 ⟨ss2,ask2,int2,f2,nn2,oa,ca,og,cg,oc,cc,AL,GL,CL,rfl,hR2,hn2,hAL,hGL,hCL,hTb,g112⟩
 obtain ⟨rfl,hc2,ha2,hl2⟩:=GV hR hn hR2 hn2
 rw [Lv,hc2] at hCL
 have hCLl:CL.length = (bR (bg g) nn ss 2).length:=by rw [<- hCL]; simp
 have hle:=EF (l:=2) (nn:=nn) hR
 have hac:=Kb (nn:=nn) (ss:=ss) (l:=2) hbq
 refine ⟨_,_,_,_,_,_,_,_,_,_,rfl,af (St.all w12) λk51 w13 h=>aI h rfl (by simp [aH]) λw14 h=>?_⟩
 have r51:av (hp w14) (aM k51) [.slice oa AL.length ca,.slice og GL.length cg,.slice oc CL.length cc]:=ag 0 h.l
 have g14:Gr w12 w14:=h.aR
 clear h
 have hr14:=hr.mono (g112.trans g14)
 have hTb:=hTb.mono g14
 have hTc:=hTb.c
 rw [hCL] at hTc
 refine ⟨_,_,_,r51.cell (sub.refl _) (j:=2) rfl,(GX hr14 hTc (by omega) hac).mono ?_⟩
 rintro _ w15 ⟨rfl,g15⟩
 have gw15:=gw10.trans (g01.trans (g112.trans (g14.trans g15)))
 have hTb:=hTb.mono g15
 have r51:=r51.mono g15
 have hr15:=hr14.mono g15
 refine ⟨_,rfl,λb u=>w15 = u/\b = false,d_ (by simp) ⟨rfl,by simp⟩,?_⟩
 rintro _ _ _ ⟨rfl,rfl⟩
 refine d_ rfl ?_
 obtain ⟨C,hC⟩ : ∃ C,C = bR (bg g) nn ss 2:=⟨_,rfl⟩
 have hmem:∀ {z:bI},z∈C->∃ q t:Nat,q < ss.length/\t < (bg g).T/\2<=(bf (bg g) nn ss q t).length/\z = ⟨(q:Int),(t:Int),bf (bg g) nn ss q t⟩:=λ{z} hz=>by
  rw [hC] at hz; exact ia.1 hz
 rw [<- hC] at hr15 hle ⊢
 have hALl:AL.length = ss.length:=by
  have e:=congrArg List.length hAL
  rw [UQ] at e
  rw [e,<- hl2]
  unfold Ey
  rw [UQ,VF]
 have hTk:∀ (q:Nat) b,AL[q]? = some b->b.2 = (List.range (bg g).T).map (Ex (bg g) nn2 ss2 q):=λq b hb=>by
  have h1:(AL.map (·.2))[q]? = some b.2:=by rw [UM,hb]; rfl
  rw [hAL] at h1
  unfold Ey at h1
  rw [UM] at h1
  cases hh:(List.range ss2.length)[q]? with
  | none=>rw [hh] at h1; cases h1
  | some q' =>
   rw [hh] at h1
   have e:q' = q:=by
    obtain ⟨h3,h4⟩:=UJ.1 hh
    rw [List.getElem_range] at h4; exact h4.symm
   subst e
   exact (Option.some.inj h1).symm
 -- what is taken,where there is no level
 have hTake:∀ q t,Ex (bg g) nn2 ss2 q t = iQ (bf (bg g) nn2 ss2 q t,false):=λq t=>by unfold Ex; rw [Bk]
 refine ⟨λz u=>∃ i:Nat,z = i/\i<=C.length/\Gr w15 u,λz _=>C.length - z.toNat,⟨0,rfl,UW _,Gr.refl _⟩,?_⟩
 rintro _ _ w17 ⟨i,rfl,hi,g17⟩
 have hr17:=hr15.mono g17
 have hTb:=hTb.mono g17
 have r51:=r51.mono g17
 refine aa (λh1=>?_) λh1=>?_
 ·have h1:i < C.length:=by have:=UI h1; omega
  obtain ⟨z,ad,b,d,hz,ha,r,tt⟩:=qZ hr17 h1
  obtain ⟨q,t,hq1,ht1,hlen,rfl⟩:=hmem (UL hz)
  have hf:f2 = 0:=by
   refine VR λhf=>?_
   have:=hR.nil hf
   subst this
   simp at hq1
  obtain ⟨bq,hbq1⟩ : ∃ bq,AL[q]? = some bq:=⟨_,UK (by omega)⟩
  obtain ⟨⟨ada,hoa,hca⟩,hrow⟩:=hTb.a q bq hbq1
  have hb2:=hTk q bq hbq1
  have hbl:bq.2.length = (bg g).T:=by rw [hb2]; simp
  obtain ⟨yv,yad,hyv,hya,ryv⟩:=bM hrow (show t < bq.2.length by omega)
  obtain ⟨a0,aad,ha0,haa,ra0⟩:=bM tt (show 0 < _ by show 0 < (bf (bg g) nn ss q t).length; omega)
  have ea:yv = a0:=by
   rw [hb2,UM,VW ht1] at hyv
   have e1:Ex (bg g) nn2 ss2 q t = yv:=Option.some.inj hyv
   rw [hTake,ha2 hf q t] at e1
   have ha0:(bf (bg g) nn ss q t)[0]? = some a0:=ha0
   cases hl:bf (bg g) nn ss q t with
   | nil=>rw [hl] at hlen; simp at hlen
   | cons a1 l1 =>
    rw [hl] at e1 ha0
    simp at ha0
    rw [<- e1,<- ha0]; rfl
  subst ea
  refine ak ha h1 ⟨_,r.cell0 (sub.refl _),ak ha h1 ⟨_,r.cell (sub.refl _) (j:=1) rfl,λw18 hd=>?_⟩⟩
  have g18:Gr w17 w18:=Gr.drawn hd
  refine ⟨λu=>Gr w17 u,g18,d_ (Vd (by show ¬ ((q:Int) < 0); omega)) ⟨_,_,_,λu s=>r51.cell0 s,d_ (Vd (by show ¬ ((AL.length:Int)<=(q:Int)); omega)) (d_ (Vd (by show ¬ ((t:Int) < 0); omega)) ⟨_,_,_,λu s=>r51.cell0 s,aB hoa (by omega) ⟨_,_,_,λu s=>hca u s,d_ (Vd (by show ¬ ((bq.2.length:Int)<=(t:Int)); omega)) (ak ha h1 ⟨_,_,_,λu s=>r.cell s (j:=2) rfl,d_ ?_ ⟨_,_,_,λu s=>r51.cell0 s,aB hoa (by omega) ⟨_,_,_,λu s=>hca u s,ak hya (by omega) ⟨_,_,λu s=>ryv.at s rfl,ak ha h1 ⟨_,_,_,λu s=>r.cell s (j:=2) rfl,gk haa (by show 0 < (bf (bg g) nn ss q t).length; omega) ⟨_,_,λu s=>?_,_,λu s=>C_ u _ _ yv yv,_,rfl,d_ (by simp) ⟨⟨by omega,by omega⟩,⟨i + 1,by simp,h1,?_⟩,bK h1⟩⟩⟩⟩⟩⟩⟩)⟩⟩)⟩⟩
  ·simp; intro e; rw [e] at hlen; simp at hlen
  ·have:=ra0.at s (n:=2) rfl
   rw [show (cT 0 2) = 0 from rfl,show aad.add 0 = aad from by simp [Addr.add]] at this
   exact this
  ·exact g17.trans g18
 have hkind:∀ (q:Nat) b,AL[q]? = some b->∀ (t:Nat) v,b.2[t]? = some v->v.kind≠4:=λq b hb t v hv=>by
  rw [hTk q b hb,UM] at hv
  cases hh:(List.range (bg g).T)[t]? with
  | none=>rw [hh] at hv; cases hv
  | some t' =>
   rw [hh] at hv
   have e:Ex (bg g) nn2 ss2 q t' = v:=Option.some.inj hv
   rw [<- e,hTake]
   by_cases hf:f2 = 0
   ·subst hf
    obtain ⟨hc,hA⟩:=hR2.F5 rfl
    have ho:=GJ (nn:=nn2) hc hA q t'
    cases hl:bf (bg g) nn2 ss2 q t' with
    | nil=>decide
    | cons a1 l1 =>
     rw [hl] at ho
     show a1.kind≠4
     rcases Iu ho (Wl) with ⟨h,_⟩ | ⟨h,_⟩ | ⟨h,_⟩ <;> omega
   ·have hz:=hR2.nil hf
    have:q < AL.length:=(UJ.1 hb).1
    rw [hALl,<- hl2,hz] at this
    simp at this
 have hALb:AL.length<=256:=by
  by_cases hf:f2 = 0
  ·have:=(hR2.F5 hf).2.dn.2.1
   omega
  ·have hz:=hR2.nil hf
   rw [hALl,<- hl2,hz]; simp
 have hbb:∀ (q:Nat) b,AL[q]? = some b->b.2.length<=17592186044416:=λq b hb=>by
  rw [hTk q b hb,UQ,VF]
  show (g.terms.map _).length<=_
  rw [UQ]; exact hbt
 refine ⟨λz u=>∃ q:Nat,z = q/\q<=AL.length/\w17 = u,λz _=>AL.length - z.toNat,⟨0,rfl,UW _,rfl⟩,?_⟩
 rintro _ _ _ ⟨q,rfl,hq,rfl⟩
 refine ⟨_,_,_,r51.cell0 (sub.refl _),aa (λh2=>?_) λh2=>⟨rfl,gw15.trans g17⟩⟩
 have h2:q < AL.length:=by have:=UI h2; omega
 obtain ⟨b,hbq⟩ : ∃ b,AL[q]? = some b:=⟨_,UK h2⟩
 obtain ⟨⟨ada,hoa,hca⟩,hrow⟩:=hTb.a q b hbq
 have hbb:=hbb q b hbq
 refine ⟨λz u=>∃ t:Nat,z = t/\t<=b.2.length/\w17 = u,λz _=>b.2.length - z.toNat,⟨0,rfl,UW _,rfl⟩,?_⟩
 rintro _ _ _ ⟨t,rfl,htl,rfl⟩
 refine ⟨_,_,_,r51.cell0 (sub.refl _),aB hoa h2 ⟨_,_,_,hca _ (sub.refl _),aa (λh3=>?_) λh3=>⟨⟨by omega,by omega⟩,⟨q + 1,by simp,h2,rfl⟩,bK h2⟩⟩⟩
 have h3:t < b.2.length:=by have:=UI h3; omega
 obtain ⟨v,vad,hv,hva,rv⟩:=bM hrow h3
 refine ⟨_,_,_,r51.cell0 (sub.refl _),aB hoa h2 ⟨_,_,_,hca _ (sub.refl _),ak hva h3 ⟨_,rv.cell0 (sub.refl _),d_ (by simpa using hkind q b hbq t v hv) ⟨⟨by omega,by omega⟩,⟨t + 1,by simp,h3,rfl⟩,bK h3⟩⟩⟩⟩
end Go.Proofs.YtndaepmjkbmjmaaGreatDoor
namespace Go.V
section
variable {g:ae} {nn:List Bool} {ss:List SQ}
theorem Dc {l m:Nat}:∀ {n:Nat},m<=n->∃ r,dJ g nn ss l n = dJ g nn ss l m ++ r
  | 0, h => ⟨[], by obtain rfl : m = 0 := by omega
                    simp⟩
  | n + 1,h=>by
    by_cases e:m = n + 1
    · subst e; exact ⟨[],by simp⟩
    · obtain ⟨r,hr⟩:=Dc (l:=l) (n:=n) (show m<=n by omega)
      exact ⟨r ++ fl g nn ss l n g.T,by rw [jb,hr,UT]⟩
theorem Dd {l q m:Nat}:∀ {n:Nat},m<=n->∃ r,fl g nn ss l q n = fl g nn ss l q m ++ r
  | 0, h => ⟨[], by obtain rfl : m = 0 := by omega
                    simp⟩
  | n + 1,h=>by
    by_cases e:m = n + 1
    · subst e; exact ⟨[],by simp⟩
    · obtain ⟨r,hr⟩:=Dd (l:=l) (q:=q) (n:=n) (show m<=n by omega)
      exact ⟨r ++ cellAt g nn ss l q n,by rw [ja,hr,UT]⟩
noncomputable def gD (g:ae) (nn:List Bool) (ss:List SQ) (q t:Nat):List bI:=dJ g nn ss 1 q ++ fl g nn ss 1 q t
theorem sk {q:Nat}:gD g nn ss q 0 = dJ g nn ss 1 q:=by unfold gD fl; simp
theorem G0 {q:Nat}:gD g nn ss q g.T = dJ g nn ss 1 (q + 1):=by unfold gD; rw [jb]
theorem nR {q t:Nat}:gD g nn ss q (t + 1) = gD g nn ss q t ++ cellAt g nn ss 1 q t:=by unfold gD; rw [ja,UT]
theorem wy {q t:Nat} (hq:q < ss.length) (ht:t<=g.T):∃ r,bR g nn ss 1 = gD g nn ss q t ++ r:=by
 obtain ⟨r1,h1⟩:=Dc (g:=g) (nn:=nn) (ss:=ss) (l:=1) (n:=ss.length) (show q + 1<=ss.length by omega)
 obtain ⟨r2,h2⟩:=Dd (g:=g) (nn:=nn) (ss:=ss) (l:=1) (q:=q) ht
 exact ⟨r2 ++ r1,by unfold bR gD; rw [h1,jb,h2]; simp⟩
theorem Lw {q t:Nat} (hq:q < ss.length) (ht:t < g.T) :
  (1<=(bf g nn ss q t).length/\(bR g nn ss 1)[(gD g nn ss q t).length]? = some ⟨(q:Int),(t:Int),bf g nn ss q t⟩/\(gD g nn ss q (t + 1)).length = (gD g nn ss q t).length + 1) \/
  (bf g nn ss q t = []/\(∀ z,(bR g nn ss 1)[(gD g nn ss q t).length]? = some z->¬(z.st = (q:Int)/\z.tm = (t:Int)))/\(gD g nn ss q (t + 1)).length = (gD g nn ss q t).length):=by
 by_cases h:1<=(bf g nn ss q t).length
 ·left
  have e:cellAt g nn ss 1 q t = [⟨(q:Int),(t:Int),bf g nn ss q t⟩]:=by unfold cellAt; rw [US h]
  obtain ⟨r,hr⟩:=wy (g:=g) (nn:=nn) hq (show t + 1<=g.T by omega)
  refine ⟨h,?_,by rw [nR,e]; simp⟩
  rw [hr,nR,e,UT,UZ (U2 _),VD]; rfl
 ·right
  have e0:bf g nn ss q t = []:=UU (by omega)
  have e:cellAt g nn ss 1 q t = []:=by unfold cellAt; rw [UN h]
  refine ⟨e0,λz hz hh=>?_,by rw [nR,e]; simp⟩
  obtain ⟨q',t',_,_,h1,rfl⟩:=ia.1 (UL hz)
  obtain ⟨h2,h3⟩:=hh
  have h2:(q' : Int) = q:=h2
  have h3:(t' : Int) = t:=h3
  obtain rfl:q' = q:=by omega
  obtain rfl:t' = t:=by omega
  exact h h1
noncomputable def im (g:ae) (nn:List Bool) (ss:List SQ) (q t:Nat):List bI:=(gD g nn ss q t).flatMap (yq g)
theorem Lx {q t:Nat} (hq:q < ss.length) (ht:t < g.T) :
  (2<=(aZ g t (bf g nn ss q t)).1.length/\(lX g nn ss)[(im g nn ss q t).length]? = some ⟨(q:Int),(t:Int),(aZ g t (bf g nn ss q t)).1⟩/\(im g nn ss q (t + 1)).length = (im g nn ss q t).length + 1) \/
  (¬ 2<=(aZ g t (bf g nn ss q t)).1.length/\(∀ z,(lX g nn ss)[(im g nn ss q t).length]? = some z->¬(z.st = (q:Int)/\z.tm = (t:Int)))/\(im g nn ss q (t + 1)).length = (im g nn ss q t).length):=by
 by_cases h:2<=(aZ g t (bf g nn ss q t)).1.length
 ·left
  have h1:1<=(bf g nn ss q t).length:=by have:=xE (g:=g) (t:=t) (l:=bf g nn ss q t); omega
  have e:cellAt g nn ss 1 q t = [⟨(q:Int),(t:Int),bf g nn ss q t⟩]:=by unfold cellAt; rw [US h1]
  have ec:yq g ⟨(q:Int),(t:Int),bf g nn ss q t⟩ = [⟨(q:Int),(t:Int),(aZ g t (bf g nn ss q t)).1⟩]:=by
   unfold yq
   show (if 2<=(aZ g (t:Int).toNat (bf g nn ss q t)).1.length then _ else _) = _
   rw [Vh,US h]
  have ek:im g nn ss q (t + 1) = im g nn ss q t ++ [⟨(q:Int),(t:Int),(aZ g t (bf g nn ss q t)).1⟩]:=by
   unfold im
   rw [nR,e,Vi]
   simp [ec]
  obtain ⟨r,hr⟩:=wy (g:=g) (nn:=nn) hq (show t + 1<=g.T by omega)
  refine ⟨h,?_,by rw [ek]; simp⟩
  have:lX g nn ss = im g nn ss q (t + 1) ++ r.flatMap (yq g):=by unfold lX im; rw [hr,Vi]
  rw [this,ek,UT,UZ (U2 _),VD]; rfl
 ·right
  have ek:im g nn ss q (t + 1) = im g nn ss q t:=by
   unfold im
   rw [nR,Vi]
   have:(cellAt g nn ss 1 q t).flatMap (yq g) = []:=by
    unfold cellAt
    split
    ·simp only [Ve,List.flatMap_nil,Vb]
     unfold yq
     show (if 2<=(aZ g (t:Int).toNat (bf g nn ss q t)).1.length then _ else _) = _
     rw [Vh,UN h]
    ·rfl
   rw [this,Vb]
  refine ⟨h,λz hz hh=>?_,by rw [ek]⟩
  obtain ⟨c,hc,hzc⟩:=VY.1 (UL hz)
  obtain ⟨q',t',_,_,h1,rfl⟩:=ia.1 hc
  unfold yq at hzc
  split at hzc
  ·rename_i h5
   rw [Va] at hzc
   subst hzc
   obtain ⟨h2,h3⟩:=hh
   have h2:(q' : Int) = q:=h2
   have h3:(t' : Int) = t:=h3
   obtain rfl:q' = q:=by omega
   obtain rfl:t' = t:=by omega
   have h5:2<=(aZ g (t' : Int).toNat (bf g nn ss q' t')).1.length:=h5
   rw [Vh] at h5
   exact h h5
  ·cases hzc
theorem OG {t:Nat} {l:List ax}:(l = []/\iQ (aZ g t l) = ⟨0,0⟩)\/(l≠[]/\iQ (aZ g t l)∈l)\/(2<=l.length/\iQ (aZ g t l) = ⟨4,0⟩):=by
 cases l with
 | nil=>exact .inl ⟨rfl,rfl⟩
 | cons a r =>
  right
  by_cases hk:a.kind = 1
  ·cases hl:(aZ g t (a :: r)).1 with
   | cons b m =>
    left
    refine ⟨by simp,?_⟩
    have e:iQ (aZ g t (a :: r)) = b:=by
     cases hh:aZ g t (a :: r) with
     | mk x y=>rw [hh] at hl; have hl:x = b :: m:=hl; subst hl; rfl
    rw [e]
    exact C5 (g:=g) (t:=t) (by rw [hl]; exact Wl)
   | nil =>
    right
    have e:=ic (g:=g) (t:=t) (r:=r) hk
    rw [e] at hl
    have hl:(if r.all (oH g t) = true then [a] else []) ++ r.filter (nW g t) = []:=hl
    obtain ⟨h1,h2⟩:=List.append_eq_nil_iff.1 hl
    have h3:¬ r.all (oH g t) = true:=λh=>by rw [US h] at h1; cases h1
    rw [V7] at h3
    obtain ⟨y,hy,hyk⟩ : ∃ y,y∈r/\¬ oH g t y = true:=by
     refine VR λhn=>h3 λy hy=>VR λhh=>hn ⟨y,hy,hh⟩
    have h4:¬ nW g t y = true:=λh=>by have:=Wd.1 h2 y hy; exact this h
    have h5:te g t y = true:=by
     unfold te
     unfold oH at hyk
     unfold nW at h4
     have a1:¬ (nN g t y≠2/\nN g t y≠3):=λh=>hyk (Vc h)
     have a2:¬ (nN g t y = 0\/nN g t y = 2):=λh=>h4 (Vc h)
     exact Vc (by omega)
    have h6:r.any (te g t) = true:=Wc.2 ⟨y,hy,h5⟩
    refine ⟨?_,?_⟩
    ·have:=List.length_pos_of_mem hy
     rw [Vl]; omega
    ·rw [e,hl,h6]; rfl
  ·left
   rw [kJ hk]
   exact ⟨by simp,Wl⟩
end
end Go.V
namespace Go.Proofs.YtndaepmjkbmjmaaGreatDoor
variable {w:WB} {L:List au} {g:ae} {x:GA}
theorem Kj {xs:List ax} {a:WA} {l c:Nat} {d e:Int} (hr:aX (hp w) xs a l) (hb:l<=4611686018427387904):ay Tryz.prog q9 [.slice a l c,.agg #[.int .i64 d,.int .i64 e]] w λv w'=>v = .bool (decide ((⟨d,e⟩ : ax)∈xs))/\Gr w w':=by
 have hl:=hr.1
 refine oM (af (St.all w) λk1 w1 h=>?_)
 have g1:Gr w w1:=h.aR
 have rk:av (hp w1) (aM k1) [.int .i64 d,.int .i64 e]:=ag 0 h.l
 clear h
 have hr:=hr.mono g1
 refine ⟨λz u=>∃ j:Nat,z = j/\j<=l/\(⟨d,e⟩ : ax)∉xs.take j/\Gr w1 u,λz _=>l - z.toNat,⟨0,rfl,UW _,by simp,Gr.refl _⟩,?_⟩
 rintro _ _ w3 ⟨j,rfl,hj,hno,e3⟩
 refine aa (λh1=>?_) λh1=>?_
 rotate_left
 ·have h1:j = l:=by have:=UH h1; omega
  rw [U6 (by omega)] at hno
  exact ⟨by rw [Vd hno],g1.trans e3⟩
 have h1:j < l:=by have:=UI h1; omega
 obtain ⟨y,ad,hy,rfl,ry⟩:=bM hr h1
 intro w4 hd
 have e4:Gr w1 w4:=e3.trans (Gr.drawn hd)
 refine ⟨λu=>Gr w1 u,e4,ak rfl h1 ⟨_,_,λu s=>ry.at s rfl,_,_,λu s=>rk.at s rfl,_,λu _=>Ts u _ _ y ⟨d,e⟩,_,rfl,aa (λh2=>?_) λh2=>?_⟩⟩
 ·have h2:=UI h2
  exact ⟨by rw [Vc (h2 ▸ UL hy)],g1.trans e4⟩
 ·have h2:=UH h2
  refine ⟨⟨by omega,by omega⟩,⟨j + 1,by simp,h1,λhm=>?_,e4⟩,bK h1⟩
  rw [UR,hy,UO] at hm
  rcases hm with hm | hm
  ·exact hno hm
  ·simp at hm; exact h2 hm.symm
variable {w:WB} {L:List au} {g:ae} {x:GA}
theorem Bn (hg:gR (hp w) g x) (hb:iq g) (hbT:g.terms.length * 24<=140737488355328) (hbN:g.nons.length * 16<=140737488355328) (ht:dy (hp w)):ay Tryz.prog kD [.agg ⟨x.cells⟩] w λv w'=>v = .bool true/\Gr w w':=by
 refine jE (cN hg λk1 w1 gw hg1 B=>(nQ (fb.mono gw ht)).mono ?_)
 rintro _ w2 ⟨rfl,g12⟩
 refine ⟨_,rfl,_,_,_,_,_,_,_,_,_,_,_,_,_,B.row g12,(Ou (hg1.mono g12) hb (fb.mono (gw.trans g12) ht)).mono ?_⟩
 rintro _ w3 ⟨ss,ask,int,f,nn,o,c,rfl,hR,hn,hr,g23⟩
 have g13:=g12.trans g23
 refine ⟨_,_,_,_,rfl,_,_,_,_,_,_,_,_,_,_,_,_,_,B.row g13,(GY (hg1.mono g13) hb (fb.mono (gw.trans g13) ht)).mono ?_⟩
 rintro _ w4 ⟨ss2,ask2,int2,f2,nn2,oa,ca,og,cg,oc,cc,AL,GL,CL,rfl,hR2,hn2,hAL,hGL,hCL,hTb,g34⟩
 refine ⟨_,_,_,_,_,_,_,_,_,_,rfl,af (St.all w4) λk26 w5 h=>aI h rfl (by simp [aH]) λw6 h=>?_⟩
 have r26:av (hp w6) (aM k26) [.slice oa AL.length ca,.slice og GL.length cg,.slice oc CL.length cc]:=ag 0 h.l
 have g46:Gr w4 w6:=h.aR
 clear h
 have g16:=g13.trans (g34.trans g46)
 refine ⟨_,_,_,_,_,_,_,_,_,_,_,_,_,B.row g16,(nD (hg1.mono g16) hb).mono ?_⟩
 rintro _ w7 ⟨oA,cA,ss3,ask3,int3,f3,rfl,hR3,h7⟩
 have g67:Gr w6 w7:=bj 3 h7.l
 clear h7
 refine ⟨_,_,_,_,_,_,rfl,af (St.all w7) λk37 w8 h=>aI h rfl (by simp [aH]) λw9 h=>?_⟩
 have r37:av (hp w9) (aM k37) [.slice oA ss3.length cA,.int .i64 ask3,.int .i64 int3]:=ag 0 h.l
 have g79:Gr w7 w9:=h.aR
 clear h
 have g69:=g67.trans g79
 have g19:=g16.trans g69
 have hg9:=hg1.mono g19
 have B:GB (hp w9) k1 x:=⟨λs=>B.c0 (sub.trans g19 s),λs=>B.c1 (sub.trans g19 s),λs=>B.c2 (sub.trans g19 s),λs=>B.c3 (sub.trans g19 s),λs=>B.c4 (sub.trans g19 s),λs=>B.row (sub.trans g19 s)⟩
 have r26:=r26.mono g69
 have hTb:=hTb.mono (g46.trans g69)
 have hr:=hr.mono (g34.trans (g46.trans g69))
 have gw9:=gw.trans g19
 have hT:g.T = x.tl:=hg9.t.1
 obtain ⟨ef,hc2,ha2,hl2⟩:=GV hR hn hR2 hn2
 have hone:=hR.one hR3
 have ef3:f = f3:=hone.2.2.2.2.1
 have hl3:ss3.length = ss.length:=hone.2.2.2.2.2.symm
 rw [hl3] at r37
 subst ef3
 subst ef
 have hCo:lX g nn2 ss2 = lX g nn ss:=by unfold lX; rw [hc2]
 rw [hCo] at hCL
 have hle:=EF (l:=1) (nn:=nn) hR
 have hac:=Kb (nn:=nn) (ss:=ss) (l:=1) hb
 clear g12 g23 g13 g34 g46 g16 g67 g79 g69 hg1 hg gw
 refine ⟨λb u=>w9 = u/\b = false,d_ (by simp) ⟨rfl,by simp⟩,?_⟩
 rintro _ _ _ ⟨rfl,rfl⟩
 refine d_ rfl (aa (λh1=>?_) λh1=>?_)
 ·have h1:f2≠0:=by simpa using h1
  refine ⟨_,_,_,_,_,_,_,_,_,_,_,_,_,B.row (sub.refl _),(vt hg9 hb).mono ?_⟩
  rintro _ w11 ⟨⟨r,rfl,hrr⟩,g11⟩
  have hC0:CL = []:=by
   have e:=congrArg List.length hCL
   rw [hR.nil h1,UQ] at e
   exact UU e
  subst hC0
  refine ⟨_,rfl,dZ rfl ⟨_,_,_,r26.cell g11 (j:=2) rfl,dZ rfl ⟨?_,gw9.trans g11⟩⟩⟩
  rcases hR with ⟨hno,_,_,_,rfl⟩ | ⟨hyes,_,_,_,_,rfl⟩ | ⟨_,_,_,_,rfl⟩
  ·have:r = false:=by
    cases r with
    | false=>rfl
    | true=>exact absurd (hrr.1 rfl) hno
   subst this; rfl
  ·have:r = true:=hrr.2 hyes
   subst this; rfl
  ·exact absurd rfl h1
 have h1:f2 = 0:=by simpa using h1
 subst h1
 have ha2:=ha2 rfl
 obtain ⟨hc,hA⟩:=hR.F5 rfl
 have h256:=hA.dn.2.1
 obtain ⟨sT,_⟩:=hc.gB
 have hALl:AL.length = ss.length:=by
  have e:=congrArg List.length hAL
  rw [UQ] at e
  rw [e,<- hl2]
  unfold Ey
  rw [UQ,VF]
 have hTk:∀ (q:Nat) b,AL[q]? = some b->b.2 = (List.range g.T).map λt=>iQ (aZ g t (bf g nn ss q t)):=λq b hb=>by
  have h1:(AL.map (·.2))[q]? = some b.2:=by rw [UM,hb]; rfl
  rw [hAL] at h1
  unfold Ey at h1
  rw [UM] at h1
  cases hh:(List.range ss2.length)[q]? with
  | none=>rw [hh] at h1; cases h1
  | some q' =>
   rw [hh] at h1
   have e:q' = q:=by
    obtain ⟨h3,h4⟩:=UJ.1 hh
    rw [List.getElem_range] at h4; exact h4.symm
   subst e
   rw [<- Option.some.inj h1]
   refine VX λt _=>?_
   unfold Ex
   rw [ha2]
 have hTc:=hTb.c
 rw [hCL] at hTc
 have hCLl:CL.length = (lX g nn ss).length:=by rw [<- hCL]; simp
 have hKl:(lX g nn ss).length<=16640:=by
  have hcf:∀ l:List bI,(l.flatMap (yq g)).length<=l.length:=λl=>by
   induction l with
   | nil=>simp
   | cons c l ih =>
    rw [Ve,UP,Vl]
    have:(yq g c).length<=1:=by unfold yq; split <;> simp
    omega
  have:=hcf (bR g nn ss 1)
  unfold lX
  omega
 refine ⟨_,_,_,r26.cell0 (sub.refl _),_,_,_,r37.cell0 (sub.refl _),d_ (by rw [hALl]; simp) ?_⟩
 refine ⟨λn o z u=>∃ q:Nat,z = q/\q<=ss.length/\n = ((gD g nn ss q 0).length:Int)/\o = ((im g nn ss q 0).length:Int)/\Gr w9 u,λ_ _ z _=>ss.length - z.toNat,⟨0,rfl,UW _,by simp [gD,dJ,fl],by simp [im,gD,dJ,fl],Gr.refl _⟩,?_⟩
 rintro _ _ _ _ w12 ⟨q,rfl,hq,rfl,rfl,g12⟩
 refine ⟨_,_,_,r37.cell0 g12,aa (λh2=>?_) λh2=>?_⟩
 rotate_left
 ·have h2:q = ss.length:=by have:=UH h2; omega
  subst h2
  have e1:(gD g nn ss ss.length 0).length = (bR g nn ss 1).length:=by rw [sk]; rfl
  have e2:(im g nn ss ss.length 0).length = CL.length:=by rw [hCLl]; unfold im; rw [sk]; rfl
  exact dZ rfl (dZ (by rw [e1]; simp) ⟨_,_,_,r26.cell g12 (j:=2) rfl,by rw [e2]; simp,gw9.trans g12⟩)
 have h2:q < ss.length:=by have:=UI h2; omega
 obtain ⟨b,hbq⟩ : ∃ b,AL[q]? = some b:=⟨_,UK (by omega)⟩
 obtain ⟨⟨ada,hoa,hca⟩,hrow⟩:=hTb.a q b hbq
 have hb2:=hTk q b hbq
 have hbl:b.2.length = g.T:=by rw [hb2]; simp
 intro w13 hd
 have g13:Gr w9 w13:=g12.trans (Gr.drawn hd)
 refine ⟨λu=>Gr w9 u,g13,_,_,_,λu s=>r26.cell0 s,aB hoa (by omega) ⟨_,_,_,λu s=>hca u s,_,_,_,λu s=>B.c0 s,d_ (by rw [hbl,hT]; simp) ?_⟩⟩
 refine ⟨λn o z u=>∃ t:Nat,z = t/\t<=g.T/\n = ((gD g nn ss q t).length:Int)/\o = ((im g nn ss q t).length:Int)/\Gr w9 u,λ_ _ z _=>g.T - z.toNat,⟨0,rfl,UW _,rfl,rfl,g13⟩,?_⟩
 rintro _ _ _ _ w17 ⟨t,rfl,htl,rfl,rfl,g17⟩
 refine ⟨_,_,_,B.c0 g17,aa (λh3=>?_) λh3=>?_⟩
 rotate_left
 ·have h3:t = g.T:=by have:=UH h3; omega
  subst h3
  exact ⟨⟨by omega,by omega⟩,⟨q + 1,by simp,h2,by rw [G0,sk],by unfold im; rw [G0,sk],g17⟩,bK h2⟩
 have h3:t < g.T:=by have:=UI h3; omega
 obtain ⟨v,vad,hv,hva,rv⟩:=bM hrow (show t < b.2.length by omega)
 have ev:v = iQ (aZ g t (bf g nn ss q t)):=by
  rw [hb2,UM,VW h3] at hv
  exact (Option.some.inj hv).symm
 have pc:=Lw (nn:=nn) h2 h3
 have pk:=Lx (nn:=nn) h2 h3
 have hpc:(gD g nn ss q t).length<=16640:=by
  obtain ⟨r,hr'⟩:=wy (g:=g) (nn:=nn) h2 (Nat.le_of_lt h3)
  have:=congrArg List.length hr'
  rw [UP] at this
  omega
 have hpk:(im g nn ss q t).length<=16640:=by
  obtain ⟨r,hr'⟩:=wy (g:=g) (nn:=nn) h2 (Nat.le_of_lt h3)
  have e:lX g nn ss = im g nn ss q t ++ r.flatMap (yq g):=by unfold lX im; rw [hr',Vi]
  have:=congrArg List.length e
  rw [UP] at this
  omega
 have hal:(bf g nn ss q t).length<=4611686018427387904:=by
  have:=GI (g:=g) (nn:=nn) (ss:=ss) (q:=q) (t:=t)
  have:=hb.2.2.2.1
  omega
 refine ⟨λn o u=>n = ((gD g nn ss q (t + 1)).length:Int)/\o = ((im g nn ss q (t + 1)).length:Int)/\Gr w9 u,?_,?_⟩
 rotate_left
 ·rintro _ _ _ w29 ⟨rfl,rfl,g29⟩
  exact ⟨⟨by omega,by omega⟩,⟨t + 1,by simp,h3,rfl,rfl,g29⟩,bK h3⟩
 refine ⟨_,_,_,r26.cell0 g17,aB hoa (by omega) ⟨_,_,_,hca _ g17,ak hva (by omega) ⟨_,_,rv.at g17 rfl,af (St.all w17) λk66 w18 h=>aI h rfl (by simp [aH]) λw19 h=>?_⟩⟩⟩
 have r66:av (hp w19) (aM k66) (bD v):=ag 0 h.l
 have g19' : Gr w9 w19:=g17.trans h.aR
 clear h
 refine ⟨λn o' n' c' u=>n = ((gD g nn ss q (t + 1)).length:Int)/\n' = (bf g nn ss q t).length/\aX (hp w19) (bf g nn ss q t) o' n'/\w19 = u,?_,?_⟩
 ·have none:bf g nn ss q t = []->(gD g nn ss q (t + 1)).length = (gD g nn ss q t).length->(((gD g nn ss q t).length:Int) = ((gD g nn ss q (t + 1)).length:Int)/\0 = (bf g nn ss q t).length/\aX (hp w19) (bf g nn ss q t) none 0/\w19 = w19):=λe1 e2=>⟨by rw [e2],by rw [e1]; rfl,by rw [e1]; exact aX.nil,rfl⟩
  refine aa (λh4=>?_) λh4=>?_
  ·have h4:(gD g nn ss q t).length < (bR g nn ss 1).length:=by have:=UI h4; omega
   obtain ⟨y,ad,a',c',hy,ha,ry,ty⟩:=qZ (hr.mono g19') h4
   rcases pc with ⟨hlen,hcell,hn1⟩ | ⟨he,hno,hn1⟩
   ·rw [hcell] at hy
    cases hy
    exact ak ha h4 ⟨_,ry.cell0 (sub.refl _),dZ (by simp) (ak ha h4 ⟨_,ry.cell (sub.refl _) (j:=1) rfl,dZ (by simp) (ak ha h4 ⟨_,_,_,ry.cell (sub.refl _) (j:=2) rfl,⟨by omega,by omega⟩,by rw [hn1]; simp,rfl,ty,rfl⟩)⟩)⟩
   ·have hno:=hno y hy
    refine ak ha h4 ⟨_,ry.cell0 (sub.refl _),aa (λh5=>ak ha h4 ⟨_,ry.cell (sub.refl _) (j:=1) rfl,d_ ?_ (none he hn1)⟩) λh5=>none he hn1⟩
    have h5:y.st = (q:Int):=by simpa using h5
    have h6:y.tm≠(t:Int):=λh=>hno ⟨h5,h⟩
    simpa using h6
  ·have h4:¬ (gD g nn ss q t).length < (bR g nn ss 1).length:=by have:=UH h4; omega
   rcases pc with ⟨hlen,hcell,hn1⟩ | ⟨he,hno,hn1⟩
   ·exact absurd (UJ.1 hcell).1 h4
   ·exact none he hn1
 rintro _ _ o33 _ c33 _ ⟨rfl,rfl,hra,rfl⟩
 refine ⟨_,_,r66.at (sub.refl _) rfl,(Kj hra hal).mono ?_⟩
 rintro _ w21 ⟨rfl,g21⟩
 have gv:Gr w9 w21:=g19'.trans g21
 have r66:=r66.mono g21
 have hra:=hra.mono g21
 have dv:decide ((⟨v.kind,v.to⟩ : ax)∈bf g nn ss q t) = decide (v∈bf g nn ss q t):=rfl
 rw [dv]
 refine ⟨_,rfl,λu=>w21 = u,?_,?_⟩
 ·have hm:=OG (g:=g) (t:=t) (l:=bf g nn ss q t)
  rw [<- ev] at hm
  rcases hm with ⟨h4,h5⟩ | ⟨h4,h5⟩ | ⟨h4,h5⟩
  ·rw [h4]
   refine dZ rfl (dZ (by simp) (d_ rfl ⟨_,_,r66.at (sub.refl _) rfl,_,C_ w21 _ _ v ⟨0,0⟩,_,rfl,d_ (by rw [h5]; rfl) (d_ rfl rfl)⟩))
  ·rw [Vc h5]
   exact aa (λ_=>d_ rfl (aa (λ_=>d_ rfl rfl) λ_=>rfl)) λ_=>aa (λ_=>d_ rfl rfl) λ_=>rfl
  ·refine d_ (Vd (by omega)) (dZ (Vc (by omega)) (aa (λ_=>⟨_,_,r66.at (sub.refl _) rfl,_,C_ w21 _ _ v ⟨4,0⟩,_,rfl,d_ (by rw [h5]; rfl) rfl⟩) λ_=>rfl))
 rintro _ _ rfl
 have skip:(im g nn ss q (t + 1)).length = (im g nn ss q t).length->(((gD g nn ss q (t + 1)).length:Int) = ((gD g nn ss q (t + 1)).length:Int)/\((im g nn ss q t).length:Int) = ((im g nn ss q (t + 1)).length:Int)/\Gr w9 w21):=λe=>⟨rfl,by rw [e],gv⟩
 refine ⟨_,_,_,r26.cell gv (j:=2) rfl,aa (λh4=>?_) λh4=>?_⟩
 ·have h4:CL.length<=(im g nn ss q t).length:=by have:=UI h4; omega
  rcases pk with ⟨_,hcell,_⟩ | ⟨_,_,hn1⟩
  ·have:=(UJ.1 hcell).1; omega
  ·exact skip hn1
 have h4:(im g nn ss q t).length < CL.length:=by have:=UH h4; omega
 obtain ⟨y,ad,a',c',hy,ha,ry,ty⟩:=qZ (hTc.mono gv) h4
 refine ⟨_,_,_,r26.cell gv (j:=2) rfl,ak ha h4 ⟨_,ry.cell0 (sub.refl _),aa (λh5=>?_) λh5=>⟨_,_,_,r26.cell gv (j:=2) rfl,ak ha h4 ⟨_,ry.cell (sub.refl _) (j:=1) rfl,aa (λh6=>?_) λh6=>⟨_,_,_,r26.cell gv (j:=2) rfl,ak ha h4 ⟨_,_,_,ry.cell (sub.refl _) (j:=2) rfl,?_⟩⟩⟩⟩⟩⟩
 ·have h5:y.st≠(q:Int):=by simpa using h5
  rcases pk with ⟨_,hcell,_⟩ | ⟨_,_,hn1⟩
  ·rw [hcell] at hy; cases hy; exact absurd rfl h5
  ·exact skip hn1
 ·have h6:y.tm≠(t:Int):=by simpa using h6
  rcases pk with ⟨_,hcell,_⟩ | ⟨_,_,hn1⟩
  ·rw [hcell] at hy; cases hy; exact absurd rfl h6
  ·exact skip hn1
 have h5:y.st = (q:Int):=by simpa using h5
 have h6:y.tm = (t:Int):=by simpa using h6
 rcases pk with ⟨hlen,hcell,hn1⟩ | ⟨_,hno,_⟩
 rotate_left
 ·exact absurd ⟨h5,h6⟩ (hno y hy)
 have hl:y.acts = (aZ g t (bf g nn ss q t)).1:=by rw [hcell] at hy; rw [<- Option.some.inj hy]
 rw [<- hl] at hlen
 have hll:y.acts.length<=(bf g nn ss q t).length:=by rw [hl]; exact xE
 refine ⟨λz u=>∃ i:Nat,z = i/\i<=y.acts.length/\Gr w21 u,λz _=>y.acts.length - z.toNat,⟨0,rfl,UW _,Gr.refl _⟩,?_⟩
 rintro _ _ w23 ⟨i,rfl,hi,g23⟩
 refine aa (λh7=>?_) λh7=>?_
 ·have h7:i < y.acts.length:=by have:=UI h7; omega
  obtain ⟨z,zad,hz,hza,rz⟩:=bM (ty.mono g23) h7
  refine ak hza h7 ⟨_,_,rz.at (sub.refl _) rfl,(Kj (hra.mono g23) hal).mono ?_⟩
  rintro _ w24 ⟨rfl,g24⟩
  have hzm:(⟨z.kind,z.to⟩ : ax)∈bf g nn ss q t:=C5 (g:=g) (t:=t) (x:=z) (by rw [<- hl]; exact UL hz)
  exact ⟨_,rfl,d_ (by rw [Vc hzm]; rfl) ⟨⟨by omega,by omega⟩,⟨i + 1,by simp,h7,g23.trans g24⟩,bK h7⟩⟩
 ·intro w25 hd5
  have g25:Gr w21 w25:=g23.trans (Gr.drawn hd5)
  obtain ⟨z,zad,hz,hza,rz⟩:=bM (ty.mono g25) (show 0 < y.acts.length by omega)
  have ez:z = v:=by
   rw [ev]
   cases hh:aZ g t (bf g nn ss q t) with
   | mk X Y =>
    rw [hh] at hl
    have hl:y.acts = X:=hl
    rw [hl] at hz hlen
    cases X with
    | nil=>simp at hlen
    | cons a1 l1=>simp at hz; subst hz; rfl
  rw [show (cT 0 2) = 0 from rfl,show zad.add 0 = zad from by simp [Addr.add]] at rz
  refine ⟨λu=>Gr w25 u,Gr.refl _,d_ (Vd (by omega)) (gk hza (by omega) ⟨_,_,λu s=>rz.at s rfl,_,_,λu s=>(r66.mono g25).at s rfl,_,λu _=>C_ u _ _ z v,_,rfl,d_ (by rw [ez]; simp) ⟨⟨by omega,by omega⟩,rfl,by rw [hn1]; simp,gv.trans g25⟩⟩)⟩
end Go.Proofs.YtndaepmjkbmjmaaGreatDoor
namespace Go.V
theorem OH {z:Int} (h:aw z):Kl z = z:=Dh h
end Go.V
namespace Go.Proofs.YtndaepmjkbmjmaaGreatDoor
variable {w:WB} {L:List au} {g:ae} {x:GA}
theorem Tv {xs:List ax} {a:WA} {l c:Nat} (hg:gR (hp w) g x) (hb:iq g) (hr:aX (hp w) xs a l) (hl:l<=4611686018427387904):ay Tryz.prog uL [.agg ⟨x.cells⟩,.slice a l c] w λv w'=>v = .bool (decide (ly g.prods.length xs))/\Gr w w':=by
 have hxl:=hr.1
 have hbp:=hb.2.2.2.1
 refine ri (cN hg λk1 w1 gw hg1 B=>?_)
 have pl:=hg1.p.1
 have hr:=hr.mono gw
 refine ⟨λrank z u=>∃ (i:Nat) (last:Int),z = i/\i<=l/\rank = last + 1/\-1<=last/\(ly g.prods.length xs↔wm g.prods.length last (xs.drop i))/\Gr w1 u,λ_ z _=>l - z.toNat,⟨0,-1,rfl,UW _,rfl,Int.le_refl _,by rw [List.drop_zero]; exact Iff.rfl,Gr.refl _⟩,?_⟩
 rintro _ _ _ w2 ⟨i,last,rfl,hi,rfl,hlast,ho,g12⟩
 refine aa (λh1=>?_) λh1=>?_
 rotate_left
 ·have h1:i = l:=by have:=UH h1; omega
  rw [List.drop_eq_nil_of_le (by omega)] at ho
  exact ⟨by rw [Vc (ho.2 trivial)],gw.trans g12⟩
 have h1:i < l:=by have:=UI h1; omega
 obtain ⟨y,ad,hy,rfl,ry⟩:=bM (hr.mono g12) h1
 rw [C4 hy] at ho
 rw [OH (show aw ((i:Int) + 1) from ⟨by omega,by omega⟩)]
 refine ak rfl h1 ⟨_,_,ry.at (sub.refl _) rfl,af (St.all w2) λk2 w3 h=>aI h rfl (by simp [aH]) λw4 h=>?_⟩
 have r2:av (hp w4) (aM k2) [.int .i64 y.kind,.int .i64 y.to]:=ag 0 h.l
 have g24:Gr w2 w4:=h.aR
 clear h
 have c0:=r2.cell0 (sub.refl _)
 have c1:=r2.cell (sub.refl _) (j:=1) rfl
 have g14:=g12.trans g24
 have no:¬ last < jK g.prods.length y->(.bool false:Value) = .bool (decide (ly g.prods.length xs))/\Gr w w4:=λh=>⟨by rw [Vd λhh=>h (ho.1 hh).1],gw.trans g14⟩
 have yes:∀ r:Int,r = jK g.prods.length y + 1->last < jK g.prods.length y->(∃ (i' : Nat) (last:Int),(i:Int) + 1 = i'/\i'<=l/\r = last + 1/\-1<=last/\(ly g.prods.length xs↔wm g.prods.length last (xs.drop i'))/\Gr w1 w4)/\l - ((i:Int) + 1).toNat < l - (i:Int).toNat:=λr e h=>⟨⟨i + 1,_,by simp,h1,e,by omega,ho.trans ⟨λhh=>hh.2,λhh=>⟨h,hh⟩⟩,g14⟩,bK h1⟩
 refine ⟨_,c0,aa (λh2=>?_) λh2=>aa (λh3=>?_) λh3=>aa (λh4=>?_) λh4=>?_⟩
 ·have h2:y.kind = 1:=by simpa using h2
  refine ⟨_,c1,aa (λh3=>no ?_) λh3=>aa (λh4=>no ?_) λh4=>yes _ ?_ ?_⟩
  ·have h3:=UI h3
   unfold jK; rw [UN (by omega),UN (by omega),UN (by omega)]; omega
  ·have h3:=UH h3
   have h4:=UI h4
   unfold jK; rw [US (by omega)]; omega
  ·have h3:=UH h3
   unfold jK; rw [US (by omega)]; rfl
  ·have h3:=UH h3
   have h4:=UH h4
   unfold jK; rw [US (by omega)]; omega
 ·have h2:¬ y.kind = 1:=by simpa using h2
  have h3:y.kind = 3:=by simpa using h3
  refine ⟨_,c1,aa (λh4=>no ?_) λh4=>aa (λh5=>no ?_) λh5=>yes _ ?_ ?_⟩
  ·have h4:y.to≠0:=by simpa using h4
   unfold jK; rw [UN (by omega),UN (by omega),UN (by omega)]; omega
  ·have h4:y.to = 0:=by simpa using h4
   have h5:=UI h5
   unfold jK; rw [UN (by omega),US (by omega)]; omega
  ·have h4:y.to = 0:=by simpa using h4
   unfold jK; rw [UN (by omega),US (by omega)]; rfl
  ·have h4:y.to = 0:=by simpa using h4
   have h5:=UH h5
   unfold jK; rw [UN (by omega),US (by omega)]; omega
 ·have h2:¬ y.kind = 1:=by simpa using h2
  have h3:¬ y.kind = 3:=by simpa using h3
  have h4:y.kind = 2:=by simpa using h4
  refine ⟨_,c1,_,c1,aa (λh5=>no ?_) λh5=>⟨_,c1,_,_,_,B.c4 g14,aa (λh6=>no ?_) λh6=>?_⟩⟩
  ·have h5:=UI h5
   unfold jK; rw [UN (by omega),UN (by omega),UN (by omega)]; omega
  ·have h6:=UI h6
   unfold jK; rw [UN (by omega),UN (by omega),UN (by omega)]; omega
  ·have h5:=UH h5
   have h6:=UH h6
   rw [OH (show aw (2 + y.to) from ⟨by omega,by omega⟩)]
   have e:jK g.prods.length y = 1 + y.to:=by unfold jK; rw [UN (by omega),UN (by omega),US (by omega)]
   refine aa (λh7=>no ?_) λh7=>yes _ ?_ ?_
   ·have h7:=UI h7; omega
   ·omega
   ·have h7:=UH h7; omega
 ·have h2:¬ y.kind = 1:=by simpa using h2
  have h3:¬ y.kind = 3:=by simpa using h3
  have h4:¬ y.kind = 2:=by simpa using h4
  refine dZ (Vc (by omega)) (no ?_)
  unfold jK; rw [UN (by omega),UN (by omega),UN (by omega)]; omega
theorem Sw {xs:List ax} {a:WA} {c:Nat} {d:Bool} (hr:aX (hp w) xs a xs.length):ay Tryz.prog tC [.slice a xs.length c,.bool d] w λv w'=>v = .agg ⟨bD (iQ (xs,d))⟩/\Gr w w':=by
 refine pU (af (St.all w) λk1 w1 h=>?_)
 have g1:Gr w w1:=h.aR
 refine aa (λh1=>?_) λh1=>aa (λh2=>?_) λh2=>?_
 ·have h1:0 < xs.length:=by have:=UI h1; omega
  obtain ⟨y,ad,hy,rfl,ry⟩:=bM (hr.mono g1) h1
  rw [show (cT 0 2) = 0 from rfl,show ad.add 0 = ad from by simp [Addr.add]] at ry
  refine gk rfl h1 ⟨_,_,ry.at (sub.refl _) rfl,aI h rfl (by simp [aH]) λw2 h=>⟨_,_,(ag 0 h.l).at (sub.refl _) rfl,?_,h.aR⟩⟩
  cases xs with
  | nil=>simp at h1
  | cons z r=>simp at hy; subst hy; rfl
 ·have e:xs = []:=UU (by have:=UH h1; omega)
  subst e
  subst h2
  exact aI h rfl (by simp [aH]) λw2 h=>⟨_,_,(ag 0 h.l).at (sub.refl _) rfl,rfl,h.aR⟩
 ·have e:xs = []:=UU (by have:=UH h1; omega)
  subst e
  subst h2
  exact aI h rfl (by simp [aH]) λw2 h=>⟨_,_,(ag 0 h.l).at (sub.refl _) rfl,rfl,h.aR⟩
theorem Sx {xs:List ax} {a:WA} {c t:Nat} (hc:aq g) (hg:gR (hp w) g x) (hr:aX (hp w) xs a xs.length) (ho:ly g.prods.length xs) (ht:t < g.T):ay Tryz.prog tB [.agg ⟨x.cells⟩,.int .i64 (t:Int),.slice a xs.length c] w λv w'=>∃ (o:WA) (c' : Nat),v = .tuple #[.slice o (aZ g t xs).1.length c',.bool (aZ g t xs).2]/\St w' (own 2 o (aZ g t xs).1.length c' (c_ (aZ g t xs).1) :: all w):=by
 obtain ⟨sT,sN,sP,sP2,_,_⟩:=hc.gB
 have hlen:=Ka (by omega) ho
 refine pQ (cN hg λk1 w1 gw hg1 B=>?_)
 have hr1:=hr.mono gw
 refine ⟨λb u=>w1 = u/\(b = true↔∃ y r,xs = y :: r/\y.kind = 1),aa (λh1=>?_) λh1=>⟨rfl,?_⟩,?_⟩
 ·have h1:0 < xs.length:=by have:=UI h1; omega
  obtain ⟨y,ad,hy,rfl,ry⟩:=bM hr1 h1
  obtain ⟨r,hxr⟩ : ∃ r,xs = y :: r:=by
   cases xs with
   | nil=>simp at h1
   | cons z r=>simp at hy; subst hy; exact ⟨r,rfl⟩
  rw [show (cT 0 2) = 0 from rfl,show ad.add 0 = ad from by simp [Addr.add]] at ry
  refine gk rfl h1 ⟨_,ry.cell0 (sub.refl _),rfl,?_⟩
  rw [hxr]
  constructor
  ·intro h
   exact ⟨y,r,rfl,by simpa using h⟩
  ·rintro ⟨y',r',e,h⟩
   cases e
   simpa using h
 ·have e:xs = []:=UU (by have:=UH h1; omega)
  subst e
  exact ⟨λh=>(by cases h),λ⟨_,_,h,_⟩=>(by cases h)⟩
 rintro _ b1 _ ⟨rfl,hb⟩
 -- an action's side
 have side:∀ y∈xs,y.kind = 2->∃ p:Nat,y.to = p/\p < g.prods.length/\nN g t y = bu g p t:=λy hy h2=>by
  obtain ⟨hp0,hp1⟩ : 0 < y.to/\y.to < g.prods.length:=by
   rcases Iu ho hy with ⟨h,_⟩ | ⟨h,_⟩ | ⟨_,h⟩
   ·omega
   ·omega
   ·exact h
  refine ⟨y.to.toNat,by omega,by omega,?_⟩
  unfold nN; rw [US h2]
 refine ⟨λb2 b3 z u=>∃ i:Nat,z = i/\i<=xs.length/\b2 = (!b1 || (xs.take i).all (oH g t))/\b3 = (b1 && (xs.take i).any (te g t))/\Gr w1 u,λ_ _ z _=>xs.length - z.toNat,⟨0,rfl,UW _,by simp,by simp,Gr.refl _⟩,?_⟩
 rintro _ _ _ _ w3 ⟨i,rfl,hi,rfl,rfl,g13⟩
 refine aa (λh1=>?_) λh1=>?_
 ·have h1:i < xs.length:=by have:=UI h1; omega
  obtain ⟨y,ad,hy,rfl,ry⟩:=bM (hr1.mono g13) h1
  have hym:=UL hy
  have htk:xs.take (i + 1) = xs.take i ++ [y]:=by rw [UR,hy]; rfl
  have next:∀ {u:WB} (b2 b3:Bool),b2 = (!b1 || (xs.take (i + 1)).all (oH g t))->b3 = (b1 && (xs.take (i + 1)).any (te g t))->Gr w1 u->aw ((i:Int) + 1)/\(∃ i' : Nat,(i:Int) + 1 = i'/\i'<=xs.length/\b2 = (!b1 || (xs.take i').all (oH g t))/\b3 = (b1 && (xs.take i').any (te g t))/\Gr w1 u)/\xs.length - ((i:Int) + 1).toNat < xs.length - (i:Int).toNat:=λb2 b3 e2 e3 gu=>⟨⟨by omega,by omega⟩,⟨i + 1,by simp,h1,e2,e3,gu⟩,bK h1⟩
  refine ak rfl h1 ⟨_,ry.cell0 (sub.refl _),aa (λh2=>next _ _ ?_ ?_ g13) λh2=>aa (λh3=>next _ _ ?_ ?_ g13) λh3=>?_⟩
  ·have h2:y.kind≠2:=by simpa using h2
   rw [htk,Wq]; simp [Kg h2]
  ·have h2:y.kind≠2:=by simpa using h2
   rw [htk,List.any_append]; simp [Kh h2]
  ·have h3:b1 = false:=by simpa using h3
   rw [h3]; simp
  ·have h3:b1 = false:=by simpa using h3
   rw [h3]; simp
  have h2:y.kind = 2:=by simpa using h2
  have h3:b1 = true:=by simpa using h3
  obtain ⟨p,hp,hp1,es⟩:=side y hym h2
  intro w4 hd
  have g14:Gr w1 w4:=g13.trans (Gr.drawn hd)
  refine ⟨λu=>Gr w3 u,Gr.drawn hd,_,_,_,_,_,_,_,_,_,_,_,_,_,λu s=>B.row (sub.trans g13 s),ak rfl h1 ⟨_,λu s=>ry.cell s (j:=1) rfl,?_⟩⟩
  rw [hp]
  refine (IA hc (hg1.mono g14) hp1 ht).mono ?_
  rintro _ w7 ⟨rfl,g47⟩
  rw [<- es]
  have g17:=g14.trans g47
  have hin:=N_ (g:=g) t y
  rw [h3] at next ⊢
  have e2:(!true || (xs.take (i + 1)).all (oH g t)) = ((xs.take i).all (oH g t) && (nN g t y != 2 && nN g t y != 3)):=by
   rw [htk,Wq]
   have:oH g t y = (nN g t y != 2 && nN g t y != 3):=by
    unfold oH
    by_cases h4:nN g t y = 2 <;> by_cases h5:nN g t y = 3 <;> simp [h4,h5]
   simp [this]
  have e3:(true && (xs.take (i + 1)).any (te g t)) = ((xs.take i).any (te g t) || (nN g t y == 3)):=by
   rw [htk,List.any_append]
   have:te g t y = (nN g t y == 3):=by
    unfold te
    by_cases h5:nN g t y = 3 <;> simp [h5]
   simp [this]
  have st:(!true || (xs.take i).all (oH g t)) = (xs.take i).all (oH g t):=by simp
  have nt:(true && (xs.take i).any (te g t)) = (xs.take i).any (te g t):=by simp
  rw [st,nt]
  refine ⟨_,rfl,(Gr.drawn hd).trans g47,aa (λh4=>aa (λh5=>aa (λh6=>?_) λh6=>?_) λh5=>aa (λh6=>?_) λh6=>?_) λh4=>aa (λh6=>?_) λh6=>?_⟩
  ·exact next _ _ (by rw [e2,h4,h5]; simp) (by rw [e3,h6]; simp) g17
  ·exact next _ _ (by rw [e2,h4,h5]; simp) (by rw [e3,h6]; simp) g17
  ·exact next _ _ (by rw [e2,h4,h5]; simp) (by rw [e3,h6]; simp) g17
  ·exact next _ _ (by rw [e2,h4,h5]; simp) (by rw [e3,h6]; simp) g17
  ·exact next _ _ (by rw [e2,h4]; simp) (by rw [e3,h6]; simp) g17
  ·exact next _ _ (by rw [e2,h4]; simp) (by rw [e3,h6]; simp) g17
 have h1:i = xs.length:=by have:=UH h1; omega
 subst h1
 rw [U8]
 obtain ⟨F,hF⟩ : ∃ F:ax->Bool,F = λx=>if b1 = true then (if x.kind = 1 then xs.all (oH g t) else nW g t x) else true:=⟨_,rfl⟩
 have hfl:∀ i,((xs.take i).filter F).length<=xs.length:=λi=>by
  have h1:=Vv F (xs.take i)
  rw [U9] at h1
  omega
 have hres:(xs.filter F,(b1 && xs.any (te g t))) = aZ g t xs:=by
  by_cases h:b1 = true
  ·obtain ⟨y,r,rfl,hk⟩:=hb.1 h
   rw [<- Qz ho hk,hF,h]
   unfold Sv
   simp
  ·have e1:xs.filter F = xs:=List.filter_eq_self.2 λx _=>by rw [hF]; simp [h]
   have h:b1 = false:=by simpa using h
   rw [e1,h]
   cases xs with
   | nil=>rfl
   | cons y r=>exact (kJ λhk=>by have:=hb.2 ⟨y,r,rfl,hk⟩; rw [h] at this; cases this).symm
 refine ⟨λo n c' z u=>∃ i:Nat,z = i/\i<=xs.length/\n = ((xs.take i).filter F).length/\St u (own 2 o n c' (c_ ((xs.take i).filter F)) :: has (hp w1) :: []),λ_ _ _ z _=>xs.length - z.toNat,⟨0,rfl,UW _,rfl,az 2 (St.here g13)⟩,?_⟩
 rintro _ o5 _ c5 _ w8 ⟨i,rfl,hi,rfl,h⟩
 have g18:Gr w1 w8:=bj 1 h.l
 refine aa (λh1=>?_) λh1=>?_
 rotate_left
 ·have h1:i = xs.length:=by have:=UH h1; omega
  subst h1
  rw [U8] at h ⊢
  rw [<- hres]
  exact ⟨_,_,rfl,St.vf h (b_ gw)⟩
 have h1:i < xs.length:=by have:=UI h1; omega
 obtain ⟨y,ad,hy,rfl,ry⟩:=bM (hr1.mono g18) h1
 have hym:=UL hy
 have htk:xs.take (i + 1) = xs.take i ++ [y]:=by rw [UR,hy]; rfl
 have hfi:=hfl i
 refine ⟨λb4 u=>w8 = u/\b4 = (if y.kind = 1 then (!b1 || xs.all (oH g t)) else true),ak rfl h1 ⟨_,ry.cell0 (sub.refl _),aa (λh2=>⟨rfl,?_⟩) λh2=>⟨rfl,?_⟩⟩,?_⟩
 ·have h2:y.kind = 1:=by simpa using h2
  rw [US h2]
 ·have h2:¬ y.kind = 1:=by simpa using h2
  rw [UN h2]
 rintro _ b4 _ ⟨rfl,hb4⟩
 have hFy:F y = if b1 = true then (if y.kind = 1 then xs.all (oH g t) else nW g t y) else true:=by rw [hF]
 refine ⟨λb5 u=>Gr w8 u/\St u (own 2 o5 ((xs.take i).filter F).length c5 (c_ ((xs.take i).filter F)) :: has (hp w1) :: [])/\b5 = F y,ak rfl h1 ⟨_,ry.cell0 (sub.refl _),aa (λh2=>aa (λh3=>?_) λh3=>⟨Gr.refl _,h,?_⟩) λh2=>⟨Gr.refl _,h,?_⟩⟩,?_⟩
 ·have h2:y.kind = 2:=by simpa using h2
  obtain ⟨p,hp,hp1,es⟩:=side y hym h2
  intro w10 hd
  have g810:Gr w8 w10:=Gr.drawn hd
  refine ⟨λu=>Gr w8 u,g810,_,_,_,_,_,_,_,_,_,_,_,_,_,λu s=>B.row (sub.trans g18 s),ak rfl h1 ⟨_,λu s=>ry.cell s (j:=1) rfl,?_⟩⟩
  rw [hp]
  refine (IA hc (hg1.mono (g18.trans g810)) hp1 ht).mono ?_
  rintro _ w13 ⟨rfl,g13'⟩
  have g813:=g810.trans g13'
  rw [<- es]
  refine ⟨_,rfl,g813,aa (λh4=>⟨g813,h.gr g813,?_⟩) λh4=>⟨g813,h.gr g813,?_⟩⟩
  ·have h4:nN g t y = 0:=by simpa using h4
   rw [hFy,US h3,UN (by omega)]
   exact (Vc (.inl h4)).symm
  ·have h4:¬ nN g t y = 0:=by simpa using h4
   rw [hFy,US h3,UN (by omega)]
   unfold nW
   by_cases h5:nN g t y = 2 <;> simp [h4,h5]
 ·rw [hFy,hb4,h3]; simp
 ·have h2:¬ y.kind = 2:=by simpa using h2
  rw [hFy,hb4]
  cases b1 with
  | false=>simp
  | true =>
   by_cases h3:y.kind = 1
   ·simp [h3]
   ·simp [h3,Qy h2]
 rintro _ b5 w14 ⟨g814,h,hb5⟩
 refine aa (λh2=>?_) λh2=>?_
 ·rw [h2] at hb5
  have e:(xs.take (i + 1)).filter F = (xs.take i).filter F ++ [y]:=by rw [htk,Vr,VO hb5.symm]; simp
  refine ak rfl h1 ⟨_,_,ry.at g814 rfl,af h λk20 w15 h=>?_⟩
  refine (aW (us:=c_ ((xs.take i).filter F)) aL (rfl:ah Ty _ = .slice _) (rfl:ah Ty _ = .slice _) rfl rfl rfl h rfl (by simp [aH]) (by show (((xs.take i).filter F).length + 1) * 16<=_; omega) (by omega)).mono ?_
  rintro _ w16 ⟨o4,c4,rfl,h⟩
  refine ⟨_,_,_,rfl,⟨by omega,by omega⟩,⟨i + 1,by simp,h1,by rw [e]; simp,?_⟩,bK h1⟩
  rw [e,zu]
  exact h.pick 2 [0]
 ·rw [h2] at hb5
  have e:(xs.take (i + 1)).filter F = (xs.take i).filter F:=by rw [htk,Vr,VP (by rw [<- hb5]; simp)]; simp
  exact ⟨⟨by omega,by omega⟩,⟨i + 1,by simp,h1,by rw [e],by rw [e]; exact h⟩,bK h1⟩
end Go.Proofs.YtndaepmjkbmjmaaGreatDoor
namespace Go.V
theorem Ly {g:ae} {t:Int} {xs:List ax} {a a' : ax} {l l' : List ax} {e e' : Int} (h:GU g t xs a l e) (h' : GU g t xs a' l' e'):a' = a/\l' = l/\e' = e:=by
 rcases h with ⟨h1,rfl,rfl,rfl⟩ | ⟨hc,ho,j,rfl,hj,rfl,rfl,rfl⟩ <;> rcases h' with ⟨k1,rfl,rfl,rfl⟩ | ⟨kc,ko,j',k2,kj,rfl,rfl,rfl⟩
 ·exact ⟨rfl,rfl,rfl⟩
 ·exact absurd ⟨kc,by omega,by omega,ko⟩ h1
 ·exact absurd ⟨hc,by omega,by omega,ho⟩ k1
 ·obtain rfl:j' = j:=by omega
  exact ⟨rfl,rfl,rfl⟩
theorem OI {w:WB} {L:List au} {o:WA} {n c j:Nat} {ys:List ax} {y:ax} {X:WB->Prop} (h:St w (own 2 o n c (c_ ys) :: L)) (hn:ys.length = n) (hj:j < n) (hX:∀ w',St w' (own 2 o n c (c_ (ys.set j y)) :: L)->X w'):idx o n (j:Int) 2 λa=>cH w a [.int .i64 y.kind,.int .i64 y.to] X:=by
 obtain ⟨ad,ha⟩:=fa h (by rw [gF]; omega)
 refine ak ha hj ?_
 rw [aF]
 refine vD (i:=j * 2) h ha (by rw [gF]; simp; omega) (by simp [aH]) (by simp) λw' h=>hX w' ?_
 have e:=Iy (f:=bD) (n:=2) (λ_=>rfl) ys j y (by omega)
 have h:St w' (own 2 o n c ((ys.flatMap bD).take (j * 2) ++ bD y ++ (ys.flatMap bD).drop (j * 2 + 2)) :: L):=h
 rw [e] at h
 exact h
theorem QD {h:Hp} {xs:List ax} {a:WA} {l n c:Nat} (r:aX h xs a l) (hn:n<=l) (hc:l<=c):aX h (xs.take n) (eL a 0 c 2) n:=by
 have:=(r.take hn).drop (k:=0) (m:=c) (by omega) (by omega)
 exact this
end Go.V
namespace Go.Proofs.YtndaepmjkbmjmaaGreatDoor
variable {w:WB} {L:List au} {g:ae} {x:GA}
theorem OJ {xs:List ax} {a:WA} {c:Nat} {st t:Int} (hg:gR (hp w) g x) (hb:iq g) (hr:aX (hp w) xs a xs.length) (hl:xs.length<=4611686018427387904):ay Tryz.prog tz [.agg ⟨x.cells⟩,.agg #[.int .i64 st,.int .i64 t,.slice a xs.length c]] w λv w'=>∃ (ac:ax) (l:List ax) (e:Int) (o:WA) (c' : Nat),v = .tuple #[.agg ⟨bD ac⟩,.slice o l.length c',.int .i64 e]/\GU g t xs ac l e/\St w' (own 2 o l.length c' (c_ l) :: all w):=by
 refine pJ (cN hg λk1 w1 gw hg1 B=>af (St.all w1) λk2 w2 h=>af h λk3 w3 h=>?_)
 have g13:Gr w1 w3:=bj 2 h.l
 have r2:av (hp w3) (aM k2) [.int .i64 st,.int .i64 t,.slice a xs.length c]:=ag 1 h.l
 have tl:=hg1.t.1
 have eT:g.T = g.terms.length:=rfl
 have hr3:=hr.mono (gw.trans g13)
 have no:∀ {u:WB},St u (aS k3 [.int .i64 0,.int .i64 0] :: aS k2 [.int .i64 st,.int .i64 t,.slice a xs.length c] :: all w1)->¬ (aq g/\0<=t/\t < g.T/\ly g.prods.length xs) ->
   cH u (aM k3) [.int .i64 0,.int .i64 0] λw6=>∃ n4 n5,V.rowAt w6 (aM k3) 0 2 = some [.int .i64 n4,.int .i64 n5]/\∃ (ac:ax) (l:List ax) (e:Int) (o:WA) (c' : Nat),(.tuple #[.agg #[.int .i64 n4,.int .i64 n5],.slice none 0 0,.int .i64 1] : Value) = .tuple #[.agg ⟨bD ac⟩,.slice o l.length c',.int .i64 e]/\GU g t xs ac l e/\St w6 (own 2 o l.length c' (c_ l) :: all w):=λhu hh =>
  aI hu rfl (by simp [aH]) λw7 h=>⟨_,_,(ag 0 h.l).at (sub.refl _) rfl,⟨0,0⟩,[],1,none,0,rfl,.inl ⟨hh,rfl,rfl,rfl⟩,az 2 (St.here (sub.trans gw (bj 2 h.l)))⟩
 refine ⟨_,_,_,_,_,_,_,_,_,_,_,_,_,B.row g13,(vt (hg1.mono g13) hb).mono ?_⟩
 rintro _ w4 ⟨⟨r,rfl,hrr⟩,g34⟩
 refine ⟨_,rfl,λb u=>w4 = u/\(b = false↔(aq g/\0<=t/\t < g.T)),aa (λh1=>⟨rfl,?_⟩) λh1=>⟨_,r2.cell g34 (j:=1) rfl,aa (λh2=>⟨rfl,?_⟩) λh2=>⟨_,r2.cell g34 (j:=1) rfl,_,_,_,B.c0 (g13.trans g34),rfl,?_⟩⟩,?_⟩
 ·have:r = false:=by simpa using h1
  exact ⟨λh=>(by cases h),λh=>by rw [hrr.2 h.1] at this; cases this⟩
 ·have:=UI h2
  exact ⟨λh=>(by cases h),λh=>by omega⟩
 ·have h1:r = true:=by simpa using h1
  have h2:=UH h2
  refine ⟨λh=>?_,λh=>Vd (by omega)⟩
  have:=UH h
  exact ⟨hrr.1 h1,by omega,by omega⟩
 rintro _ b _ ⟨rfl,hb6⟩
 have h:=h.gr g34
 refine aa (λh1=>?_) λh1=>?_
 ·subst h1
  exact no h λhh=>by cases hb6.2 ⟨hh.1,hh.2.1,hh.2.2.1⟩
 subst h1
 obtain ⟨hc,t0,t1⟩:=hb6.1 rfl
 obtain ⟨j,rfl⟩ : ∃ j:Nat,t = j:=⟨t.toNat,by omega⟩
 refine ⟨_,_,_,_,_,_,_,_,_,_,_,_,_,B.row (g13.trans g34),_,_,_,r2.cell g34 (j:=2) rfl,(Tv (hg1.mono (g13.trans g34)) hb (hr3.mono g34) hl).mono ?_⟩
 rintro _ w7 ⟨rfl,g47⟩
 have h:=h.gr g47
 have g17:=g13.trans (g34.trans g47)
 refine ⟨_,rfl,aa (λh1=>no h λhh=>?_) λh1=>?_⟩
 ·have h1:¬ ly g.prods.length xs:=by simpa using h1
  exact h1 hh.2.2.2
 have ho:ly g.prods.length xs:=by simpa using h1
 refine ⟨_,_,_,_,_,_,_,_,_,_,_,_,_,B.row g17,_,(r2.mono (g34.trans g47)).cell (sub.refl _) (j:=1) rfl,_,_,_,(r2.mono (g34.trans g47)).cell (sub.refl _) (j:=2) rfl,(Sx hc (hg1.mono g17) (hr3.mono (g34.trans g47)) ho (by omega)).mono ?_⟩
 rintro _ w9 ⟨o,c',rfl,h9⟩
 have h:=St.vf h9 h.l
 obtain ⟨l,hl9⟩ : ∃ l,l = aZ g j xs:=⟨_,rfl⟩
 rw [<- hl9] at h h9 ⊢
 refine ⟨_,_,_,_,rfl,(Sw (xs:=l.1) (kA rfl (eh 0 h.l))).mono ?_⟩
 rintro _ w10 ⟨rfl,g910⟩
 have h:=h.gr g910
 refine ⟨_,_,rfl,af h λk36 w11 h=>aI h rfl (by simp [aH]) λw12 h=>aa (λh2=>?_) λh2=>?_⟩
 ·have h2:l.1.length < 2:=by have:=UI h2; omega
  refine ⟨_,_,(ag 0 h.l).at (sub.refl _) rfl,?_⟩
  refine aI (h.pick 4 [2,0,1,3]) rfl (by simp [aH]) λw13 h=>?_
  refine ⟨_,_,(ag 0 h.l).at (sub.refl _) rfl,?_⟩
  refine ⟨iQ l,[],0,none,0,rfl,.inr ⟨hc,ho,j,rfl,by omega,by rw [hl9],?_,rfl⟩,az 2 (St.here (sub.trans gw (bj 4 h.l)))⟩
  rw [<- hl9]; unfold ib; rw [UN (by omega)]
 ·have h2:¬ l.1.length < 2:=by have:=UH h2; omega
  refine ⟨_,_,(ag 0 h.l).at (sub.refl _) rfl,?_⟩
  refine aI (h.pick 4 [2,0,1,3]) rfl (by simp [aH]) λw13 h=>?_
  refine ⟨_,_,(ag 0 h.l).at (sub.refl _) rfl,?_⟩
  refine ⟨iQ l,l.1,0,o,c',rfl,.inr ⟨hc,ho,j,rfl,by omega,by rw [hl9],?_,rfl⟩,St.vf (h.pick 4 [2]) (b_ gw)⟩
  rw [<- hl9]; unfold ib; rw [US (by omega)]
theorem Bo {xs:List ax} {a:WA} {c:Nat} {st t:Int} (hg:gR (hp w) g x) (hr:aX (hp w) xs a xs.length) (hb:iq g) (hbX:(xs.length + 1) * 16<=140737488355328) (ht:dy (hp w)):ay Tryz.prog kC [.agg ⟨x.cells⟩,.agg #[.int .i64 st,.int .i64 t,.slice a xs.length c]] w λv w'=>v = .bool true/\Gr w w':=by
 refine jC (cN hg λk1 w1 gw hg1 B=>af (St.all w1) λk2 w2 h=>?_)
 have g12:Gr w1 w2:=h.aR
 have r2:av (hp w2) (aM k2) [.int .i64 st,.int .i64 t,.slice a xs.length c]:=ag 0 h.l
 clear h
 have hr1:=hr.mono gw
 refine (nQ (fb.mono (gw.trans g12) ht)).mono ?_
 rintro _ w3 ⟨rfl,g23⟩
 have g13:=g12.trans g23
 refine ⟨_,rfl,_,_,_,r2.cell g23 (j:=2) rfl,(zj (us:=[]) (news:=c_ xs) aL (rfl:ah Ty _ = .slice _) (rfl:ah Ty _ = .slice _) rfl rfl rfl (az 2 (St.all w3)) (by rw [gF]) (by show 0 < 2; decide) (GR (hr1.mono g13)) (ED xs) (by show (0 + xs.length) * 16<=_; omega) (by omega)).mono ?_⟩
 rintro _ w4 ⟨o2,c2,rfl,h⟩
 have h:St w4 (own 2 o2 (0 + xs.length) c2 (c_ xs) :: all w3):=h
 rw [VA] at h ⊢
 refine ⟨_,_,_,rfl,af h λk7 w5 h=>?_⟩
 refine (aW (us:=c_ xs) aL (rfl:ah Ty _ = .slice _) (rfl:ah Ty _ = .slice _) rfl rfl rfl h rfl (by simp [aH]) (by show (xs.length + 1) * 16<=_; omega) (by omega)).mono ?_
 rintro _ w6 ⟨o3,c3,rfl,h⟩
 have g36:Gr w3 w6:=bj 2 h.l
 have hc3:=dj h
 obtain ⟨al,hal⟩ : ∃ al,al = xs ++ [(⟨7,7⟩ : ax)]:=⟨_,rfl⟩
 have hall:al.length = xs.length + 1:=by rw [hal]; simp
 have htk:al.take xs.length = xs:=by rw [hal]; simp
 have hA:aX (hp w6) al o3 (xs.length + 1):=kA hall (by rw [hal,zu]; exact eh 0 h.l)
 clear h
 have hI:aX (hp w6) xs (eL o3 0 c3 2) xs.length:=by
  have:=QD hA (n:=xs.length) (by omega) hc3
  rwa [htk] at this
 refine ⟨_,_,_,rfl,λw7 hd=>?_⟩
 have g67:Gr w6 w7:=Gr.drawn hd
 have g27:Gr w2 w7:=g23.trans (g36.trans g67)
 refine ⟨λu=>Gr w7 u,Gr.refl _,_,λu s=>r2.cell0 (g27.trans s),_,λu s=>r2.cell (g27.trans s) (j:=1) rfl,_,_,_,λu s=>r2.cell (g27.trans s) (j:=2) rfl,me (by omega) (af (St.all w7) λk14 w11 h=>⟨h.aR,aI h rfl (by simp [aH]) λw12 h=>?_⟩)⟩
 have g712:Gr w7 w12:=h.aR
 have r14:av (hp w12) (aM k14) [.int .i64 st,.int .i64 t,.slice (eL o3 0 c3 2) xs.length c3]:=ag 0 h.l
 clear h
 have g612:=g67.trans g712
 have g212:=g27.trans g712
 have g112:=g12.trans g212
 refine ⟨λz u=>∃ i:Nat,z = i/\i<=2/\Gr w12 u,λz _=>2 - z.toNat,⟨0,rfl,by omega,Gr.refl _⟩,?_⟩
 rintro _ _ w13 ⟨i,rfl,hi,g1213⟩
 have g113:=g112.trans g1213
 have g613:=g612.trans g1213
 refine aa (λh1=>?_) λh1=>?_
 ·have h1:i < 2:=by have:=UI h1; omega
  refine ⟨_,_,_,_,_,_,_,_,_,_,_,_,_,B.row g113,_,_,_,_,_,r14.at g1213 rfl,(Ot (hg1.mono g113) hb (hI.mono g613) (by omega) (by omega)).mono ?_⟩
  rintro _ w14 ⟨ac,l,e,o,c',rfl,hC,h⟩
  refine ⟨_,_,_,_,_,_,rfl,af h λk27 w15 h=>aI h rfl (by simp [aH]) λw16 h=>?_⟩
  have g1316:Gr w13 w16:=bj 2 h.l
  have g116:=g113.trans g1316
  refine ⟨_,_,_,_,_,_,_,_,_,_,_,_,_,B.row g116,_,_,_,_,_,r2.at (g212.trans (g1213.trans g1316)) rfl,(OJ (hg1.mono g116) hb (hr1.mono g116) (by omega)).mono ?_⟩
  rintro _ w17 ⟨ac',l',e',o',c'',rfl,hC',h'⟩
  obtain ⟨rfl,rfl,rfl⟩:=Ly hC hC'
  have hll:l'.length<=xs.length:=by
   rcases hC with ⟨_,_,rfl,_⟩ | ⟨_,_,j,_,_,_,rfl,_⟩
   ·simp
   ·exact Vf Oq xE
  have h:=St.vf h' h.l
  clear h'
  refine ⟨_,_,_,_,_,_,rfl,af h λk40 w18 h=>aI h rfl (by simp [aH]) λw19 h=>?_⟩
  refine (mM (kA rfl (eh 3 h.l)) (kA rfl (eh 1 h.l)) ?_).mono ?_
  ·omega
  rintro _ w20 ⟨rfl,g1920⟩
  have h:=h.gr g1920
  refine ⟨_,rfl,λb u=>w20 = u/\b = false,d_ (by simp) ⟨_,_,(ag 2 h.l).at (sub.refl _) rfl,_,_,(ag 0 h.l).at (sub.refl _) rfl,_,C_ w20 _ _ _ _,_,rfl,d_ (by simp) ⟨rfl,by simp⟩⟩,?_⟩
  rintro _ _ _ ⟨rfl,rfl⟩
  refine d_ rfl ⟨λz u=>∃ (k:Nat) (ys:List ax),z = k/\k<=l'.length/\ys.length = l'.length/\St u (own 2 o l'.length c' (c_ ys) :: all w13),λz _=>l'.length - z.toNat,⟨0,l',rfl,UW _,rfl,h.pick 4 [3]⟩,?_⟩
  clear h
  rintro _ _ w22 ⟨k,ys,rfl,hk,hys,h⟩
  refine aa (λh2=>?_) λh2=>?_
  ·have h2:k < l'.length:=by have:=UI h2; omega
   exact OI (y:=⟨9,0⟩) h hys h2 λw23 h=>⟨⟨by omega,by omega⟩,⟨k + 1,_,by simp,h2,by rw [Vs,hys],h⟩,bK h2⟩
  ·exact ⟨⟨by omega,by omega⟩,⟨i + 1,by simp,h1,g1213.trans h.aR⟩,bK h1⟩
 ·intro w24 hd
  have g24:Gr w12 w24:=g1213.trans (Gr.drawn hd)
  have g224:=g212.trans g24
  refine ⟨λu=>Gr w24 u,Gr.refl _,_,_,_,λu s=>r2.cell (g224.trans s) (j:=2) rfl,me (by omega) ⟨_,_,_,λu s=>r2.cell (g224.trans s) (j:=2) rfl,(mM (hI.mono (g612.trans g24)) (hr1.mono (g12.trans g224)) (by omega)).mono ?_⟩⟩
  rintro _ w27 ⟨rfl,g27'⟩
  have g627:=g612.trans (g24.trans g27')
  refine ⟨_,rfl,g27',dZ rfl (dZ (by simp) ⟨⟨by omega,by omega⟩,?_⟩)⟩
  obtain ⟨y,ad,hy,rfl,ry⟩:=bM (hA.mono g627) (show xs.length < xs.length + 1 by omega)
  have hy7:y = ⟨7,7⟩:=by rw [hal] at hy; simpa using hy.symm
  subst hy7
  rw [show ((xs.length + 1:Nat):Int) - 1 = (xs.length:Int) from by omega]
  exact ak rfl (by omega) ⟨_,ry.cell0 (sub.refl _),by simp,gw.trans (g12.trans (g224.trans g27'))⟩
end Go.Proofs.YtndaepmjkbmjmaaGreatDoor
