/- Texts of this claim, one behind the other. -/
import Derived.Test.YtndaepmjkbmjmaaGreatDoorG1
import Derived.Test.YtndaepmjkbmjmaaGreatDoorG5
import Derived.Test.YtndaepmjkbmjmaaGreatDoorG2
import Derived.Test.YtndaepmjkbmjmaaGreatDoorCards
import Derived.Test.YtndaepmjkbmjmaaGreatDoorTie
import Derived.WalkKit
import Derived.ProofKit
import Derived.OpenShut
import Derived.Carry
import Derived.OpenVars
import Derived.Deep.DeepHandedRow
import Derived.Lib.LaidTab
set_option linter.unusedVariables false
namespace Go.Proofs.YtndaepmjkbmjmaaGreatDoor
open Go.V
abbrev n_presagelaw14_TableOne:FuncId:=7
def ann_presagelaw14_TableOne:Ann:={ rngs:=[],loops:=[(9,[(13,(.one (.int .i64)))])],joins:=[(6,[])],blocks:=[] }
set_option maxRecDepth 100000 in
def vc_presagelaw14_TableOne (a:Option Addr) (b c:Nat) (d:Option Addr) (e f:Nat) (g:Option Addr) (i j:Nat) (k:Int) (l:Option Addr) (m n:Nat) (o p:Int) (w:World) (R:Value→WP):Prop :=  new w (oC [vS a b c,vS d e f,vS g i j,iI k,vS l m n] 27) fun k1 w1=>∃ o1 k2 k3 o2 k4 k5 o3 k6 k7 n1 o4 k8 k9,V.rowAt w1 (aM k1) 0 5 = some [vS o1 k2 k3,vS o2 k4 k5,vS o3 k6 k7,iI n1,vS o4 k8 k9]∧RunE Proofs.Tryz.prog Ev 14 [vA (Array.mk [vS o1 k2 k3,vS o2 k4 k5,vS o3 k6 k7,iI n1,vS o4 k8 k9])] w1 fun v1 w2=>∃ o5 k10 k11 o6 k12 k13 o7 k14 k15 n2 o8 k16 k17,v1 = vA (Array.mk [vS o5 k10 k11,vS o6 k12 k13,vS o7 k14 k15,iI n2,vS o8 k16 k17])∧RunE Proofs.Tryz.prog Ev 15 [vA (Array.mk [vS o5 k10 k11,vS o6 k12 k13,vS o7 k14 k15,iI n2,vS o8 k16 k17])] w2 fun v2 w3=>∃ o9 k18 k19 n3,v2 = vT (Array.mk [vS o9 k18 k19,iI n3])∧∃ o10 k20 k21 o11 k22 k23 o12 k24 k25 n4 o13 k26 k27,V.rowAt w3 (aM k1) 0 5 = some [vS o10 k20 k21,vS o11 k22 k23,vS o12 k24 k25,iI n4,vS o13 k26 k27]∧RunE Proofs.Tryz.prog Ev 14 [vA (Array.mk [vS o10 k20 k21,vS o11 k22 k23,vS o12 k24 k25,iI n4,vS o13 k26 k27])] w3 fun v3 w4=>∃ o14 k28 k29 o15 k30 k31 o16 k32 k33 n5 o17 k34 k35,v3 = vA (Array.mk [vS o14 k28 k29,vS o15 k30 k31,vS o16 k32 k33,iI n5,vS o17 k34 k35])∧RunE Proofs.Tryz.prog Ev 21 [vA (Array.mk [vS o14 k28 k29,vS o15 k30 k31,vS o16 k32 k33,iI n5,vS o17 k34 k35])] w4 fun v4 w5=>∃ o18 k36 k37 n6,v4 = vT (Array.mk [vS o18 k36 k37,iI n6])∧∃ o19 k38 k39 o20 k40 k41 o21 k42 k43 n7 o22 k44 k45,V.rowAt w5 (aM k1) 0 5 = some [vS o19 k38 k39,vS o20 k40 k41,vS o21 k42 k43,iI n7,vS o22 k44 k45]∧RunE Proofs.Tryz.prog Ev 14 [vA (Array.mk [vS o19 k38 k39,vS o20 k40 k41,vS o21 k42 k43,iI n7,vS o22 k44 k45])] w5 fun v5 w6=>∃ o23 k46 k47 o24 k48 k49 o25 k50 k51 n8 o26 k52 k53,v5 = vA (Array.mk [vS o23 k46 k47,vS o24 k48 k49,vS o25 k50 k51,iI n8,vS o26 k52 k53])∧RunE Proofs.Tryz.prog Ev 23 [vA (Array.mk [vS o23 k46 k47,vS o24 k48 k49,vS o25 k50 k51,iI n8,vS o26 k52 k53]),iI o,iI p] w6 fun v6 w7=>∃ o27 k54 k55 n9,v6 = vT (Array.mk [vS o27 k54 k55,iI n9])∧∃ (x1:lP []),br (n3 != n6) (R (vB false) w7) (br (n3 != 0) (br (n9 != n3) (R (vB false) w7) (RunE Proofs.Tryz.prog Ev 29 [vS o9 k18 k19] w7 fun v7 w8=>∃ o28 k56 k57,v7 = vS o28 k56 k57∧RunE Proofs.Tryz.prog Ev 17 [vS o18 k36 k37,vS o28 k56 k57] w8 fun v8 w9=>∃ b1,v8 = vB b1∧br (!b1) (R (vB false) w9) (x1 w9))) (RunE Proofs.Tryz.prog Ev 29 [vS o9 k18 k19] w7 fun v9 w10=>∃ o29 k58 k59,v9 = vS o29 k58 k59∧RunE Proofs.Tryz.prog Ev 17 [vS o18 k36 k37,vS o29 k58 k59] w10 fun v10 w11=>∃ b2,v10 = vB b2∧br (!b2) (R (vB false) w11) (x1 w11)))∧∀ (I1:Nat→Value) (w12:World),x1 w12→br (n9 != 0) (br ((↑k54:Int) == 0) (RunE Proofs.Tryz.prog Ev 20 [] w12 fun v11 w13=>∃ b3,v11 = vB b3∧R (vB b3) w13) (R (vB false) w12)) (∃ (x2:lP [(13,shI)]),∃ (x3:lN [(13,shI)]),x2 0 w12∧∀ (I2:Nat→Value) (n10:Int) (w14:World),x2 n10 w14→br (decide (n10 < (↑k18:Int))) (idx o9 k18 n10 3 fun a1=>∃ n11,World.cell? w14 a1 = some (iI n11)∧br (n11 == o) (idx o9 k18 n10 3 fun a2=>∃ n12,World.cell? w14 (Addr.add a2 1) = some (iI n12)∧br (n12 == p) (idx o9 k18 n10 3 fun a3=>∃ o30 k60 k61,World.cell? w14 (Addr.add a3 2) = some (vS o30 k60 k61)∧RunE Proofs.Tryz.prog Ev 25 [vS o27 k54 k55,vS o30 k60 k61] w14 fun v12 w15=>∃ b4,v12 = vB b4∧br b4 (RunE Proofs.Tryz.prog Ev 20 [] w15 fun v13 w16=>∃ b5,v13 = vB b5∧R (vB b5) w16) (R (vB false) w15)) (inI (n10 + 1)∧x2 (n10 + 1) w14∧x3 (n10 + 1) w14 < x3 n10 w14)) (inI (n10 + 1)∧x2 (n10 + 1) w14∧x3 (n10 + 1) w14 < x3 n10 w14)) (br ((↑k54:Int) == 0) (RunE Proofs.Tryz.prog Ev 20 [] w14 fun v14 w17=>∃ b6,v14 = vB b6∧R (vB b6) w17) (R (vB false) w14)))
set_option maxRecDepth 100000 in
theorem run_presagelaw14_TableOne (a:Option Addr) (b c:Nat) (d:Option Addr) (e f:Nat) (g:Option Addr) (i j:Nat) (k:Int) (l:Option Addr) (m n:Nat) (o p:Int) (w:World) (R:Value→WP) (h:vc_presagelaw14_TableOne a b c d e f g i j k l m n o p w R):Run Tryz.prog 7 [(.agg #[(.slice a b c),(.slice d e f),(.slice g i j),(.int .i64 k),(.slice l m n)]),(.int .i64 o),(.int .i64 p)] w R:=rv Tryz.func7 ann_presagelaw14_TableOne (by kernel_rfl) h

abbrev n_presagelaw14_awake:FuncId:=20
def ann_presagelaw14_awake:Ann:={ rngs:=[],loops:=[],joins:=[],blocks:=[] }
set_option maxRecDepth 100000 in
def vc_presagelaw14_awake  (w:World) (R:Value→WP):Prop :=  new w (oC [Value.string (ByteArray.mk (Array.mk [])),iI 0,Value.string (ByteArray.mk (Array.mk [43])),iI 0,Value.string (ByteArray.mk (Array.mk [110])),iI 0] 83) fun k1 w1=>new w1 (oC [Value.string (ByteArray.mk (Array.mk [])),Value.string (ByteArray.mk (Array.mk [101]))] 9) fun k2 w2=>new w2 (oC [iI 4] 3) fun k3 w3=>new w3 (oC [iI 4,iI 1,iI 4] 3) fun k4 w4=>new w4 (oC [iI 2] 3) fun k5 w5=>new w5 (oC [iI 3,vS (some (aM k3)) 1 1,iI 0,iI 4,vS (some (aM k4)) 3 3,iI 0,iI 4,vS (some (aM k5)) 1 1,iI 0] 81) fun k6 w6=>new w6 (oC [vS none 0 0,vS none 0 0,vS none 0 0,iI 0,vS none 0 0] 27) fun k7 w7=>stR w7 (aM k7) [vS (some (aM k1)) 3 3,vS (some (aM k2)) 2 2,vS none 0 0,iI 4,vS (some (aM k6)) 3 3] fun w8=>∃ o1 k8 k9 o2 k10 k11 o3 k12 k13 n1 o4 k14 k15,V.rowAt w8 (aM k7) 0 5 = some [vS o1 k8 k9,vS o2 k10 k11,vS o3 k12 k13,iI n1,vS o4 k14 k15]∧RunE Proofs.Tryz.prog Ev 15 [vA (Array.mk [vS o1 k8 k9,vS o2 k10 k11,vS o3 k12 k13,iI n1,vS o4 k14 k15])] w8 fun v1 w9=>∃ o5 k16 k17 n2,v1 = vT (Array.mk [vS o5 k16 k17,iI n2])∧∃ o6 k18 k19 o7 k20 k21 o8 k22 k23 n3 o9 k24 k25,V.rowAt w9 (aM k7) 0 5 = some [vS o6 k18 k19,vS o7 k20 k21,vS o8 k22 k23,iI n3,vS o9 k24 k25]∧RunE Proofs.Tryz.prog Ev 21 [vA (Array.mk [vS o6 k18 k19,vS o7 k20 k21,vS o8 k22 k23,iI n3,vS o9 k24 k25])] w9 fun v2 w10=>∃ o10 k26 k27 n4,v2 = vT (Array.mk [vS o10 k26 k27,iI n4])∧∃ o11 k28 k29 o12 k30 k31 o13 k32 k33 n5 o14 k34 k35,V.rowAt w10 (aM k7) 0 5 = some [vS o11 k28 k29,vS o12 k30 k31,vS o13 k32 k33,iI n5,vS o14 k34 k35]∧RunE Proofs.Tryz.prog Ev 23 [vA (Array.mk [vS o11 k28 k29,vS o12 k30 k31,vS o13 k32 k33,iI n5,vS o14 k34 k35]),iI 4,iI 1] w10 fun v3 w11=>∃ o15 k36 k37 n6,v3 = vT (Array.mk [vS o15 k36 k37,iI n6])∧br (n2 == 0) (br (n4 == 0) (br (n6 == 0) (br ((↑k16:Int) == 8) (br ((↑k26:Int) == 1) (new w11 (oC [iI 1,iI 3,iI 2,iI 1] 62) fun k38 w12=>RunE Proofs.Tryz.prog Ev 25 [vS o15 k36 k37,vS (some (aM k38)) 2 2] w12 fun v4 w13=>∃ b1,v4 = vB b1∧R (vB b1) w13) (R (vB false) w11)) (R (vB false) w11)) (R (vB false) w11)) (R (vB false) w11)) (R (vB false) w11)
set_option maxRecDepth 100000 in
theorem run_presagelaw14_awake  (w:World) (R:Value→WP) (h:vc_presagelaw14_awake  w R):Run Tryz.prog 20 [] w R:=rv Tryz.func20 ann_presagelaw14_awake (by kernel_rfl) h

end Go.Proofs.YtndaepmjkbmjmaaGreatDoor
set_option linter.unusedVariables false
namespace Go.Proofs.YtndaepmjkbmjmaaGreatDoor
open Go.V
abbrev n_presageref14_Cells:FuncId:=17
def ann_presageref14_Cells:Ann:={ rngs:=[],loops:=[(4,[(5,(.one (.int .i64)))])],joins:=[],blocks:=[] }
set_option maxRecDepth 100000 in
def vc_presageref14_Cells (a:Option Addr) (b c:Nat) (d:Option Addr) (e f:Nat) (w:World) (R:Value→WP):Prop :=  br ((↑b:Int) != (↑e:Int)) (R (vB false) w) (∃ (x1:lP [(5,shI)]),∃ (x2:lN [(5,shI)]),x1 0 w∧∀ (I1:Nat→Value) (n1:Int) (w1:World),x1 n1 w1→br (decide (n1 < (↑b:Int))) (∀ w2,drawn w1 w2→∃ (I2:World→Prop),I2 w2∧idx a b n1 3 fun a1=>∃ n2,(∀ w3,I2 w3→World.cell? w3 a1 = some (iI n2))∧idx d e n1 3 fun a2=>∃ n3,(∀ w4,I2 w4→World.cell? w4 a2 = some (iI n3))∧br (n2 != n3) (R (vB false) w2) (idx a b n1 3 fun a3=>∃ n4,(∀ w5,I2 w5→World.cell? w5 (Addr.add a3 1) = some (iI n4))∧idx d e n1 3 fun a4=>∃ n5,(∀ w6,I2 w6→World.cell? w6 (Addr.add a4 1) = some (iI n5))∧br (n4 != n5) (R (vB false) w2) (idx a b n1 3 fun a5=>∃ o1 k1 k2,(∀ w7,I2 w7→World.cell? w7 (Addr.add a5 2) = some (vS o1 k1 k2))∧idx d e n1 3 fun a6=>∃ o2 k3 k4,(∀ w8,I2 w8→World.cell? w8 (Addr.add a6 2) = some (vS o2 k3 k4))∧RunE Proofs.Tryz.prog Ev 25 [vS o1 k1 k2,vS o2 k3 k4] w2 fun v1 w9=>∃ b1,v1 = vB b1∧I2 w9∧br (!b1) (R (vB false) w9) (inI (n1 + 1)∧x1 (n1 + 1) w9∧x2 (n1 + 1) w9 < x2 n1 w1)))) (R (vB true) w1))
set_option maxRecDepth 100000 in
theorem run_presageref14_Cells (a:Option Addr) (b c:Nat) (d:Option Addr) (e f:Nat) (w:World) (R:Value→WP) (h:vc_presageref14_Cells a b c d e f w R):Run Tryz.prog 17 [(.slice a b c),(.slice d e f)] w R:=rv Tryz.func17 ann_presageref14_Cells (by kernel_rfl) h

abbrev n_presageref14_Actions:FuncId:=25
def ann_presageref14_Actions:Ann:={ rngs:=[],loops:=[(4,[(5,(.one (.int .i64)))])],joins:=[],blocks:=[] }
set_option maxRecDepth 100000 in
def vc_presageref14_Actions (a:Option Addr) (b c:Nat) (d:Option Addr) (e f:Nat) (w:World) (R:Value→WP):Prop :=  br ((↑b:Int) != (↑e:Int)) (R (vB false) w) (∃ (x1:lP [(5,shI)]),∃ (x2:lN [(5,shI)]),x1 0 w∧∀ (I1:Nat→Value) (n1:Int) (w1:World),x1 n1 w1→br (decide (n1 < (↑b:Int))) (∀ w2,drawn w1 w2→∃ (I2:World→Prop),I2 w2∧idx a b n1 2 fun a1=>∃ n2 n3,(∀ w3,I2 w3→V.rowAt w3 a1 0 2 = some [iI n2,iI n3])∧idx d e n1 2 fun a2=>∃ n4 n5,(∀ w4,I2 w4→V.rowAt w4 a2 0 2 = some [iI n4,iI n5])∧∃ v1,(∀ w5,I2 w5→Sem.run Proofs.Tryz.prog (cmpS BinOp.neq 62 (Operand.tmp 20) (Operand.tmp 24) (vG [iI n2,iI n3]) (vG [iI n4,iI n5])) w5 = Result.ok v1 w5)∧∃ b1,v1 = vB b1∧br b1 (R (vB false) w2) (inI (n1 + 1)∧x1 (n1 + 1) w2∧x2 (n1 + 1) w2 < x2 n1 w1)) (R (vB true) w1))
set_option maxRecDepth 100000 in
theorem run_presageref14_Actions (a:Option Addr) (b c:Nat) (d:Option Addr) (e f:Nat) (w:World) (R:Value→WP) (h:vc_presageref14_Actions a b c d e f w R):Run Tryz.prog 25 [(.slice a b c),(.slice d e f)] w R:=rv Tryz.func25 ann_presageref14_Actions (by kernel_rfl) h

abbrev n_presageref14_Clash:FuncId:=29
def ann_presageref14_Clash:Ann:={ rngs:=[],loops:=[(3,[(3,(.one .slice)),(4,(.one (.int .i64)))])],joins:=[],blocks:=[] }
set_option maxRecDepth 100000 in
def vc_presageref14_Clash (a:Option Addr) (b c:Nat) (w:World) (R:Value→WP):Prop :=  ∃ (x1:lP [(3,shS),(4,shI)]),∃ (x2:lN [(3,shS),(4,shI)]),x1 none 0 0 0 w∧∀ (I1:Nat→Value) (o1:Option Addr) (k1 k2:Nat) (n1:Int) (w1:World),x1 o1 k1 k2 n1 w1→br (decide (n1 < (↑b:Int))) (idx a b n1 3 fun a1=>∃ o2 k3 k4,World.cell? w1 (Addr.add a1 2) = some (vS o2 k3 k4)∧br (decide (1 < (↑k3:Int))) (idx a b n1 3 fun a2=>∃ n2 n3 o3 k5 k6,V.rowAt w1 a2 0 3 = some [iI n2,iI n3,vS o3 k5 k6]∧new w1 (oC [iI n2,iI n3,vS o3 k5 k6] 60) fun k7 w2=>RunS Proofs.Tryz.prog (apB 29 (Array.mk [vS o1 k1 k2,vS (some (aM k7)) 1 1])) w2 fun v1 w3=>∃ o4 k8 k9,v1 = vS o4 k8 k9∧inI (n1 + 1)∧x1 o4 k8 k9 (n1 + 1) w3∧x2 o4 k8 k9 (n1 + 1) w3 < x2 o1 k1 k2 n1 w1) (inI (n1 + 1)∧x1 o1 k1 k2 (n1 + 1) w1∧x2 o1 k1 k2 (n1 + 1) w1 < x2 o1 k1 k2 n1 w1)) (R (vS o1 k1 k2) w1)
set_option maxRecDepth 100000 in
theorem run_presageref14_Clash (a:Option Addr) (b c:Nat) (w:World) (R:Value→WP) (h:vc_presageref14_Clash a b c w R):Run Tryz.prog 29 [(.slice a b c)] w R:=rv Tryz.func29 ann_presageref14_Clash (by kernel_rfl) h

end Go.Proofs.YtndaepmjkbmjmaaGreatDoor
set_option linter.unusedVariables false
set_option maxRecDepth 4000
namespace Go.V
open Go.Proofs.YtndaepmjkbmjmaaGreatDoor
def tbG:GramT:=⟨[⟨⟨⟨[]⟩⟩,0⟩,⟨⟨⟨[43]⟩⟩,0⟩,⟨⟨⟨[110]⟩⟩,0⟩],[⟨⟨[]⟩⟩,⟨⟨[101]⟩⟩],[],4,[⟨3,[4],0⟩,⟨4,[4,1,4],0⟩,⟨4,[2],0⟩]⟩
theorem tb_closed:ClosedP tbG:=by
  refine ⟨rfl,⟨rfl,by decide,by decide,by decide,by decide,?_,?_,?_,?_,?_⟩,⟨by decide,by decide,?_,by decide,by decide,by decide⟩,⟨3,[4],0⟩,rfl,rfl,rfl,rfl⟩
  · decide
  · intro i v h; simp [tbG] at h
  · decide
  · decide
  · decide
  · intro p hp
    simp only [List.drop_succ_cons,List.drop_zero,tbG,List.mem_cons,List.not_mem_nil,or_false] at hp
    unfold prodOk symOk
    rcases hp with rfl | rfl
    · refine ⟨by decide,?_⟩
      intro s hs; simp at hs
      rcases hs with rfl | rfl | rfl <;> decide
    · refine ⟨by decide,?_⟩
      intro s hs; simp at hs; subst hs; decide
theorem tb_ok:okG tbG:=by
  refine ⟨by decide,by decide,by decide,by decide,?_,by decide,by decide⟩
  intro t ht
  simp only [tbG,List.mem_cons,List.not_mem_nil,or_false] at ht
  unfold anyI
  rcases ht with rfl | rfl | rfl <;> decide
set_option maxRecDepth 100000 in
theorem tb_bst:(bst tbG 5).1.length = 5∧∀ i,i < 5→i < (bst tbG i).1.length:=by decide +kernel
theorem tb_done:DoneP tbG 5:=⟨tb_bst.1,by decide,tb_bst.2⟩
set_option maxRecDepth 100000 in
def tbS:List SQ:=((bst tbG 5).1.zip (bst tbG 5).2).map fun p=>(((none,0),p.1),((none,0),p.2))
def tbN:List Bool:=[false,false]
theorem tb_nul:NnP tbG tbN:=by
  have key:∀ s,Nul tbG s→False:=fun s h=>by
    induction h with
    | mk p hp _ ih =>
      simp only [tbG,List.mem_cons,List.not_mem_nil,or_false] at hp
      rcases hp with rfl | rfl | rfl
      · exact ih 4 (by simp)
      · exact ih 4 (by simp)
      · exact ih 2 (by simp)
  refine ⟨rfl,fun i=>⟨fun h=>?_,fun h=>(key _ h).elim⟩⟩
  match i with
  | 0=>cases h
  | 1=>cases h
  | i + 2=>simp [fnB,tbN] at h
def tbR:List (List Int):=[[0,1],[1]]
def tbF:List (List Int):=[[0,1],[0,1]]
def cellC (A:Nat→Nat→List ActT) (n T least:Nat):List CellT:=(List.range n).flatMap fun q=>(List.range T).flatMap fun t=>if least≤(A q t).length then [⟨(q:Int),(t:Int),A q t⟩] else []
def tbL:List LookT:=(BksL tbG tbS).map (lookC tbG tbF)
def tbA (q t:Nat):List ActT:=shL tbS q t ++ acL tbS q t ++ reL tbL q t
set_option maxRecDepth 100000 in
theorem tb_chk:chkS (RdsL tbG tbN tbS) (DirL tbG tbS) tbR 5 = true∧chkS (IncL tbG tbN tbS) tbR tbF 5 = true∧(cellC tbA 5 3 1).length = 8∧(cellC tbA 5 3 2).length = 1∧tbA 4 1 = [⟨1,3⟩,⟨2,1⟩]∧tbS.length = 5:=by decide +kernel
theorem tb_R:RgL tbG tbN tbS = tbR:=(chkS_is tb_chk.1).symm
theorem tb_F:FgL tbG tbN tbS = tbF:=by
  unfold FgL
  rw [tb_R]
  exact (chkS_is tb_chk.2.1).symm
theorem tb_L:LooksL tbG tbN tbS = tbL:=by
  unfold LooksL tbL
  rw [tb_F]
  exact List.map_congr_left fun b _=>lookC_eq _ _ _
theorem tb_A (q t:Nat):actL tbG tbN tbS q t = tbA q t:=by unfold actL tbA; rw [tb_L]
theorem tb_C (least:Nat):cellL tbG tbN tbS least = cellC tbA 5 3 least:=by
  unfold cellL cellN cellR cellAt cellC
  rw [tb_chk.2.2.2.2.2]
  simp only [tb_A]
  rfl
set_option maxRecDepth 100000 in
theorem tb_res {ss:List SQ} {a i f:Int} (h:Res tbG ss a i f):f = 0∧esOf ss = esOf tbS∧ss.map (·.1.2) = tbS.map (·.1.2):=by
  rcases h with ⟨hn,_⟩ | ⟨_,hbig,_⟩ | ⟨_,hA,_,_,rfl⟩
  · exact absurd tb_closed hn
  · exact (done_big tb_done hbig).elim
  · have e5:=done_one hA.dn tb_done
    have hl:(bst tbG 5).1.length = (bst tbG 5).2.length:=by decide +kernel
    refine ⟨rfl,?_,?_⟩
    · rw [hA.es,e5]
      unfold tbS esOf
      rw [List.map_map]
      show _ = ((bst tbG 5).1.zip (bst tbG 5).2).map Prod.snd
      rw [List.map_snd_zip (by omega)]
    · show ksOf ss = _
      rw [hA.ks,e5]
      unfold tbS
      rw [List.map_map]
      show _ = ((bst tbG 5).1.zip (bst tbG 5).2).map Prod.fst
      rw [List.map_fst_zip (by omega)]
theorem actL_es {g:GramT} {nn:List Bool} {ss ss' : List SQ} (h:esOf ss = esOf ss') (hk:ss.map (·.1.2) = ss'.map (·.1.2)) (q t:Nat):actL g nn ss q t = actL g nn ss' q t:=by
  have e1:shL ss q t = shL ss' q t:=by unfold shL; rw [nxt_es h]
  have e2:acL ss q t = acL ss' q t:=by
    have hq:=congrArg (fun l=>l[q]?) hk
    simp only [List.getElem?_map] at hq
    unfold acL
    cases h1:ss[q]? with
    | none=>cases h2:ss'[q]? with
      | none=>rfl
      | some b=>rw [h1,h2] at hq; cases hq
    | some a=>cases h2:ss'[q]? with
      | none=>rw [h1,h2] at hq; cases hq
      | some b =>
        rw [h1,h2] at hq
        have e:a.1.2 = b.1.2:=Option.some.inj hq
        show (if t = 0∧(⟨0,1⟩ : ItemT)∈a.1.2 then [(⟨3,0⟩ : ActT)] else []) = if t = 0∧(⟨0,1⟩ : ItemT)∈b.1.2 then [⟨3,0⟩] else []
        rw [e]
  unfold actL
  rw [e1,e2,LooksL_es h]
theorem cellL_es {g:GramT} {nn:List Bool} {ss ss' : List SQ} {least:Nat} (h:esOf ss = esOf ss') (hk:ss.map (·.1.2) = ss'.map (·.1.2)):cellL g nn ss least = cellL g nn ss' least:=by
  unfold cellL cellN cellR cellAt
  rw [es_len h]
  simp only [actL_es h hk]
end Go.V
set_option linter.unusedVariables false
set_option maxRecDepth 4000
namespace Go.V
instance:Rep CellT:={ n:=3,rd:=fun h x vs=>∃ (a:Option Addr) (c:Nat),vs = [.int .i64 x.st,.int .i64 x.tm,.slice a x.acts.length c]∧rdS h x.acts a x.acts.length,mono:=fun s ⟨a,c,e,r⟩=>⟨a,c,e,r.mono s⟩,len:=fun ⟨_,_,e,_⟩=>by rw [e]; rfl }
section
variable {h:Hp} {w:World} {L:List Asn} {o:Option Addr} {l i c:Nat}
theorem rdAc_of {xs:List ActT} {a:Option Addr} (hl:xs.length = l) (r:rdV a (acV xs) h):rdS h xs a l:=by
  refine ⟨hl,fun i x hx=>?_⟩
  rcases r with e | ⟨ad,rfl,hc⟩
  · have h1:=congrArg List.length e
    rw [acV_len,List.length_nil] at h1
    have:=(List.getElem?_eq_some_iff.1 hx).1; omega
  · exact ⟨ad,encA x,rfl,rowH_unflat (n:=2) (fun _=>rfl) xs ad hc i x hx,rfl⟩
theorem rdAc_get {xs:List ActT} {a:Option Addr} (r:rdS h xs a l) (hi:i < l):∃ x ad,xs[i]? = some x∧a = some ad∧rowH h (ad.add (mulS i 2)) (encA x):=by
  obtain ⟨x,ad,vs,hx,ha,hr,e⟩:=r.get hi
  rw [show vs = encA x from e] at hr
  exact ⟨x,ad,hx,ha,hr⟩
theorem rdCk_of {ds:List CkQ} (r:rdV o (ckV ds) h) (hd:∀ d∈ds,rdS h d.2.2 d.2.1.1 d.2.2.length):rdS h (ds.map toCk) o ds.length:=by
  refine ⟨by simp,fun i x hi=>?_⟩
  rw [List.getElem?_map] at hi
  cases hb:ds[i]? with
  | none=>rw [hb] at hi; cases hi
  | some p =>
    rw [hb] at hi
    simp only [Option.map_some,Option.some.injEq] at hi
    subst hi
    rcases r with e | ⟨ad,e,hc⟩
    · have h1:=congrArg List.length e
      rw [ckV_len,List.length_nil] at h1
      have:=(List.getElem?_eq_some_iff.1 hb).1; omega
    · exact ⟨ad,ckE p,e,rowH_unflat (n:=3) (fun _=>rfl) ds ad hc i p hb,p.2.1.1,p.2.1.2,rfl,hd p (List.mem_of_getElem? hb)⟩
theorem ckT {ds:List CkQ} {b:CkQ} (h:St w (sta (ckO ds) :: L)) (hb:b∈ds):rdS (hp w) b.2.2 b.2.1.1 b.2.2.length:=by
  obtain ⟨i,hi⟩:=List.getElem?_of_mem hb
  have hA:(ckO ds)[i]? = some (owQ 2 acV b.2):=by unfold ckO; rw [List.getElem?_map,hi]; rfl
  have h2:=St.out h hA
  exact rdAc_of rfl (rdOv 0 h2.l)
theorem rdCk {ds:List CkQ} (h:St w (own 3 o ds.length c (ckV ds) :: sta (ckO ds) :: L)):rdS (hp w) (ds.map toCk) o ds.length:=rdCk_of (rdOv 0 h.l) fun d hd=>ckT (h.pick 2 [1]) hd
theorem rdCk_get {xs:List CellT} (r:rdS h xs o l) (hi:i < l):∃ x ad a c,xs[i]? = some x∧o = some ad∧rowH h (ad.add (mulS i 3)) [.int .i64 x.st,.int .i64 x.tm,.slice a x.acts.length c]∧rdS h x.acts a x.acts.length:=by
  obtain ⟨x,ad,vs,hx,ha,hr,a,c',rfl,hx2⟩:=r.get hi
  exact ⟨x,ad,a,c',hx,ha,hr,hx2⟩
end
end Go.V
namespace Go.Proofs.YtndaepmjkbmjmaaGreatDoor
open Go.V
variable {w:World} {L:List Asn} {g:GramT} {x:GA}
theorem two_Action : Two Tryz.prog ty_api_Action ty_int { name := "Kind", type := ty_int, offset := 0, embedded := false, tag := "", pkgPath := "", byteOffset := 0 } { name := "To", type := ty_int, offset := 1, embedded := false, tag := "", pkgPath := "", byteOffset := 8 } where
  ht:=by kernel_rfl
  hf:=by kernel_rfl
  hi:=und_int
  ht0:=rfl
  ht1:=rfl
  n0:=by decide
  n1:=by decide
  o0:=rfl
  o1:=rfl
  sih:=sih_api_Action
theorem act_dec (x y:ActT):decide (x = y) = decide (x.kind = y.kind∧x.to = y.to):=by cases x; cases y; simp
theorem neAct (w:World) (xo yo:Operand) (x y:ActT):Sem.run Tryz.prog (cmpS .neq ty_api_Action xo yo (.agg ⟨encA x⟩) (.agg ⟨encA y⟩)) w = .ok (.bool (!decide (x = y))) w:=by
  unfold cmpS
  rw [Sem.run_bind,run_eqGuard_agg w _ _ _ _ _ _ eqg_api_Action]
  simp only [Result.andThen_ok]
  rw [run_neq_struct,act_dec]
  show ((Op.equal ty_api_Action (.agg #[.int .i64 x.kind,.int .i64 x.to]) (.agg #[.int .i64 y.kind,.int .i64 y.to])).run Tryz.prog w).andThen _ = _
  rw [two_eq two_Action]
  rfl
theorem take_eq_of {α : Type} {xs ys:List α} (hl:xs.length = ys.length) (h:xs.take xs.length = ys.take xs.length):xs = ys:=by
  rw [List.take_length,hl,List.take_length] at h; exact h
theorem d_Actions {a a2:Option Addr} {l l2 c c2:Nat} {xs ys:List ActT} (hx:rdS (hp w) xs a l) (hy:rdS (hp w) ys a2 l2) (hb:l≤4611686018427387904):Run Tryz.prog n_presageref14_Actions [.slice a l c,.slice a2 l2 c2] w fun v w'=>v = .bool (decide (xs = ys))∧Gr w w':=by
  have hxl:=hx.1
  have hyl:=hy.1
  refine run_presageref14_Actions _ _ _ _ _ _ w _ (br_intro (fun h1=>?_) fun h1=>?_)
  · have h1:(l:Int)≠l2:=by simpa using h1
    have:xs≠ys:=fun e=>h1 (by rw [← hxl,← hyl,e])
    exact ⟨by rw [decide_eq_false this],Gr.refl _⟩
  have h1:(l:Int) = l2:=by simpa using h1
  have h1:l2 = l:=by omega
  subst h1
  refine ⟨fun z w'=>∃ j:Nat,z = j∧j≤l2∧xs.take j = ys.take j∧hp w' = hp w,fun z _=>l2 - z.toNat,⟨0,rfl,Nat.zero_le _,rfl,rfl⟩,?_⟩
  rintro _ _ w1 ⟨j,rfl,hj,hs,e1⟩
  refine br_intro (fun h1=>?_) fun h1=>?_
  rotate_left
  · have h1:j = l2:=by have:=of_decide_eq_false h1; omega
    have:xs = ys:=take_eq_of (by omega) (by rw [hxl,← h1]; exact hs)
    exact ⟨by rw [decide_eq_true this],Gr.of_eq e1⟩
  have h1:j < l2:=by have:=of_decide_eq_true h1; omega
  intro w2 hd
  have e2:hp w2 = hp w:=(drawn_hp hd).trans e1
  have sb:∀ u:World,hp u = hp w→sub (hp w) (hp u):=fun u e=>by rw [e]; exact sub.refl _
  obtain ⟨y1,ad1,q1,p1,r1⟩:=rdAc_get hx h1
  obtain ⟨y2,ad2,q2,p2,r2⟩:=rdAc_get hy h1
  refine ⟨fun u=>hp u = hp w,e2,idx_n p1 h1 ⟨_,_,fun u e=>r1.at (sb u e) rfl,idx_n p2 h1 ⟨_,_,fun u e=>r2.at (sb u e) rfl,_,fun u _=>neAct u _ _ y1 y2,_,rfl,br_intro (fun h2=>?_) fun h2=>?_⟩⟩⟩
  · have h2:y1≠y2:=by simpa using h2
    have:xs≠ys:=fun e=>by rw [e,q2] at q1; exact h2 (Option.some.inj q1).symm
    exact ⟨by rw [decide_eq_false this],Gr.of_eq e2⟩
  · have h2:y1 = y2:=by simpa using h2
    subst h2
    exact ⟨⟨by omega,by omega⟩,⟨j + 1,by simp,h1,by rw [List.take_add_one,List.take_add_one,hs,q1,q2],e2⟩,msr h1⟩
theorem d_Cells {a a2:Option Addr} {l l2 c c2:Nat} {xs ys:List CellT} (hx:rdS (hp w) xs a l) (hy:rdS (hp w) ys a2 l2) (hb:l≤4611686018427387904) (hbs:∀ x∈xs,x.acts.length≤4611686018427387904):Run Tryz.prog n_presageref14_Cells [.slice a l c,.slice a2 l2 c2] w fun v w'=>v = .bool (decide (xs = ys))∧Gr w w':=by
  have hxl:=hx.1
  have hyl:=hy.1
  refine run_presageref14_Cells _ _ _ _ _ _ w _ (br_intro (fun h1=>?_) fun h1=>?_)
  · have h1:(l:Int)≠l2:=by simpa using h1
    have:xs≠ys:=fun e=>h1 (by rw [← hxl,← hyl,e])
    exact ⟨by rw [decide_eq_false this],Gr.refl _⟩
  have h1:(l:Int) = l2:=by simpa using h1
  have h1:l2 = l:=by omega
  subst h1
  refine ⟨fun z w'=>∃ j:Nat,z = j∧j≤l2∧xs.take j = ys.take j∧Gr w w',fun z _=>l2 - z.toNat,⟨0,rfl,Nat.zero_le _,rfl,Gr.refl _⟩,?_⟩
  rintro _ _ w1 ⟨j,rfl,hj,hs,g1⟩
  refine br_intro (fun h1=>?_) fun h1=>?_
  rotate_left
  · have h1:j = l2:=by have:=of_decide_eq_false h1; omega
    have:xs = ys:=take_eq_of (by omega) (by rw [hxl,← h1]; exact hs)
    exact ⟨by rw [decide_eq_true this],g1⟩
  have h1:j < l2:=by have:=of_decide_eq_true h1; omega
  intro w2 hd
  have g2:Gr w w2:=g1.trans (Gr.drawn hd)
  obtain ⟨y1,ad1,b1,d1,q1,p1,r1,t1⟩:=rdCk_get hx h1
  obtain ⟨y2,ad2,b2,d2,q2,p2,r2,t2⟩:=rdCk_get hy h1
  have no:y1≠y2→∀ {u:World},Gr w u→(.bool false:Value) = .bool (decide (xs = ys))∧Gr w u:=fun hne u gu=>⟨by rw [decide_eq_false fun e=>by rw [e,q2] at q1; exact hne (Option.some.inj q1).symm],gu⟩
  refine ⟨fun u=>Gr w2 u,Gr.refl _,idx_n p1 h1 ⟨_,fun u s=>r1.cell0 (sub.trans g2 s),idx_n p2 h1 ⟨_,fun u s=>r2.cell0 (sub.trans g2 s),br_intro (fun h2=>no (fun e=>by rw [e] at h2; simp at h2) g2) fun h2=>?_⟩⟩⟩
  refine idx_n p1 h1 ⟨_,fun u s=>r1.cell (sub.trans g2 s) (j:=1) rfl,idx_n p2 h1 ⟨_,fun u s=>r2.cell (sub.trans g2 s) (j:=1) rfl,br_intro (fun h3=>no (fun e=>by rw [e] at h3; simp at h3) g2) fun h3=>?_⟩⟩
  refine idx_n p1 h1 ⟨_,_,_,fun u s=>r1.cell (sub.trans g2 s) (j:=2) rfl,idx_n p2 h1 ⟨_,_,_,fun u s=>r2.cell (sub.trans g2 s) (j:=2) rfl,(d_Actions (t1.mono g2) (t2.mono g2) (hbs _ (List.mem_of_getElem? q1))).mono ?_⟩⟩
  rintro _ w9 ⟨rfl,g9⟩
  have g29:=g2.trans g9
  refine ⟨_,rfl,g9,br_intro (fun h4=>no (fun e=>by rw [e] at h4; simp at h4) g29) fun h4=>?_⟩
  have h2:y1.st = y2.st:=by simpa using h2
  have h3:y1.tm = y2.tm:=by simpa using h3
  have h4:y1.acts = y2.acts:=by simpa using h4
  have e:y1 = y2:=by cases y1; cases y2; simp at h2 h3 h4; simp [h2,h3,h4]
  subst e
  exact ⟨⟨by omega,by omega⟩,⟨j + 1,by simp,h1,by rw [List.take_add_one,List.take_add_one,hs,q1,q2],g29⟩,msr h1⟩
theorem d_Clash {a:Option Addr} {l c:Nat} {xs:List CellT} (hx:rdS (hp w) xs a l) (hb:l≤100000):Run Tryz.prog n_presageref14_Clash [.slice a l c] w fun v w'=>∃ (o:Option Addr) (n c:Nat),v = .slice o n c∧rdS (hp w') (xs.filter fun x=>decide (1 < x.acts.length)) o n∧Gr w w':=by
  refine run_presageref14_Clash _ _ _ w _ ⟨fun o n c z w'=>∃ (i:Nat) (ds:List CkQ),z = i∧i≤l∧n = ds.length∧ds.map toCk = (xs.take i).filter (fun x=>decide (1 < x.acts.length))∧(∀ d∈ds,rdS (hp w) d.2.2 d.2.1.1 d.2.2.length)∧St w' (own 3 o n c (ckV ds) :: all w),fun _ _ _ z _=>l - z.toNat,⟨0,[],rfl,Nat.zero_le _,rfl,rfl,fun d hd=>by simp at hd,own_nil 3 (St.all w)⟩,?_⟩
  rintro _ o1 _ c1 _ w1 ⟨i,ds,rfl,hi,rfl,hds,hdr,h⟩
  have hxl:=hx.1
  have g1:Gr w w1:=rdH 1 h.l
  have hdl:ds.length≤i:=by
    have e:=congrArg List.length hds
    rw [List.length_map] at e
    have h1:=List.length_filter_le (fun x:CellT=>decide (1 < x.acts.length)) (xs.take i)
    rw [List.length_take] at h1
    omega
  refine br_intro (fun h1=>?_) fun h1=>?_
  rotate_left
  · have h1:i = l:=by have:=of_decide_eq_false h1; omega
    rw [h1,List.take_of_length_le (by omega)] at hds
    refine ⟨o1,_,_,rfl,?_,g1⟩
    rw [← hds]
    exact rdCk_of (rdOv 0 h.l) fun d hd=>(hdr d hd).mono g1
  have h1:i < l:=by have:=of_decide_eq_true h1; omega
  obtain ⟨y,ad,b,d,hy,ha,r,t⟩:=rdCk_get hx h1
  have htk:xs.take (i + 1) = xs.take i ++ [y]:=by rw [List.take_add_one,hy]; rfl
  refine idx_n ha h1 ⟨_,_,_,r.cell g1 (j:=2) rfl,br_intro (fun h2=>?_) fun h2=>?_⟩
  · have h2:1 < y.acts.length:=by have:=of_decide_eq_true h2; omega
    refine idx_n ha h1 ⟨_,_,_,_,_,r.at g1 rfl,newC_i h fun k7 w2 h=>?_⟩
    refine (app_one (us:=ckV ds) tyOk (rfl:kdOfT Ty _ = .slice _) (rfl:kdOfT Ty _ = .slice _) rfl rfl rfl h rfl (by simp [oneC]) (by show (ds.length + 1) * 40≤_; omega) (by omega)).mono ?_
    rintro _ w3 ⟨o4,c4,rfl,h⟩
    refine ⟨_,_,_,rfl,⟨by omega,by omega⟩,⟨i + 1,ds ++ [((y.st,y.tm),((b,d),y.acts))],by simp,h1,by simp,?_,fun z hz=>?_,?_⟩,msr h1⟩
    · rw [List.map_append,hds,htk,List.filter_append,List.filter_cons_of_pos (by simpa using h2)]
      rfl
    · rcases List.mem_append.1 hz with hz | hz
      · exact hdr z hz
      · rw [List.mem_singleton] at hz; subst hz; exact t
    · rw [ckV_app]
      exact h.pick 2 [0]
  · have h2:¬ 1 < y.acts.length:=by have:=of_decide_eq_false h2; omega
    refine ⟨⟨by omega,by omega⟩,⟨i + 1,ds,by simp,h1,rfl,?_,hdr,h⟩,msr h1⟩
    rw [hds,htk,List.filter_append,List.filter_cons_of_neg (by simpa using h2)]
    simp
end Go.Proofs.YtndaepmjkbmjmaaGreatDoor
set_option linter.unusedVariables false
set_option maxRecDepth 4000
namespace Go.Proofs.YtndaepmjkbmjmaaGreatDoor
open Go.V
variable {w:World} {L:List Asn} {g:GramT} {x:GA}
theorem cell_one {ss ss' : List SQ} {nn nn' : List Bool} {a i f a' i' f' : Int} (hR:Res g ss a i f) (hn:f = 0→NnP g nn) (hR' : Res g ss' a' i' f') (hn' : f' = 0→NnP g nn'):f' = f∧(∀ l,cellL g nn' ss' l = cellL g nn ss l)∧(f = 0→∀ q t,actL g nn' ss' q t = actL g nn ss q t)∧ss'.length = ss.length:=by
  obtain ⟨hk,hes,_,_,rfl,hl⟩:=hR.one hR'
  have hk:ss.map (·.1.2) = ss'.map (·.1.2):=hk
  refine ⟨rfl,fun l=>?_,fun hf q t=>?_,hl.symm⟩
  · by_cases hf:f = 0
    · rw [(hn' hf).inj (hn hf)]; exact (cellL_es hes hk).symm
    · rw [hR.nil hf,hR'.nil hf]; rfl
  · rw [(hn' hf).inj (hn hf)]; exact (actL_es hes hk q t).symm
theorem cell_le {ss:List SQ} {nn:List Bool} {a i f:Int} {l:Nat} (hR:Res g ss a i f):(cellL g nn ss l).length≤16640:=by
  by_cases hf:f = 0
  · obtain ⟨hc,hA⟩:=hR.aut hf
    have h256:=hA.dn.2.1
    obtain ⟨sT,_⟩:=hc.sizes
    have h1:=cellN_len (g:=g) (nn:=nn) (ss:=ss) (least:=l) (n:=ss.length)
    have h2:ss.length * g.T≤256 * 65:=Nat.mul_le_mul (by omega) sT
    unfold cellL
    omega
  · rw [hR.nil hf]; exact Nat.zero_le _
theorem acts_le {ss:List SQ} {nn:List Bool} {l:Nat} (hb:okG g):∀ c∈cellL g nn ss l,c.acts.length≤4611686018427387904:=fun c hc=>by
  obtain ⟨q,t,_,_,_,rfl⟩:=cellN_mem.1 hc
  have:=actL_len (g:=g) (nn:=nn) (ss:=ss) (q:=q) (t:=t)
  have:=hb.2.2.2.1
  show (actL g nn ss q t).length≤_
  omega
theorem c_Copy (hg:gR (hp w) g x) (hb:okG g) (hbT:g.terms.length * 24≤140737488355328) (hbN:g.nons.length * 16≤140737488355328):Run Tryz.prog n_presageref02_Copy [.agg ⟨x.cells⟩] w fun v w'=>∃ y:GA,v = .agg ⟨y.cells⟩∧gR (hp w') g y∧Gr w w':=by
  refine (d_Copy (x:=x) hg hb hbT hbN).mono ?_
  rintro _ w3 ⟨y,os,rfl,hy,hos,h3⟩
  exact ⟨y,rfl,ownG_gR hy hos h3,rdH 5 h3.l⟩
theorem t_Merged (hg:gR (hp w) g x) (hb:okG g) (ht:tabA (hp w)):Run Tryz.prog n_table_Merged [.agg ⟨x.cells⟩] w fun v w'=>∃ (ss:List SQ) (ask int f:Int) (nn:List Bool) (o:Option Addr) (c:Nat),v = .tuple #[.slice o (cellL g nn ss 1).length c,.int .i64 f]∧Res g ss ask int f∧(f = 0→NnP g nn)∧rdS (hp w') (cellL g nn ss 1) o (cellL g nn ss 1).length∧Gr w w':=by
  refine (y_Merged hg hb ht).mono ?_
  rintro _ w' ⟨ss,ask,int,f,nn,o,c,ds,rfl,hR,hn,hds,h⟩
  have r:=rdCk h
  have e:ds.length = (cellL g nn ss 1).length:=by rw [← hds]; simp
  rw [hds,e] at r
  exact ⟨ss,ask,int,f,nn,o,c,by rw [e],hR,hn,r,rdH 2 h.l⟩
theorem t_Clashes (hg:gR (hp w) g x) (hb:okG g) (ht:tabA (hp w)):Run Tryz.prog n_table_Clashes [.agg ⟨x.cells⟩] w fun v w'=>∃ (ss:List SQ) (ask int f:Int) (nn:List Bool) (o:Option Addr) (c:Nat),v = .tuple #[.slice o (cellL g nn ss 2).length c,.int .i64 f]∧Res g ss ask int f∧(f = 0→NnP g nn)∧rdS (hp w') (cellL g nn ss 2) o (cellL g nn ss 2).length∧Gr w w':=by
  refine (y_Clashes hg hb ht).mono ?_
  rintro _ w' ⟨ss,ask,int,f,nn,o,c,ds,rfl,hR,hn,hds,h⟩
  have r:=rdCk h
  have e:ds.length = (cellL g nn ss 2).length:=by rw [← hds]; simp
  rw [hds,e] at r
  exact ⟨ss,ask,int,f,nn,o,c,by rw [e],hR,hn,r,rdH 2 h.l⟩
theorem t_Action {q t:Int} (hg:gR (hp w) g x) (hb:okG g) (ht:tabA (hp w)):Run Tryz.prog n_table_Action [.agg ⟨x.cells⟩,.int .i64 q,.int .i64 t] w fun v w'=>∃ (ss:List SQ) (ask int f e:Int) (nn:List Bool) (o:Option Addr) (c:Nat) (acts:List ActT),v = .tuple #[.slice o acts.length c,.int .i64 e]∧Res g ss ask int f∧(f = 0→NnP g nn)∧ActR g nn ss f q t e acts∧rdS (hp w') acts o acts.length∧Gr w w':=by
  refine (y_Action hg hb ht).mono ?_
  rintro _ w' ⟨ss,ask,int,f,e,nn,o,c,acts,rfl,hR,hn,hA,h⟩
  exact ⟨ss,ask,int,f,e,nn,o,c,acts,rfl,hR,hn,hA,rdAc_of rfl (rdOv 0 h.l),rdH 1 h.l⟩
set_option maxHeartbeats 4000000 in
theorem l_awake14 (ht:tabA (hp w)):Run Tryz.prog n_presagelaw14_awake [] w fun v w'=>v = .bool true∧Gr w w':=by
  refine run_presagelaw14_awake w _ ?_
  refine newC_i (St.all w) fun k1 w1 h=>newC_i h fun k2 w2 h=>newC_i h fun k3 w3 h=>newC_i h fun k4 w4 h=>newC_i h fun k5 w5 h=>newC_i h fun k6 w6 h=>newC_i h fun k7 w7 h=>stR_i h rfl (by intro v hv; simp at hv; rcases hv with rfl | rfl | rfl | rfl | rfl <;> rfl) fun w8 h=>?_
  have r7:rowH (hp w8) ⟨k7,0,none⟩ _:=rdCel 0 h.l
  have r6:rowH (hp w8) ⟨k6,0,none⟩ _:=rdCel 1 h.l
  have r5:rowH (hp w8) ⟨k5,0,none⟩ _:=rdCel 2 h.l
  have r4:rowH (hp w8) ⟨k4,0,none⟩ _:=rdCel 3 h.l
  have r3:rowH (hp w8) ⟨k3,0,none⟩ _:=rdCel 4 h.l
  have r2:rowH (hp w8) ⟨k2,0,none⟩ _:=rdCel 5 h.l
  have r1:rowH (hp w8) ⟨k1,0,none⟩ _:=rdCel 6 h.l
  have g8:Gr w w8:=rdH 7 h.l
  clear h
  have p3:rdS (hp w8) ([4] : List Int) (some ⟨k3,0,none⟩) 1:=rdI_of rfl (.inr ⟨_,rfl,r3⟩)
  have p4:rdS (hp w8) ([4,1,4] : List Int) (some ⟨k4,0,none⟩) 3:=rdI_of rfl (.inr ⟨_,rfl,r4⟩)
  have p5:rdS (hp w8) ([2] : List Int) (some ⟨k5,0,none⟩) 1:=rdI_of rfl (.inr ⟨_,rfl,r5⟩)
  have p0:rdS (hp w8) ([] : List Int) none 0:=rdI_of rfl (.inl rfl)
  obtain ⟨x,hx⟩ : ∃ x:GA,x = ⟨some ⟨k1,0,none⟩,3,3,some ⟨k2,0,none⟩,2,2,none,0,0,4,some ⟨k6,0,none⟩,3,3⟩:=⟨_,rfl⟩
  have hg:gR (hp w8) tbG x:=by
    subst hx
    refine ⟨?_,?_,?_,rfl,?_,Nat.le_refl _,Nat.le_refl _,Nat.le_refl _,Nat.le_refl _⟩
    · refine rdS_lit9 (xs:=tbG.terms) r1 fun i t hi=>?_
      match i,hi with
      | 0,hi=>cases hi; rfl
      | 1,hi=>cases hi; rfl
      | 2,hi=>cases hi; rfl
      | i + 3,hi=>cases hi
    · exact rdS_of_row (xs:=tbG.nons) rfl (.inr ⟨_,rfl,r2⟩)
    · exact p0
    · refine rdS_lit9 (xs:=tbG.prods) r6 fun i t hi=>?_
      match i,hi with
      | 0,hi=>cases hi; exact ⟨_,_,_,rfl,by decide,p3⟩
      | 1,hi=>cases hi; exact ⟨_,_,_,rfl,by decide,p4⟩
      | 2,hi=>cases hi; exact ⟨_,_,_,rfl,by decide,p5⟩
      | i + 3,hi=>cases hi
  have B:GB (hp w8) k7 x:=by subst hx; exact gb_of r7
  have ht8:tabA (hp w8):=rdV.mono g8 ht
  clear r1 r2 r3 r4 r5 r6 r7 p0 p3 p4 p5 hx ht
  refine ⟨_,_,_,_,_,_,_,_,_,_,_,_,_,B.row (sub.refl _),(t_Merged hg tb_ok ht8).mono ?_⟩
  rintro _ w9 ⟨ss,ask,int,f,nn,o,c,rfl,hR,hn,hr,g89⟩
  obtain ⟨rfl,hes,hks⟩:=tb_res hR
  have e:=(hn rfl).inj tb_nul
  subst e
  have e1:(cellL tbG tbN ss 1).length = 8:=by rw [cellL_es hes hks,tb_C]; exact tb_chk.2.2.1
  rw [e1]
  refine ⟨_,_,_,_,rfl,_,_,_,_,_,_,_,_,_,_,_,_,_,B.row g89,(t_Clashes (hg.mono g89) tb_ok (rdV.mono g89 ht8)).mono ?_⟩
  rintro _ w10 ⟨ss2,ask2,int2,f2,nn2,o2,c2,rfl,hR2,hn2,hr2,g90⟩
  obtain ⟨rfl,hes2,hks2⟩:=tb_res hR2
  have e:=(hn2 rfl).inj tb_nul
  subst e
  have e2:(cellL tbG tbN ss2 2).length = 1:=by rw [cellL_es hes2 hks2,tb_C]; exact tb_chk.2.2.2.1
  rw [e2]
  have g80:=g89.trans g90
  refine ⟨_,_,_,_,rfl,_,_,_,_,_,_,_,_,_,_,_,_,_,B.row g80,(t_Action (q:=4) (t:=1) (hg.mono g80) tb_ok (rdV.mono g80 ht8)).mono ?_⟩
  rintro _ w11 ⟨ss3,ask3,int3,f3,e3,nn3,o3,c3,acts,rfl,hR3,hn3,hA3,hr3,g01⟩
  obtain ⟨rfl,hes3,hks3⟩:=tb_res hR3
  have e:=(hn3 rfl).inj tb_nul
  subst e
  have hl3:ss3.length = 5:=by rw [es_len hes3]; exact tb_chk.2.2.2.2.2
  rcases hA3 with ⟨h,_⟩ | ⟨_,h,_⟩ | ⟨_,i,j,hi,hj,_,_,rfl,rfl⟩
  · exact absurd rfl h
  · rw [hl3] at h
    have:tbG.T = 3:=rfl
    omega
  obtain rfl:i = 4:=by omega
  obtain rfl:j = 1:=by omega
  have e4:actL tbG tbN ss3 4 1 = [⟨1,3⟩,⟨2,1⟩]:=by rw [actL_es hes3 hks3,tb_A]; exact tb_chk.2.2.2.2.1
  rw [e4] at hr3 ⊢
  refine ⟨_,_,_,_,rfl,br_t rfl (br_t rfl (br_t rfl (br_t rfl (br_t rfl (newC_i (St.all w11) fun k38 w12 h=>?_)))))⟩
  have g12:Gr w11 w12:=rdH 1 h.l
  have hr4:rdS (hp w12) ([⟨1,3⟩,⟨2,1⟩] : List ActT) (some ⟨k38,0,none⟩) 2:=rdAc_of rfl (.inr ⟨_,rfl,rdCel 0 h.l⟩)
  refine (d_Actions (hr3.mono g12) hr4 (by decide)).mono ?_
  rintro _ w13 ⟨rfl,g13⟩
  exact ⟨_,rfl,rfl,g8.trans (g80.trans (g01.trans (g12.trans g13)))⟩
end Go.Proofs.YtndaepmjkbmjmaaGreatDoor
set_option linter.unusedVariables false
set_option maxRecDepth 4000
namespace Go.Proofs.YtndaepmjkbmjmaaGreatDoor
open Go.V
variable {w:World} {L:List Asn} {g:GramT} {x:GA}
set_option maxHeartbeats 4000000 in
theorem l_TableOne {q t:Int} (hg:gR (hp w) g x) (hb:okG g) (hbT:g.terms.length * 24≤140737488355328) (hbN:g.nons.length * 16≤140737488355328) (ht:tabA (hp w)):Run Tryz.prog n_presagelaw14_TableOne [.agg ⟨x.cells⟩,.int .i64 q,.int .i64 t] w fun v w'=>v = .bool true∧Gr w w':=by
  refine run_presagelaw14_TableOne _ _ _ _ _ _ _ _ _ _ _ _ _ _ _ w _ (gbox hg fun k1 w1 gw hg1 B=>?_)
  refine ⟨_,_,_,_,_,_,_,_,_,_,_,_,_,B.row (sub.refl _),(c_Copy hg1 hb hbT hbN).mono ?_⟩
  rintro _ w2 ⟨y1,rfl,hy1,g12⟩
  refine ⟨_,_,_,_,_,_,_,_,_,_,_,_,_,rfl,(t_Merged hy1 hb (rdV.mono (gw.trans g12) ht)).mono ?_⟩
  rintro _ w3 ⟨ss,ask,int,f,nn,o,c,rfl,hR,hn,hr,g23⟩
  have g13:Gr w1 w3:=g12.trans g23
  refine ⟨_,_,_,_,rfl,_,_,_,_,_,_,_,_,_,_,_,_,_,B.row g13,(c_Copy (hg1.mono g13) hb hbT hbN).mono ?_⟩
  rintro _ w4 ⟨y2,rfl,hy2,g34⟩
  have g14:Gr w1 w4:=g13.trans g34
  refine ⟨_,_,_,_,_,_,_,_,_,_,_,_,_,rfl,(t_Clashes hy2 hb (rdV.mono (gw.trans g14) ht)).mono ?_⟩
  rintro _ w5 ⟨ss2,ask2,int2,f2,nn2,o2,c2,rfl,hR2,hn2,hr2,g45⟩
  have g15:Gr w1 w5:=g14.trans g45
  refine ⟨_,_,_,_,rfl,_,_,_,_,_,_,_,_,_,_,_,_,_,B.row g15,(c_Copy (hg1.mono g15) hb hbT hbN).mono ?_⟩
  rintro _ w6 ⟨y3,rfl,hy3,g56⟩
  have g16:Gr w1 w6:=g15.trans g56
  refine ⟨_,_,_,_,_,_,_,_,_,_,_,_,_,rfl,(t_Action (q:=q) (t:=t) hy3 hb (rdV.mono (gw.trans g16) ht)).mono ?_⟩
  rintro _ w7 ⟨ss3,ask3,int3,f3,e,nn3,o3,c3,acts,rfl,hR3,hn3,hA,hr3,g67⟩
  have g17:Gr w1 w7:=g16.trans g67
  obtain ⟨rfl,hc2,_,_⟩:=cell_one hR hn hR2 hn2
  obtain ⟨rfl,_,ha3,hl3⟩:=cell_one hR hn hR3 hn3
  rw [hc2] at hr2
  rw [hc2]
  have hr7:rdS (hp w7) (cellL g nn ss 1) o (cellL g nn ss 1).length:=hr.mono (g34.trans (g45.trans (g56.trans g67)))
  have hr27:rdS (hp w7) (cellL g nn ss 2) o2 (cellL g nn ss 2).length:=hr2.mono (g56.trans g67)
  have hle:=cell_le (l:=1) (nn:=nn) hR
  have hle2:=cell_le (l:=2) (nn:=nn) hR
  have gw7:=gw.trans g17
  clear hr hr2 hy1 hy2 hy3 g12 g13 g14 g15 g16 g23 g34 g45 g56 g67 B hg1 hg hc2 hR2 hR3 hn2 hn3
  have ht7:tabA (hp w7):=rdV.mono gw7 ht
  have wake:∀ {u:World},Gr w7 u→RunE Tryz.prog Ev n_presagelaw14_awake [] u fun v w'=>v = .bool true∧Gr w w':=fun gu=>(l_awake14 (rdV.mono gu ht7)).mono fun _ _ h=>⟨h.1,gw7.trans (gu.trans h.2)⟩
  refine ⟨_,_,_,_,rfl,fun w'=>Gr w7 w',br_f (by simp) ?_,?_⟩
  · have clash:RunE Tryz.prog Ev n_presageref14_Clash [.slice o (cellL g nn ss 1).length c] w7 fun v w8=>∃ (o' : Option Addr) (n c' : Nat),v = .slice o' n c'∧RunE Tryz.prog Ev n_presageref14_Cells [.slice o2 (cellL g nn ss 2).length c2,.slice o' n c'] w8 fun v w9=>v = .bool true∧Gr w7 w9:=by
      refine (d_Clash hr7 (by omega)).mono ?_
      rintro _ w8 ⟨o',n,c',rfl,r,g78⟩
      rw [cell_two] at r
      refine ⟨_,_,_,rfl,(d_Cells (hr27.mono g78) r (by omega) (acts_le hb)).mono ?_⟩
      rintro _ w9 ⟨rfl,g89⟩
      exact ⟨by simp,g78.trans g89⟩
    have done:RunE Tryz.prog Ev n_presageref14_Clash [.slice o (cellL g nn ss 1).length c] w7 fun v w8=>∃ (o' : Option Addr) (n c' : Nat),v = .slice o' n c'∧RunE Tryz.prog Ev n_presageref14_Cells [.slice o2 (cellL g nn ss 2).length c2,.slice o' n c'] w8 fun v w9=>∃ b,v = .bool b∧br (!b) ((.bool false:Value) = .bool true∧Gr w w9) (Gr w7 w9):=by
      refine clash.mono ?_
      rintro _ w8 ⟨o',n,c',rfl,hh⟩
      refine ⟨_,_,_,rfl,hh.mono ?_⟩
      rintro _ w9 ⟨rfl,g79⟩
      exact ⟨_,rfl,br_f rfl g79⟩
    refine br_intro (fun h1=>?_) fun h1=>done
    have h1:f3≠0:=by simpa using h1
    refine br_f ?_ done
    rcases hA with ⟨_,rfl,_⟩ | ⟨h,_⟩ | ⟨h,_⟩
    · simp
    · exact absurd h h1
    · exact absurd h h1
  intro _ w12 g12
  refine br_intro (fun h1=>?_) fun h1=>?_
  · have h1:e≠0:=by simpa using h1
    have:acts = []:=by
      rcases hA with ⟨_,_,h⟩ | ⟨_,_,_,h⟩ | ⟨_,i,j,_,_,_,_,h,_⟩
      · exact h
      · exact h
      · exact absurd h h1
    subst this
    refine br_t rfl ((wake g12).mono ?_)
    rintro _ w13 ⟨rfl,g13⟩
    exact ⟨_,rfl,rfl,g13⟩
  have h1:e = 0:=by simpa using h1
  obtain ⟨hf0,i,j,hqi,htj,hi,hj,hac⟩ : f3 = 0∧∃ i j:Nat,q = i∧t = j∧i < ss.length∧j < g.T∧acts = actL g nn ss i j:=by
    rcases hA with ⟨h2,h,_⟩ | ⟨_,_,h,_⟩ | ⟨h,i,j,h2,h3,h4,h5,_,h6⟩
    · rw [h1] at h; exact absurd h.symm h2
    · rw [h1] at h; cases h
    · exact ⟨h,i,j,h2,h3,by omega,h5,by rw [h6,ha3 h]⟩
  obtain ⟨C,hC⟩ : ∃ C,C = cellL g nn ss 1:=⟨_,rfl⟩
  have hmem:∀ {z:CellT},z∈C→∃ q t:Nat,1≤(actL g nn ss q t).length∧z = ⟨(q:Int),(t:Int),actL g nn ss q t⟩:=fun {z} h=>by
    rw [hC] at h
    obtain ⟨q,t,_,_,h1,h2⟩:=cellN_mem.1 h
    exact ⟨q,t,h1,h2⟩
  have hin:acts≠[]→(⟨q,t,acts⟩ : CellT)∈C:=fun h=>by
    rw [hC,hqi,htj,hac]
    refine cellN_mem.2 ⟨i,j,hi,hj,?_,rfl⟩
    rw [← hac]
    exact List.length_pos_iff.2 h
  have hal:acts.length≤4611686018427387904:=by
    rw [hac]
    have:=actL_len (g:=g) (nn:=nn) (ss:=ss) (q:=i) (t:=j)
    have:=hb.2.2.2.1
    omega
  rw [← hC] at hr7 hle ⊢
  have g7:Gr w7 w12:=g12
  refine ⟨fun z w'=>∃ k:Nat,z = k∧k≤C.length∧(∀ y∈C.take k,¬(y.st = q∧y.tm = t))∧Gr w7 w',fun z _=>C.length - z.toNat,⟨0,rfl,Nat.zero_le _,fun y hy=>by simp at hy,g12⟩,?_⟩
  rintro _ _ w14 ⟨k,rfl,hk,hno,g14⟩
  refine br_intro (fun h2=>?_) fun h2=>?_
  rotate_left
  · have h2:k = C.length:=by have:=of_decide_eq_false h2; omega
    rw [h2,List.take_length] at hno
    have:acts = []:=by
      cases hh:acts with
      | nil=>rfl
      | cons a l=>exact absurd ⟨rfl,rfl⟩ (hno _ (hin (by rw [hh]; simp)))
    subst this
    refine br_t rfl ((wake g14).mono ?_)
    rintro _ w13 ⟨rfl,g13⟩
    exact ⟨_,rfl,rfl,g13⟩
  have h2:k < C.length:=by have:=of_decide_eq_true h2; omega
  obtain ⟨y,ad,b,d,hy,ha,r,tt⟩:=rdCk_get (hr7.mono g14) h2
  have next:¬(y.st = q∧y.tm = t)→inI ((k:Int) + 1)∧(∃ k' : Nat,(k:Int) + 1 = k'∧k'≤C.length∧(∀ y∈C.take k',¬(y.st = q∧y.tm = t))∧Gr w7 w14)∧C.length - ((k:Int) + 1).toNat < C.length - (k:Int).toNat:=fun hne=>⟨⟨by omega,by omega⟩,⟨k + 1,by simp,h2,fun z hz=>by
    rw [List.take_add_one,hy] at hz
    rcases List.mem_append.1 hz with hz | hz
    · exact hno z hz
    · simp at hz; subst hz; exact hne,g14⟩,msr h2⟩
  refine idx_n ha h2 ⟨_,r.cell0 (sub.refl _),br_intro (fun h3=>?_) fun h3=>next fun h=>by rw [h.1] at h3; simp at h3⟩
  refine idx_n ha h2 ⟨_,r.cell (sub.refl _) (j:=1) rfl,br_intro (fun h4=>?_) fun h4=>next fun h=>by rw [h.2] at h4; simp at h4⟩
  have h3:y.st = q:=by simpa using h3
  have h4:y.tm = t:=by simpa using h4
  obtain ⟨q',t',hlen,rfl⟩:=hmem (List.mem_of_getElem? hy)
  have h3:(q' : Int) = q:=h3
  have h4:(t' : Int) = t:=h4
  obtain rfl:q' = i:=by omega
  obtain rfl:t' = j:=by omega
  have eac:acts = (⟨(q' : Int),(t' : Int),actL g nn ss q' t'⟩ : CellT).acts:=hac
  refine idx_n ha h2 ⟨_,_,_,r.cell (sub.refl _) (j:=2) rfl,(d_Actions (hr3.mono g14) tt hal).mono ?_⟩
  rintro _ w15 ⟨rfl,g15⟩
  refine ⟨_,rfl,br_t (decide_eq_true eac) ((wake (g14.trans g15)).mono ?_)⟩
  rintro _ w13 ⟨rfl,g13⟩
  exact ⟨_,rfl,rfl,g13⟩
end Go.Proofs.YtndaepmjkbmjmaaGreatDoor
set_option linter.unusedVariables false
set_option maxRecDepth 4000
namespace Go.V
open Go.RowKit Go.WideShapes Go.ChangeShapes
theorem cellH_of {w:World} {a:Addr} {v:Value} (h:w.cell? a = some v):cellH (hp w) a = some v:=by
  unfold World.cell? at h
  unfold cellH hp
  cases ho:w.heap[a.block]? with
  | none=>rw [ho] at h; cases h
  | some o=>rw [ho] at h; cases o <;> first | exact h | cases h
theorem mapM_get' {α β : Type} {f:α→Option β}:∀ {l:List α} {r:List β},l.mapM f = some r→r.length = l.length∧∀ (i:Nat) (a:α) (b:β),l[i]? = some a→r[i]? = some b→f a = some b
  | [],r,h=>by
    simp at h; subst h; exact ⟨rfl,fun i a b ha=>by simp at ha⟩
  | x :: l,r,h=>by
    simp only [List.mapM_cons,Option.bind_eq_bind,Option.bind_eq_some_iff,Option.pure_def,Option.some.injEq] at h
    obtain ⟨b,hb,r',hr',rfl⟩:=h
    obtain ⟨h1,h2⟩:=mapM_get' hr'
    refine ⟨by simp [h1],fun i a b' ha hb'=>?_⟩
    cases i with
    | zero=>simp at ha hb'; subst ha; subst hb'; exact hb
    | succ i=>exact h2 i a b' (by simpa using ha) (by simpa using hb')
theorem cells_row {w:World} {base n:Nat} {a:Addr} {vs:List Value} (h:w.cells? base a n = some vs):rowH (hp w) a vs:=by
  unfold World.cells? at h
  split at h
  · obtain ⟨h1,h2⟩:=mapM_get' h
    intro j v hj
    have hlt:=(List.getElem?_eq_some_iff.1 hj).1
    rw [h1,List.length_range] at hlt
    exact cellH_of (h2 j j v (by simp [hlt]) hj)
  · cases h
theorem weightsAll_get {H:Type} {P:Program} {e:TypeId} {N:Nat}:∀ {l:List (DataW H)},(DataW.weightsAll P e l).all (·≤N) = true→∀ d∈l,(d.weights P e).all (·≤N) = true
  | [],_,d,hd=>by simp at hd
  | x :: l,h,d,hd=>by
    rw [DataW.weightsAll,List.all_append,Bool.and_eq_true] at h
    rcases List.mem_cons.1 hd with rfl | hd
    · exact h.1
    · exact weightsAll_get h.2 d hd
theorem weightsEach_get {H:Type} {P:Program} {N:Nat}:∀ {ts:List TypeId} {l:List (DataW H)},(DataW.weightsEach P ts l).all (·≤N) = true→∀ (i:Nat) t d,ts[i]? = some t→l[i]? = some d→(d.weights P t).all (·≤N) = true
  | [],l,_,i,t,d,ht,_=>by simp at ht
  | _ :: _,[],_,i,t,d,_,hd=>by simp at hd
  | t0 :: ts,x :: l,h,i,t,d,ht,hd=>by
    rw [DataW.weightsEach,List.all_append,Bool.and_eq_true] at h
    cases i with
    | zero=>simp at ht hd; subst ht; subst hd; exact h.1
    | succ i=>exact weightsEach_get h.2 i t d (by simpa using ht) (by simpa using hd)
def Opn (P:Program) (α : Type) [Rep α] (bd:α→Prop) (t:TypeId):Prop :=
  ∀ {H:Type} (enc:TypeId × Value→H) (W:World) (n:Nat) (cs:List Value) (x:DataW H × List MemPlace),DataW.trod enc P W 0 (fun _=>true) true n t cs = some x→(x.1.weights P t).all (·≤reachBytes) = true→∃ y:α,rd (hp W) y cs∧bd y
def anyS:ByteArray→Prop:=fun s=>s.size≤reachBytes
def anyL {α : Type} (bytes:Nat) (bd:α→Prop):List α→Prop:=fun xs=>xs.length * bytes≤reachBytes∧∀ x∈xs,bd x
section
variable {P:Program} {t e:TypeId}
theorem opn_int (ht:P.underlying t = some (.int .i64)):Opn P Int anyI t:=by
  intro H enc W n cs x h hw
  obtain ⟨z,rfl,_,hwf⟩:=DataW.trod_int ht h
  refine ⟨z,rfl,?_⟩
  have:IntKind.i64.min≤z∧z≤IntKind.i64.max:=by simpa [Lit.wf] using hwf
  exact this
theorem opn_str (ht:P.underlying t = some .string):Opn P ByteArray anyS t:=by
  intro H enc W n cs x h hw
  obtain ⟨z,rfl,rfl,_⟩:=DataW.trod_string ht h
  refine ⟨z,rfl,?_⟩
  simpa [DataW.weights,anyS] using hw
theorem opn_slice {α : Type} [Rep α] {bd:α→Prop} {bb:Nat} (ht:P.underlying t = some (.slice e)) (hc:P.cellsOf e = Rep.n α) (hb:P.bytesOf e = bb) (he:Opn P α bd e):Opn P (List α) (anyL bb bd) t:=by
  intro H enc W n cs x h hw
  rcases DataW.trod_slice ht h with ⟨rfl,rfl⟩ | ⟨a,len,cap,elems,rest,m,rfl,rfl,rfl,_,hlc,hcm,hel,hg,_,_⟩
  · exact ⟨[],⟨none,0,0,rfl,Nat.le_refl _,rdS.nil⟩,by simp [reachBytes],fun x hx=>by simp at hx⟩
  · simp only [DataW.weights,ht,List.all_cons,List.all_append,Bool.and_eq_true,decide_eq_true_eq,List.length_map] at hw
    obtain ⟨hw1,hw2,_⟩:=hw
    have key:∀ k,k≤len→∃ ys:List α,ys.length = k∧(∀ i y,ys[i]? = some y→∃ vs,rowH (hp W) (a.add (mulS i (Rep.n α))) vs∧rd (hp W) y vs)∧∀ y∈ys,bd y:=by
      intro k
      induction k with
      | zero=>exact fun _=>⟨[],rfl,fun i y hy=>by simp at hy,fun y hy=>by simp at hy⟩
      | succ k ih =>
        intro hk
        obtain ⟨ys,h1,h2,h3⟩:=ih (by omega)
        have hgk:=hg k (by omega)
        obtain ⟨d,hd⟩ : ∃ d,elems[k]? = some d:=⟨elems[k]'(by omega),List.getElem?_eq_getElem _⟩
        rw [hd,Option.bind_eq_some_iff] at hgk
        obtain ⟨vs,hv1,hv2⟩:=hgk
        obtain ⟨y,hy1,hy2⟩:=he enc W m vs d hv2 (weightsAll_get hw2 _ (by
          have:=List.mem_of_getElem? hd
          exact List.mem_map_of_mem this))
        refine ⟨ys ++ [y],by simp [h1],fun i z hz=>?_,fun z hz=>?_⟩
        · by_cases hi:i < k
          · rw [List.getElem?_append_left (by omega)] at hz
            exact h2 i z hz
          · have:i = k:=by
              have:=(List.getElem?_eq_some_iff.1 hz).1
              simp at this; omega
            subst this
            rw [List.getElem?_append_right (by omega),h1,Nat.sub_self] at hz
            cases hz
            refine ⟨vs,?_,hy1⟩
            rw [mulS_eq,← hc]
            exact cells_row hv1
        · rcases List.mem_append.1 hz with hz | hz
          · exact h3 z hz
          · simp at hz; subst hz; exact hy2
    obtain ⟨ys,h1,h2,h3⟩:=key len (Nat.le_refl _)
    refine ⟨ys,⟨some a,len,cap,rfl,hlc,h1,fun i y hy=>?_⟩,?_,h3⟩
    · obtain ⟨vs,h4,h5⟩:=h2 i y hy
      exact ⟨a,vs,rfl,h4,h5⟩
    · rw [h1,← hb,← hel]
      exact Nat.le_trans (Nat.mul_le_mul_right _ (Nat.le_add_right _ _)) hw1
theorem opn_struct {fs:Array Field} (ht:P.underlying t = some (.struct fs)) {H:Type} {enc:TypeId × Value→H} {W:World} {n:Nat} {cs:List Value} {x:DataW H × List MemPlace} (h:DataW.trod enc P W 0 (fun _=>true) true n t cs = some x) (hw:(x.1.weights P t).all (·≤reachBytes) = true) :
    cs.length = P.cellsOf t∧∀ (i:Nat) (f:Field) (ty k o:Nat),fs[i]? = some f→P.cellsOf ty = k→f.type = ty→f.offset = o→∃ (m:Nat) (d:DataW H × List MemPlace),DataW.trod enc P W 0 (fun _=>true) true m ty ((cs.drop o).take k) = some d∧(d.1.weights P ty).all (·≤reachBytes) = true:=by
  obtain ⟨xs,m,rfl,rfl,hl,hxs,hf⟩:=DataW.trod_struct ht h
  refine ⟨hl,?_⟩
  rintro i f _ _ _ hi rfl rfl rfl
  have hlt:=(Array.getElem?_eq_some_iff.1 hi).1
  obtain ⟨d,hd⟩ : ∃ d,xs[i]? = some d:=⟨xs[i]'(by omega),List.getElem?_eq_getElem _⟩
  refine ⟨m,d,by rw [hf i f hi,hd],?_⟩
  simp only [DataW.weights,ht] at hw
  exact weightsEach_get hw i f.type d.1 (by simp [hi]) (by simp [hd])
theorem opn_arg {α : Type} [Rep α] {bd:α→Prop} (ho:Opn P α bd t) {H:Type} {enc:TypeId × Value→H} {W:World} {v:Value} {d:DataW H} {ps:List MemPlace} (h:DataW.Trod enc P W 0 (fun _=>true) true t v d ps)
    (hw:(d.weights P t).all (·≤reachBytes) = true):∃ y:α,rd (hp W) y v.cells.toList∧bd y:=by
  obtain ⟨n,h⟩:=h
  exact ho enc W n _ _ h hw
theorem arg_int {H:Type} {enc:TypeId × Value→H} {W:World} {b:Nat} {v:Value} {d:DataW H} {ps:List MemPlace} (ht:P.underlying t = some (.int .i64)) (hval:Value.okWide P W .any b t v) (h:DataW.Trod enc P W 0 (fun _=>true) true t v d ps):∃ x:Int,v = .int .i64 x∧anyI x:=by
  obtain ⟨n,rfl,_,_,hwf⟩:=open_int ht hval h
  refine ⟨n,rfl,?_⟩
  have:IntKind.i64.min≤n∧n≤IntKind.i64.max:=by simpa [Lit.wf] using hwf
  exact this
theorem arg_struct {α : Type} [Rep α] {bd:α→Prop} {fs:Array Field} (ho:Opn P α bd t) (ht:P.underlying t = some (.struct fs)) {H:Type} {enc:TypeId × Value→H} {W:World} {b:Nat} {v:Value} {d:DataW H} {ps:List MemPlace}
    (hval:Value.okWide P W .any b t v) (h:DataW.Trod enc P W 0 (fun _=>true) true t v d ps) (hw:(d.weights P t).all (·≤reachBytes) = true):∃ (x:α) (cs:List Value),v = .agg ⟨cs⟩∧rd (hp W) x cs∧bd x:=by
  obtain ⟨x,hr,hb⟩:=opn_arg ho h hw
  simp only [Value.okWide,ht] at hval
  obtain ⟨cs,rfl,_⟩:=hval
  exact ⟨x,cs.toList,rfl,hr,hb⟩
theorem below_of {w w' : World} (h:Ev w w') (g:Gr w w'):Below w.heap.size w w':=by
  refine ⟨h.os,h.tape,h.output,h.size,fun k hk=>?_⟩
  cases ho:w.heap[k]? with
  | none=>rw [Array.getElem?_eq_none_iff] at ho; omega
  | some o =>
    by_cases hd:notD o = true
    · have:hp w k = some o:=by unfold hp; rw [ho,hidD_not hd]
      exact hidD_some (g k o this)
    · cases o <;> first | exact absurd rfl hd | exact h.dfr _ _ ho
theorem trodAll_below (hl:laidOutB P = true) {H:Type} {enc:TypeId × Value→H} {W W' : World} (hb:Below W.heap.size W W') {sp:Nat→Bool}:∀ {ts:List TypeId} {vs:List Value} {ds:List (DataW H)} {ps:List MemPlace},
    (ts.all fun t=>P.readableRec t && decide (t < P.types.size)) = true→DataW.TrodAll enc P W 0 (fun _=>true) true ts vs ds ps→(∀ x∈ps,x.block < W.heap.size)→(∀ x∈ps,sp x.block = true) →
    DataW.TrodAll enc P W' 0 sp true ts vs ds ps
  | [],[],[],ps,_,h,_,_=>h
  | [],_ :: _,_,_,_,h,_,_=>h.elim
  | [],[],_ :: _,_,_,h,_,_=>h.elim
  | _ :: _,[],_,_,_,h,_,_=>h.elim
  | _ :: _,_ :: _,[],_,_,h,_,_=>h.elim
  | t :: ts,v :: vs,d :: ds,ps,ht,h,hlt,hsp=>by
    obtain ⟨p,q,h1,h2,rfl⟩:=h
    rw [List.all_cons,Bool.and_eq_true,Bool.and_eq_true,decide_eq_true_eq] at ht
    exact ⟨p,q,WideElems.Trod_stays hl ht.1.1 ht.1.2 h1 (fun x hx=>hb.same (hlt x (by simp [hx]))) (fun x hx=>hsp x (by simp [hx])),trodAll_below hl hb ht.2 h2 (fun x hx=>hlt x (by simp [hx])) (fun x hx=>hsp x (by simp [hx])),rfl⟩
theorem law_post {H:Type} {enc:TypeId × Value→H} {s:ChangeSpec} {f:Func} {W W' : World} {args:Array Value} {ds gs:List (DataW H)} {before:List MemPlace} {tb:TypeId} (hv:s.vars = []) (hrt:f.resultTypes = #[tb]) (htb:P.underlying tb = some .bool)
    (hsp:s.fn H (ds ++ gs) = { results:=[.lit (.bool true)],args:=ds }) (hl:laidOutB P = true) (hrd:(f.params.toList.all fun t=>P.readableRec t && decide (t < P.types.size)) = true)
    (hW:DataW.Whole enc P f.params.toList s.vars false W args.toList ds gs before) (hE:Ev W W') (hg:Gr W W'):s.post enc P f false true false false W args (.bool true) W':=by
  have hb:=below_of hE hg
  have hlt:∀ p∈before,p.block < W.heap.size:=fun p hp=>hW.lt p hp
  have hold:∀ p∈before,(fun b=>decide (b < W.heap.size)) p.block = true:=fun p hp=>by simpa using hlt p hp
  have hW':=hW
  obtain ⟨p,q,h1,h2,rfl,h3,h4⟩:=hW
  have hq:q = []:=by
    rw [hv] at h2
    cases gs with
    | nil=>exact h2
    | cons _ _=>exact h2.elim
  subst hq
  rw [List.append_nil] at *
  have hargs:∀ sp:Nat→Bool,(∀ x∈p,sp x.block = true)→DataW.TrodAll enc P W' 0 sp true f.params.toList args.toList (s.fn H (ds ++ gs)).args p:=fun sp hs=>by
    rw [hsp]; exact trodAll_below hl hb hrd h1 hlt hs
  have hvars:∀ sp:Nat→Bool,DataW.TrodVars enc P W' sp s.vars (s.fn H (ds ++ gs)).vars []:=fun sp=>by
    rw [hsp,hv]; exact rfl
  have hres:∀ (b:Nat) (sp:Nat→Bool) (hd:Bool),DataW.TrodAll enc P W' b sp hd f.resultTypes.toList ((Value.bool true).resultList f.resultTypes.size) (s.fn H (ds ++ gs)).results []:=fun b sp hd=>by
    rw [hsp,hrt]; exact trodAll_cons_mk (shut_bool htb _) trodAll_mk0
  have hok:∀ (j:Nat) (t:TypeId) (r:Value),f.resultTypes[j]? = some t→((Value.bool true).resultList f.resultTypes.size)[j]? = some r→Value.okWide P W' .any 0 t r:=ok_one hrt rfl (okWide_bool_mk htb _)
  refine ⟨ds,gs,p,[],p,[],hW',hres _ _ _,hargs _ hold,hvars _,World.keptBut_mono (fun x hx=>⟨hx,?_⟩) (hb.frame (·∈p)),fun _=>?_⟩
  · exact Or.inr (by simpa using hx)
  · refine ⟨hok,_,_,([] ++ p) ++ [],⟨[] ++ p,[],trodAll_append (hargs _ (fun _ _=>rfl)) (hres _ _ _),hvars _,rfl,?_,?_⟩,?_⟩
    · intro b off hp
      have hin:MemPlace.cell b off∈p:=by simpa using hp
      rw [hb.frozen (hlt _ hin)]
      exact h3 b off hin
    · intro ha; cases ha
    · intro x hx _
      simpa using hx
end
end Go.V
set_option linter.unusedVariables false
namespace Go.Proofs.YtndaepmjkbmjmaaGreatDoor
open Go.V Go.RowKit Go.WideShapes Go.ChangeShapes Go.ChangeAt
theorem ownK:ownKnob Tryz.prog.godebug = none:=by kernel_rfl
theorem factEnter:Tryz.pinned.checked.prog.mayEnter = true:=by kernel_rfl
theorem factLift:Tryz.pinned.checked.prog.liftsFinal = Rows.tableOneRow.lifted:=by kernel_rfl
theorem factMake:Tryz.pinned.checked.prog.make = some Rows.tableOneRow.make:=by kernel_rfl
theorem laidO:laidOutB Tryz.prog = true:=by kernel_rfl
theorem cellsI:Tryz.prog.cellsOf 3 = 1:=by kernel_rfl
theorem bytesI:Tryz.prog.bytesOf 3 = 8:=by kernel_rfl
theorem cellsStr:Tryz.prog.cellsOf 9 = 1:=by kernel_rfl
theorem bytesStr:Tryz.prog.bytesOf 9 = 16:=by kernel_rfl
theorem cellsS24:Tryz.prog.cellsOf 24 = 1:=by kernel_rfl
theorem cellsS22:Tryz.prog.cellsOf 22 = 1:=by kernel_rfl
theorem cellsS23:Tryz.prog.cellsOf 23 = 1:=by kernel_rfl
theorem cellsS25:Tryz.prog.cellsOf 25 = 1:=by kernel_rfl
theorem cellsT:Tryz.prog.cellsOf 83 = 2:=by kernel_rfl
theorem bytesT:Tryz.prog.bytesOf 83 = 24:=by kernel_rfl
theorem cellsP:Tryz.prog.cellsOf 81 = 3:=by kernel_rfl
theorem bytesP:Tryz.prog.bytesOf 81 = 40:=by kernel_rfl
theorem cellsG:Tryz.prog.cellsOf 27 = 5:=by kernel_rfl
theorem oInt:Opn Tryz.prog Int anyI 3:=opn_int Tryz.underlying3
theorem oInts:Opn Tryz.prog (List Int) (anyL 8 anyI) 24:=opn_slice Tryz.underlying24 cellsI bytesI oInt
theorem oStr:Opn Tryz.prog ByteArray anyS 9:=opn_str Tryz.underlying9
theorem oStrs:Opn Tryz.prog (List ByteArray) (anyL 16 anyS) 23:=opn_slice Tryz.underlying23 cellsStr bytesStr oStr
theorem oTerm:Opn Tryz.prog TermT (fun t=>anyS t.name∧anyI t.level) 83:=by
  intro H enc W n cs x h hw
  obtain ⟨hl,hf⟩:=opn_struct Tryz.underlying83 h hw
  rw [cellsT] at hl
  obtain ⟨_,_,t0,w0⟩:=hf 0 _ 9 1 0 rfl cellsStr rfl rfl
  obtain ⟨_,_,t1,w1⟩:=hf 1 _ 3 1 1 rfl cellsI rfl rfl
  obtain ⟨y0,r0,b0⟩:=oStr enc W _ _ _ t0 w0
  obtain ⟨y1,r1,b1⟩:=oInt enc W _ _ _ t1 w1
  match cs,hl with
  | [c0,c1],_ =>
    have e0:[c0] = [.string y0]:=r0
    have e1:[c1] = [.int .i64 y1]:=r1
    cases e0; cases e1
    exact ⟨⟨y0,y1⟩,rfl,b0,b1⟩
theorem oTerms:Opn Tryz.prog (List TermT) (anyL 24 fun t=>anyS t.name∧anyI t.level) 22:=opn_slice Tryz.underlying22 cellsT bytesT oTerm
theorem oProd:Opn Tryz.prog ProdT (fun p=>anyI p.left∧anyL 8 anyI p.right∧anyI p.level) 81:=by
  intro H enc W n cs x h hw
  obtain ⟨hl,hf⟩:=opn_struct Tryz.underlying81 h hw
  rw [cellsP] at hl
  obtain ⟨_,_,t0,w0⟩:=hf 0 _ 3 1 0 rfl cellsI rfl rfl
  obtain ⟨_,_,t1,w1⟩:=hf 1 _ 24 1 1 rfl cellsS24 rfl rfl
  obtain ⟨_,_,t2,w2⟩:=hf 2 _ 3 1 2 rfl cellsI rfl rfl
  obtain ⟨y0,r0,b0⟩:=oInt enc W _ _ _ t0 w0
  obtain ⟨y1,⟨a,l,c,r1,hlc,r1'⟩,b1⟩:=oInts enc W _ _ _ t1 w1
  obtain ⟨y2,r2,b2⟩:=oInt enc W _ _ _ t2 w2
  match cs,hl with
  | [c0,c1,c2],_ =>
    have e0:[c0] = [.int .i64 y0]:=r0
    have e1:[c1] = [.slice a l c]:=r1
    have e2:[c2] = [.int .i64 y2]:=r2
    cases e0; cases e1; cases e2
    exact ⟨⟨y0,y1,y2⟩,⟨a,l,c,rfl,hlc,r1'⟩,b0,b1,b2⟩
theorem oProds:Opn Tryz.prog (List ProdT) (anyL 40 fun p=>anyI p.left∧anyL 8 anyI p.right∧anyI p.level) 25:=opn_slice Tryz.underlying25 cellsP bytesP oProd
def okG2 (g:GramT):Prop:=okG g∧g.terms.length * 24≤140737488355328∧g.nons.length * 16≤140737488355328
theorem oGram:Opn Tryz.prog GramT okG2 27:=by
  intro H enc W n cs x h hw
  obtain ⟨hl,hf⟩:=opn_struct Tryz.underlying27 h hw
  rw [cellsG] at hl
  obtain ⟨_,_,t0,w0⟩:=hf 0 _ 22 1 0 rfl cellsS22 rfl rfl
  obtain ⟨_,_,t1,w1⟩:=hf 1 _ 23 1 1 rfl cellsS23 rfl rfl
  obtain ⟨_,_,t2,w2⟩:=hf 2 _ 24 1 2 rfl cellsS24 rfl rfl
  obtain ⟨_,_,t3,w3⟩:=hf 3 _ 3 1 3 rfl cellsI rfl rfl
  obtain ⟨_,_,t4,w4⟩:=hf 4 _ 25 1 4 rfl cellsS25 rfl rfl
  obtain ⟨y0,⟨a0,l0,c0',r0,k0,q0⟩,b0⟩:=oTerms enc W _ _ _ t0 w0
  obtain ⟨y1,⟨a1,l1,c1',r1,k1,q1⟩,b1⟩:=oStrs enc W _ _ _ t1 w1
  obtain ⟨y2,⟨a2,l2,c2',r2,k2,q2⟩,b2⟩:=oInts enc W _ _ _ t2 w2
  obtain ⟨y3,r3,b3⟩:=oInt enc W _ _ _ t3 w3
  obtain ⟨y4,⟨a4,l4,c4',r4,k4,q4⟩,b4⟩:=oProds enc W _ _ _ t4 w4
  match cs,hl with
  | [c0,c1,c2,c3,c4],_ =>
    have e0:[c0] = [.slice a0 l0 c0']:=r0
    have e1:[c1] = [.slice a1 l1 c1']:=r1
    have e2:[c2] = [.slice a2 l2 c2']:=r2
    have e3:[c3] = [.int .i64 y3]:=r3
    have e4:[c4] = [.slice a4 l4 c4']:=r4
    cases e0; cases e1; cases e2; cases e3; cases e4
    refine ⟨⟨y0,y1,y2,y3,y4⟩,⟨⟨a0,l0,c0',a1,l1,c1',a2,l2,c2',y3,a4,l4,c4'⟩,rfl,q0,q1,q2,rfl,q4,k0,k1,k2,k4⟩,?_⟩
    have z0:=b0.1
    have z1:=b1.1
    have z2:=b2.1
    have z4:=b4.1
    unfold reachBytes at z0 z1 z2 z4
    refine ⟨⟨by show y0.length≤_; omega,by show y1.length≤_; omega,by show y2.length≤_; omega,by show y4.length * 40≤_; omega,fun t ht=>⟨?_,(b0.2 t ht).2⟩,fun s hs=>?_,fun p hp=>?_⟩,by show y0.length * 24≤_; omega,by show y1.length * 16≤_; omega⟩
    · have:=(b0.2 t ht).1; unfold anyS reachBytes at this; omega
    · have:=b1.2 s hs; unfold anyS reachBytes at this; omega
    · have:=(b4.2 p hp).2.1.1; unfold reachBytes at this; omega

theorem gTab : Tryz.prog.globalNamed "math/bits.deBruijn64tab" = some 0 := by kernel_rfl
theorem gTabType:(Tryz.prog.globals[0]?).map (·.type) = some 294:=by kernel_rfl
theorem cellsTab:Tryz.prog.cellsOf 294 = 64:=by kernel_rfl
theorem cellsTabE:Tryz.prog.cellsOf 5 = 1:=by kernel_rfl
theorem table {W : World} (h : laidMetH Tryz.prog [("math/bits.deBruijn64tab", Rows.laid_math_bits_deBruijn64tab)] W) : tabA (hp W) := by
  have ht : Lib.TabIs Tryz.prog W "math/bits.deBruijn64tab" .u8 (Lib.deBruijn64tab.map fun (k : Nat) => (k : Int)) :=
    Lib.tabIs_of_head (rest:=[]) gTab gTabType Tryz.underlying294 Tryz.underlying5 cellsTabE cellsTab h
  refine .inr ⟨_,rfl,fun j v hj=>?_⟩
  have hlt:=(List.getElem?_eq_some_iff.1 hj).1
  have hc:=ht.cell gTab j (by simpa [tabV] using hlt)
  rw [add_lit0]
  refine cellH_of (hc.trans ?_)
  rw [← hj]
  simp only [tabV,List.getElem?_map,List.length_map] at hj hlt ⊢
  rw [List.getElem?_eq_getElem hlt]
  simp [hlt]
noncomputable def laidWorld (os:Os):World :=
  { World.holding Tryz.prog os ⟨#[],#[],[]⟩ with heap:=(World.holding Tryz.prog os ⟨#[],#[],[]⟩).heap.modify 0 fun
      | .cells _ t frozen=>.cells ⟨tabV⟩ t frozen
      | o=>o }
end Go.Proofs.YtndaepmjkbmjmaaGreatDoor
