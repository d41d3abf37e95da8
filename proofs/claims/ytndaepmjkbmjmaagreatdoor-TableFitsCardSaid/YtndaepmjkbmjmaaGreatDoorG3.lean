/- Texts of this claim, one behind the other. -/
import Derived.Test.YtndaepmjkbmjmaaGreatDoorG1
import Derived.Test.YtndaepmjkbmjmaaGreatDoorG2
import Derived.Shelf.Slices.In.SortNone
import Derived.Maps.RangeRun
import Derived.Laws.IdiomStrings
import Derived.Laws.StructEq
set_option linter.unusedVariables false
namespace Go.Proofs.YtndaepmjkbmjmaaGreatDoor
open Go.V
abbrev n_lr0_Build:FuncId:=26
def ann_lr0_Build:Ann:={ rngs:=[],loops:=[(7,[(6,(.one (.int .i64)))]),(12,[(8,(.one .slice))]),(18,[(10,(.one .slice)),(61,(.one (.int .i64)))])],joins:=[],blocks:=[] }
set_option maxRecDepth 100000 in
def vc_lr0_Build (a:Option Addr) (b c:Nat) (d:Option Addr) (e f:Nat) (g:Option Addr) (i j:Nat) (k:Int) (l:Option Addr) (m n:Nat) (w:World) (R:Value→WP):Prop :=  new w (oC [vS a b c,vS d e f,vS g i j,iI k,vS l m n] 27) fun k1 w1=>new w1 (oC [vS none 0 0,iI 0,iI 0] 45) fun k2 w2=>∃ o1 k3 k4 o2 k5 k6 o3 k7 k8 n1 o4 k9 k10,V.rowAt w2 (aM k1) 0 5 = some [vS o1 k3 k4,vS o2 k5 k6,vS o3 k7 k8,iI n1,vS o4 k9 k10]∧RunE Proofs.Tryz.prog Ev 49 [vA (Array.mk [vS o1 k3 k4,vS o2 k5 k6,vS o3 k7 k8,iI n1,vS o4 k9 k10])] w2 fun v1 w3=>∃ b1,v1 = vB b1∧br (!b1) (stR w3 (aM k2) [vS none 0 0,iI 0,iI 0] fun w4=>∃ o5 k11 k12 n2 n3,V.rowAt w4 (aM k2) 0 3 = some [vS o5 k11 k12,iI n2,iI n3]∧R (vT (Array.mk [vA (Array.mk [vS o5 k11 k12,iI n2,iI n3]),iI 1])) w4) (∃ o6 k13 k14 o7 k15 k16 o8 k17 k18 n4 o9 k19 k20,V.rowAt w3 (aM k1) 0 5 = some [vS o6 k13 k14,vS o7 k15 k16,vS o8 k17 k18,iI n4,vS o9 k19 k20]∧RunE Proofs.Tryz.prog Ev 50 [vA (Array.mk [vS o6 k13 k14,vS o7 k15 k16,vS o8 k17 k18,iI n4,vS o9 k19 k20])] w3 fun v2 w5=>∃ o10,v2 = vP o10∧new w5 (Obj.map (Array.mk []) 0) fun k21 w6=>new w6 (oC [vS none 0 0,iI 0,iI 0,Value.map (some k21)] 101) fun k22 w7=>new w7 (oC [iI 0,iI 0] 104) fun k23 w8=>RunE Proofs.Tryz.prog Ev 51 [vP (some (aM k22)),vS (some (aM k23)) 1 1] w8 fun v3 w9=>∃ n5,v3 = iI n5∧∃ (x1:lP [(6,shI)]),∃ (x2:lN [(6,shI)]),x1 0 w9∧∀ (I1:Nat→Value) (n6:Int) (w10:World),x1 n6 w10→∃ o11 k24 k25,World.cell? w10 (aM k22) = some (vS o11 k24 k25)∧br (decide (n6 < (↑k24:Int))) (∃ o12 k26 k27,World.cell? w10 (aM k22) = some (vS o12 k26 k27)∧idx o12 k26 n6 2 fun a1=>∃ o13 k28 k29,World.cell? w10 a1 = some (vS o13 k28 k29)∧RunE Proofs.Tryz.prog Ev 52 [vP o10,vS o13 k28 k29] w10 fun v4 w11=>∃ o14,v4 = Value.map o14∧RunS Proofs.Tryz.prog (Instr.range 105 (Value.map o14)) w11 fun v5 w12=>∃ o15,v5 = vP o15∧∃ (x3:lP [(8,shS)]),∃ (x4:lN [(8,shS)]),x3 none 0 0 w12∧∀ (I2:Nat→Value) (o16:Option Addr) (k30 k31:Nat) (w13:World),x3 o16 k30 k31 w13→RunS Proofs.Tryz.prog (Instr.next (vP o15) false 0) w13 fun v6 w14=>(v6 = vT (Array.mk [vB false])∧RunE Proofs.Tryz.prog Ev 53 [vS o16 k30 k31] w14 fun v7 w15=>v7 = vT (Array.mk [])∧∃ (x5:lP [(10,shS),(61,shI)]),∃ (x6:lN [(10,shS),(61,shI)]),x5 none 0 0 0 w15∧∀ (I3:Nat→Value) (o17:Option Addr) (k32 k33:Nat) (n7:Int) (w16:World),x5 o17 k32 k33 n7 w16→br (decide (n7 < (↑k30:Int))) (idx o16 k30 n7 1 fun a2=>∃ n8,World.cell? w16 a2 = some (iI n8)∧RunS Proofs.Tryz.prog (Instr.lookup 105 (Value.map o14) (iI n8) false) w16 fun v8 w17=>∃ o18 k34 k35,v8 = vS o18 k34 k35∧RunE Proofs.Tryz.prog Ev 54 [vS o18 k34 k35] w17 fun v9 w18=>∃ o19 k36 k37,v9 = vS o19 k36 k37∧RunE Proofs.Tryz.prog Ev 51 [vP (some (aM k22)),vS o19 k36 k37] w18 fun v10 w19=>∃ n9,v10 = iI n9∧new w19 (oC [iI n8,iI n9] 56) fun k38 w20=>RunS Proofs.Tryz.prog (apB 52 (Array.mk [vS o17 k32 k33,vS (some (aM k38)) 1 1])) w20 fun v11 w21=>∃ o20 k39 k40,v11 = vS o20 k39 k40∧∃ o21 k41 k42,World.cell? w21 (aM k22) = some (vS o21 k41 k42)∧br (decide (256 < (↑k41:Int))) (stR w21 (aM k2) [vS none 0 0,iI 0,iI 0] fun w22=>∃ o22 k43 k44 n10 n11,V.rowAt w22 (aM k2) 0 3 = some [vS o22 k43 k44,iI n10,iI n11]∧R (vT (Array.mk [vA (Array.mk [vS o22 k43 k44,iI n10,iI n11]),iI 11])) w22) (inI (n7 + 1)∧x5 o20 k39 k40 (n7 + 1) w21∧x6 o20 k39 k40 (n7 + 1) w21 < x6 o17 k32 k33 n7 w16)) (∀ w23,drawn w16 w23→∃ (I4:World→Prop),I4 w23∧∃ o23 k45 k46,(∀ w24,I4 w24→World.cell? w24 (aM k22) = some (vS o23 k45 k46))∧RunE Proofs.Tryz.prog Ev 55 [vS o17 k32 k33] w23 fun v12 w25=>∃ o24 k47 k48,v12 = vS o24 k47 k48∧I4 w25∧idx o23 k45 n6 2 fun a3=>st1 w25 (Addr.add a3 1) (vS o24 k47 k48) fun w26=>inI (n6 + 1)∧x1 (n6 + 1) w26∧x2 (n6 + 1) w26 < x2 n6 w10))∨∃ n12 v13,v6 = vT (Array.mk [vB true,iI n12,v13])∧RunS Proofs.Tryz.prog (Instr.entry (vP o15)) w14 fun v14 w27=>∃ n13 v15,v14 = vT (Array.mk [iI n13,v15])∧new w27 (oC [iI n13] 3) fun k49 w28=>RunS Proofs.Tryz.prog (apB 24 (Array.mk [vS o16 k30 k31,vS (some (aM k49)) 1 1])) w28 fun v16 w29=>∃ o25 k50 k51,v16 = vS o25 k50 k51∧x3 o25 k50 k51 w29∧x4 o25 k50 k51 w29 < x4 o16 k30 k31 w13) (∃ o26 k52 k53,World.cell? w10 (aM k22) = some (vS o26 k52 k53)∧RunE Proofs.Tryz.prog Ev 56 [vS o26 k52 k53] w10 fun v17 w30=>∃ o27 k54 k55,v17 = vS o27 k54 k55∧st1 w30 (aM k22) (vS o27 k54 k55) fun w31=>∃ o28 k56 k57 n14 n15,V.rowAt w31 (aM k22) 0 3 = some [vS o28 k56 k57,iI n14,iI n15]∧stR w31 (aM k2) [vS o28 k56 k57,iI n14,iI n15] fun w32=>∃ o29 k58 k59 n16 n17,V.rowAt w32 (aM k2) 0 3 = some [vS o29 k58 k59,iI n16,iI n17]∧R (vT (Array.mk [vA (Array.mk [vS o29 k58 k59,iI n16,iI n17]),iI 0])) w32))
set_option maxRecDepth 100000 in
theorem run_lr0_Build (a:Option Addr) (b c:Nat) (d:Option Addr) (e f:Nat) (g:Option Addr) (i j:Nat) (k:Int) (l:Option Addr) (m n:Nat) (w:World) (R:Value→WP) (h:vc_lr0_Build a b c d e f g i j k l m n w R):Run Tryz.prog 26 [(.agg #[(.slice a b c),(.slice d e f),(.slice g i j),(.int .i64 k),(.slice l m n)])] w R:=rv Tryz.func26 ann_lr0_Build (by kernel_rfl) h

abbrev n_lr0_of:FuncId:=50
def ann_lr0_of:Ann:={ rngs:=[],loops:=[(3,[(13,(.one (.int .i64)))])],joins:=[],blocks:=[] }
set_option maxRecDepth 100000 in
def vc_lr0_of (a:Option Addr) (b c:Nat) (d:Option Addr) (e f:Nat) (g:Option Addr) (i j:Nat) (k:Int) (l:Option Addr) (m n:Nat) (w:World) (R:Value→WP):Prop :=  new w (oC [vS a b c,vS d e f,vS g i j,iI k,vS l m n] 27) fun k1 w1=>∃ o1 k2 k3 o2 k4 k5 o3 k6 k7 n1 o4 k8 k9,V.rowAt w1 (aM k1) 0 5 = some [vS o1 k2 k3,vS o2 k4 k5,vS o3 k6 k7,iI n1,vS o4 k8 k9]∧new w1 (Obj.map (Array.mk []) 0) fun k10 w2=>new w2 (oC [vS o1 k2 k3,vS o2 k4 k5,vS o3 k6 k7,iI n1,vS o4 k8 k9,Value.map (some k10)] 162) fun k11 w3=>∃ o5 k12 k13,World.cell? w3 (Addr.add (aM k1) 4) = some (vS o5 k12 k13)∧∃ (x1:lP [(13,shI)]),∃ (x2:lN [(13,shI)]),x1 0 w3∧∀ (I1:Nat→Value) (n2:Int) (w4:World),x1 n2 w4→br (decide (n2 < (↑k12:Int))) (idx o5 k12 n2 3 fun a1=>∃ n3 o6 k14 k15 n4,V.rowAt w4 a1 0 3 = some [iI n3,vS o6 k14 k15,iI n4]∧new w4 (oC [iI 0,vS none 0 0,iI 0] 81) fun k16 w5=>stR w5 (aM k16) [iI n3,vS o6 k14 k15,iI n4] fun w6=>∀ w7,drawn w6 w7→∃ (I2:World→Prop),I2 w7∧∃ o7,(∀ w8,I2 w8→World.cell? w8 (Addr.add (aM k11) 5) = some (Value.map o7))∧∃ n5,(∀ w9,I2 w9→World.cell? w9 (aM k16) = some (iI n5))∧∃ o8,(∀ w10,I2 w10→World.cell? w10 (Addr.add (aM k11) 5) = some (Value.map o8))∧∃ n6,(∀ w11,I2 w11→World.cell? w11 (aM k16) = some (iI n6))∧(RunS Proofs.Tryz.prog (Instr.lookup 160 (Value.map o8) (iI n6) false) w7 fun v1 w12=>∃ o9 k17 k18,v1 = vS o9 k17 k18∧I2 w12∧new w12 (oC [iI n2] 3) fun k19 w13=>I2 w13∧RunS Proofs.Tryz.prog (apB 24 (Array.mk [vS o9 k17 k18,vS (some (aM k19)) 1 1])) w13 fun v2 w14=>∃ o10 k20 k21,v2 = vS o10 k20 k21∧I2 w14∧RunS Proofs.Tryz.prog (Instr.mapUpdate 160 (Value.map o7) (iI n5) (vS o10 k20 k21)) w14 fun (x3:Unit) (w15:World)=>inI (n2 + 1)∧x1 (n2 + 1) w15∧x2 (n2 + 1) w15 < x2 n2 w4)∧new w7 (oC [iI n2] 3) fun k22 w16=>I2 w16∧RunS Proofs.Tryz.prog (Instr.lookup 160 (Value.map o8) (iI n6) false) w16 fun v3 w17=>∃ o11 k23 k24,v3 = vS o11 k23 k24∧I2 w17∧RunS Proofs.Tryz.prog (apB 24 (Array.mk [vS o11 k23 k24,vS (some (aM k22)) 1 1])) w17 fun v4 w18=>∃ o12 k25 k26,v4 = vS o12 k25 k26∧I2 w18∧RunS Proofs.Tryz.prog (Instr.mapUpdate 160 (Value.map o7) (iI n5) (vS o12 k25 k26)) w18 fun (x4:Unit) (w19:World)=>inI (n2 + 1)∧x1 (n2 + 1) w19∧x2 (n2 + 1) w19 < x2 n2 w4) (R (vP (some (aM k11))) w4)
set_option maxRecDepth 100000 in
theorem run_lr0_of (a:Option Addr) (b c:Nat) (d:Option Addr) (e f:Nat) (g:Option Addr) (i j:Nat) (k:Int) (l:Option Addr) (m n:Nat) (w:World) (R:Value→WP) (h:vc_lr0_of a b c d e f g i j k l m n w R):Run Tryz.prog 50 [(.agg #[(.slice a b c),(.slice d e f),(.slice g i j),(.int .i64 k),(.slice l m n)])] w R:=rv Tryz.func50 ann_lr0_of (by kernel_rfl) h

abbrev n_lr0_table_intern:FuncId:=51
def ann_lr0_table_intern:Ann:={ rngs:=[],loops:=[],joins:=[(5,[])],blocks:=[] }
set_option maxRecDepth 100000 in
def vc_lr0_table_intern (a b:Option Addr) (c d:Nat) (w:World) (R:Value→WP):Prop :=  nn a fun a1=>∃ n1,World.cell? w (Addr.add a1 1) = some (iI n1)∧inI (n1 + 1)∧nn a fun a2=>st1 w (Addr.add a2 1) (iI (n1 + 1)) fun w1=>RunE Proofs.Tryz.prog Ev 91 [vS b c d] w1 fun v1 w2=>∃ s1,v1 = Value.string s1∧∃ (x1:lP []),(∀ w3,drawn w2 w3→∃ (I1:World→Prop),I1 w3∧nn a fun a3=>∃ o1,(∀ w4,I1 w4→World.cell? w4 (Addr.add a3 3) = some (Value.map o1))∧RunS Proofs.Tryz.prog (Instr.lookup 99 (Value.map o1) (Value.string s1) false) w3 fun v2 w5=>∃ n2,v2 = iI n2∧∃ (I2:World→Prop),I2 w5∧(∀ w6,I2 w6→I1 w6)∧br (decide (0 < n2)) (nn a fun a4=>∃ o2 k1 k2,(∀ w7,I2 w7→World.cell? w7 a4 = some (vS o2 k1 k2))∧nn a fun a5=>∃ o3,(∀ w8,I2 w8→World.cell? w8 (Addr.add a5 3) = some (Value.map o3))∧idx b c 0 2 fun a6=>∃ n3 n4,(∀ w9,I2 w9→V.rowAt w9 a6 0 2 = some [iI n3,iI n4])∧RunS Proofs.Tryz.prog (Instr.lookup 99 (Value.map o3) (Value.string s1) false) w5 fun v3 w10=>∃ n5,v3 = iI n5∧∃ (I3:World→Prop),I3 w10∧(∀ w11,I3 w11→I2 w11)∧inI (n5 - 1)∧idx o2 k1 (n5 - 1) 2 fun a7=>∃ o4 k3 k4,(∀ w12,I3 w12→World.cell? w12 a7 = some (vS o4 k3 k4))∧idx o4 k3 0 2 fun a8=>∃ n6 n7,(∀ w13,I3 w13→V.rowAt w13 a8 0 2 = some [iI n6,iI n7])∧∃ v4,(∀ w14,I3 w14→Sem.run Proofs.Tryz.prog (cmpS BinOp.eql 104 (Operand.tmp 41) (Operand.tmp 44) (vG [iI n6,iI n7]) (vG [iI n3,iI n4])) w14 = Result.ok v4 w14)∧∃ b1,v4 = vB b1∧br b1 (nn a fun a9=>∃ o5,World.cell? w10 (Addr.add a9 3) = some (Value.map o5)∧RunS Proofs.Tryz.prog (Instr.lookup 99 (Value.map o5) (Value.string s1) false) w10 fun v5 w15=>∃ n8,v5 = iI n8∧inI (n8 - 1)∧R (iI (n8 - 1)) w15) (x1 w10)) (x1 w5))∧∀ (I4:Nat→Value) (w16:World),x1 w16→nn a fun a10=>∃ n9,World.cell? w16 (Addr.add a10 2) = some (iI n9)∧inI (n9 + 1)∧nn a fun a11=>st1 w16 (Addr.add a11 2) (iI (n9 + 1)) fun w17=>nn a fun a12=>∃ o6 k5 k6,World.cell? w17 a12 = some (vS o6 k5 k6)∧new w17 (oC [vS b c d,vS none 0 0] 54) fun k7 w18=>RunS Proofs.Tryz.prog (apB 43 (Array.mk [vS o6 k5 k6,vS (some (aM k7)) 1 1])) w18 fun v6 w19=>∃ o7 k8 k9,v6 = vS o7 k8 k9∧nn a fun a13=>st1 w19 a13 (vS o7 k8 k9) fun w20=>∀ w21,drawn w20 w21→∃ (I5:World→Prop),I5 w21∧nn a fun a14=>∃ o8,(∀ w22,I5 w22→World.cell? w22 (Addr.add a14 3) = some (Value.map o8))∧nn a fun a15=>∃ o9 k10 k11,(∀ w23,I5 w23→World.cell? w23 a15 = some (vS o9 k10 k11))∧RunS Proofs.Tryz.prog (Instr.mapUpdate 99 (Value.map o8) (Value.string s1) (iI (↑k10:Int))) w21 fun (x2:Unit) (w24:World)=>nn a fun a16=>∃ o10,World.cell? w24 (Addr.add a16 3) = some (Value.map o10)∧RunS Proofs.Tryz.prog (Instr.lookup 99 (Value.map o10) (Value.string s1) false) w24 fun v7 w25=>∃ n10,v7 = iI n10∧inI (n10 - 1)∧R (iI (n10 - 1)) w25
set_option maxRecDepth 100000 in
theorem run_lr0_table_intern (a b:Option Addr) (c d:Nat) (w:World) (R:Value→WP) (h:vc_lr0_table_intern a b c d w R):Run Tryz.prog 51 [(.pointer a),(.slice b c d)] w R:=rv Tryz.func51 ann_lr0_table_intern (by kernel_rfl) h

abbrev n_lr0_maker_kernels:FuncId:=52
def ann_lr0_maker_kernels:Ann:={ rngs:=[],loops:=[(3,[(14,(.one (.int .i64)))])],joins:=[],blocks:=[] }
set_option maxRecDepth 100000 in
def vc_lr0_maker_kernels (a b:Option Addr) (c d:Nat) (w:World) (R:Value→WP):Prop :=  new w (Obj.map (Array.mk []) 0) fun k1 w1=>RunE Proofs.Tryz.prog Ev 92 [vP a,vS b c d] w1 fun v1 w2=>∃ o1 k2 k3,v1 = vS o1 k2 k3∧∃ (x1:lP [(14,shI)]),∃ (x2:lN [(14,shI)]),x1 0 w2∧∀ (I1:Nat→Value) (n1:Int) (w3:World),x1 n1 w3→br (decide (n1 < (↑k2:Int))) (idx o1 k2 n1 2 fun a1=>∃ n2 n3,V.rowAt w3 a1 0 2 = some [iI n2,iI n3]∧new w3 (oC [iI 0,iI 0] 104) fun k4 w4=>stR w4 (aM k4) [iI n2,iI n3] fun w5=>∃ n4 n5,V.rowAt w5 (aM k4) 0 2 = some [iI n4,iI n5]∧RunE Proofs.Tryz.prog Ev 93 [vP a,vA (Array.mk [iI n4,iI n5])] w5 fun v2 w6=>∃ n6,v2 = iI n6∧br (decide (0≤n6)) (RunS Proofs.Tryz.prog (Instr.lookup 105 (Value.map (some k1)) (iI n6) false) w6 fun v3 w7=>∃ o2 k5 k6,v3 = vS o2 k5 k6∧∃ n7,World.cell? w7 (aM k4) = some (iI n7)∧∃ n8,World.cell? w7 (Addr.add (aM k4) 1) = some (iI n8)∧inI (n8 + 1)∧new w7 (oC [iI n7,iI (n8 + 1)] 104) fun k7 w8=>RunS Proofs.Tryz.prog (apB 51 (Array.mk [vS o2 k5 k6,vS (some (aM k7)) 1 1])) w8 fun v4 w9=>∃ o3 k8 k9,v4 = vS o3 k8 k9∧RunS Proofs.Tryz.prog (Instr.mapUpdate 105 (Value.map (some k1)) (iI n6) (vS o3 k8 k9)) w9 fun (x3:Unit) (w10:World)=>inI (n1 + 1)∧x1 (n1 + 1) w10∧x2 (n1 + 1) w10 < x2 n1 w3) (inI (n1 + 1)∧x1 (n1 + 1) w6∧x2 (n1 + 1) w6 < x2 n1 w3)) (R (Value.map (some k1)) w3)
set_option maxRecDepth 100000 in
theorem run_lr0_maker_kernels (a b:Option Addr) (c d:Nat) (w:World) (R:Value→WP) (h:vc_lr0_maker_kernels a b c d w R):Run Tryz.prog 52 [(.pointer a),(.slice b c d)] w R:=rv Tryz.func52 ann_lr0_maker_kernels (by kernel_rfl) h

abbrev n_lr0_laid:FuncId:=54
def ann_lr0_laid:Ann:={ rngs:=[],loops:=[],joins:=[],blocks:=[] }
set_option maxRecDepth 100000 in
def vc_lr0_laid (a:Option Addr) (b c:Nat) (w:World) (R:Value→WP):Prop :=  RunE Proofs.Tryz.prog Ev 96 [vS a b c,Value.func (Fn.func 97) (Array.mk []) (Array.mk [])] w fun v1 w1=>v1 = vT (Array.mk [])∧RunE Proofs.Tryz.prog Ev 101 [vS a b c] w1 fun v2 w2=>∃ o1 k1 k2,v2 = vS o1 k1 k2∧RunE Proofs.Tryz.prog Ev 100 [vS o1 k1 k2] w2 fun v3 w3=>∃ o2 k3 k4,v3 = vS o2 k3 k4∧R (vS o2 k3 k4) w3
set_option maxRecDepth 100000 in
theorem run_lr0_laid (a:Option Addr) (b c:Nat) (w:World) (R:Value→WP) (h:vc_lr0_laid a b c w R):Run Tryz.prog 54 [(.slice a b c)] w R:=rv Tryz.func54 ann_lr0_laid (by kernel_rfl) h

def ann_slices_Clip_api_Edge_api_Edge_:Ann:={ rngs:=[],loops:=[],joins:=[],blocks:=[] }
set_option maxRecDepth 100000 in
def vc_slices_Clip_api_Edge_api_Edge_ (a:Option Addr) (b c:Nat) (w:World) (R:Value→WP):Prop :=  slc a b c none (some (↑b:Int)) (some (↑b:Int)) 2 fun (o1:Option Addr) (k1 k2:Nat)=>R (vS o1 k1 k2) w
set_option maxRecDepth 100000 in
theorem run_slices_Clip_api_Edge_api_Edge_ (a:Option Addr) (b c:Nat) (w:World) (R:Value→WP) (h:vc_slices_Clip_api_Edge_api_Edge_ a b c w R):Run Tryz.prog 55 [(.slice a b c)] w R:=rv Tryz.func55 ann_slices_Clip_api_Edge_api_Edge_ (by kernel_rfl) h

def ann_slices_Clip_api_State_api_State_:Ann:={ rngs:=[],loops:=[],joins:=[],blocks:=[] }
set_option maxRecDepth 100000 in
def vc_slices_Clip_api_State_api_State_ (a:Option Addr) (b c:Nat) (w:World) (R:Value→WP):Prop :=  slc a b c none (some (↑b:Int)) (some (↑b:Int)) 2 fun (o1:Option Addr) (k1 k2:Nat)=>R (vS o1 k1 k2) w
set_option maxRecDepth 100000 in
theorem run_slices_Clip_api_State_api_State_ (a:Option Addr) (b c:Nat) (w:World) (R:Value→WP) (h:vc_slices_Clip_api_State_api_State_ a b c w R):Run Tryz.prog 56 [(.slice a b c)] w R:=rv Tryz.func56 ann_slices_Clip_api_State_api_State_ (by kernel_rfl) h

abbrev n_lr0_key:FuncId:=91
def ann_lr0_key:Ann:={ rngs:=[],loops:=[(3,[(3,(.one .slice)),(8,(.one (.int .i64)))])],joins:=[],blocks:=[] }
set_option maxRecDepth 100000 in
def vc_lr0_key (a:Option Addr) (b c:Nat) (w:World) (R:Value→WP):Prop :=  ∃ (x1:lP [(3,shS),(8,shI)]),∃ (x2:lN [(3,shS),(8,shI)]),x1 none 0 0 0 w∧∀ (I1:Nat→Value) (o1:Option Addr) (k1 k2:Nat) (n1:Int) (w1:World),x1 o1 k1 k2 n1 w1→br (decide (n1 < (↑b:Int))) (idx a b n1 2 fun a1=>∃ n2 n3,V.rowAt w1 a1 0 2 = some [iI n2,iI n3]∧new w1 (oC [iI 0,iI 0] 104) fun k3 w2=>stR w2 (aM k3) [iI n2,iI n3] fun w3=>∃ n4,World.cell? w3 (aM k3) = some (iI n4)∧∃ n5,World.cell? w3 (Addr.add (aM k3) 1) = some (iI n5)∧∃ n6,World.cell? w3 (Addr.add (aM k3) 1) = some (iI n6)∧ns 8∧new w3 (oC [Value.int IntKind.u8 (IntKind.wrap IntKind.u8 n4),Value.int IntKind.u8 (IntKind.wrap IntKind.u8 n5),Value.int IntKind.u8 (IntKind.wrap IntKind.u8 (shrI IntKind.i64 n6 8))] 5) fun k4 w4=>RunS Proofs.Tryz.prog (apB 201 (Array.mk [vS o1 k1 k2,vS (some (aM k4)) 3 3])) w4 fun v1 w5=>∃ o2 k5 k6,v1 = vS o2 k5 k6∧inI (n1 + 1)∧x1 o2 k5 k6 (n1 + 1) w5∧x2 o2 k5 k6 (n1 + 1) w5 < x2 o1 k1 k2 n1 w1) (RunS Proofs.Tryz.prog (convert 201 9 (vS o1 k1 k2)) w1 fun v2 w6=>∃ s1,v2 = Value.string s1∧R (Value.string s1) w6)
set_option maxRecDepth 100000 in
theorem run_lr0_key (a:Option Addr) (b c:Nat) (w:World) (R:Value→WP) (h:vc_lr0_key a b c w R):Run Tryz.prog 91 [(.slice a b c)] w R:=rv Tryz.func91 ann_lr0_key (by kernel_rfl) h

abbrev n_lr0_maker_closure:FuncId:=92
def ann_lr0_maker_closure:Ann:={ rngs:=[],loops:=[(4,[(5,(.one .slice)),(7,(.one (.int .i64)))]),(10,[(5,(.one .slice)),(45,(.one (.int .i64)))])],joins:=[],blocks:=[] }
set_option maxRecDepth 100000 in
def vc_lr0_maker_closure (a b:Option Addr) (c d:Nat) (w:World) (R:Value→WP):Prop :=  RunE Proofs.Tryz.prog Ev 144 [vS b c d] w fun v1 w1=>∃ o1 k1 k2,v1 = vS o1 k1 k2∧new w1 (Obj.map (Array.mk []) 0) fun k3 w2=>∃ (x1:lP [(5,shS),(7,shI)]),∃ (x2:lN [(5,shS),(7,shI)]),x1 o1 k1 k2 0 w2∧∀ (I1:Nat→Value) (o2:Option Addr) (k4 k5:Nat) (n1:Int) (w3:World),x1 o2 k4 k5 n1 w3→br (decide (n1 < (↑k4:Int))) (idx o2 k4 n1 2 fun a1=>∃ n2 n3,V.rowAt w3 a1 0 2 = some [iI n2,iI n3]∧RunE Proofs.Tryz.prog Ev 93 [vP a,vA (Array.mk [iI n2,iI n3])] w3 fun v2 w4=>∃ n4,v2 = iI n4∧br (decide (n4 < 0)) (inI (n1 + 1)∧x1 o2 k4 k5 (n1 + 1) w4∧x2 o2 k4 k5 (n1 + 1) w4 < x2 o2 k4 k5 n1 w3) (RunS Proofs.Tryz.prog (Instr.lookup 226 (Value.map (some k3)) (iI n4) false) w4 fun v3 w5=>∃ n5,v3 = iI n5∧br (decide (0 < n5)) (inI (n1 + 1)∧x1 o2 k4 k5 (n1 + 1) w5∧x2 o2 k4 k5 (n1 + 1) w5 < x2 o2 k4 k5 n1 w3) (RunS Proofs.Tryz.prog (Instr.lookup 226 (Value.map (some k3)) (iI n4) false) w5 fun v4 w6=>∃ n6,v4 = iI n6∧inI (n6 + 1)∧RunS Proofs.Tryz.prog (Instr.mapUpdate 226 (Value.map (some k3)) (iI n4) (iI (n6 + 1))) w6 fun (x3:Unit) (w7:World)=>nn a fun a2=>∃ o3,World.cell? w7 (Addr.add a2 5) = some (Value.map o3)∧RunS Proofs.Tryz.prog (Instr.lookup 160 (Value.map o3) (iI n4) false) w7 fun v5 w8=>∃ o4 k6 k7,v5 = vS o4 k6 k7∧∃ (x4:lP [(5,shS),(45,shI)]),∃ (x5:lN [(5,shS),(45,shI)]),x4 o2 k4 k5 0 w8∧∀ (I2:Nat→Value) (o5:Option Addr) (k8 k9:Nat) (n7:Int) (w9:World),x4 o5 k8 k9 n7 w9→br (decide (n7 < (↑k6:Int))) (idx o4 k6 n7 1 fun a3=>∃ n8,World.cell? w9 a3 = some (iI n8)∧new w9 (oC [iI n8,iI 0] 104) fun k10 w10=>RunS Proofs.Tryz.prog (apB 51 (Array.mk [vS o5 k8 k9,vS (some (aM k10)) 1 1])) w10 fun v6 w11=>∃ o6 k11 k12,v6 = vS o6 k11 k12∧inI (n7 + 1)∧x4 o6 k11 k12 (n7 + 1) w11∧x5 o6 k11 k12 (n7 + 1) w11 < x5 o5 k8 k9 n7 w9) (inI (n1 + 1)∧x1 o5 k8 k9 (n1 + 1) w9∧x2 o5 k8 k9 (n1 + 1) w9 < x2 o2 k4 k5 n1 w3)))) (RunE Proofs.Tryz.prog Ev 54 [vS o2 k4 k5] w3 fun v7 w12=>∃ o7 k13 k14,v7 = vS o7 k13 k14∧R (vS o7 k13 k14) w12)
set_option maxRecDepth 100000 in
theorem run_lr0_maker_closure (a b:Option Addr) (c d:Nat) (w:World) (R:Value→WP) (h:vc_lr0_maker_closure a b c d w R):Run Tryz.prog 92 [(.pointer a),(.slice b c d)] w R:=rv Tryz.func92 ann_lr0_maker_closure (by kernel_rfl) h

abbrev n_lr0_maker_behind:FuncId:=93
def ann_lr0_maker_behind:Ann:={ rngs:=[],loops:=[],joins:=[],blocks:=[] }
set_option maxRecDepth 100000 in
def vc_lr0_maker_behind (a:Option Addr) (b c:Int) (w:World) (R:Value→WP):Prop :=  new w (oC [iI b,iI c] 104) fun k1 w1=>∀ w2,drawn w1 w2→∃ (I1:World→Prop),I1 w2∧nn a fun a1=>∃ o1 k2 k3,(∀ w3,I1 w3→World.cell? w3 (Addr.add a1 4) = some (vS o1 k2 k3))∧∃ n1,(∀ w4,I1 w4→World.cell? w4 (aM k1) = some (iI n1))∧idx o1 k2 n1 3 fun a2=>∃ o2 k4 k5,(∀ w5,I1 w5→World.cell? w5 (Addr.add a2 1) = some (vS o2 k4 k5))∧∃ n2,World.cell? w2 (Addr.add (aM k1) 1) = some (iI n2)∧br (n2 == (↑k4:Int)) (R (iI (-1)) w2) (∃ n3,World.cell? w2 (Addr.add (aM k1) 1) = some (iI n3)∧idx o2 k4 n3 1 fun a3=>∃ n4,World.cell? w2 a3 = some (iI n4)∧R (iI n4) w2)
set_option maxRecDepth 100000 in
theorem run_lr0_maker_behind (a:Option Addr) (b c:Int) (w:World) (R:Value→WP) (h:vc_lr0_maker_behind a b c w R):Run Tryz.prog 93 [(.pointer a),(.agg #[(.int .i64 b),(.int .i64 c)])] w R:=rv Tryz.func93 ann_lr0_maker_behind (by kernel_rfl) h

def ann_lr0_laid_S1:Ann:={ rngs:=[],loops:=[],joins:=[],blocks:=[] }
set_option maxRecDepth 100000 in
def vc_lr0_laid_S1 (a b c d:Int) (w:World) (R:Value→WP):Prop :=  new w (oC [iI a,iI b] 104) fun k1 w1=>new w1 (oC [iI c,iI d] 104) fun k2 w2=>∀ w3,drawn w2 w3→∃ (I1:World→Prop),I1 w3∧∃ n1,(∀ w4,I1 w4→World.cell? w4 (aM k1) = some (iI n1))∧∃ n2,(∀ w5,I1 w5→World.cell? w5 (aM k2) = some (iI n2))∧∃ n3,(∀ w6,I1 w6→World.cell? w6 (Addr.add (aM k1) 1) = some (iI n3))∧∃ n4,(∀ w7,I1 w7→World.cell? w7 (Addr.add (aM k2) 1) = some (iI n4))∧RunE Proofs.Tryz.prog Ev 99 [iI n1,iI n2] w3 fun v1 w8=>∃ n5,v1 = iI n5∧I1 w8∧RunE Proofs.Tryz.prog Ev 99 [iI n3,iI n4] w8 fun v2 w9=>∃ n6,v2 = iI n6∧I1 w9∧new w9 (oC [iI n5,iI n6] 3) fun k3 w10=>I1 w10∧RunE Proofs.Tryz.prog Ev 98 [vS (some (aM k3)) 2 2] w10 fun v3 w11=>∃ n7,v3 = iI n7∧I1 w11∧R (iI n7) w11
set_option maxRecDepth 100000 in
theorem run_lr0_laid_S1 (a b c d:Int) (w:World) (R:Value→WP) (h:vc_lr0_laid_S1 a b c d w R):Run Tryz.prog 97 [(.agg #[(.int .i64 a),(.int .i64 b)]),(.agg #[(.int .i64 c),(.int .i64 d)])] w R:=rv Tryz.func97 ann_lr0_laid_S1 (by kernel_rfl) h

def ann_cmp_Or_int_:Ann:={ rngs:=[],loops:=[(3,[(8,(.one (.int .i64)))])],joins:=[],blocks:=[] }
set_option maxRecDepth 100000 in
def vc_cmp_Or_int_ (a:Option Addr) (b c:Nat) (w:World) (R:Value→WP):Prop :=  ∃ (x1:lP [(8,shI)]),∃ (x2:lN [(8,shI)]),x1 0 w∧∀ (I1:Nat→Value) (n1:Int) (w1:World),x1 n1 w1→br (decide (n1 < (↑b:Int))) (idx a b n1 1 fun a1=>∃ n2,World.cell? w1 a1 = some (iI n2)∧br (n2 != 0) (R (iI n2) w1) (inI (n1 + 1)∧x1 (n1 + 1) w1∧x2 (n1 + 1) w1 < x2 n1 w1)) (R (iI 0) w1)
set_option maxRecDepth 100000 in
theorem run_cmp_Or_int_ (a:Option Addr) (b c:Nat) (w:World) (R:Value→WP) (h:vc_cmp_Or_int_ a b c w R):Run Tryz.prog 98 [(.slice a b c)] w R:=rv Tryz.func98 ann_cmp_Or_int_ (by kernel_rfl) h

def ann_cmp_Compare_int_:Ann:={ rngs:=[],loops:=[],joins:=[],blocks:=[] }
set_option maxRecDepth 100000 in
def vc_cmp_Compare_int_ (a b:Int) (w:World) (R:Value→WP):Prop :=  RunE Proofs.Tryz.prog Ev 157 [iI a] w fun v1 w1=>∃ b1,v1 = vB b1∧RunE Proofs.Tryz.prog Ev 157 [iI b] w1 fun v2 w2=>∃ b2,v2 = vB b2∧br b1 (br b2 (R (iI 0) w2) (R (iI (-1)) w2)) (br b2 (R (iI 1) w2) (br (decide (a < b)) (R (iI (-1)) w2) (br (decide (b < a)) (R (iI 1) w2) (R (iI 0) w2))))
set_option maxRecDepth 100000 in
theorem run_cmp_Compare_int_ (a b:Int) (w:World) (R:Value→WP) (h:vc_cmp_Compare_int_ a b w R):Run Tryz.prog 99 [(.int .i64 a),(.int .i64 b)] w R:=rv Tryz.func99 ann_cmp_Compare_int_ (by kernel_rfl) h

def ann_slices_Clip_api_Item_api_Item_:Ann:={ rngs:=[],loops:=[],joins:=[],blocks:=[] }
set_option maxRecDepth 100000 in
def vc_slices_Clip_api_Item_api_Item_ (a:Option Addr) (b c:Nat) (w:World) (R:Value→WP):Prop :=  slc a b c none (some (↑b:Int)) (some (↑b:Int)) 2 fun (o1:Option Addr) (k1 k2:Nat)=>R (vS o1 k1 k2) w
set_option maxRecDepth 100000 in
theorem run_slices_Clip_api_Item_api_Item_ (a:Option Addr) (b c:Nat) (w:World) (R:Value→WP) (h:vc_slices_Clip_api_Item_api_Item_ a b c w R):Run Tryz.prog 100 [(.slice a b c)] w R:=rv Tryz.func100 ann_slices_Clip_api_Item_api_Item_ (by kernel_rfl) h

abbrev n_slices_Compact_api_Item_api_Item_:FuncId:=101
def ann_slices_Compact_api_Item_api_Item_:Ann:={ rngs:=[],loops:=[(4,[(3,(.one (.int .i64)))]),(9,[(3,(.one (.int .i64))),(5,(.one (.int .i64)))])],joins:=[],blocks:=[] }
set_option maxRecDepth 100000 in
def vc_slices_Compact_api_Item_api_Item_ (a:Option Addr) (b c:Nat) (w:World) (R:Value→WP):Prop :=  br (decide ((↑b:Int) < 2)) (R (vS a b c) w) (∃ (x1:lP [(3,shI)]),∃ (x2:lN [(3,shI)]),x1 1 w∧∀ (I1:Nat→Value) (n1:Int) (w1:World),x1 n1 w1→br (decide (n1 < (↑b:Int))) (∀ w2,drawn w1 w2→∃ (I2:World→Prop),I2 w2∧idx a b n1 2 fun a1=>∃ n2 n3,(∀ w3,I2 w3→V.rowAt w3 a1 0 2 = some [iI n2,iI n3])∧inI (n1 - 1)∧idx a b (n1 - 1) 2 fun a2=>∃ n4 n5,(∀ w4,I2 w4→V.rowAt w4 a2 0 2 = some [iI n4,iI n5])∧∃ v1,(∀ w5,I2 w5→Sem.run Proofs.Tryz.prog (cmpS BinOp.eql 104 (Operand.tmp 19) (Operand.tmp 24) (vG [iI n2,iI n3]) (vG [iI n4,iI n5])) w5 = Result.ok v1 w5)∧∃ b1,v1 = vB b1∧br b1 (slc a b c (some n1) none none 2 fun (o1:Option Addr) (k1 k2:Nat)=>∃ (x3:lP [(3,shI),(5,shI)]),∃ (x4:lN [(3,shI),(5,shI)]),x3 n1 1 w2∧∀ (I3:Nat→Value) (n6 n7:Int) (w6:World),x3 n6 n7 w6→br (decide (n7 < (↑k1:Int))) (∀ w7,drawn w6 w7→∃ (I4:World→Prop),I4 w7∧idx o1 k1 n7 2 fun a3=>∃ n8 n9,(∀ w8,I4 w8→V.rowAt w8 a3 0 2 = some [iI n8,iI n9])∧inI (n7 - 1)∧idx o1 k1 (n7 - 1) 2 fun a4=>∃ n10 n11,(∀ w9,I4 w9→V.rowAt w9 a4 0 2 = some [iI n10,iI n11])∧∃ v2,(∀ w10,I4 w10→Sem.run Proofs.Tryz.prog (cmpS BinOp.neq 104 (Operand.tmp 38) (Operand.tmp 43) (vG [iI n8,iI n9]) (vG [iI n10,iI n11])) w10 = Result.ok v2 w10)∧∃ b2,v2 = vB b2∧br b2 (idx o1 k1 n7 2 fun a5=>∃ n12 n13,V.rowAt w7 a5 0 2 = some [iI n12,iI n13]∧idx a b n6 2 fun a6=>stR w7 a6 [iI n12,iI n13] fun w11=>inI (n6 + 1)∧inI (n7 + 1)∧x3 (n6 + 1) (n7 + 1) w11∧x4 (n6 + 1) (n7 + 1) w11 < x4 n6 n7 w6) (inI (n7 + 1)∧x3 n6 (n7 + 1) w7∧x4 n6 (n7 + 1) w7 < x4 n6 n7 w6)) (slc a b c (some n6) none none 2 fun (o2:Option Addr) (k3 k4:Nat)=>RunS Proofs.Tryz.prog (Builtin.clear_ (Array.mk [51]) 0 (Array.mk [vS o2 k3 k4])) w6 fun v3 w12=>slc a b c none (some n6) none 2 fun (o3:Option Addr) (k5 k6:Nat)=>R (vS o3 k5 k6) w12)) (inI (n1 + 1)∧x1 (n1 + 1) w2∧x2 (n1 + 1) w2 < x2 n1 w1)) (R (vS a b c) w1))
set_option maxRecDepth 100000 in
theorem run_slices_Compact_api_Item_api_Item_ (a:Option Addr) (b c:Nat) (w:World) (R:Value→WP) (h:vc_slices_Compact_api_Item_api_Item_ a b c w R):Run Tryz.prog 101 [(.slice a b c)] w R:=rv Tryz.func101 ann_slices_Compact_api_Item_api_Item_ (by kernel_rfl) h

abbrev n_slices_Clone_api_Item_api_Item_:FuncId:=144
def ann_slices_Clone_api_Item_api_Item_:Ann:={ rngs:=[],loops:=[],joins:=[],blocks:=[] }
set_option maxRecDepth 100000 in
def vc_slices_Clone_api_Item_api_Item_ (a:Option Addr) (b c:Nat) (w:World) (R:Value→WP):Prop :=  br (Option.isNone a) (R (vS none 0 0) w) (new w (oC [] 104) fun k1 w1=>RunS Proofs.Tryz.prog (apB 51 (Array.mk [vS (some (aM k1)) 0 0,vS a b c])) w1 fun v1 w2=>∃ o1 k2 k3,v1 = vS o1 k2 k3∧R (vS o1 k2 k3) w2)
set_option maxRecDepth 100000 in
theorem run_slices_Clone_api_Item_api_Item_ (a:Option Addr) (b c:Nat) (w:World) (R:Value→WP) (h:vc_slices_Clone_api_Item_api_Item_ a b c w R):Run Tryz.prog 144 [(.slice a b c)] w R:=rv Tryz.func144 ann_slices_Clone_api_Item_api_Item_ (by kernel_rfl) h

end Go.Proofs.YtndaepmjkbmjmaaGreatDoor
set_option linter.unusedVariables false
set_option maxRecDepth 4000
namespace Go.V
open Go.Proofs Go.Sort
instance:Inhabited ItemT:=⟨⟨0,0⟩⟩
def encT (x:ItemT):List Value:=[.int .i64 x.prod,.int .i64 x.dot]
def tv (xs:List ItemT):List Value:=xs.flatMap encT
theorem tv_cons (x:ItemT) (xs:List ItemT):tv (x :: xs) = .int .i64 x.prod :: .int .i64 x.dot :: tv xs:=rfl
theorem tv_len:∀ xs:List ItemT,(tv xs).length = xs.length * 2
  | []=>rfl
  | x :: xs=>by rw [tv_cons,List.length_cons,List.length_cons,tv_len xs,List.length_cons]; omega
theorem tv_app (xs ys:List ItemT):tv (xs ++ ys) = tv xs ++ tv ys:=List.flatMap_append
theorem tv_at:∀ (xs:List ItemT) (t:Nat),(tv xs)[t]? = (xs[t / 2]?).bind fun x=>(encT x)[t % 2]?
  | [],t=>by simp [tv]
  | x :: xs,0=>rfl
  | x :: xs,1=>rfl
  | x :: xs,t + 2=>by
    rw [tv_cons,List.getElem?_cons_succ,List.getElem?_cons_succ,tv_at xs t,show (t + 2) / 2 = t / 2 + 1 by omega,show (t + 2) % 2 = t % 2 by omega,List.getElem?_cons_succ]
theorem flat_tv (xs:List ItemT):(flatK encT 2 xs.toArray).toList = tv xs:=by
  apply List.ext_getElem?
  intro t
  rw [tv_at]
  by_cases h:t < xs.length * 2
  · have h1:t / 2 < xs.length:=by omega
    have h2:t < (flatK encT 2 xs.toArray).size:=by simp; omega
    have h3:=get_flatK encT 2 xs.toArray t (by simpa using h)
    rw [getElem!_pos _ t h2] at h3
    rw [Array.getElem?_toList,Array.getElem?_eq_getElem h2,h3,List.getElem?_eq_getElem h1,Option.bind_some,getElem!_pos xs.toArray (t / 2) (by simpa using h1)]
    have h4:t % 2 < (encT xs[t / 2]).length:=by simp [encT]; omega
    rw [List.getElem?_eq_getElem h4]
    congr 1
    simp [h4]
  · rw [Array.getElem?_toList,Array.getElem?_eq_none (by simp; omega),List.getElem?_eq_none (by omega)]; rfl
section
variable {w:World} {L:List Asn}
theorem own_row2 {a:Option Addr} {l c:Nat} {xs:List ItemT} (h:St w (own 2 a l c (tv xs) :: L)) (hl:0 < l) :
    ∃ b off,a = some ⟨b,off,none⟩∧l = xs.length∧HoldsK encT 2 w b off xs.toArray∧b < w.heap.size ∧
      (∀ (m:Nat) (os:Array Obj) (d' : Array ItemT),d'.size = xs.length→St (sortWorldK encT 2 w b off m d' os) (own 2 a l c (tv d'.toList) :: L)):=by
  rcases own_cases h with ⟨_,h2,_⟩ | ⟨b,pre,cs,post,rfl,hc,h1,h2,h3⟩
  · omega
  · have hsz:l = xs.length:=by rw [tv_len] at h1; omega
    refine ⟨b,pre.length,rfl,hsz,?_,?_,?_⟩
    · intro j hj
      have hj2:j < (tv xs).length:=by rw [tv_len]; simpa using hj
      refine ⟨?_,hc.frozen _ _⟩
      rw [hc.cell,List.getElem?_append_right (by omega),Nat.add_sub_cancel_left,List.getElem?_append_left hj2,← flat_tv,Array.getElem?_toList,Array.getElem?_eq_getElem hj,getElem!_pos _ j hj]
      rfl
    · obtain ⟨e,h⟩:=cel_ex.1 hc
      exact (Array.getElem?_eq_some_iff.1 h.get).1
    · intro m os d' hs
      have h5:=hc.sort (enc:=id) pre.length m (flatK encT 2 d') os
      have e1:tv xs = (flatK encT 2 xs.toArray).toList.map id:=by rw [flat_tv]; simp
      have e2:(flatK encT 2 d').toList.map id = tv d'.toList:=by
        have:=flat_tv d'.toList
        simp only [Array.toArray_toList] at this
        rw [this]; simp
      rw [e1,putCells_mid pre (cs ++ post) (flatK encT 2 xs.toArray) (flatK encT 2 d') (by simp [hs]),e2] at h5
      refine own_some' h5 ?_ ?_ h3
      · rw [tv_len,Array.length_toList,hs]; omega
      · rw [List.length_append,tv_len] at h2 ⊢
        rw [Array.length_toList,hs]; omega
end
def cmpI (a b:Int):Int:=if a < b then -1 else if b < a then 1 else 0
def cmpT (x y:ItemT):Int:=if cmpI x.prod y.prod = 0 then cmpI x.dot y.dot else cmpI x.prod y.prod
theorem cmpT_lt (x y:ItemT):ltOf cmpT x y = decide (x.lt y):=by
  have h:cmpT x y < 0↔x.lt y:=by
    unfold cmpT cmpI ItemT.lt
    by_cases h1:x.prod < y.prod
    · simp [h1]
    · by_cases h2:y.prod < x.prod
      · simp [h1,h2]; omega
      · have h3:x.prod = y.prod:=by omega
        by_cases h4:x.dot < y.dot
        · simp [h3,h4]
        · by_cases h5:y.dot < x.dot
          · simp [h3,h4,h5]
          · simp [h3,h4,h5]
  unfold ltOf
  rw [decide_eq_decide,h]
theorem swoT:SWO (ltOf cmpT):=⟨fun x=>by rw [cmpT_lt]; exact decide_eq_false (ItemT.lt_irrefl x),fun x y z=>by rw [cmpT_lt,cmpT_lt,cmpT_lt]; simp only [decide_eq_true_eq]; exact ItemT.lt_trans,fun x y z=>by
  rw [cmpT_lt,cmpT_lt,cmpT_lt]; simp only [decide_eq_false_iff_not]; unfold ItemT.lt; intro h1 h2 h3; omega⟩
end Go.V
namespace Go.Proofs.YtndaepmjkbmjmaaGreatDoor
open Go.V Go.Sort Go.Shelf
variable {w:World} {L:List Asn}
theorem y_cmpI (a b:Int):rE fn_cmp_Compare_int_ [.int .i64 a,.int .i64 b] w fun v w'=>v = .int .i64 (cmpI a b)∧w' = w:=by
  have nan:∀ a:Int,∀ w,rE fn_cmp_isNaN_int_ [.int .i64 a] w fun v w'=>v = .bool false∧w' = w:=fun a w=>run_cmp_isNaN_int_ _ w _ ⟨by simp,rfl⟩
  refine run_cmp_Compare_int_ _ _ w _ ((nan a w).mono ?_)
  rintro _ _ ⟨rfl,rfl⟩
  refine ⟨_,rfl,(nan b _).mono ?_⟩
  rintro _ _ ⟨rfl,rfl⟩
  refine ⟨_,rfl,br_intro (fun h=>by cases h) fun _=>br_intro (fun h=>by cases h) fun _=>br_intro (fun h=>?_) fun h=>br_intro (fun h2=>?_) fun h2=>?_⟩
  · have h:=of_decide_eq_true h; unfold cmpI; rw [if_pos h]; exact ⟨rfl,rfl⟩
  · have h:=of_decide_eq_false h; have h2:=of_decide_eq_true h2; unfold cmpI; rw [if_neg h,if_pos h2]; exact ⟨rfl,rfl⟩
  · have h:=of_decide_eq_false h; have h2:=of_decide_eq_false h2; unfold cmpI; rw [if_neg h,if_neg h2]; exact ⟨rfl,rfl⟩
theorem y_or {a:Option Addr} {x y:Int} (hx:rdS (hp w) [x,y] a 2):rE fn_cmp_Or_int_ [.slice a 2 2] w fun v w'=>v = .int .i64 (if x = 0 then y else x)∧w' = w:=by
  refine run_cmp_Or_int_ _ _ _ w _ ⟨fun z w'=>∃ i:Nat,z = i∧i≤2∧(0 < i→x = 0)∧(1 < i→y = 0)∧w' = w,fun z _=>2 - z.toNat,⟨0,rfl,by omega,by omega,by omega,rfl⟩,?_⟩
  rintro _ z w1 ⟨i,rfl,hi,h0,h1,e1⟩
  rw [e1]
  refine br_intro (fun h2=>?_) fun h2=>?_
  · have h2:i < 2:=by have:=of_decide_eq_true h2; omega
    obtain ⟨u,ad,hu,ha,cu⟩:=hx.get1 h2
    refine idx_i ha h2 ⟨u,cu _ (sub.refl _),br_intro (fun h3=>?_) fun h3=>?_⟩
    · have h3:u≠0:=bne_iff_ne.1 h3
      match i,h2 with
      | 0,_=>simp at hu; subst hu; exact ⟨by rw [if_neg h3],rfl⟩
      | 1,_=>simp at hu; subst hu; rw [if_pos (h0 (by omega))]; exact ⟨rfl,rfl⟩
    · have h3:u = 0:=by simpa using h3
      subst h3
      refine ⟨⟨by omega,by omega⟩,⟨i + 1,rfl,h2,fun _=>?_,fun _=>?_,rfl⟩,msr h2⟩
      · match i,h2 with
        | 0,_=>simpa using hu
        | 1,_=>exact h0 (by omega)
      · match i,h2 with
        | 0,_=>omega
        | 1,_=>simpa using hu
  · have h2:i = 2:=by have:=of_decide_eq_false h2; omega
    subst h2
    have e0:=h0 (by omega)
    have e1:=h1 (by omega)
    subst e0; subst e1
    exact ⟨by simp,rfl⟩
theorem y_cmpT (x y:ItemT) (w:World):Run Tryz.prog fn_lr0_laid_S1 [.agg (encT x).toArray,.agg (encT y).toArray] w fun v w'=>v = .int .i64 (cmpT x y)∧∃ q os',w' = grow (w.drewN q) os':=by
  refine run_lr0_laid_S1 _ _ _ _ w _ ?_
  intro k1 w1 b1 e1
  have h1:St w1 (cel k1 (encT x) :: all w):=(newC_i (St.all w) fun b w' h=>h:new w (oC [iI x.prod,iI x.dot] ty_api_Item) fun b w'=>St w' (cel b (encT x) :: all w)) k1 w1 b1 e1
  intro k2 w2 b2 e2
  have h2:St w2 (cel k2 (encT y) :: cel k1 (encT x) :: all w):=(newC_i h1 fun b w' h=>h:new w1 (oC [iI y.prod,iI y.dot] ty_api_Item) fun b w'=>St w' (cel b (encT y) :: cel k1 (encT x) :: all w)) k2 w2 b2 e2
  intro w3 e3
  have h3:=h2.eq (hp_drawn e3)
  have r1:rowH (hp w3) (aM k1) (encT x):=rdCel 1 h3.l
  have r2:rowH (hp w3) (aM k2) (encT y):=rdCel 0 h3.l
  refine ⟨fun u=>Gr w3 u,Gr.refl _,x.prod,fun u s=>r1.cell0 s,y.prod,fun u s=>r2.cell0 s,x.dot,fun u s=>r1.cell s (j:=1) rfl,y.dot,fun u s=>r2.cell s (j:=1) rfl,(y_cmpI _ _).mono ?_⟩
  rintro _ _ ⟨rfl,rfl⟩
  refine ⟨_,rfl,Gr.refl _,(y_cmpI _ _).mono ?_⟩
  rintro _ _ ⟨rfl,rfl⟩
  refine ⟨_,rfl,Gr.refl _,?_⟩
  intro k3 w10 b3 e10
  have h10:St w10 (cel k3 [iI (cmpI x.prod y.prod),iI (cmpI x.dot y.dot)] :: all _):=(newC_i (St.all _) fun b w' h=>h:new _ (oC [iI (cmpI x.prod y.prod),iI (cmpI x.dot y.dot)] ty_int) fun b w'=>St w' (cel b [iI (cmpI x.prod y.prod),iI (cmpI x.dot y.dot)] :: all _)) k3 w10 b3 e10
  have g10:=h10.gone1
  refine ⟨g10,(y_or (x:=cmpI x.prod y.prod) (y:=cmpI x.dot y.dot) (rdI_of rfl (.inr ⟨_,rfl,rdCel 0 h10.l⟩))).mono ?_⟩
  rintro _ _ ⟨rfl,rfl⟩
  refine ⟨_,rfl,g10,rfl,1,#[oC [iI x.prod,iI x.dot] ty_api_Item,oC [iI y.prod,iI y.dot] ty_api_Item,oC [iI (cmpI x.prod y.prod),iI (cmpI x.dot y.dot)] ty_int],?_⟩
  unfold drawn at e3
  rw [e10,e3,e2,e1]
  unfold grow World.drewN
  simp only [World.mk.injEq,true_and,and_true]
  apply Array.ext'
  simp
theorem cmpLays {blk off:Nat} {n:Nat}:CmpLays Tryz.prog fn_lr0_laid_S1 #[] encT 2 cmpT blk off n w:=fun m os dk hdk x y=>by
  refine Calls.mono (y_cmpT x y _) ?_
  rintro e w' ⟨v,rfl,_,rfl,q,os',rfl⟩
  exact ⟨rfl,q,os',rfl⟩
theorem Ev.sortK (w:World) (blk off m:Nat) (dk:Array ItemT) (os:Array Obj):Ev w (sortWorldK encT 2 w blk off m dk os):=Ev.sort (enc:=id) (blk:=blk) w off m (flatK encT 2 dk) os
theorem y_sortT {a:Option Addr} {l c:Nat} {xs:List ItemT} (h:St w (own 2 a l c (tv xs) :: L)) (hb:l < 4611686018427387904) :
    rE fn_slices_SortFunc_api_Item_api_Item_ [.slice a l c,.func (.func fn_lr0_laid_S1) (Array.mk []) (Array.mk [])] w fun v w'=>v = .tuple (Array.mk [])∧∃ ys:List ItemT,ys.Perm xs∧ys.Pairwise (fun x y=>¬y.lt x)∧St w' (own 2 a l c (tv ys) :: L):=by
  have hln:=own_len h
  rw [tv_len] at hln
  by_cases hl:0 < l
  · obtain ⟨b,off,rfl,hsz,hH,hblk,hk⟩:=own_row2 h hl
    subst hsz
    have eg:∀ args w,(callFunc fn_lr0_laid_S1 args).run Tryz.prog w = .ok (.enter fn_lr0_laid_S1 args) w:=enters_of fun_lr0_laid_S1 (by kernel_rfl) rfl
    refine Calls.mono (AnyQ.slices_SortFunc sortF 2 agg_api_Item siz_api_Item encT (fun _=>rfl) (fun x v hv=>by simp [encT] at hv; rcases hv with rfl | rfl <;> rfl) cmpT swoT fn_lr0_laid_S1 #[] b off c xs.toArray w eg cmpLays hH hblk (by simpa using hb)) ?_
    rintro e w' ⟨rfl,d',n,os,hP,hS,rfl⟩
    have hsz:d'.size = xs.length:=by simpa using hP.1
    refine ⟨_,rfl,Ev.sortK w b off n _ os,rfl,d'.toList,?_,?_,hk n os d' hsz⟩
    · have:=hP.2.2
      rw [Array.extract_size] at this
      have e2:d'.extract 0 xs.toArray.size = d':=by rw [← hP.1,Array.extract_size]
      rw [e2] at this
      simpa using this
    · rw [List.pairwise_iff_getElem]
      intro i j hi hj hij
      rw [Array.length_toList] at hi hj
      have:=hS i j (Nat.zero_le _) hij (by rw [← hP.1]; exact hj)
      rw [cmpT_lt,getElem!_pos d' j hj,getElem!_pos d' i hi] at this
      simpa using this
  · have e:l = 0:=by omega
    subst e
    have ex:xs = []:=List.eq_nil_of_length_eq_zero (by omega)
    subst ex
    refine Calls.mono (AnyF.slices_SortFunc_none sortF a c _ w) ?_
    rintro e w' ⟨rfl,rfl⟩
    exact ⟨_,rfl,Ev.refl _,rfl,[],.refl _,.nil,h⟩
theorem y_sortI {a:Option Addr} {l c:Nat} {zs:List Int} (h:St w (own 1 a l c (iv zs) :: L)) (hb:l < 4611686018427387904) :
    rE fn_slices_Sort_int_int_ [.slice a l c] w fun v w'=>v = .tuple (Array.mk [])∧St w' (own 1 a l c (iv (zs.mergeSort fun x y=>decide (x≤y))) :: L):=by
  rcases Nat.eq_zero_or_pos l with rfl | hl
  · have hz:zs = []:=List.eq_nil_of_length_eq_zero (by have:=own_len h; simpa [iv] using this)
    subst hz
    refine Calls.mono (Any.slices_Sort_int_none sortI a c w) ?_
    rintro e w' ⟨rfl,rfl⟩
    exact ⟨_,rfl,Ev.refl _,rfl,by simpa using h⟩
  obtain ⟨b,off,rfl,hsz,hH,hblk,hk⟩:=own_row (d:=zs.toArray) (enc:=Value.int .i64) (by simpa [iv] using h) hl
  simp only [List.size_toArray] at hsz
  subst hsz
  refine Calls.mono (Any.slices_Sort_int sortI b off c zs w hH hblk hb) ?_
  rintro e w' ⟨rfl,n,os,rfl⟩
  refine ⟨_,rfl,Ev.sort (enc:=Value.int .i64) w off n _ os,rfl,?_⟩
  have:=hk n os (zs.mergeSort fun x y=>decide (x≤y)).toArray (by simp)
  have e:(zs.mergeSort fun x y=>decide (x≤y)).toArray.toList.map (Value.int .i64) = iv (zs.mergeSort fun x y=>decide (x≤y)):=by simp [iv]
  rw [e] at this
  exact this
end Go.Proofs.YtndaepmjkbmjmaaGreatDoor
set_option linter.unusedVariables false
set_option maxRecDepth 4000
namespace Go.V
section
variable {P:Program} {Ty:TypeId→Option TyI} {w:World} {L:List Asn}
theorem clear_own (hT:TyOk P Ty) {t e ty:TypeId} {i:TyI} {z:Value} (hk:kdOfT Ty t = .slice e) (hi:Ty e = some i) (hz:i.zero = some z) (hzs:(cellsOf z).length = i.size) (h1:∀ v∈cellsOf z,oneC v = true) (h0:0 < i.size)
    {a:Option Addr} {l c kk c2:Nat} {us:List Value} (h:St w (own i.size a l c us :: L)) (hkl:kk≤l) :
    RunS P (Builtin.clear_ (Array.mk [t]) ty (Array.mk [.slice (slP a kk c i.size) (l - kk) c2])) w fun v w'=>∃ us' : List Value,us'.take (kk * i.size) = us.take (kk * i.size)∧St w' (own i.size a l c us' :: L):=by
  obtain ⟨d,hd,hd'⟩:=undOf hT hk (by simp)
  rw [kd_slice hd'] at hd
  obtain ⟨info,d2,ha⟩:=tyAt hT hi
  have hzz:(zeroValue e).run P w = .ok z w:=run_zero ha.inf (by rw [← ha.zero,hz])
  have hul:=own_len h
  by_cases hk2:kk < l
  · have hlt:0 < us.length:=by rw [hul]; exact Nat.mul_pos (by omega) h0
    obtain ⟨ad,rfl⟩:=own_addr h hlt
    have hle:=own_le h
    have esl:slP (some ad) kk c i.size = some (ad.add (kk * i.size)):=by
      unfold slP; rw [if_neg (by omega),mulS_eq]; rfl
    obtain ⟨m,hm⟩ : ∃ m,l - kk = m + 1:=⟨l - kk - 1,by omega⟩
    have hcz:z.cells = ⟨cellsOf z⟩:=by rw [cellsOf_eq]
    have hzc:(Builtin.zeroCells z.cells (m + 1)).toList = (List.replicate (m + 1) (cellsOf z)).flatten:=by
      unfold Builtin.zeroCells
      rw [hcz]
      have:=zeros_eq (cellsOf z) (m + 1)
      simp only [List.size_toArray] at this ⊢
      rw [this]
    have hfl:∀ n,(List.replicate n (cellsOf z)).flatten.length = n * i.size:=fun n=>by
      induction n with
      | zero=>simp
      | succ n ih=>rw [List.replicate_succ,List.flatten_cons,List.length_append,ih,hzs,Nat.succ_mul,Nat.add_comm]
    have hbig:(m + 1) * i.size = l * i.size - kk * i.size:=by rw [← hm,Nat.sub_mul]
    have hkl2:kk * i.size≤l * i.size:=Nat.mul_le_mul_right _ hkl
    have hst:=own_stR (i:=kk * i.size) (vs:=(List.replicate (m + 1) (cellsOf z)).flatten) (k:=fun w'=>St w' (own i.size (some ad) l c (us.take (kk * i.size) ++ (List.replicate (m + 1) (cellsOf z)).flatten ++ us.drop (kk * i.size + (List.replicate (m + 1) (cellsOf z)).flatten.length)) :: L)) h rfl
      (by rw [hfl,hul,hbig]; omega) (fun v hv=>by
        obtain ⟨x,hx,hv⟩:=List.mem_flatten.1 hv
        rw [List.eq_of_mem_replicate hx] at hv; exact h1 v hv) (by rw [hfl]; exact Nat.mul_pos (by omega) h0) fun w' h=>h
    refine ⟨.tuple #[],_,?_,Ev.storeRow w _ _ _ _ (Ev.refl _),_,?_,hst.2 _ rfl⟩
    · unfold Builtin.clear_
      rw [esl,hm]
      simp only [Sem.run_bind,run_und hd,Result.andThen_ok,hzz,hzc,run_storeCells _ _ _ _ hst.1,Sem.run_pure]
      simp [Sem.run_bind,run_und hd,hzz,hzc,run_storeCells _ _ _ _ hst.1]
    · rw [List.append_assoc,List.take_left' (by rw [List.length_take]; omega)]
  · have e:l - kk = 0:=by omega
    rw [e]
    refine ⟨.tuple #[],w,?_,Ev.refl _,us,rfl,h⟩
    unfold Builtin.clear_
    cases hs:slP a kk c i.size <;> simp [Sem.run_bind,run_und hd]
end
end Go.V
set_option linter.unusedVariables false
set_option maxRecDepth 4000
namespace Go.V
section
variable {w:World} {L:List Asn} {xs:List ItemT} {a:Option Addr} {l c:Nat}
theorem rdIt_row {h:Hp} {ad:Addr} (r:rowH h ad (tv xs)) {i:Nat} {x:ItemT} (hx:xs[i]? = some x):rowH h (ad.add (mulS i 2)) (encT x):=fun j v hv=>by
  have hj:j < 2:=(List.getElem?_eq_some_iff.1 hv).1
  rw [mulS_eq,add_add]
  refine r (i * 2 + j) v ?_
  rw [tv_at,show (i * 2 + j) / 2 = i by omega,show (i * 2 + j) % 2 = j by omega,hx]
  exact hv
theorem rdIt_of {h:Hp} (hl:xs.length = l) (r:rdV a (tv xs) h):rdS h xs a l:=by
  refine ⟨hl,fun i x hx=>?_⟩
  rcases r with e | ⟨ad,rfl,hc⟩
  · have h1:=congrArg List.length e
    rw [tv_len,List.length_nil] at h1
    have:=(List.getElem?_eq_some_iff.1 hx).1
    omega
  · exact ⟨ad,_,rfl,rdIt_row hc hx,rfl⟩
theorem own_rdI2 (h:St w (own 2 a l c (tv xs) :: L)):rdS (hp w) xs a l:=by
  have hl:=own_len h
  rw [tv_len] at hl
  obtain ⟨h1,s,ha⟩:=h.first
  exact (rdIt_of (by omega) (own_rdVh ha)).mono s
theorem rdIt_get {h:Hp} (r:rdS h xs a l) {i:Nat} (hi:i < l):∃ x ad,xs[i]? = some x∧a = some ad∧∀ u:World,sub h (hp u)→V.rowAt u (ad.add (mulS i 2)) 0 2 = some [.int .i64 x.prod,.int .i64 x.dot]:=by
  obtain ⟨x,ad,vs,hx,ha,hr,rfl⟩:=r.get hi
  exact ⟨x,ad,hx,ha,fun u s=>hr.at s rfl⟩
theorem tv_set {i:Nat} {x:ItemT} (hi:i < xs.length):(tv xs).take (i * 2) ++ [.int .i64 x.prod,.int .i64 x.dot] ++ (tv xs).drop (i * 2 + 2) = tv (xs.set i x):=by
  rw [List.set_eq_take_append_cons_drop,if_pos hi]
  have e1:tv xs = tv (xs.take i) ++ tv (xs.drop i):=by rw [← tv_app,List.take_append_drop]
  have e2:tv xs = tv (xs.take (i + 1)) ++ tv (xs.drop (i + 1)):=by rw [← tv_app,List.take_append_drop]
  have l1:(tv (xs.take i)).length = i * 2:=by rw [tv_len,List.length_take]; omega
  have l2:(tv (xs.take (i + 1))).length = i * 2 + 2:=by rw [tv_len,List.length_take]; omega
  have t1:(tv xs).take (i * 2) = tv (xs.take i):=by rw [e1,List.take_left' l1]
  have t2:(tv xs).drop (i * 2 + 2) = tv (xs.drop (i + 1)):=by rw [e2,List.drop_left' l2]
  rw [t1,t2,tv_app,tv_cons]
  simp
theorem tv_take (xs:List ItemT) (k:Nat):(tv xs).take (k * 2) = tv (xs.take k):=by
  by_cases h:k≤xs.length
  · have e1:tv xs = tv (xs.take k) ++ tv (xs.drop k):=by rw [← tv_app,List.take_append_drop]
    rw [e1,List.take_left' (by rw [tv_len,List.length_take]; omega)]
  · rw [List.take_of_length_le (by rw [tv_len]; omega),List.take_of_length_le (by omega)]
theorem own_clip {sz:Nat} {vs:List Value} (h:St w (own sz a l c vs :: L)):St w (own sz (slP a 0 l sz) l l vs :: L):=by
  rcases own_cases h with ⟨rfl,rfl,rfl,rfl⟩ | ⟨b,pre,cs,post,rfl,hc,h1,h2,h3⟩
  · have:slP none 0 0 sz = none:=by simp [slP]
    rw [this]; exact h
  · have e:slP (some (⟨b,pre.length,none⟩ : Addr)) 0 l sz = some ⟨b,pre.length,none⟩:=by
      unfold slP; split
      · rfl
      · simp [mulS_eq,add_lit]
    rw [e]
    exact own_some' (cs:=[]) (post:=cs ++ post) (by simpa using hc) h1 (by simpa using h1) (Nat.le_refl _)
theorem slc_clip {a:Option Addr} {l c sz:Nat} {k:Option Addr→Nat→Nat→Prop} (h1:l≤c) (hk:k (slP a 0 l sz) l l):slc a l c none (some (l:Int)) (some (l:Int)) sz k :=
  ⟨.inr ⟨by simp,by show (0:Int)≤(l:Int); omega,by show (l:Int)≤(c:Int); omega⟩,.inr ⟨by show (0:Int)≤(l:Int); omega,by show (l:Int)≤(l:Int); omega⟩,⟨by decide,by show (0:Int)≤(l:Int); omega⟩,by simpa using hk⟩
end
abbrev NdI (l:List ItemT):Prop:=l.Pairwise fun x y=>¬y.lt x
theorem NdI.at {xs:List ItemT} (h:NdI xs) {i j:Nat} {x y:ItemT} (hij:i < j) (hi:xs[i]? = some x) (hj:xs[j]? = some y):¬y.lt x:=by
  obtain ⟨h1,rfl⟩:=List.getElem?_eq_some_iff.1 hi
  obtain ⟨h2,rfl⟩:=List.getElem?_eq_some_iff.1 hj
  exact List.pairwise_iff_getElem.1 h i j h1 h2 hij
theorem lay_old {xs:List ItemT} {n:Nat} {x:ItemT} (h1:xs[n]? = some x) (h2:xs[n + 1]? = some x):lay (xs.take (n + 2)) = lay (xs.take (n + 1)) :=
  lay_eq (lay_srt _) fun y=>by
    rw [lay_mem,List.take_add_one (i:=n + 1),h2,Option.toList_some,List.mem_append,List.mem_singleton]
    refine ⟨.inl,fun h=>h.elim id ?_⟩
    rintro rfl
    exact List.mem_of_getElem? (i:=n) (by rw [List.getElem?_take,if_pos (by omega)]; exact h1)
theorem lay_new {xs:List ItemT} (hs:NdI xs) {n:Nat} {x z:ItemT} (h1:xs[n]? = some z) (h2:xs[n + 1]? = some x) (hne:x≠z):lay (xs.take (n + 2)) = lay (xs.take (n + 1)) ++ [x]:=by
  refine lay_eq ?_ fun y=>by rw [List.mem_append,lay_mem,List.take_add_one (i:=n + 1),h2,Option.toList_some,List.mem_append]
  rw [SrtI,List.pairwise_append]
  refine ⟨lay_srt _,by simp,fun y hy u hu=>?_⟩
  rw [List.mem_singleton] at hu
  subst hu
  rw [lay_mem] at hy
  obtain ⟨i,hi⟩:=List.getElem?_of_mem hy
  have hin:i < n + 1:=by have:=(List.getElem?_eq_some_iff.1 hi).1; rw [List.length_take] at this; omega
  rw [List.getElem?_take,if_pos hin] at hi
  have hzu:z.lt u:=(ItemT.lt_or hne).resolve_left (hs.at (Nat.lt_succ_self n) h1 h2)
  by_cases e:i = n
  · subst e; rw [h1] at hi; cases hi; exact hzu
  · have hzy:=hs.at (show i < n by omega) hi h1
    by_cases e2:y = z
    · rw [e2]; exact hzu
    · exact ItemT.lt_trans ((ItemT.lt_or e2).resolve_right hzy) hzu
theorem srt_snoc {xs:List ItemT} (hs:NdI xs) {n:Nat} {x z:ItemT} (h:SrtI (xs.take (n + 1))) (h1:xs[n]? = some z) (h2:xs[n + 1]? = some x) (hne:x≠z):SrtI (xs.take (n + 2)):=by
  have e:=lay_new hs h1 h2 hne
  rw [lay_same h] at e
  have e2:xs.take (n + 2) = xs.take (n + 1) ++ [x]:=by rw [List.take_add_one (i:=n + 1),h2]; rfl
  rw [e2,← e]
  exact lay_srt _
end Go.V
namespace Go.Proofs.YtndaepmjkbmjmaaGreatDoor
open Go.V
variable {w:World} {L:List Asn}
theorem eqItem_in (w:World) (x y:ItemT):(Op.equalIn (9998 + 1 + 1) ty_api_Item (.agg ⟨encT x⟩) (.agg ⟨encT y⟩)).run Tryz.prog w = .ok (decide (x = y)) w:=by
  have ht:Tryz.prog.underlying ty_api_Item = some (.struct (Tryz.prog.fieldsOf ty_api_Item)):=by kernel_rfl
  have hi:Tryz.prog.underlying ty_int = some (.int .i64):=und_int
  have hf : (Tryz.prog.fieldsOf ty_api_Item).toList = [{ name := "Prod", type := ty_int, offset := 0, embedded := false, tag := "", pkgPath := "", byteOffset := 0 }, { name := "Dot", type := ty_int, offset := 1, embedded := false, tag := "", pkgPath := "", byteOffset := 8 }] := by kernel_rfl
  have p0:∀ (v u:Value) (w:World),(part ty_int #[v,u] 0).run Tryz.prog w = .ok v w:=fun v u w=>by simp [part,run_isAgg hi,kdOf,Kd.isAgg]
  have p1:∀ (v u:Value) (w:World),(part ty_int #[v,u] 1).run Tryz.prog w = .ok u w:=fun v u w=>by simp [part,run_isAgg hi,kdOf,Kd.isAgg]
  have eqI:∀ n m d w,(Op.equalIn (d + 1) ty_int (.int .i64 n) (.int .i64 m)).run Tryz.prog w = .ok (n == m) w:=fun n m d w=>run_equalIn_int w d _ _ _ _ _ hi
  have e:decide (x = y) = (x.prod == y.prod && x.dot == y.dot):=by
    rw [Bool.eq_iff_iff]; simp only [decide_eq_true_eq,Bool.and_eq_true,beq_iff_eq]
    exact ⟨fun h=>by subst h; exact ⟨rfl,rfl⟩,fun ⟨h1,h2⟩=>ItemT.ext' h1 h2⟩
  unfold encT
  rw [run_equalIn_agg w (9998 + 1) ty_api_Item _ _ ht sih_api_Item,hf,e]
  unfold Op.eqFields
  simp only [ne_eq,String.reduceEq,not_false_eq_true,if_true,Sem.run_bind,p0,Result.andThen_ok,eqI]
  cases hq:(x.prod == y.prod)
  · simp
  · unfold Op.eqFields
    simp only [ne_eq,String.reduceEq,not_false_eq_true,if_true,Sem.run_bind,p1,Result.andThen_ok,eqI,Bool.not_true,Bool.false_eq_true,if_false]
    cases hn:(x.dot == y.dot)
    · simp
    · unfold Op.eqFields; simp
theorem eqItem (w:World) (xo yo:Operand) (x y:ItemT):Sem.run Tryz.prog (cmpS .eql ty_api_Item xo yo (.agg ⟨encT x⟩) (.agg ⟨encT y⟩)) w = .ok (.bool (decide (x = y))) w:=by
  unfold cmpS
  rw [Sem.run_bind,run_eqGuard_agg w _ _ _ _ _ _ eqg_api_Item]
  simp only [Result.andThen_ok]
  rw [run_eql_struct]
  show ((Op.equalIn (9998 + 1 + 1) ty_api_Item (.agg ⟨encT x⟩) (.agg ⟨encT y⟩)).run Tryz.prog w).andThen _ = _
  rw [eqItem_in]
  rfl
theorem neItem (w:World) (xo yo:Operand) (x y:ItemT):Sem.run Tryz.prog (cmpS .neq ty_api_Item xo yo (.agg ⟨encT x⟩) (.agg ⟨encT y⟩)) w = .ok (.bool (!decide (x = y))) w:=by
  unfold cmpS
  rw [Sem.run_bind,run_eqGuard_agg w _ _ _ _ _ _ eqg_api_Item]
  simp only [Result.andThen_ok]
  rw [run_neq_struct]
  show ((Op.equalIn (9998 + 1 + 1) ty_api_Item (.agg ⟨encT x⟩) (.agg ⟨encT y⟩)).run Tryz.prog w).andThen _ = _
  rw [eqItem_in]
  rfl
end Go.Proofs.YtndaepmjkbmjmaaGreatDoor
set_option linter.unusedVariables false
set_option maxRecDepth 4000
namespace Go.V
theorem srt_one {xs:List ItemT} {n:Nat} (h:n≤1):SrtI (xs.take n):=by
  match n,h with
  | 0,_=>simp
  | 1,_=>cases xs <;> simp
theorem lay_perm {xs ys:List ItemT} (h:ys.Perm xs):lay ys = lay xs:=lay_eq (lay_srt _) fun y=>by rw [lay_mem,h.mem_iff]
end Go.V
namespace Go.Proofs.YtndaepmjkbmjmaaGreatDoor
open Go.V
variable {w:World} {L:List Asn} {a:Option Addr} {l c:Nat} {xs:List ItemT}
theorem y_compact (h:St w (own 2 a l c (tv xs) :: L)) (hs:NdI xs) (hb:l < 4611686018427387904) :
    Run Tryz.prog n_slices_Compact_api_Item_api_Item_ [.slice a l c] w fun v w'=>∃ a' c',v = .slice a' (lay xs).length c'∧St w' (own 2 a' (lay xs).length c' (tv (lay xs)) :: L):=by
  have hln:=own_len h
  rw [tv_len] at hln
  have hlc:=own_le h
  have hl:xs.length = l:=by omega
  refine run_slices_Compact_api_Item_api_Item_ _ _ _ w _ (br_intro (fun h1=>?_) fun h1=>?_)
  · have h1:l < 2:=by have:=of_decide_eq_true h1; omega
    have e:lay xs = xs:=lay_same (by have:=srt_one (xs:=xs) (n:=l) (by omega); rwa [List.take_of_length_le (by omega)] at this)
    rw [e,hl]; exact ⟨a,c,rfl,h⟩
  have h1:2≤l:=by have:=of_decide_eq_false h1; omega
  refine ⟨fun z w'=>∃ n:Nat,z = ((n + 1:Nat):Int)∧n + 1≤l∧SrtI (xs.take (n + 1))∧St w' (own 2 a l c (tv xs) :: L),fun z _=>l - z.toNat,⟨0,rfl,by omega,srt_one (Nat.le_refl _),h⟩,?_⟩
  clear h
  rintro _ z w1 ⟨n,rfl,hn,hS,h⟩
  refine br_intro (fun h2=>?_) fun h2=>?_
  rotate_left
  · have h2:l = n + 1:=by have:=of_decide_eq_false h2; omega
    have e:lay xs = xs:=lay_same (by rwa [List.take_of_length_le (by omega)] at hS)
    rw [e,hl]; exact ⟨a,c,rfl,h⟩
  have h2:n + 1 < l:=by have:=of_decide_eq_true h2; omega
  intro w2 hd
  have h:=h.eq (drawn_hp hd)
  have hr:=own_rdI2 h
  obtain ⟨x,ad,hx,rfl,cx⟩:=rdIt_get hr h2
  obtain ⟨z,ad2,hz,e2,cz⟩:=rdIt_get hr (by omega:n < l)
  cases e2
  have e1:((n + 1:Nat):Int) - 1 = (n:Int):=by omega
  rw [e1]
  refine ⟨fun u=>Gr w2 u,Gr.refl _,idx_n rfl h2 ⟨_,_,cx,⟨by omega,by omega⟩,idx_n rfl (by omega) ⟨_,_,cz,_,fun u _=>eqItem u _ _ x z,_,rfl,br_intro (fun h3=>?_) fun h3=>?_⟩⟩⟩
  rotate_left
  · have h3:x≠z:=of_decide_eq_false h3
    exact ⟨⟨by omega,by omega⟩,⟨n + 1,by simp,h2,srt_snoc hs hS hz hx h3,h⟩,msr h2⟩
  have h3:x = z:=of_decide_eq_true h3
  subst h3
  refine slc_from (by omega) hlc ?_
  refine ⟨fun z y w'=>∃ (k t:Nat) (us:List ItemT),z = (k:Int)∧y = ((t + 1:Nat):Int)∧n + 1≤k∧k≤n + 1 + t∧n + 1 + t + 1≤l∧us.length = l∧us.drop k = xs.drop k∧us.take k = lay (xs.take (n + 1 + t + 1))∧St w' (own 2 (some ad) l c (tv us) :: L),fun _ y _=>l - y.toNat,
    ⟨n + 1,0,xs,rfl,rfl,Nat.le_refl _,Nat.le_refl _,by omega,hl,rfl,?_,h⟩,?_⟩
  · rw [show n + 1 + 0 + 1 = n + 2 by omega,lay_old hz hx,lay_same hS]
  clear h hr cx cz
  rintro _ _ _ w3 ⟨k,t,us,rfl,rfl,hk1,hk2,ht,hul,hud,hut,h⟩
  have hul2:(tv us).length = l * 2:=by rw [tv_len,hul]
  refine br_intro (fun h3=>?_) fun h3=>?_
  rotate_left
  · have h3:l = n + 1 + t + 1:=by have:=of_decide_eq_false h3; omega
    rw [← h3,List.take_of_length_le (show xs.length≤l by omega)] at hut
    have hkl:(lay xs).length = k:=by rw [← hut,List.length_take]; omega
    have hc:=clear_own (ty:=0) (c2:=c - k) tyOk (rfl:kdOfT Ty ty_s_api_Item = .slice _) (rfl:Ty ty_api_Item = some _) rfl rfl (fun v hv=>by rcases List.mem_cons.1 hv with rfl | hv; rfl; rw [List.mem_singleton] at hv; subst hv; rfl) (by show 0 < 2; decide) h (show k≤l by omega)
    refine slc_from (by omega) hlc (hc.mono ?_)
    rintro _ w4 ⟨vs,hv,h⟩
    refine slc_hiN (by omega) ?_
    have h:=own_cut h (k:=k) (by omega)
    have e:vs.take (k * 2) = tv (lay xs):=hv.trans (by rw [← hut]; exact tv_take us k)
    rw [hkl]
    exact ⟨_,_,rfl,by rw [← e]; exact h⟩
  have h3:t + 1 < l - (n + 1):=by have:=of_decide_eq_true h3; omega
  intro w4 hd
  have h:=h.eq (drawn_hp hd)
  have hr:=(own_rdI2 h).drop (k:=n + 1) (m:=c) (by omega) hlc
  have same:∀ j,k≤j→us[j]? = xs[j]?:=fun j hj=>by
    have:=congrArg (fun l=>l[j - k]?) hud
    simp only [List.getElem?_drop] at this
    rwa [show k + (j - k) = j by omega] at this
  obtain ⟨x2,ad3,hx2,e3,cx⟩:=rdIt_get hr h3
  obtain ⟨z2,ad4,hz2,e4,cz⟩:=rdIt_get hr (by omega:t < l - (n + 1))
  rw [e3] at e4
  cases e4
  rw [List.getElem?_drop,same _ (by omega)] at hx2 hz2
  have e1:((t + 1:Nat):Int) - 1 = (t:Int):=by omega
  have hx3:xs[n + 1 + t + 1]? = some x2:=by rw [← hx2]; congr 1
  have hz3:xs[n + 1 + t]? = some z2:=by rw [← hz2]
  rw [e1]
  refine ⟨fun u=>Gr w4 u,Gr.refl _,idx_n e3 h3 ⟨_,_,cx,⟨by omega,by omega⟩,idx_n e3 (by omega) ⟨_,_,cz,_,fun u _=>neItem u _ _ x2 z2,_,rfl,br_intro (fun h4=>?_) fun h4=>?_⟩⟩⟩
  rotate_left
  · have h4:x2 = z2:=by simpa using h4
    subst h4
    refine ⟨⟨by omega,by omega⟩,⟨k,t + 1,us,rfl,by simp,hk1,by omega,by omega,hul,hud,?_,h⟩,msr (by omega)⟩
    rw [hut,show n + 1 + (t + 1) + 1 = n + 1 + t + 2 by omega,lay_old hz3 hx3]
  have h4:x2≠z2:=by simpa using h4
  refine idx_n e3 h3 ⟨_,_,cx _ (Gr.refl _),idx_n rfl (by omega) ?_⟩
  rw [mulS_eq]
  refine own_stR (i:=k * 2) h rfl (by rw [hul2]; simp; omega) (by simp [oneC]) (by simp) fun w5 h=>?_
  rw [show (k * 2 + [Value.int .i64 x2.prod,Value.int .i64 x2.dot].length) = k * 2 + 2 from rfl,tv_set (by omega)] at h
  refine ⟨⟨by omega,by omega⟩,⟨by omega,by omega⟩,⟨k + 1,t + 1,us.set k x2,by simp,by simp,by omega,by omega,by omega,by rw [List.length_set,hul],?_,?_,h⟩,msr (by omega)⟩
  · rw [List.drop_set_of_lt (by omega),← List.drop_drop (i:=1),hud,List.drop_drop]
  · have hku:k < us.length:=by omega
    rw [show n + 1 + (t + 1) + 1 = n + 1 + t + 2 by omega,lay_new hs hz3 hx3 h4,← hut,List.take_add_one,List.getElem?_set_self hku,List.take_set_of_le (Nat.le_refl _)]
    rfl
theorem y_laid (h:St w (own 2 a l c (tv xs) :: L)) (hb:l < 4611686018427387904) :
    Run Tryz.prog n_lr0_laid [.slice a l c] w fun v w'=>∃ a',v = .slice a' (lay xs).length (lay xs).length∧St w' (own 2 a' (lay xs).length (lay xs).length (tv (lay xs)) :: L):=by
  refine run_lr0_laid _ _ _ w _ ((y_sortT h hb).mono ?_)
  rintro _ w1 ⟨rfl,ys,hp,hn,h⟩
  refine ⟨rfl,(y_compact h hn hb).mono ?_⟩
  rintro _ w2 ⟨a2,c2,rfl,h⟩
  have hlc:=own_le h
  refine ⟨_,_,_,rfl,run_slices_Clip_api_Item_api_Item_ _ _ _ w2 _ (slc_clip hlc ?_)⟩
  have h:=own_clip h
  rw [lay_perm hp] at h ⊢
  exact ⟨_,_,_,rfl,_,rfl,h⟩
end Go.Proofs.YtndaepmjkbmjmaaGreatDoor
set_option linter.unusedVariables false
set_option maxRecDepth 4000
set_option linter.unusedSectionVars false
namespace Go.V
open MapKept
section
variable {κ : Type} [DecidableEq κ] [MVal κ] {P:Program} {Ty:TypeId→Option TyI} {w:World} {L:List Asn} {b r:Nat} {m:List (κ × Value)} {ks:List κ}
structure ItOk (es:Array MapEntry) (seen:Array Nat) (m:List (κ × Value)) (ks:List κ):Prop where
  perm:(ks.map MVal.val ++ (leftOf es seen).toList.map (·.key)).Perm (m.map fun x=>MVal.val x.1)
def mapIt (b r:Nat) (m:List (κ × Value)) (ks:List κ):Asn:=ex fun (x:Array MapEntry × Nat × Array Nat)=>sta [pu (MapOk x.1 x.2.1 m∧ItOk x.1 x.2.2 m ks),blk b (.map x.1 x.2.1),blk r (.mapIter (some b) x.2.1 x.2.2 x.2.1)]
def mapItL (b r:Nat) (m:List (κ × Value)) (ks:List κ) (k:κ) (u:Value):Asn:=ex fun (x:Array MapEntry × Nat × Array Nat × MapEntry) =>
  sta [pu (MapOk x.1 x.2.1 m∧ItOk x.1 (x.2.2.1.push x.2.2.2.born) m ks∧x.2.2.2∈x.1.toList∧x.2.2.2.key = MVal.val k∧x.2.2.2.val = u),blk b (.map x.1 x.2.1),blk r (.mapIter (some b) x.2.1 (x.2.2.1.push x.2.2.2.born) x.2.1)]
theorem mapIt_iff:St w (mapIt b r m ks :: L)↔∃ es cl seen,MapOk es cl m∧ItOk es seen m ks∧St w (blk b (.map es cl) :: blk r (.mapIter (some b) cl seen cl) :: L):=by
  constructor
  · intro h
    obtain ⟨⟨es,cl,seen⟩,h⟩:=St.ex.1 h
    obtain ⟨⟨h1,h2⟩,h3⟩:=St.pu.1 (St.flat.1 h)
    exact ⟨es,cl,seen,h1,h2,h3⟩
  · rintro ⟨es,cl,seen,h1,h2,h3⟩
    exact St.ex.2 ⟨⟨es,cl,seen⟩,St.flat.2 (St.pu.2 ⟨⟨h1,h2⟩,h3⟩)⟩
theorem mapItL_iff {k:κ} {u:Value}:St w (mapItL b r m ks k u :: L)↔∃ es cl,∃ (seen:Array Nat) (e:MapEntry),MapOk es cl m∧ItOk es (seen.push e.born) m ks∧e∈es.toList∧e.key = MVal.val k∧e.val = u∧St w (blk b (.map es cl) :: blk r (.mapIter (some b) cl (seen.push e.born) cl) :: L):=by
  constructor
  · intro h
    obtain ⟨⟨es,cl,seen,e⟩,h⟩:=St.ex.1 h
    obtain ⟨⟨h1,h2,h3,h4,h5⟩,h6⟩:=St.pu.1 (St.flat.1 h)
    exact ⟨es,cl,seen,e,h1,h2,h3,h4,h5,h6⟩
  · rintro ⟨es,cl,seen,e,h1,h2,h3,h4,h5,h6⟩
    exact St.ex.2 ⟨⟨es,cl,seen,e⟩,St.flat.2 (St.pu.2 ⟨⟨h1,h2,h3,h4,h5⟩,h6⟩)⟩
theorem mapItL_it {k:κ} {u:Value} (h:St w (mapItL b r m ks k u :: L)):St w (mapIt b r m ks :: L):=by
  obtain ⟨es,cl,seen,e,h1,h2,_,_,_,h6⟩:=mapItL_iff.1 h
  exact mapIt_iff.2 ⟨es,cl,_,h1,h2,h6⟩
theorem mapIt_map (h:St w (mapIt b r m ks :: L)):St w (mapA b m :: L):=by
  obtain ⟨es,cl,seen,h1,h2,h3⟩:=mapIt_iff.1 h
  exact mapA_ex.2 ⟨es,cl,h1,h3.swap.tail⟩
theorem map_range (hT:TyOk P Ty) {t kt et:TypeId} (hk:kdOfT Ty t = .map kt et) (h:St w (mapA b m :: L)) :
    RunS P (Instr.range t (.map (some b))) w fun v w'=>∃ r,v = .pointer (some ⟨r,0,none⟩)∧St w' (mapIt b r m ([] : List κ) :: L):=by
  obtain ⟨d,hd,hd'⟩:=undOf hT hk (by simp)
  rw [kd_map' hd'] at hd
  obtain ⟨es,cl,he,h⟩:=mapA_ex.1 h
  refine ⟨_,_,run_range_map w t kt et b es cl hd h.get,Ev.push w _,_,rfl,mapIt_iff.2 ⟨es,cl,#[],he,⟨?_⟩,?_⟩⟩
  · have e1:leftOf es #[] = es:=by unfold leftOf; simp
    rw [e1]
    have:=congrArg (List.map Prod.fst) he.eq
    simp only [List.map_map] at this
    have e2:es.toList.map (·.key) = m.map fun x=>MVal.val x.1:=this
    rw [e2]; exact .refl _
  · exact (h.push (.mapIter (some b) cl #[] cl)).swap
theorem born_out (e:MapEntry):∀ (l:List MapEntry),(l.map (·.born)).Nodup→e∈l→l.Perm (e :: l.filter fun x=>decide (x.born≠e.born))
  | x :: l,hn,he=>by
    have hn' : x.born∉l.map (·.born)∧(l.map (·.born)).Nodup:=List.nodup_cons.1 hn
    rcases List.mem_cons.1 he with rfl | h
    · have:l.filter (fun x=>decide (x.born≠e.born)) = l:=List.filter_eq_self.2 fun x hx=>by
        rw [decide_eq_true_eq]
        intro e'; exact hn'.1 (List.mem_map.2 ⟨x,hx,e'⟩)
      rw [List.filter_cons,if_neg (by simp),this]
    · have hx:x.born≠e.born:=fun e'=>hn'.1 (by rw [e']; exact List.mem_map.2 ⟨e,h,rfl⟩)
      rw [List.filter_cons,if_pos (by simpa using hx)]
      exact (List.Perm.cons x (born_out e l hn'.2 h)).trans (.swap _ _ _)
theorem St.setIter {b' : Option Nat} {s c:Nat} {seen:Array Nat} (h:St w (blk r (.mapIter b' s seen c) :: L)) {w1:World} (hw:w1 = w∨w1 = w.drew) (o:Obj) (ho:notD o = true:=by rfl):Ev w (ChangeMaps.setBlock w1 r o)∧St (ChangeMaps.setBlock w1 r o) (blk r o :: L):=by
  have h1:St w1 (blk r (.mapIter b' s seen c) :: L):=by
    rcases hw with rfl | rfl
    · exact h
    · exact h.same rfl
  have e1:Ev w w1:=by
    rcases hw with rfl | rfl
    · exact Ev.refl _
    · exact Ev.drew _ _
  refine ⟨e1.trans ⟨rfl,rfl,rfl,by simp [ChangeMaps.setBlock],?_,?_⟩,h1.setObj o ho⟩ <;>
  · intro x d hx
    unfold ChangeMaps.setBlock
    rw [Array.getElem?_setIfInBounds_ne]; exact hx
    intro e; subst e; rw [h1.get] at hx; cases hx
theorem key_of {es:Array MapEntry} {cl:Nat} {e:MapEntry} (h:MapOk es cl m) (he:e∈es.toList):∃ k,(k,e.val)∈m∧e.key = MVal.val k:=by
  have:(e.key,e.val)∈es.toList.map fun e=>(e.key,e.val):=List.mem_map.2 ⟨e,he,rfl⟩
  rw [h.eq] at this
  obtain ⟨x,hx,e2⟩:=List.mem_map.1 this
  injection e2 with e3 e4
  refine ⟨x.1,?_,e3.symm⟩
  rw [← e4]; exact hx
theorem val_inj {a c:κ} (h:MVal.val a = MVal.val c):a = c:=MVal.inj a c h
theorem perm_inj {α β : Type} {f:α→β} (hf:∀ a c,f a = f c→a = c):∀ {l l' : List α},(l.map f).Perm (l'.map f)→l.Perm l'
  | [],[],_=>.refl _
  | [],_ :: _,h=>by have:=h.length_eq; simp at this
  | a :: l,l',h=>by
    have hm:f a∈l'.map f:=h.subset (by simp)
    obtain ⟨x,hx,e⟩:=List.mem_map.1 hm
    have:=hf _ _ e
    subst this
    obtain ⟨s,t,rfl⟩:=List.append_of_mem hx
    have h2:(f x :: l.map f).Perm (f x :: (s ++ t).map f):=h.trans (by
      rw [List.map_append,List.map_cons,List.map_append]; exact List.perm_middle)
    exact (List.Perm.cons x (perm_inj hf ((List.perm_cons _).1 h2))).trans List.perm_middle.symm
theorem map_next {ty:TypeId} (h:St w (mapIt b r m ks :: L)):RunS P (Instr.next (.pointer (some ⟨r,0,none⟩)) false ty) w fun v w' =>
    (v = .tuple #[.bool false]∧ks.Perm (m.map Prod.fst)∧St w' (mapA b m :: L)) ∨
    ∃ (k:κ) (u:Value),(k,u)∈m∧v = .tuple #[.bool true,MVal.val k,u]∧ks.length < m.length∧St w' (mapItL b r m (ks ++ [k]) k u :: L):=by
  have hmap:=mapIt_map h
  obtain ⟨es,cl,seen,h1,h2,h3⟩:=mapIt_iff.1 h
  rcases run_next_at (P:=P) w ty r b cl cl seen es cl h3.swap.get h3.get h1.lt (Nat.le_refl _) with ⟨h4,h5⟩ | ⟨e,he,w1,hw,h5⟩
  · refine ⟨_,_,h5,Ev.refl _,.inl ⟨rfl,?_,hmap⟩⟩
    have h6:=h2.perm
    have e1:(leftOf es seen).toList = []:=List.eq_nil_of_length_eq_zero (by simpa using h4)
    rw [e1,List.map_nil,List.append_nil] at h6
    have e2:(m.map fun x=>MVal.val (κ:=κ) x.1) = (m.map Prod.fst).map MVal.val:=by rw [List.map_map]; rfl
    rw [e2] at h6
    exact perm_inj (fun a c=>val_inj) h6
  · have hes:e∈es.toList:=by unfold leftOf at he; simp at he ⊢; exact he.1
    obtain ⟨k,hkm,hk⟩:=key_of h1 hes
    obtain ⟨hev,hst⟩:=St.setIter (h3.swap) hw (.mapIter (some b) cl (seen.push e.born) cl)
    have hnd:((leftOf es seen).toList.map (·.born)).Nodup:=by
      refine h1.nd.sublist ?_
      unfold leftOf
      rw [Array.toList_filter]
      exact List.Sublist.map _ List.filter_sublist
    have hout:=born_out e _ hnd he
    have e3:(leftOf es seen).toList.filter (fun x=>decide (x.born≠e.born)) = (leftOf es (seen.push e.born)).toList:=by
      unfold leftOf
      rw [Array.toList_filter,Array.toList_filter,List.filter_filter]
      congr 1
      funext x
      simp only [Array.contains_push,ne_eq]
      rw [Bool.eq_iff_iff]
      simp only [Bool.and_eq_true,decide_eq_true_eq,Bool.not_eq_true',Bool.or_eq_false_iff,beq_eq_false_iff_ne,ne_eq]
      constructor
      · rintro ⟨a,c⟩; exact ⟨c,fun e'=>a e'⟩
      · rintro ⟨a,c⟩; exact ⟨fun e'=>c e',a⟩
    rw [e3] at hout
    have hp:=h2.perm
    have hp2:(MVal.val k :: (leftOf es (seen.push e.born)).toList.map (·.key)).Perm ((leftOf es seen).toList.map (·.key)):=by
      have:=(hout.map (·.key)).symm
      rw [List.map_cons,hk] at this
      exact this
    refine ⟨_,_,h5,hev,.inr ⟨k,e.val,hkm,by rw [hk],?_,mapItL_iff.2 ⟨es,cl,seen,e,h1,⟨?_⟩,hes,hk,rfl,hst.swap⟩⟩⟩
    · have:=hp.length_eq
      have l2:=hp2.length_eq
      simp at this l2; omega
    · refine List.Perm.trans ?_ hp
      rw [List.map_append,List.map_cons,List.map_nil,List.append_assoc]
      exact List.Perm.append_left _ hp2
theorem map_entry {k:κ} {u:Value} (h:St w (mapItL b r m ks k u :: L)):RunS P (Instr.entry (.pointer (some ⟨r,0,none⟩))) w fun v w'=>v = .tuple #[MVal.val k,u]∧w' = w:=by
  obtain ⟨es,cl,seen,e,h1,h2,hes,hk,hu,h3⟩:=mapItL_iff.1 h
  have:=run_entry_at (P:=P) w r b cl seen es cl e h3.swap.get h3.get hes h1.nd
  rw [hk,hu] at this
  exact ⟨_,_,this,Ev.refl _,rfl,rfl⟩
end
end Go.V
set_option linter.unusedVariables false
set_option maxRecDepth 4000
set_option linter.unusedSectionVars false
namespace Go.V
section
variable {κ α : Type} [DecidableEq κ] {w:World} {L:List Asn} {b sz:Nat} {f:List α→List Value} {s t:κ}
abbrev Lq (α : Type):=(Option Addr × Nat) × List α
def slQ (q:Lq α):Value:=.slice q.1.1 q.2.length q.1.2
def owQ (sz:Nat) (f:List α→List Value) (q:Lq α):Asn:=own sz q.1.1 q.2.length q.1.2 (f q.2)
def mV (ps:List (κ × Lq α)):List (κ × Value):=ps.map fun q=>(q.1,slQ q.2)
def mO (sz:Nat) (f:List α→List Value) (ps:List (κ × Lq α)):List Asn:=ps.map fun q=>owQ sz f q.2
def getQ (s:κ):List (κ × Lq α)→Option (Lq α)
  | []=>none
  | (a,q) :: m=>if s = a then some q else getQ s m
def getK (s:κ) (ps:List (κ × Lq α)):List α:=match getQ s ps with | some q=>q.2 | none=>[]
def putK (s:κ) (q:Lq α):List (κ × Lq α)→List (κ × Lq α)
  | []=>[(s,q)]
  | (a,u) :: m=>if s = a then (s,q) :: m else (a,u) :: putK s q m
theorem assoc_mV:∀ ps:List (κ × Lq α),assoc s (mV ps) = (getQ s ps).map slQ
  | []=>rfl
  | (a,q) :: m=>by
    show (if s = a then some (slQ q) else assoc s (mV m)) = _
    unfold getQ
    split
    · rfl
    · exact assoc_mV m
theorem mV_put (q:Lq α):∀ ps:List (κ × Lq α),mV (putK s q ps) = aput s (slQ q) (mV ps)
  | []=>rfl
  | (a,u) :: m=>by
    unfold putK
    show _ = (if s = a then (s,slQ q) :: mV m else (a,slQ u) :: aput s (slQ q) (mV m))
    split
    · rfl
    · rw [← mV_put q m]; rfl
theorem getQ_put (q:Lq α):∀ ps:List (κ × Lq α),getQ t (putK s q ps) = if t = s then some q else getQ t ps
  | []=>by simp [putK,getQ]
  | (a,u) :: m=>by
    unfold putK
    by_cases h:s = a
    · subst h
      by_cases ht:t = s <;> simp [getQ,ht]
    · rw [if_neg h]
      unfold getQ
      rw [getQ_put q m]
      by_cases ht:t = a
      · subst ht; simp [Ne.symm h]
      · simp [ht]
theorem getK_put (q:Lq α) (ps:List (κ × Lq α)):getK t (putK s q ps) = if t = s then q.2 else getK t ps:=by
  unfold getK; rw [getQ_put]; by_cases h:t = s <;> simp [h]
theorem putK_keys (q:Lq α):∀ ps:List (κ × Lq α),(putK s q ps).map Prod.fst = if s∈ps.map Prod.fst then ps.map Prod.fst else ps.map Prod.fst ++ [s]
  | []=>by simp [putK]
  | (a,u) :: m=>by
    unfold putK
    by_cases h:s = a
    · subst h; simp
    · rw [if_neg h,List.map_cons,putK_keys q m]
      by_cases h2:s∈m.map Prod.fst
      · simp [h,h2]
      · simp [h,h2]
theorem putK_nd (q:Lq α) {ps:List (κ × Lq α)} (h:(ps.map Prod.fst).Nodup):((putK s q ps).map Prod.fst).Nodup:=by
  rw [putK_keys]
  split
  · exact h
  · rename_i hn
    rw [List.nodup_append]
    exact ⟨h,by simp,fun a ha c hc e=>by simp at hc; subst hc; subst e; exact hn ha⟩
theorem getQ_mem {q:Lq α}:∀ {ps:List (κ × Lq α)},getQ s ps = some q→(s,q)∈ps
  | [],h=>by cases h
  | (a,u) :: m,h=>by
    unfold getQ at h
    split at h
    · rename_i e; subst e; cases h; simp
    · exact List.mem_cons_of_mem _ (getQ_mem h)
theorem getQ_iff {ps:List (κ × Lq α)}:(getQ s ps).isSome = true↔s∈ps.map Prod.fst:=by
  induction ps with
  | nil=>simp [getQ]
  | cons x m ih =>
    obtain ⟨a,u⟩:=x
    unfold getQ
    by_cases h:s = a
    · simp [h]
    · rw [if_neg h,ih]; simp [h]
theorem mO_split (sz:Nat) (f:List α→List Value) (s:κ):∀ ps:List (κ × Lq α),
    (∃ q M,getQ s ps = some q∧(mO sz f ps).Perm (owQ sz f q :: M)∧∀ q',(mO sz f (putK s q' ps)).Perm (owQ sz f q' :: M))∨(getQ s ps = none∧∀ q',(mO sz f (putK s q' ps)).Perm (owQ sz f q' :: mO sz f ps))
  | []=>.inr ⟨rfl,fun q'=>.refl _⟩
  | (a,u) :: m=>by
    by_cases h:s = a
    · refine .inl ⟨u,mO sz f m,by simp [getQ,h],.refl _,fun q'=>?_⟩
      simp only [putK,h,if_true]; exact .refl _
    · rcases mO_split sz f s m with ⟨q,M,h1,h2,h3⟩ | ⟨h1,h2⟩
      · refine .inl ⟨q,owQ sz f u :: M,by simp [getQ,h,h1],(List.Perm.cons _ h2).trans (.swap _ _ _),fun q'=>?_⟩
        simp only [putK,h,if_false]
        exact (List.Perm.cons _ (h3 q')).trans (.swap _ _ _)
      · refine .inr ⟨by simp [getQ,h,h1],fun q'=>?_⟩
        simp only [putK,h,if_false]
        exact (List.Perm.cons _ (h2 q')).trans (.swap _ _ _)
theorem mS_take (hf:f [] = []) {ps:List (κ × Lq α)} (h:St w (sta (mO sz f ps) :: L)) (s:κ):∃ (q:Lq α) (M:List Asn),(assoc s (mV ps)).getD (.slice none 0 0) = slQ q∧q.2 = getK s ps∧St w (owQ sz f q :: sta M :: L) ∧
    ∀ (w' : World) (L' : List Asn) (q' : Lq α),St w' (owQ sz f q' :: sta M :: L')→St w' (sta (mO sz f (putK s q' ps)) :: L'):=by
  have back:∀ (M:List Asn) (q' : Lq α),(mO sz f (putK s q' ps)).Perm (owQ sz f q' :: M)→∀ (w' : World) (L' : List Asn),St w' (owQ sz f q' :: sta M :: L')→St w' (sta (mO sz f (putK s q' ps)) :: L'):=fun M q' hp w' L' h=>by
    have h1:=St.flat.1 h.swap
    have h2:St w' ((owQ sz f q' :: M) ++ L'):=h1.perm List.perm_middle
    exact St.flat.2 (h2.perm (hp.symm.append_right _))
  rcases mO_split sz f s ps with ⟨q,M,h1,h2,h3⟩ | ⟨h1,h2⟩
  · refine ⟨q,M,by rw [assoc_mV,h1]; rfl,by unfold getK; rw [h1],?_,fun w' L' q'=>back M q' (h3 q') w' L'⟩
    have h4:=(St.flat.1 h).perm (h2.append_right _)
    have h5:St w (M ++ (owQ sz f q :: L)):=h4.perm List.perm_middle.symm
    exact (St.flat.2 h5).swap
  · refine ⟨((none,0),[]),mO sz f ps,by rw [assoc_mV,h1]; rfl,by unfold getK; rw [h1],?_,fun w' L' q'=>back _ q' (h2 q') w' L'⟩
    unfold owQ; rw [hf]; exact own_nil sz h
theorem nthA_get:∀ {L:List Asn} {i:Nat} (h:i < L.length),nthA L i = L[i]
  | [],i,h=>by simp at h
  | A :: L,0,_=>rfl
  | A :: L,i + 1,h=>by
    show nthA L i = _
    rw [nthA_get (L:=L) (by simpa using h)]; rfl
theorem mS_read {ps:List (κ × Lq α)} {h:Hp} (hs:starL (sta (mO sz f ps) :: L) h) {q:Lq α} (hq:getQ s ps = some q):∃ h1,sub h1 h∧owQ sz f q h1:=by
  have h2:=starL_flat.1 hs
  have hm:owQ sz f q∈mO sz f ps:=List.mem_map.2 ⟨(s,q),getQ_mem hq,rfl⟩
  obtain ⟨i,hi⟩:=List.getElem?_of_mem hm
  have hlt:=(List.getElem?_eq_some_iff.1 hi).1
  obtain ⟨h1,s1,ha⟩:=starL_nth i (by rw [List.length_append]; omega) h2
  have e:nthA (mO sz f ps ++ L) i = owQ sz f q:=by
    rw [nthA_get (by rw [List.length_append]; omega),List.getElem_append_left hlt]
    exact (List.getElem?_eq_some_iff.1 hi).2
  rw [e] at ha
  exact ⟨h1,s1,ha⟩
end
section
variable {κ : Type} [DecidableEq κ] [MVal κ] {P:Program} {Ty:TypeId→Option TyI} {w:World} {b:Nat} {m:List (κ × Value)} {h:Hp}
theorem mS_put {α : Type} {sz:Nat} {f:List α→List Value} {L:List Asn} {s:κ} {ps:List (κ × Lq α)} {M:List Asn} (back:∀ (w' : World) (L' : List Asn) (q' : Lq α),St w' (owQ sz f q' :: sta M :: L')→St w' (sta (mO sz f (putK s q' ps)) :: L'))
    {o:Option Addr} {n c:Nat} (us:List α) {vs:List Value} (hn:n = us.length) (hv:vs = f us) (h:St w (mapA b (aput s (.slice o n c) (mV ps)) :: own sz o n c vs :: sta M :: L)) :
    St w (mapA b (mV (putK s ((o,c),us) ps)) :: sta (mO sz f (putK s ((o,c),us) ps)) :: L):=by
  subst hn; subst hv
  have e:mV (putK s ((o,c),us) ps) = aput s (.slice o us.length c) (mV ps):=mV_put _ _
  rw [e]
  exact (back w _ ((o,c),us) (h.pick 3 [1,2,0])).swap
theorem starL_one {A:Asn} (hA:A h):starL [A] h:=⟨h,fun _=>none,fun _=>.inr rfl,sub.refl _,fun _ _ h=>(nomatch h),hA,trivial⟩
theorem mapA_mono {h' : Hp} (s:sub h h') (hm:mapA b m h):mapA b m h':=by
  obtain ⟨es,cl,h1,h2⟩:=hm
  exact ⟨es,cl,s _ _ h1,h2⟩
theorem map_lookupHP (hm:mapA b m h) (s:sub h (hp w)) (hT:TyOk P Ty) {t kt et:TypeId} {i:TyI} {z:Value} (hk:kdOfT Ty t = .map kt et) (hkt:KeyP P kt κ) (hi:Ty et = some i) (hz:i.zero = some z) (k:κ) :
    RunS P (Instr.lookup t (.map (some b)) (MVal.val k) false) w fun v w'=>v = (assoc k m).getD z∧w' = w :=
  map_lookupP (L:=[]) hT hk hkt hi hz (starL_one (mapA_mono s hm)) k
end
section
variable {κ : Type} [DecidableEq κ] [MKey κ] {P:Program} {Ty:TypeId→Option TyI} {w:World} {b:Nat} {m:List (κ × Value)} {h:Hp}
theorem map_lookupH (hm:mapA b m h) (s:sub h (hp w)) (hT:TyOk P Ty) {t kt et:TypeId} {i:TyI} {z:Value} (hk:kdOfT Ty t = .map kt et) (hkt:P.underlying kt = some (MKey.kd κ)) (hi:Ty et = some i) (hz:i.zero = some z) (k:κ) :
    RunS P (Instr.lookup t (.map (some b)) (MVal.val k) false) w fun v w'=>v = (assoc k m).getD z∧w' = w:=map_lookupHP hm s hT hk (KeyP.of_und hkt) hi hz k
end
end Go.V
set_option linter.unusedVariables false
set_option maxRecDepth 4000
namespace Go.V
def byN (g:GramT) (j:Nat) (s:Int):List Nat:=(List.range j).filter fun i=>decide ((g.prods[i]?.map ProdT.left) = some s)
abbrev byL (g:GramT) (s:Int):List Nat:=byN g g.prods.length s
theorem byN_succ {g:GramT} {j:Nat} {p:ProdT} (h:g.prods[j]? = some p) (s:Int):byN g (j + 1) s = byN g j s ++ if s = p.left then [j] else []:=by
  unfold byN
  rw [List.range_succ,List.filter_append]
  congr 1
  by_cases e:s = p.left
  · subst e; simp [h]
  · simp [h,e,Ne.symm e]
theorem byN_len (g:GramT) (j:Nat) (s:Int):(byN g j s).length≤j:=by
  have:=List.length_filter_le (fun i=>decide ((g.prods[i]?.map ProdT.left) = some s)) (List.range j)
  rwa [List.length_range] at this
theorem byL_mem {g:GramT} {s:Int} {i:Nat}:i∈byL g s↔∃ p,g.prods[i]? = some p∧p.left = s:=by
  unfold byL byN
  rw [List.mem_filter,List.mem_range,decide_eq_true_eq]
  constructor
  · rintro ⟨h1,h2⟩
    refine ⟨g.prods[i],List.getElem?_eq_getElem h1,?_⟩
    rw [List.getElem?_eq_getElem h1] at h2
    exact Option.some.inj h2
  · rintro ⟨p,h1,rfl⟩
    exact ⟨(List.getElem?_eq_some_iff.1 h1).1,by rw [h1]; rfl⟩
structure MkR (h:Hp) (g:GramT) (k:Nat):Prop where
  ex:∃ (x:GA) (kb:Nat) (m:List (Int × Value)),rowH h (aM k) (x.cells ++ [.map (some kb)])∧gR h g x∧mapA kb m h ∧
    ∀ s:Int,∃ (a:Option Addr) (c:Nat),(assoc s m).getD (.slice none 0 0) = .slice a (byL g s).length c∧rdS h ((byL g s).map Int.ofNat) a (byL g s).length
theorem MkR.mono {h h' : Hp} {g:GramT} {k:Nat} (s:sub h h') (r:MkR h g k):MkR h' g k:=by
  obtain ⟨x,kb,m,h1,h2,h3,h4⟩:=r.ex
  exact ⟨x,kb,m,h1.mono s,h2.mono s,mapA_mono s h3,fun z=>by obtain ⟨a,c,e,r⟩:=h4 z; exact ⟨a,c,e,r.mono s⟩⟩
end Go.V
namespace Go.Proofs.YtndaepmjkbmjmaaGreatDoor
open Go.V
variable {w:World} {L:List Asn} {a:Option Addr} {l c:Nat} {xs:List ItemT} {g:GramT} {x:GA}
theorem y_ofA (hg:gR (hp w) g x) (hb:okG g):Run Tryz.prog n_lr0_of [.agg ⟨x.cells⟩] w fun v w'=>∃ (k kb:Nat) (ps:List (Int × Lq Int)),v = .pointer (some (aM k))∧(∀ s,getK s ps = (byL g s).map Int.ofNat)∧St w' (cel k (x.cells ++ [.map (some kb)]) :: mapA kb (mV ps) :: sta (mO 1 iv ps) :: all w):=by
  refine run_lr0_of _ _ _ _ _ _ _ _ _ _ _ _ _ w _ ?_
  refine gbox hg fun k1 w1 gw hg B=>?_
  have pl:=hg.p.1
  obtain ⟨_,_,_,b4,_,_,_⟩:=hb
  refine ⟨_,_,_,_,_,_,_,_,_,_,_,_,_,B.row (sub.refl _),?_⟩
  refine new_i (St.all w1) fun kb w2 h=>?_
  have h:=mapA_new (κ:=Int) h
  refine newC_i (vs:=x.cells ++ [.map (some kb)]) h fun km w3 h=>?_
  refine ⟨_,_,_,B.c4 (rdH 2 h.l),fun z w'=>∃ (j:Nat) (ps:List (Int × Lq Int)),z = j∧j≤x.pl∧(∀ s,getK s ps = (byN g j s).map Int.ofNat)∧St w' (cel km (x.cells ++ [.map (some kb)]) :: mapA kb (mV ps) :: sta (mO 1 iv ps) :: all w1),fun z _=>x.pl - z.toNat,
    ⟨0,[],rfl,Nat.zero_le _,fun s=>rfl,(show St w3 (cel km (x.cells ++ [.map (some kb)]) :: mapA kb ([] : List (Int × Value)) :: sta [] :: all w1) from by
      have h:=h.pick 2 [1,0]
      exact ((St.flat (M:=[])).2 h).pick 3 [2,1,0])⟩,?_⟩
  clear h
  rintro _ _ w4 ⟨j,ps,rfl,hj,hps,h⟩
  have s4:sub (hp w1) (hp w4):=rdH 3 h.l
  refine br_intro (fun h1=>?_) fun h1=>?_
  rotate_left
  · have h1:j = x.pl:=by have:=of_decide_eq_false h1; omega
    subst h1
    rw [← pl] at hps
    exact ⟨km,kb,ps,rfl,hps,St.on (N:=[_,_,_]) h (has_i gw)⟩
  have h1:j < x.pl:=by have:=of_decide_eq_true h1; omega
  obtain ⟨p,ad,vs,hp1,hpa,hp2,ra,rl,rc,rfl,hrc,hp3⟩:=hg.p.get h1
  refine idx_n hpa h1 ⟨_,_,_,_,_,hp2.at s4 rfl,newC_i h fun k16 w5 h=>stR_i h rfl (by simp [oneC]) fun w6 h=>?_⟩
  intro w7 hd
  have h:=h.eq (drawn_hp hd)
  have cm:∀ {u:World} {L' : List Asn},St u (cel km (x.cells ++ [.map (some kb)]) :: L')→u.cell? ((aM km).add 5) = some (.map (some kb)):=fun h=>(rdCel 0 h.l).cell (sub.refl _) (j:=5) rfl
  have cp:∀ {u:World} {L' : List Asn},St u (cel k16 [.int .i64 p.left,.slice ra rl rc,.int .i64 p.level] :: L')→u.cell? (aM k16) = some (.int .i64 p.left):=fun h=>(rdCel 0 h.l).cell0 (sub.refl _)
  refine ⟨fun u=>u.cell? ((aM km).add 5) = some (.map (some kb))∧u.cell? (aM k16) = some (.int .i64 p.left),⟨cm (h.pick 2 [1]),cp h⟩,_,fun u hu=>hu.1,_,fun u hu=>hu.2,_,fun u hu=>hu.1,_,fun u hu=>hu.2,?_,?_⟩
  · refine (map_lookup (κ:=Int) tyOk (rfl:kdOfT Ty _ = .map _ _) und_int rfl rfl (h.pick 3 [2]) p.left).mono ?_
    rintro _ _ ⟨rfl,rfl⟩
    obtain ⟨q,M,e1,e2,hq,back⟩:=mS_take rfl (h.pick 4 [3,0,1,2]) p.left
    have hql:q.2.length≤j:=by rw [e2,hps,List.length_map]; exact byN_len _ _ _
    refine ⟨_,_,_,e1,⟨cm (hq.pick 4 [3]),cp (hq.pick 3 [2])⟩,newC_i hq fun k19 w13 h=>⟨⟨cm (h.pick 5 [4]),cp (h.pick 4 [3])⟩,?_⟩⟩
    refine (app_one (us:=iv q.2) tyOk (rfl:kdOfT Ty _ = .slice _) (rfl:kdOfT Ty _ = .slice _) rfl rfl rfl h rfl (by simp [oneC]) (by show (q.2.length + 1) * 8≤_; omega) (by omega)).mono ?_
    rintro _ w14 ⟨o,c',rfl,h⟩
    refine ⟨_,_,_,rfl,⟨cm (h.pick 5 [4]),cp (h.pick 4 [3])⟩,(map_update (κ:=Int) tyOk (rfl:kdOfT Ty _ = .map _ _) und_int (h.pick 7 [5,0,2,4,6]) p.left _).mono ?_⟩
    rintro _ w15 h
    have h:=mS_put back (q.2 ++ [(j:Int)]) (by simp) (by simp [iv]) h
    exact ⟨⟨by omega,by omega⟩,⟨j + 1,_,by simp,h1,fun s=>by rw [getK_put,byN_succ hp1,e2,hps]; by_cases e:s = p.left <;> simp [e,hps],h.pick 4 [2,0,1,3]⟩,msr h1⟩
  · refine newC_i h fun k22 w16 h=>⟨⟨cm (h.pick 3 [2]),cp (h.pick 2 [1])⟩,(map_lookup (κ:=Int) tyOk (rfl:kdOfT Ty _ = .map _ _) und_int rfl rfl (h.pick 4 [3]) p.left).mono ?_⟩
    rintro _ _ ⟨rfl,rfl⟩
    obtain ⟨q,M,e1,e2,hq,back⟩:=mS_take rfl (h.pick 5 [4,0,1,2,3]) p.left
    have hql:q.2.length≤j:=by rw [e2,hps,List.length_map]; exact byN_len _ _ _
    refine ⟨_,_,_,e1,⟨cm (hq.pick 5 [4]),cp (hq.pick 4 [3])⟩,?_⟩
    refine (app_one (us:=iv q.2) tyOk (rfl:kdOfT Ty _ = .slice _) (rfl:kdOfT Ty _ = .slice _) rfl rfl rfl (hq.pick 3 [2,0,1]) rfl (by simp [oneC]) (by show (q.2.length + 1) * 8≤_; omega) (by omega)).mono ?_
    rintro _ w14 ⟨o,c',rfl,h⟩
    refine ⟨_,_,_,rfl,⟨cm (h.pick 5 [4]),cp (h.pick 4 [3])⟩,(map_update (κ:=Int) tyOk (rfl:kdOfT Ty _ = .map _ _) und_int (h.pick 7 [5,0,2,4,6]) p.left _).mono ?_⟩
    rintro _ w15 h
    have h:=mS_put back (q.2 ++ [(j:Int)]) (by simp) (by simp [iv]) h
    exact ⟨⟨by omega,by omega⟩,⟨j + 1,_,by simp,h1,fun s=>by rw [getK_put,byN_succ hp1,e2,hps]; by_cases e:s = p.left <;> simp [e,hps],h.pick 4 [2,0,1,3]⟩,msr h1⟩
theorem mk_of {h:Hp} {k kb:Nat} {ps:List (Int × Lq Int)} (hg:gR h g x) (hps:∀ s,getK s ps = (byL g s).map Int.ofNat) (hs:starL (cel k (x.cells ++ [.map (some kb)]) :: mapA kb (mV ps) :: sta (mO 1 iv ps) :: L) h):MkR h g k:=by
  obtain ⟨hm,sm,hA⟩:=rdA 1 hs
  refine ⟨x,kb,mV ps,rdCel 0 hs,hg,mapA_mono sm hA,fun s=>?_⟩
  have e:=hps s
  cases hq:getQ s ps with
  | none =>
    have e0:getK s ps = []:=by unfold getK; rw [hq]
    rw [e0] at e
    have e1:byL g s = []:=List.map_eq_nil_iff.1 e.symm
    rw [assoc_mV,hq,e1]
    exact ⟨none,0,rfl,rdS.nil⟩
  | some q =>
    have e0:getK s ps = q.2:=by unfold getK; rw [hq]
    rw [e0] at e
    obtain ⟨hq1,sq,ho⟩:=mS_read (starL_tail (starL_tail hs)) hq
    have hl:q.2.length = (byL g s).length:=by rw [e,List.length_map]
    refine ⟨q.1.1,q.1.2,by rw [assoc_mV,hq]; show slQ q = _; unfold slQ; rw [hl],?_⟩
    rw [← e,← hl]
    exact (rdI_of rfl (own_rdVh ho)).mono sq
def fitsB (g:GramT) (I:List ItemT):Prop:=∀ x∈I,fitI g x
theorem y_behind {k:Nat} {y:ItemT} (hm:MkR (hp w) g k) (hf:fitI g y) :
    Run Tryz.prog n_lr0_maker_behind [.pointer (some (aM k)),.agg (encT y).toArray] w fun v w'=>v = .int .i64 (aft g y)∧Gr w w':=by
  obtain ⟨x,kb,m,h1,hg,_,_⟩:=hm.ex
  obtain ⟨h2,h3,p,hpr,h4⟩:=hf
  refine run_lr0_maker_behind _ _ _ w _ (newC_i (St.all w) fun k1 w1 h=>?_)
  intro w2 hd
  have h:=h.eq (drawn_hp hd)
  have g2:Gr w w2:=h.gone1
  have r2:rowH (hp w2) (aM k1) [.int .i64 y.prod,.int .i64 y.dot]:=rdCel 0 h.l
  obtain ⟨n,hn⟩ : ∃ n:Nat,y.prod = n:=⟨y.prod.toNat,by omega⟩
  obtain ⟨d,hdn⟩ : ∃ d:Nat,y.dot = d:=⟨y.dot.toNat,by omega⟩
  have hpn:g.prods[n]? = some p:=by rw [hn] at hpr; exact hpr
  have hnl:n < x.pl:=by have:=(List.getElem?_eq_some_iff.1 hpn).1; have:=hg.p.1; omega
  obtain ⟨p',pad,vs,hp1,hpa,hp2,ra,rl,rc,rfl,hrc,hp3⟩:=hg.p.get hnl
  rw [hpn] at hp1; cases hp1
  have hrl:=hp3.1
  refine ⟨fun u=>Gr w2 u,Gr.refl _,x.pa,x.pl,x.pc,fun u s=>h1.cell (sub.trans g2 s) (j:=4) rfl,_,fun u s=>r2.cell0 s,?_⟩
  rw [hn]
  refine idx_n hpa hnl ⟨_,_,_,fun u s=>hp2.cell (sub.trans g2 s) (j:=1) rfl,_,r2.cell (sub.refl _) (j:=1) rfl,?_⟩
  rw [aft_some hpr,hdn,Int.toNat_natCast]
  refine br_intro (fun h5=>?_) fun h5=>?_
  · have h5:d = rl:=by have:=eq_of_beq h5; omega
    rw [List.getD_eq_getElem?_getD,List.getElem?_eq_none (by omega)]
    exact ⟨rfl,g2⟩
  · have h5:d≠rl:=fun e=>by subst e; simp at h5
    obtain ⟨v,ad,hv,hva,cv⟩:=hp3.get1 (i:=d) (by omega)
    refine ⟨_,(r2.cell (sub.refl _) (j:=1) rfl),?_⟩
    show idx ra rl y.dot 1 _
    rw [hdn]
    refine idx_i hva (by omega) ⟨v,cv _ g2,?_⟩
    rw [List.getD_eq_getElem?_getD,hv]
    exact ⟨rfl,g2⟩
end Go.Proofs.YtndaepmjkbmjmaaGreatDoor
set_option linter.unusedVariables false
set_option maxRecDepth 4000
namespace Go.V
theorem lt63 {n:Nat} (h:(n + 1) * 16≤140737488355328):n < 9223372036854775807:=by omega
theorem nodup_len {α : Type}:∀ {l m:List α},l.Nodup→(∀ x∈l,x∈m)→l.length≤m.length
  | [],m,_,_=>Nat.zero_le _
  | a :: l,m,h,hs=>by
    obtain ⟨m1,m2,rfl⟩:=List.append_of_mem (hs a (by simp))
    rw [List.nodup_cons] at h
    have:=nodup_len (l:=l) (m:=m1 ++ m2) h.2 fun x hx=>by
      have h1:=hs x (by simp [hx])
      rw [List.mem_append,List.mem_cons] at h1
      rw [List.mem_append]
      rcases h1 with h1 | rfl | h1
      · exact .inl h1
      · exact absurd hx h.1
      · exact .inr h1
    simp at this ⊢; omega
def it0 (i:Nat):ItemT:=⟨(i:Int),0⟩
theorem ClM.or {g:GramT} {I:List ItemT} {x:ItemT} (h:ClM g I x):x∈I∨∃ i,i < g.prods.length∧x = it0 i:=by
  cases h with
  | base h=>exact .inl h
  | step _ _ hp _=>exact .inr ⟨_,(List.getElem?_eq_some_iff.1 hp).1,rfl⟩
theorem cls_len (g:GramT) (I:List ItemT):(cls g I).length≤I.length + g.prods.length:=by
  have:=nodup_len (m:=I ++ (List.range g.prods.length).map it0) (cls_srt (g:=g) (I:=I)).nodup fun x hx=>by
    rw [List.mem_append]
    rcases (cls_mem.1 hx).or with h | ⟨i,hi,rfl⟩
    · exact .inl h
    · exact .inr (List.mem_map.2 ⟨i,List.mem_range.2 hi,rfl⟩)
  simpa using this
theorem rdIt_rdV {h:Hp} {xs:List ItemT} {a:Option Addr} {l:Nat} (r:rdS h xs a l):rdV a (tv xs) h:=by
  cases xs with
  | nil=>exact .inl rfl
  | cons x0 xs' =>
    obtain ⟨ad,vs,rfl,_⟩:=r.2 0 x0 rfl
    refine .inr ⟨ad,rfl,rowH_flat (n:=2) (fun _=>rfl) _ ad fun i x hx=>?_⟩
    obtain ⟨ad',vs,e,h2,h3⟩:=r.2 i x hx
    cases e
    rw [show vs = encT x from h3] at h2
    exact h2
theorem tv_one (xs:List ItemT):∀ v∈tv xs,oneC v = true:=fun v hv=>by
  obtain ⟨x,_,hv⟩:=List.mem_flatMap.1 hv
  rcases List.mem_cons.1 hv with rfl | hv
  · rfl
  · rw [List.mem_singleton] at hv; subst hv; rfl
theorem app_rdV {P:Program} {Ty:TypeId→Option TyI} {w:World} {L:List Asn} {e e' : TypeId} (hT:TyOk P Ty) {t tx ty:TypeId} {i:TyI} {z:Value} (hk:kdOfT Ty t = .slice e) (hkx:kdOfT Ty tx = .slice e') (hi:Ty e = some i) (hz:i.zero = some z) (hzs:(cellsOf z).length = i.size)
    {a a2:Option Addr} {l c n c2:Nat} {us news:List Value} (h:St w (own i.size a l c us :: L)) (hn:news.length = n * i.size) (h0:0 < i.size) (hx:rdV a2 news (hp w)) (h1:∀ u∈news,oneC u = true) (hb:(l + n) * i.bytes≤140737488355328) (h63:l + n≤9223372036854775807) :
    RunS P (Builtin.append_ (Array.mk [t,tx]) ty (Array.mk [.slice a l c,.slice a2 n c2])) w fun v w'=>∃ a' c',v = .slice a' (l + n) c'∧St w' (own i.size a' (l + n) c' (us ++ news) :: L):=by
  refine app_own' hT hk hi hz hzs h (n:=n) (news:=news) (src_slice hT hkx hn ?_ h1) hb h63
  rcases hx with rfl | ⟨ad,rfl,hc⟩
  · left
    rcases Nat.eq_zero_or_pos n with h | h
    · exact h
    · have:=Nat.mul_pos h h0; simp at hn; omega
  · exact .inr ⟨ad,rfl,fun j u hj=>cellH_w (hc j u hj)⟩
structure ClsI (g:GramT) (I:List ItemT) (m:List (Int × Value)) (H:List Int) (i:Nat) (ls:List ItemT):Prop where
  nd:H.Nodup
  eq:ls = I ++ (H.flatMap (byL g)).map it0
  of:∀ s∈H,0≤s∧∃ y,ClM g I y∧aft g y = s
  mp:∀ s,(assoc s m).getD (.int .i64 0) = .int .i64 (if s∈H then 1 else 0)
  dn:∀ (j:Nat) y,j < i→ls[j]? = some y→0≤aft g y→aft g y∈H
section
variable {g:GramT} {I ls:List ItemT} {m:List (Int × Value)} {H:List Int} {i:Nat}
theorem flat_nd:∀ {H:List Int},H.Nodup→(H.flatMap (byL g)).Nodup
  | [],_=>by simp
  | s :: H,h=>by
    rw [List.nodup_cons] at h
    rw [List.flatMap_cons,List.nodup_append]
    refine ⟨List.nodup_range.filter _,flat_nd h.2,fun a ha b hb e=>?_⟩
    subst e
    obtain ⟨t,ht,hb⟩:=List.mem_flatMap.1 hb
    obtain ⟨p,h1,rfl⟩:=byL_mem.1 ha
    obtain ⟨q,h2,rfl⟩:=byL_mem.1 hb
    rw [h1] at h2; cases h2
    exact h.1 ht
theorem ClsI.len (h:ClsI g I m H i ls):ls.length≤I.length + g.prods.length:=by
  have:=nodup_len (m:=List.range g.prods.length) (flat_nd (g:=g) h.nd) fun x hx=>by
    obtain ⟨t,_,hb⟩:=List.mem_flatMap.1 hx
    obtain ⟨p,h1,_⟩:=byL_mem.1 hb
    exact List.mem_range.2 (List.getElem?_eq_some_iff.1 h1).1
  rw [List.length_range] at this
  rw [h.eq,List.length_append,List.length_map]; omega
theorem ClsI.sound (h:ClsI g I m H i ls) {x:ItemT} (hx:x∈ls):ClM g I x:=by
  rw [h.eq,List.mem_append] at hx
  rcases hx with hx | hx
  · exact .base hx
  · obtain ⟨n,hn,rfl⟩:=List.mem_map.1 hx
    obtain ⟨s,hs,hn⟩:=List.mem_flatMap.1 hn
    obtain ⟨p,hp,e⟩:=byL_mem.1 hn
    obtain ⟨h0,y,hy,e2⟩:=h.of s hs
    exact .step hy (by omega) hp (by rw [e,e2])
theorem ClsI.start:ClsI g I [] [] 0 I:=⟨by simp,by simp,fun s hs=>by simp at hs,fun s=>by simp [assoc],fun j y hj=>by omega⟩
theorem ClsI.skip (h:ClsI g I m H i ls) {y:ItemT} (hy:ls[i]? = some y) (hs:aft g y < 0∨aft g y∈H):ClsI g I m H (i + 1) ls :=
  ⟨h.nd,h.eq,h.of,h.mp,fun j z hj hz h0=>by
    by_cases e:j = i
    · subst e; rw [hy] at hz; cases hz
      rcases hs with hs | hs
      · omega
      · exact hs
    · exact h.dn j z (by omega) hz h0⟩
theorem ClsI.more (h:ClsI g I m H i ls) {y:ItemT} (hy:ls[i]? = some y) (h0:0≤aft g y) (hs:aft g y∉H):ClsI g I (aput (aft g y) (.int .i64 1) m) (H ++ [aft g y]) (i + 1) (ls ++ (byL g (aft g y)).map it0):=by
  have hm:=List.mem_of_getElem? hy
  refine ⟨?_,?_,fun s hs2=>?_,fun s=>?_,fun j z hj hz h1=>?_⟩
  · rw [List.nodup_append]
    exact ⟨h.nd,by simp,fun a ha b hb e=>by simp at hb; subst hb; subst e; exact hs ha⟩
  · rw [List.flatMap_append,List.map_append,← List.append_assoc,← h.eq]; simp
  · rw [List.mem_append,List.mem_singleton] at hs2
    rcases hs2 with hs2 | rfl
    · exact h.of s hs2
    · exact ⟨h0,y,h.sound hm,rfl⟩
  · rw [assoc_put]
    by_cases e:s = aft g y
    · simp [e]
    · rw [if_neg e,h.mp s]; simp [e]
  · rw [List.mem_append,List.mem_singleton]
    have hjl:j < ls.length:=by have:=(List.getElem?_eq_some_iff.1 hy).1; omega
    rw [List.getElem?_append_left hjl] at hz
    by_cases e:j = i
    · subst e; rw [hy] at hz; cases hz; exact .inr rfl
    · exact .inl (h.dn j z (by omega) hz h1)
theorem ClsI.fin (h:ClsI g I m H i ls) (hi:i = ls.length):lay ls = cls g I:=by
  refine cls_one (lay_srt _) fun x=>?_
  rw [lay_mem]
  refine ⟨h.sound,fun hx=>?_⟩
  induction hx with
  | base hx=>rw [h.eq]; exact List.mem_append_left _ hx
  | @step y k p _ h1 h2 h3 ih =>
    obtain ⟨j,hj⟩:=List.getElem?_of_mem ih
    have:=h.dn j y (by have:=(List.getElem?_eq_some_iff.1 hj).1; omega) hj h1
    rw [h.eq,List.mem_append]
    exact .inr (List.mem_map.2 ⟨k,List.mem_flatMap.2 ⟨_,this,byL_mem.2 ⟨p,h2,h3⟩⟩,rfl⟩)
end
end Go.V
namespace Go.Proofs.YtndaepmjkbmjmaaGreatDoor
open Go.V
variable {w:World} {L:List Asn} {a:Option Addr} {l c:Nat} {I:List ItemT} {g:GramT}
theorem y_clone (hr:rdS (hp w) I a l) (hb:l * 16≤140737488355328):Run Tryz.prog n_slices_Clone_api_Item_api_Item_ [.slice a l c] w fun v w'=>∃ o c',v = .slice o l c'∧St w' (own 2 o l c' (tv I) :: all w):=by
  have hl:=hr.1
  refine run_slices_Clone_api_Item_api_Item_ _ _ _ w _ (br_intro (fun h=>?_) fun h=>?_)
  · have ha:a = none:=by simpa using h
    subst ha
    have hI:I = []:=by
      cases I with
      | nil=>rfl
      | cons x _=>obtain ⟨ad,_,e,_⟩:=hr.2 0 x rfl; cases e
    subst hI
    have:l = 0:=hl.symm
    subst this
    exact ⟨_,_,rfl,own_nil 2 (St.all w)⟩
  · refine newC_i (St.all w) fun k w1 h=>?_
    have g1:Gr w w1:=h.gone1
    have h:St w1 (own 2 (some (aM k)) 0 0 [] :: all w):=own_some (cs:=[]) h rfl rfl (Nat.le_refl _)
    refine (app_rdV (us:=[]) (news:=tv I) tyOk (rfl:kdOfT Ty _ = .slice _) (rfl:kdOfT Ty _ = .slice _) rfl rfl rfl h (by rw [tv_len,hl]) (by show 0 < 2; decide) (rdIt_rdV (hr.mono g1)) (tv_one I) (by show (0 + l) * 16≤_; omega) (by omega)).mono ?_
    rintro _ w2 ⟨o,c',rfl,h⟩
    refine ⟨_,_,_,rfl,o,c',by simp,?_⟩
    have h2:St w2 (own 2 o (0 + l) c' (tv I) :: all w):=h
    rwa [Nat.zero_add] at h2
set_option maxHeartbeats 2000000 in
theorem y_closure {k:Nat} (hm:MkR (hp w) g k) (hr:rdS (hp w) I a l) (hf:fitsB g I) (hb:(l + g.prods.length + 1) * 16≤140737488355328) :
    Run Tryz.prog n_lr0_maker_closure [.pointer (some (aM k)),.slice a l c] w fun v w'=>∃ o,v = .slice o (cls g I).length (cls g I).length∧St w' (own 2 o (cls g I).length (cls g I).length (tv (cls g I)) :: all w):=by
  have hl:=hr.1
  refine run_lr0_maker_closure _ _ _ _ w _ ((y_clone hr (by omega)).mono ?_)
  rintro _ w1 ⟨o,c',rfl,h⟩
  refine ⟨_,_,_,rfl,new_i h fun kh w2 h=>?_⟩
  have h:=mapA_new (κ:=Int) h
  refine ⟨fun o n c z w'=>∃ (i:Nat) (ls:List ItemT) (m:List (Int × Value)) (H:List Int),z = i∧n = ls.length∧i≤ls.length∧ClsI g I m H i ls∧St w' (own 2 o n c (tv ls) :: mapA kh m :: all w),fun _ _ _ z _=>(l + g.prods.length) - z.toNat,
    ⟨0,I,[],[],rfl,hl.symm,Nat.zero_le _,.start,h.pick 2 [1,0]⟩,?_⟩
  clear h
  rintro _ o _ c2 _ w3 ⟨i,ls,m,H,rfl,rfl,hi,hC,h⟩
  have hlen:=hC.len
  rw [hl] at hlen
  refine br_intro (fun h1=>?_) fun h1=>?_
  rotate_left
  · have h1:i = ls.length:=by have:=of_decide_eq_false h1; omega
    refine (y_laid h (by omega)).mono ?_
    rintro _ w12 ⟨a',rfl,h⟩
    rw [hC.fin h1] at h ⊢
    exact ⟨_,_,_,rfl,_,rfl,h.pick 3 [0,2]⟩
  have h1:i < ls.length:=by have:=of_decide_eq_true h1; omega
  obtain ⟨y,ad,hy,rfl,cy⟩:=rdIt_get (own_rdI2 h) h1
  have hym:=List.mem_of_getElem? hy
  have hyf:fitI g y:=(hC.sound hym).fit hf
  have s3:sub (hp w) (hp w3):=rdH 2 h.l
  refine idx_n rfl h1 ⟨_,_,cy _ (sub.refl _),(y_behind (hm.mono s3) hyf).mono ?_⟩
  rintro _ w4 ⟨rfl,g4⟩
  have h:=h.gr g4
  refine ⟨_,rfl,br_intro (fun h2=>?_) fun h2=>?_⟩
  · have h2:=of_decide_eq_true h2
    exact ⟨⟨by omega,by omega⟩,⟨i + 1,ls,m,H,by simp,rfl,h1,hC.skip hy (.inl h2),h⟩,msr (by omega)⟩
  have h2:0≤aft g y:=by have:=of_decide_eq_false h2; omega
  refine (map_lookup (κ:=Int) tyOk (rfl:kdOfT Ty _ = .map _ _) und_int rfl rfl (h.pick 3 [1,0,2]) _).mono ?_
  rintro _ _ ⟨rfl,rfl⟩
  refine ⟨_,hC.mp _,br_intro (fun h3=>?_) fun h3=>?_⟩
  · have h3:aft g y∈H:=by
      have:=of_decide_eq_true h3
      refine Classical.byContradiction fun hn=>?_
      rw [if_neg hn] at this; omega
    exact ⟨⟨by omega,by omega⟩,⟨i + 1,ls,m,H,by simp,rfl,h1,hC.skip hy (.inr h3),h⟩,msr (by omega)⟩
  have h3:aft g y∉H:=fun hn=>by
    have:=of_decide_eq_false h3
    rw [if_pos hn] at this; omega
  refine (map_lookup (κ:=Int) tyOk (rfl:kdOfT Ty _ = .map _ _) und_int rfl rfl (h.pick 3 [1,0,2]) _).mono ?_
  rintro _ _ ⟨rfl,rfl⟩
  refine ⟨_,hC.mp _,⟨by split <;> omega,by split <;> omega⟩,(map_update (κ:=Int) tyOk (rfl:kdOfT Ty _ = .map _ _) und_int (h.pick 3 [1,0,2]) _ _).mono ?_⟩
  rintro _ w7 h
  rw [if_neg h3,show (0:Int) + 1 = 1 from rfl] at h
  have hC2:=hC.more hy h2 h3
  have hlen2:=hC2.len
  rw [hl,List.length_append,List.length_map] at hlen2
  have s7:sub (hp w) (hp w7):=rdH 2 h.l
  obtain ⟨x,kb,mb,r1,hg,hmb,hby⟩:=hm.ex
  obtain ⟨ab,cb,eb,rb⟩:=hby (aft g y)
  refine ⟨_,r1.cell s7 (j:=5) rfl,(map_lookupH (κ:=Int) hmb s7 tyOk (rfl:kdOfT Ty _ = .map _ _) und_int rfl rfl _).mono ?_⟩
  rintro _ w8 ⟨rfl,e8⟩
  rw [e8]
  refine ⟨_,_,_,eb,?_⟩
  refine ⟨fun o n c z w'=>∃ j:Nat,z = j∧j≤(byL g (aft g y)).length∧n = ls.length + j∧St w' (own 2 o n c (tv (ls ++ ((byL g (aft g y)).take j).map it0)) :: mapA kh (aput (aft g y) (.int .i64 1) m) :: all w),fun _ _ _ z _=>(byL g (aft g y)).length - z.toNat,
    ⟨0,rfl,Nat.zero_le _,rfl,?_⟩,?_⟩
  · rw [List.take_zero,List.map_nil,List.append_nil]; exact h.pick 3 [1,0,2]
  clear h
  rintro _ o _ c9 _ w9 ⟨j,rfl,hj,rfl,h⟩
  have s9:sub (hp w) (hp w9):=rdH 2 h.l
  refine br_intro (fun h4=>?_) fun h4=>?_
  rotate_left
  · have h4:j = (byL g (aft g y)).length:=by have:=of_decide_eq_false h4; omega
    subst h4
    rw [List.take_length] at h
    exact ⟨⟨by omega,by omega⟩,⟨i + 1,_,_,_,by simp,by simp,by rw [List.length_append]; exact Nat.le_add_right_of_le h1,hC2,h⟩,msr (Nat.lt_of_lt_of_le h1 hlen)⟩
  have h4:j < (byL g (aft g y)).length:=by have:=of_decide_eq_true h4; omega
  obtain ⟨n,hn⟩ : ∃ n,(byL g (aft g y))[j]? = some n:=⟨_,List.getElem?_eq_getElem h4⟩
  obtain ⟨v,adb,hv,hab,cb⟩:=rb.get1 h4
  have hv2:v = (n:Int):=by rw [List.getElem?_map,hn] at hv; exact (Option.some.inj hv).symm
  subst hv2
  have hz1:(ls.length + j + 1) * 16≤140737488355328:=Nat.le_trans (Nat.mul_le_mul_right 16 (Nat.succ_le_succ (Nat.le_trans (Nat.add_le_add_left (Nat.le_of_lt h4) _) hlen2))) hb
  have hz2:=lt63 hz1
  clear hlen hlen2 hC2 hby hmb
  refine idx_i hab h4 ⟨_,cb _ s9,newC_i h fun k10 w10 h=>?_⟩
  refine (app_one (us:=tv (ls ++ ((byL g (aft g y)).take j).map it0)) tyOk (rfl:kdOfT Ty _ = .slice _) (rfl:kdOfT Ty _ = .slice _) rfl rfl rfl h rfl (by simp [oneC]) hz1 hz2).mono ?_
  rintro _ w11 ⟨o6,c11,rfl,h⟩
  refine ⟨_,_,_,rfl,⟨by omega,by omega⟩,⟨j + 1,by simp,h4,rfl,?_⟩,msr h4⟩
  have e:tv (ls ++ ((byL g (aft g y)).take (j + 1)).map it0) = tv (ls ++ ((byL g (aft g y)).take j).map it0) ++ [.int .i64 (n:Int),.int .i64 0]:=by
    rw [List.take_add_one,hn,Option.toList_some,List.map_append,← List.append_assoc,tv_app]; rfl
  rw [e]
  exact h.pick 4 [0,2,3]
def kernN (g:GramT) (K:List ItemT) (s:Int):List ItemT:=(K.filter fun x=>decide (aft g x = s)).map fun x=>⟨x.prod,x.dot + 1⟩
theorem kernN_snoc {g:GramT} {K:List ItemT} {x:ItemT} {s:Int}:kernN g (K ++ [x]) s = if s = aft g x then kernN g K s ++ [⟨x.prod,x.dot + 1⟩] else kernN g K s:=by
  unfold kernN
  rw [List.filter_append,List.map_append]
  by_cases e:s = aft g x
  · simp [e]
  · simp [e,Ne.symm e]
theorem kernN_len (g:GramT) (K:List ItemT) (s:Int):(kernN g K s).length≤K.length:=by
  unfold kernN; rw [List.length_map]; exact List.length_filter_le _ _
set_option maxHeartbeats 2000000 in
theorem y_kernels {k:Nat} (hm:MkR (hp w) g k) (hr:rdS (hp w) I a l) (hf:fitsB g I) (hb:(l + g.prods.length + 1) * 16≤140737488355328) (hbr:∀ p∈g.prods,p.right.length≤17592186043904) :
    Run Tryz.prog n_lr0_maker_kernels [.pointer (some (aM k)),.slice a l c] w fun v w'=>∃ (kk:Nat) (ps:List (Int × Lq ItemT)),v = .map (some kk)∧(∀ s,0≤s→getK s ps = kern g I s)∧(ps.map Prod.fst).Nodup∧(∀ s,s∈ps.map Prod.fst↔0≤s∧kern g I s≠[])∧St w' (mapA kk (mV ps) :: sta (mO 2 tv ps) :: all w):=by
  have hl:=hr.1
  refine run_lr0_maker_kernels _ _ _ _ w _ (new_i (St.all w) fun kk w1 h=>?_)
  have h:=mapA_new (κ:=Int) h
  have g1:Gr w w1:=rdH 1 h.l
  refine ((y_closure (hm.mono g1) (hr.mono g1) hf hb).mono ?_)
  rintro _ w2 ⟨o,rfl,h2⟩
  have h:=h2.on1 h.l
  have hcl:=cls_len g I
  rw [hl] at hcl
  refine ⟨_,_,_,rfl,?_⟩
  refine ⟨fun z w'=>∃ (j:Nat) (ps:List (Int × Lq ItemT)),z = j∧j≤(cls g I).length∧(∀ s,0≤s→getK s ps = kernN g ((cls g I).take j) s)∧(ps.map Prod.fst).Nodup∧(∀ s,s∈ps.map Prod.fst↔0≤s∧kernN g ((cls g I).take j) s≠[]) ∧
      St w' (mapA kk (mV ps) :: sta (mO 2 tv ps) :: own 2 o (cls g I).length (cls g I).length (tv (cls g I)) :: all w),fun z _=>(cls g I).length - z.toNat,
    ⟨0,[],rfl,Nat.zero_le _,fun s _=>by simp [kernN]; rfl,by simp,fun s=>by simp [kernN],?_⟩,?_⟩
  · have h3:St w2 (mapA kk ([] : List (Int × Value)) :: own 2 o (cls g I).length (cls g I).length (tv (cls g I)) :: all w):=h.pick 3 [1,0,2]
    exact ((St.flat (M:=[])).2 h3).swap
  clear h h2
  rintro _ _ w3 ⟨j,ps,rfl,hj,hps,hnd,hks,h⟩
  refine br_intro (fun h1=>?_) fun h1=>?_
  rotate_left
  · have h1:j = (cls g I).length:=by have:=of_decide_eq_false h1; omega
    rw [h1,List.take_length] at hps hks
    exact ⟨kk,ps,rfl,hps,hnd,hks,h.pick 4 [0,1,3]⟩
  have h1:j < (cls g I).length:=by have:=of_decide_eq_true h1; omega
  obtain ⟨y,ad,hy,rfl,cy⟩:=rdIt_get (own_rdI2 (h.pick 3 [2])) h1
  have hyf:fitI g y:=(cls_mem.1 (List.mem_of_getElem? hy)).fit hf
  have hyd:y.dot + 1≤9223372036854775807:=by
    obtain ⟨_,_,p,hp,h5⟩:=hyf
    have:=hbr p (List.mem_of_getElem? hp); omega
  have hyd0:=hyf.2.1
  have s3:sub (hp w) (hp w3):=rdH 3 h.l
  have hkt:∀ s,kernN g ((cls g I).take (j + 1)) s = if s = aft g y then kernN g ((cls g I).take j) s ++ [⟨y.prod,y.dot + 1⟩] else kernN g ((cls g I).take j) s:=fun s=>by
    rw [List.take_add_one,hy,Option.toList_some,kernN_snoc]
  refine idx_n rfl h1 ⟨_,_,cy _ (sub.refl _),newC_i h fun k4 w4 h=>stR_i h rfl (by simp [oneC]) fun w5 h=>⟨_,_,(rdCel 0 h.l).at (sub.refl _) rfl,(y_behind (hm.mono (rdH 4 h.l)) hyf).mono ?_⟩⟩
  rintro _ w6 ⟨rfl,g6⟩
  have h:=h.gr g6
  refine ⟨_,rfl,br_intro (fun h2=>?_) fun h2=>?_⟩
  rotate_left
  · have h2:aft g y < 0:=by have:=of_decide_eq_false h2; omega
    refine ⟨⟨by omega,by omega⟩,⟨j + 1,ps,by simp,h1,fun s hs=>?_,hnd,fun s=>?_,h.pick 5 [1,2,3,4]⟩,msr h1⟩
    · rw [hkt,if_neg (by omega)]; exact hps s hs
    · rw [hks,hkt]
      by_cases e:s = aft g y
      · constructor <;> (rintro ⟨e2,_⟩; omega)
      · rw [if_neg e]
  have h2:0≤aft g y:=of_decide_eq_true h2
  refine (map_lookup (κ:=Int) tyOk (rfl:kdOfT Ty _ = .map _ _) und_int rfl rfl (h.pick 5 [1,0,2,3,4]) _).mono ?_
  rintro _ w7 ⟨rfl,e7⟩
  rw [e7]
  obtain ⟨q,M,e1,e2,hq,back⟩:=mS_take rfl (h.pick 5 [2,0,1,3,4]) (aft g y)
  have hql:q.2.length≤(cls g I).length:=by
    rw [e2,hps _ h2]
    refine Nat.le_trans (kernN_len _ _ _) (by rw [List.length_take]; omega)
  have r4:rowH (hp w6) (aM k4) [.int .i64 y.prod,.int .i64 y.dot]:=rdCel 2 hq.l
  have hz1:(q.2.length + 1) * 16≤140737488355328:=Nat.le_trans (Nat.mul_le_mul_right 16 (Nat.succ_le_succ (Nat.le_trans hql hcl))) hb
  have hz2:=lt63 hz1
  refine ⟨_,_,_,e1,_,r4.cell0 (sub.refl _),_,r4.cell (sub.refl _) (j:=1) rfl,⟨by omega,by omega⟩,newC_i hq fun k7 w8 h=>?_⟩
  refine (app_one (us:=tv q.2) tyOk (rfl:kdOfT Ty _ = .slice _) (rfl:kdOfT Ty _ = .slice _) rfl rfl rfl h rfl (by simp [oneC]) hz1 hz2).mono ?_
  rintro _ w9 ⟨o3,c3,rfl,h⟩
  refine ⟨_,_,_,rfl,(map_update (κ:=Int) tyOk (rfl:kdOfT Ty _ = .map _ _) und_int (h.pick 7 [4,0,2,5,6]) (aft g y) _).mono ?_⟩
  rintro _ w10 h
  have h:=mS_put back (q.2 ++ [⟨y.prod,y.dot + 1⟩]) (by simp) (by rw [tv_app]; rfl) h
  refine ⟨⟨by omega,by omega⟩,⟨j + 1,_,by simp,h1,fun s hs=>?_,putK_nd _ hnd,fun s=>?_,h⟩,msr h1⟩
  · rw [getK_put,hkt,e2]
    by_cases e:s = aft g y
    · subst e; rw [if_pos rfl,if_pos rfl,hps _ hs]
    · rw [if_neg e,if_neg e,hps _ hs]
  · rw [putK_keys,hkt]
    have:=hks s
    by_cases e:s = aft g y
    · subst e
      rw [if_pos rfl]
      refine ⟨fun _=>⟨h2,by simp⟩,fun _=>?_⟩
      split
      · assumption
      · simp
    · rw [if_neg e,← this]
      split
      · exact Iff.rfl
      · rw [List.mem_append,List.mem_singleton]; simp [e]
end Go.Proofs.YtndaepmjkbmjmaaGreatDoor
set_option linter.unusedVariables false
set_option maxRecDepth 4000
namespace Go.V
section
variable {α : Type} {f:α→List Value} {n:Nat}
theorem fm_len (hf:∀ x,(f x).length = n):∀ xs:List α,(xs.flatMap f).length = xs.length * n
  | []=>by simp
  | x :: xs=>by rw [List.flatMap_cons,List.length_append,hf,fm_len hf xs,List.length_cons,Nat.succ_mul,Nat.add_comm]
theorem fm_set (hf:∀ x,(f x).length = n):∀ (xs:List α) (i j:Nat) (x y:α) (v:Value),xs[i]? = some x→j < n→f y = (f x).set j v→(xs.flatMap f).set (i * n + j) v = (xs.set i y).flatMap f
  | [],i,j,x,y,v,h,_,_=>by simp at h
  | z :: xs,0,j,x,y,v,h,hj,he=>by
    simp at h; subst h
    rw [Nat.zero_mul,Nat.zero_add,List.set_cons_zero,List.flatMap_cons,List.flatMap_cons,List.set_append_left _ _ (by rw [hf]; exact hj),he]
  | z :: xs,i + 1,j,x,y,v,h,hj,he=>by
    rw [List.set_cons_succ,List.flatMap_cons,List.flatMap_cons,List.set_append_right _ _ (by rw [hf,Nat.succ_mul]; omega),hf,show (i + 1) * n + j - n = i * n + j by rw [Nat.succ_mul]; omega]
    rw [fm_set hf xs i j x y v (by simpa using h) hj he]
end
theorem staRead {M L:List Asn} {h:Hp} {i:Nat} {A:Asn} (hs:starL (sta M :: L) h) (hi:M[i]? = some A):∃ h1,sub h1 h∧A h1:=by
  have h2:=starL_flat.1 hs
  obtain ⟨hlt,e⟩:=List.getElem?_eq_some_iff.1 hi
  obtain ⟨h1,s1,ha⟩:=starL_nth i (by rw [List.length_append]; omega) h2
  rw [nthA_get (by rw [List.length_append]; omega),List.getElem_append_left hlt,e] at ha
  exact ⟨h1,s1,ha⟩
def encE (x:EdgeT):List Value:=[.int .i64 x.sym,.int .i64 x.to]
def ev2 (xs:List EdgeT):List Value:=xs.flatMap encE
theorem ev2_len (xs:List EdgeT):(ev2 xs).length = xs.length * 2:=fm_len (f:=encE) (n:=2) (fun _=>rfl) xs
abbrev SQ:=Lq ItemT × Lq EdgeT
def stV (q:SQ):List Value:=[slQ q.1,slQ q.2]
def ssV (ss:List SQ):List Value:=ss.flatMap stV
def kOw (ss:List SQ):List Asn:=ss.map fun q=>owQ 2 tv q.1
def eOw (ss:List SQ):List Asn:=ss.map fun q=>owQ 2 ev2 q.2
def ksOf (ss:List SQ):List Kern:=ss.map fun q=>q.1.2
def esOf (ss:List SQ):List (List EdgeT):=ss.map fun q=>q.2.2
theorem ssV_len (ss:List SQ):(ssV ss).length = ss.length * 2:=fm_len (f:=stV) (n:=2) (fun _=>rfl) ss
theorem ssV_snoc (ss:List SQ) (q:SQ):ssV (ss ++ [q]) = ssV ss ++ stV q:=by unfold ssV; rw [List.flatMap_append]; simp
def smallI (x:ItemT):Prop:=0≤x.prod∧x.prod < 256∧0≤x.dot∧x.dot < 65536
def keyB (x:ItemT):List UInt8:=[UInt8.ofNat x.prod.toNat,UInt8.ofNat (x.dot.toNat % 256),UInt8.ofNat (x.dot.toNat / 256)]
def keyL (K:List ItemT):List UInt8:=K.flatMap keyB
def kerKey (K:List ItemT):ByteArray:=⟨(keyL K).toArray⟩
def u8V (b:UInt8):Value:=.int .u8 (b.toNat:Int)
theorem keyB_inj {x y:ItemT} (hx:smallI x) (hy:smallI y) (h:keyB x = keyB y):x = y:=by
  obtain ⟨a1,a2,a3,a4⟩:=hx
  obtain ⟨b1,b2,b3,b4⟩:=hy
  unfold keyB at h
  simp only [List.cons.injEq,and_true] at h
  obtain ⟨h1,h2,h3⟩:=h
  have e1:=congrArg UInt8.toNat h1
  have e2:=congrArg UInt8.toNat h2
  have e3:=congrArg UInt8.toNat h3
  simp only [UInt8.toNat_ofNat'] at e1 e2 e3
  exact ItemT.ext' (by omega) (by omega)
theorem keyL_inj:∀ {K M:List ItemT},(∀ x∈K,smallI x)→(∀ x∈M,smallI x)→keyL K = keyL M→K = M
  | [],[],_,_,_=>rfl
  | [],y :: M,_,_,h=>by simp [keyL,keyB] at h
  | x :: K,[],_,_,h=>by simp [keyL,keyB] at h
  | x :: K,y :: M,hk,hm,h=>by
    unfold keyL at h
    rw [List.flatMap_cons,List.flatMap_cons] at h
    obtain ⟨h1,h2⟩:=List.append_inj h rfl
    rw [keyB_inj (hk x (by simp)) (hm y (by simp)) h1,keyL_inj (fun z hz=>hk z (by simp [hz])) (fun z hz=>hm z (by simp [hz])) h2]
theorem kerKey_inj {K M:List ItemT} (hk:∀ x∈K,smallI x) (hm:∀ x∈M,smallI x) (h:kerKey K = kerKey M):K = M:=by
  refine keyL_inj hk hm ?_
  have:=congrArg (fun b:ByteArray=>b.data.toList) h
  simpa [kerKey] using this
theorem keyL_snoc (K:List ItemT) (x:ItemT):keyL (K ++ [x]) = keyL K ++ keyB x:=by unfold keyL; rw [List.flatMap_append]; simp
theorem keyL_len (K:List ItemT):(keyL K).length = K.length * 3:=by
  induction K with
  | nil=>rfl
  | cons x K ih=>unfold keyL at *; rw [List.flatMap_cons,List.length_append,ih,List.length_cons]; simp [keyB]; omega
theorem keyV {x:ItemT} (h:smallI x):[Value.int .u8 (IntKind.u8.wrap x.prod),Value.int .u8 (IntKind.u8.wrap x.dot),Value.int .u8 (IntKind.u8.wrap (shrI .i64 x.dot 8))] = (keyB x).map u8V:=by
  obtain ⟨a1,a2,a3,a4⟩:=h
  have e:shrI .i64 x.dot 8 = x.dot / 256:=by
    simp only [shrI,IntKind.bits]
    rw [show min (Int.toNat 8) 64 = 8 from rfl,Int.fdiv_eq_ediv_of_nonneg _ (by decide)]
    rfl
  rw [e]
  simp only [keyB,List.map_cons,List.map_nil,u8V,UInt8.toNat_ofNat',IntKind.wrap,IntKind.signed,IntKind.bits]
  have w1:∀ z:Int,0≤z→z < 256→z % 256 = z:=fun z h1 h2=>Int.emod_eq_of_lt h1 h2
  simp
  refine ⟨?_,?_,?_⟩ <;> omega
def KeyI (m:List (ByteArray × Value)) (st:List Kern):Prop:=∀ K,(∀ x∈K,smallI x)→(assoc (kerKey K) m).getD (.int .i64 0) = .int .i64 (if K∈st then ((st.idxOf K:Nat):Int) + 1 else 0)
theorem KeyI.start:KeyI [] []:=fun K _=>by simp [assoc]
theorem KeyI.put {m:List (ByteArray × Value)} {st:List Kern} {K:Kern} (h:KeyI m st) (hK:∀ x∈K,smallI x) (hn:K∉st):KeyI (aput (kerKey K) (.int .i64 ((st.length + 1:Nat):Int)) m) (st ++ [K]):=fun M hM=>by
  rw [assoc_put]
  by_cases e:kerKey M = kerKey K
  · have:=kerKey_inj hM hK e
    subst this
    rw [if_pos rfl,if_pos (by simp),List.idxOf_append,if_neg hn]
    simp
  · rw [if_neg e,h M hM]
    have hne:M≠K:=fun h=>e (by rw [h])
    by_cases e2:M∈st
    · rw [if_pos e2,if_pos (by simp [e2]),List.idxOf_append,if_pos e2]
    · rw [if_neg e2,if_neg (by simp [e2,hne])]
end Go.V
namespace Go.Proofs.YtndaepmjkbmjmaaGreatDoor
open Go.V
variable {w:World} {L:List Asn} {a:Option Addr} {l c:Nat} {K:List ItemT}
theorem y_key (hr:rdS (hp w) K a l) (hK:∀ x∈K,smallI x) (hne:K≠[]) (hb:l * 16≤140737488355328) :
    Run Tryz.prog n_lr0_key [.slice a l c] w fun v w'=>v = .string (kerKey K)∧Gr w w':=by
  have hl:=hr.1
  refine run_lr0_key _ _ _ w _ ⟨fun o n c z w'=>∃ j:Nat,z = j∧j≤l∧n = (keyL (K.take j)).length∧St w' (own 1 o n c ((keyL (K.take j)).map u8V) :: all w),fun _ _ _ z _=>l - z.toNat,⟨0,rfl,Nat.zero_le _,rfl,own_nil 1 (St.all w)⟩,?_⟩
  rintro _ o _ c1 _ w1 ⟨j,rfl,hj,rfl,h⟩
  have s1:sub (hp w) (hp w1):=rdH 1 h.l
  refine br_intro (fun h1=>?_) fun h1=>?_
  · have h1:j < l:=by have:=of_decide_eq_true h1; omega
    obtain ⟨x,ad,hx,rfl,cx⟩:=rdIt_get hr h1
    have hxs:=hK x (List.mem_of_getElem? hx)
    refine idx_n rfl h1 ⟨_,_,cx _ s1,newC_i h fun k3 w2 h=>stR_i h rfl (by simp [oneC]) fun w3 h=>?_⟩
    have r3:rowH (hp w3) (aM k3) [.int .i64 x.prod,.int .i64 x.dot]:=rdCel 0 h.l
    refine ⟨_,r3.cell0 (sub.refl _),_,r3.cell (sub.refl _) (j:=1) rfl,_,r3.cell (sub.refl _) (j:=1) rfl,by show (0:Int)≤8; decide,?_⟩
    refine newC_i h fun k4 w4 h=>?_
    rw [keyV hxs] at h
    have hkl:=keyL_len (K.take j)
    rw [List.length_take] at hkl
    refine (app_rdV (n:=3) (us:=(keyL (K.take j)).map u8V) (news:=(keyB x).map u8V) tyOk (rfl:kdOfT Ty _ = .slice _) (rfl:kdOfT Ty _ = .slice _) rfl rfl rfl (h.pick 3 [2,0]) rfl (by show 0 < 1; decide) (.inr ⟨_,rfl,rdCel 0 h.l⟩) (fun u hu=>by obtain ⟨b,_,rfl⟩:=List.mem_map.1 hu; rfl) (by show ((keyL (K.take j)).length + 3) * 1≤_; omega) (by omega)).mono ?_
    rintro _ w5 ⟨o2,c2,rfl,h⟩
    have e:keyL (K.take (j + 1)) = keyL (K.take j) ++ keyB x:=by rw [List.take_add_one,hx,Option.toList_some,keyL_snoc]
    refine ⟨_,_,_,rfl,⟨by omega,by omega⟩,⟨j + 1,by simp,h1,by rw [e,List.length_append]; rfl,?_⟩,msr h1⟩
    rw [e,List.map_append]
    exact h.pick 3 [0,2]
  · have h1:j = l:=by have:=of_decide_eq_false h1; omega
    subst h1
    rw [← hl,List.take_length] at h ⊢
    have hlen:0 < ((keyL K).map u8V).length:=by
      rw [List.length_map,keyL_len]
      have:=List.length_pos_iff.2 hne; omega
    obtain ⟨ad,rfl⟩:=own_addr h hlen
    have hcv:=run_convert_bytes_back (P:=Tryz.prog) w1 ty_s_uint8 ty_string ty_uint8 ad c1 (keyL K) und_s_uint8 und_uint8 und_string fun j hj=>own_get h rfl (by rw [List.getElem?_map,List.getElem?_eq_getElem hj]; rfl)
    exact ⟨_,_,hcv,Ev.refl _,_,rfl,rfl,h.gone1⟩
end Go.Proofs.YtndaepmjkbmjmaaGreatDoor
set_option linter.unusedVariables false
set_option maxRecDepth 4000
namespace Go.V
abbrev tabL (kt ka:Nat) (o:Option Addr) (c:Nat) (asked int:Int) (m:List (ByteArray × Value)) (ss:List SQ) (L:List Asn):List Asn :=
  cel kt [.slice o ss.length c,.int .i64 asked,.int .i64 int,.map (some ka)] :: own 2 o ss.length c (ssV ss) :: mapA ka m :: sta (kOw ss) :: sta (eOw ss) :: L
def newS (ss:List SQ) (b:Option Addr) (d:Nat) (K:Kern):List SQ:=if K∈ksOf ss then ss else ss ++ [(((b,d),K),((none,0),[]))]
theorem newS_ks (ss:List SQ) (b:Option Addr) (d:Nat) (K:Kern):ksOf (newS ss b d K) = inK (ksOf ss) K:=by
  unfold newS inK; split <;> simp [ksOf]
theorem ksOf_len (ss:List SQ):(ksOf ss).length = ss.length:=List.length_map _
theorem ks_get {ss:List SQ} {K:Kern} (h:K∈ksOf ss):∃ q,ss[(ksOf ss).idxOf K]? = some q∧q.1.2 = K:=by
  have h1:=List.idxOf_lt_length_of_mem h
  rw [ksOf_len] at h1
  refine ⟨ss[(ksOf ss).idxOf K],List.getElem?_eq_getElem h1,?_⟩
  have h2:(ksOf ss)[(ksOf ss).idxOf K]'(by rw [ksOf_len]; exact h1) = K:=List.getElem_idxOf _
  unfold ksOf at h2 ⊢
  rw [List.getElem_map] at h2
  exact h2
theorem st_row {h:Hp} {o:Option Addr} {ss:List SQ} {i:Nat} {q:SQ} (r:rdV o (ssV ss) h) (hq:ss[i]? = some q):∃ ad,o = some ad∧rowH h (ad.add (mulS i 2)) (stV q):=by
  rcases r with e | ⟨ad,rfl,r⟩
  · have h1:=congrArg List.length e
    rw [ssV_len,List.length_nil] at h1
    have:=(List.getElem?_eq_some_iff.1 hq).1; omega
  · exact ⟨ad,rfl,rowH_unflat (n:=2) (fun _=>rfl) ss ad r i q hq⟩
theorem kOw_get {ss:List SQ} {i:Nat} {q:SQ} (hq:ss[i]? = some q):(kOw ss)[i]? = some (owQ 2 tv q.1):=by unfold kOw; rw [List.getElem?_map,hq]; rfl
theorem eOw_get {ss:List SQ} {i:Nat} {q:SQ} (hq:ss[i]? = some q):(eOw ss)[i]? = some (owQ 2 ev2 q.2):=by unfold eOw; rw [List.getElem?_map,hq]; rfl
theorem owQ_rdI {q:Lq ItemT} {h:Hp} (ha:owQ 2 tv q h):rdS h q.2 q.1.1 q.2.length:=rdIt_of rfl (own_rdVh ha)
end Go.V
namespace Go.Proofs.YtndaepmjkbmjmaaGreatDoor
open Go.V
variable {w:World} {L:List Asn}
theorem y_intern {kt ka c l d:Nat} {o b:Option Addr} {asked int:Int} {m:List (ByteArray × Value)} {ss:List SQ} {K:Kern} (h:St w (tabL kt ka o c asked int m ss (own 2 b l d (tv K) :: L)))
    (hK:KeyI m (ksOf ss)) (hne:K≠[]) (hsm:∀ x∈K,smallI x) (ha:0≤asked∧asked < 4611686018427387904) (hi:0≤int∧int < 4611686018427387904) (hn:ss.length≤300) (hl:l * 16≤140737488355328) :
    Run Tryz.prog n_lr0_table_intern [.pointer (some (aM kt)),.slice b l d] w fun v w'=>v = .int .i64 ((ksOf ss).idxOf K:Nat)∧∃ o' c' m',KeyI m' (inK (ksOf ss) K) ∧
      St w' (tabL kt ka o' c' (asked + 1) (int + ((newS ss b d K).length - ss.length:Nat)) m' (newS ss b d K) L):=by
  have hKl:l = K.length:=by have:=own_len (h.pick 6 [5]); rw [tv_len] at this; omega
  have hl0:0 < l:=by rw [hKl]; exact List.length_pos_iff.2 hne
  have hz:K[0]? = some K[0]:=List.getElem?_eq_getElem (by omega)
  refine run_lr0_table_intern _ _ _ _ w _ ⟨_,(rdCel 0 h.l).cell (sub.refl _) (j:=1) rfl,⟨by omega,by omega⟩,?_⟩
  show st1 w ((aM kt).add 1) _ _
  rw [add_lit0]
  refine st1_i h (by simp) fun w1 h=>?_
  obtain ⟨h5,s5,ho5⟩:=rdA 5 h.l
  have hrK:rdS (hp w1) K b l:=(rdIt_of hKl.symm (own_rdVh ho5)).mono s5
  refine (y_key hrK hsm hne hl).mono ?_
  rintro _ w2 ⟨rfl,g2⟩
  have h:=h.gr g2
  have hrK:=hrK.mono g2
  clear s5 ho5
  refine ⟨_,rfl,fun u=>K∉ksOf ss∧St u (tabL kt ka o c (asked + 1) int m ss (own 2 b l d (tv K) :: L)),?_,?_⟩
  · intro w3 hd
    have h:=h.eq (drawn_hp hd)
    have hrK:rdS (hp w3) K b l:=hrK.mono (Gr.drawn hd)
    have rt:rowH (hp w3) (aM kt) [.slice o ss.length c,.int .i64 (asked + 1),.int .i64 int,.map (some ka)]:=rdCel 0 h.l
    have lk:RunS Tryz.prog (Instr.lookup ty_m_string_int (.map (some ka)) (.string (kerKey K)) false) w3 fun v w'=>v = .int .i64 (if K∈ksOf ss then (((ksOf ss).idxOf K:Nat):Int) + 1 else 0)∧w' = w3:=by
      refine (map_lookup (κ:=ByteArray) tyOk (rfl:kdOfT Ty _ = .map _ _) und_string rfl rfl (h.pick 3 [2]) (kerKey K)).mono ?_
      rintro _ _ ⟨rfl,rfl⟩
      exact ⟨hK K hsm,rfl⟩
    refine ⟨fun u=>Gr w3 u,Gr.refl _,_,fun u s=>rt.cell s (j:=3) rfl,lk.mono ?_⟩
    rintro _ w5 ⟨rfl,e5⟩
    rw [e5]
    refine ⟨_,rfl,fun u=>Gr w3 u,Gr.refl _,fun _ h=>h,br_intro (fun h1=>?_) fun h1=>?_⟩
    rotate_left
    · refine ⟨fun hm=>?_,h⟩
      rw [if_pos hm] at h1
      have:=of_decide_eq_false h1; omega
    have hm:K∈ksOf ss:=Classical.byContradiction fun hn=>by rw [if_neg hn] at h1; exact absurd (of_decide_eq_true h1) (by omega)
    obtain ⟨q,hq,hqK⟩:=ks_get hm
    have hil:=(List.getElem?_eq_some_iff.1 hq).1
    obtain ⟨ad,rfl,rs⟩:=st_row (rdOv 1 h.l) hq
    obtain ⟨h6,s6,ho6⟩:=staRead (h.pick 4 [3]).l (kOw_get hq)
    have hrq:rdS (hp w3) K q.1.1.1 q.1.2.length:=by have:=(owQ_rdI ho6).mono s6; rwa [hqK] at this ⊢
    have hql:q.1.2.length = l:=by rw [hqK,hKl]
    obtain ⟨x,ad2,hx,hb2,cx⟩:=rdIt_get hrK hl0
    obtain ⟨y,ad3,hy,hb3,cy⟩:=rdIt_get hrq (by omega:0 < q.1.2.length)
    rw [hx] at hy; cases hy
    rw [add0] at cx cy
    refine ⟨_,_,_,fun u s=>rt.cell0 s,_,fun u s=>rt.cell s (j:=3) rfl,idx_0 hb2 hl0 ⟨_,_,cx,lk.mono ?_⟩⟩
    rintro _ w10 ⟨rfl,e10⟩
    rw [e10,if_pos hm]
    have e1:(((ksOf ss).idxOf K:Nat):Int) + 1 - 1 = (((ksOf ss).idxOf K:Nat):Int):=by omega
    refine ⟨_,rfl,fun u=>Gr w3 u,Gr.refl _,fun _ h=>h,⟨by omega,by omega⟩,?_⟩
    rw [e1]
    refine idx_n rfl hil ⟨_,_,_,fun u s=>rs.cell0 s,idx_0 hb3 (by omega) ⟨_,_,cy,_,fun u _=>eqItem u _ _ x x,_,rfl,br_t (by simp) ⟨_,rt.cell (sub.refl _) (j:=3) rfl,lk.mono ?_⟩⟩⟩
    rintro _ w15 ⟨rfl,e15⟩
    rw [e15,if_pos hm]
    refine ⟨_,rfl,⟨by omega,by omega⟩,by rw [e1],some ad,c,m,?_,?_⟩
    · unfold inK; rw [if_pos hm]; exact hK
    · unfold newS; rw [if_pos hm,Nat.sub_self]
      rw [show int + ((0:Nat):Int) = int by omega]
      exact h.pick 6 [0,1,2,3,4]
  clear h hrK
  rintro _ w16 ⟨hm,h⟩
  refine ⟨_,(rdCel 0 h.l).cell (sub.refl _) (j:=2) rfl,⟨by omega,by omega⟩,?_⟩
  show st1 w16 ((aM kt).add 2) _ _
  rw [add_lit0]
  refine st1_i h (by simp) fun w17 h=>?_
  refine ⟨_,_,_,(rdCel 0 h.l).cell0 (sub.refl _),newC_i h fun k7 w18 h=>?_⟩
  refine (app_one (us:=ssV ss) tyOk (rfl:kdOfT Ty _ = .slice _) (rfl:kdOfT Ty _ = .slice _) rfl rfl rfl (h.pick 3 [0,2,1]) rfl (by simp [oneC]) (by show (ss.length + 1) * 48≤_; omega) (by omega)).mono ?_
  rintro _ w19 ⟨o7,c7,rfl,h⟩
  refine ⟨_,_,_,rfl,st1_i (h.pick 3 [2,0]) (by simp) fun w20 h=>?_⟩
  intro w21 hd
  have h:=h.eq (drawn_hp hd)
  have h:St w21 (cel kt [.slice o7 (ss.length + 1) c7,.int .i64 (asked + 1),.int .i64 (int + 1),.map (some ka)] :: own 2 o7 (ss.length + 1) c7 (ssV ss ++ [.slice b l d,.slice none 0 0]) :: mapA ka m :: sta (kOw ss) :: sta (eOw ss) :: own 2 b l d (tv K) :: L):=h
  have rt:rowH (hp w21) (aM kt) [.slice o7 (ss.length + 1) c7,.int .i64 (asked + 1),.int .i64 (int + 1),.map (some ka)]:=rdCel 0 h.l
  refine ⟨fun u=>Gr w21 u,Gr.refl _,_,fun u s=>rt.cell s (j:=3) rfl,_,_,_,fun u s=>rt.cell0 s,(map_update (κ:=ByteArray) tyOk (rfl:kdOfT Ty _ = .map _ _) und_string (h.pick 3 [2,0,1]) (kerKey K) _).mono ?_⟩
  rintro _ w24 h
  have hK2:=hK.put hsm hm
  rw [ksOf_len] at hK2
  refine ⟨_,(rdCel 1 h.l).cell (sub.refl _) (j:=3) rfl,(map_lookup (κ:=ByteArray) tyOk (rfl:kdOfT Ty _ = .map _ _) und_string rfl rfl h (kerKey K)).mono ?_⟩
  rintro _ w25 ⟨rfl,e25⟩
  rw [e25]
  have e1:=hK2 K hsm
  have e2:[K].idxOf K = 0:=by simp
  rw [if_pos (by simp),List.idxOf_append,if_neg hm,e2,Nat.zero_add,ksOf_len] at e1
  have hnS:newS ss b d K = ss ++ [(((b,d),K),((none,0),[]))]:=by unfold newS; rw [if_neg hm]
  have hiK:inK (ksOf ss) K = ksOf ss ++ [K]:=by unfold inK; rw [if_neg hm]
  refine ⟨_,e1,⟨by omega,by omega⟩,?_,o7,c7,aput (kerKey K) (.int .i64 ((ss.length + 1:Nat):Int)) m,?_,?_⟩
  · rw [List.idxOf_eq_length hm,ksOf_len]
    show Value.int .i64 _ = _
    rw [show ((ss.length:Nat):Int) + 1 - 1 = (ss.length:Int) by omega]
  · rw [hiK]; exact hK2
  · rw [hnS]
    have h:=St.snoc ((own_nil 2 h).pick 7 [0,5,1,2,3,4,6])
    have h:=(St.snoc (h.pick 6 [5,4,0,1,2,3])).pick 5 [3,4,2,0,1]
    have e3:ssV (ss ++ [(((b,d),K),((none,0),[]))]) = ssV ss ++ [.slice b l d,.slice none 0 0]:=by rw [ssV_snoc,hKl]; rfl
    have e4:kOw (ss ++ [(((b,d),K),((none,0),[]))]) = kOw ss ++ [own 2 b l d (tv K)]:=by rw [hKl]; simp [kOw,owQ]
    have e5:eOw (ss ++ [(((b,d),K),((none,0),[]))]) = eOw ss ++ [own 2 none 0 0 []]:=by simp [eOw,owQ,ev2]
    have e6:(ss ++ [(((b,d),K),(((none,0),[]):Lq EdgeT))]).length = ss.length + 1:=by simp
    show St w24 (cel kt [.slice o7 _ c7,_,.int .i64 (int + _),_] :: own 2 o7 _ c7 _ :: _ :: _ :: _ :: L)
    rw [e3,e4,e5,e6,show ((ss.length + 1 - ss.length:Nat):Int) = 1 by omega]
    exact h
end Go.Proofs.YtndaepmjkbmjmaaGreatDoor
set_option linter.unusedVariables false
set_option maxRecDepth 4000
namespace Go.V
section
variable {g:GramT} {K:Kern} {x:ItemT} {s:Int} {i:Nat}
theorem ClosedP.sizes (h:ClosedP g):g.T≤65∧g.N≤65∧g.prods.length≤97∧2≤g.prods.length∧1≤g.T∧2≤g.N:=by
  obtain ⟨_,h1,h2,_⟩:=h
  have ht:0 < g.terms.length:=by have:=(List.getElem?_eq_some_iff.1 h1.1).1; exact this
  exact ⟨h1.2.2.1,h1.2.2.2.1,h2.2.1,h2.1,ht,h1.2.1⟩
theorem ClosedP.sym (h:ClosedP g) {p:ProdT} (hp:p∈g.prods) (hs:s∈p.right):1≤s∧s < g.T + g.N:=by
  obtain ⟨_,h1,h2,p0,hp0,_,hr,_⟩:=h
  obtain ⟨n,hn⟩:=List.getElem?_of_mem hp
  cases n with
  | zero =>
    rw [hp0] at hn; cases hn
    rw [hr,List.mem_singleton] at hs
    have:=h2.2.2.2
    have ht:0 < g.terms.length:=by have:=(List.getElem?_eq_some_iff.1 h1.1).1; exact this
    have hT:g.T = g.terms.length:=rfl
    omega
  | succ n =>
    have hm:p∈g.prods.drop 1:=by
      refine List.mem_of_getElem? (i:=n) ?_
      rw [List.getElem?_drop,Nat.add_comm]; exact hn
    have:=(h2.2.2.1 p hm).2 s hs
    exact ⟨this.1,this.2.1⟩
theorem kern_sym (hc:ClosedP g) (hf:∀ x∈K,fitI g x) (h0:0≤s) (hne:kern g K s≠[]):1≤s∧s < g.T + g.N:=by
  obtain ⟨x,hx⟩:=List.exists_mem_of_ne_nil _ hne
  obtain ⟨y,h1,h2,_⟩:=kern_mem.1 hx
  obtain ⟨p,hp,_,h3⟩:=aft_lt (h1.fit hf) h2 h0
  exact hc.sym (List.mem_of_getElem? hp) (List.mem_of_getElem? h3)
theorem kern_len (hp:g.prods.length≤97) (hs:SrtI K) (hf:∀ x∈K,fitI g x) (hd:∀ x∈K,x.dot≤299):K.length≤29100:=by
  have:=nodup_len (m:=(List.range 29100).map fun n=>(⟨((n / 300:Nat):Int),((n % 300:Nat):Int)⟩ : ItemT)) hs.nodup fun x hx=>by
    obtain ⟨h1,h2,p,h3,_⟩:=hf x hx
    have h4:=(List.getElem?_eq_some_iff.1 h3).1
    have h5:=hd x hx
    refine List.mem_map.2 ⟨x.prod.toNat * 300 + x.dot.toNat,List.mem_range.2 (by omega),?_⟩
    exact ItemT.ext' (by show (((x.prod.toNat * 300 + x.dot.toNat) / 300:Nat):Int) = _; omega) (by show (((x.prod.toNat * 300 + x.dot.toNat) % 300:Nat):Int) = _; omega)
  rwa [List.length_map,List.length_range] at this
theorem small_of (hp:g.prods.length≤97) (hf:fitI g x) (hd:x.dot < 65536):smallI x:=by
  obtain ⟨h1,h2,p,h3,_⟩:=hf
  have h4:=(List.getElem?_eq_some_iff.1 h3).1
  exact ⟨h1,by omega,h2,hd⟩
theorem symsOf_srt (g:GramT) (K:Kern):(symsOf g K).Pairwise (· < ·):=(List.pairwise_lt_range (n:=g.T + g.N)).filter _
theorem syms_of {ks:List Int} (hc:ClosedP g) (hf:∀ x∈K,fitI g x) (hn:ks.Nodup) (hk:∀ s,s∈ks↔0≤s∧kern g K s≠[]):ks.mergeSort (fun x y=>decide (x≤y)) = (symsOf g K).map Int.ofNat:=by
  have hp:=List.mergeSort_perm ks (fun x y=>decide (x≤y))
  have h1:(ks.mergeSort fun x y=>decide (x≤y)).Pairwise (·≤·):=by
    have:=List.pairwise_mergeSort (le:=fun x y:Int=>decide (x≤y)) (fun a b c h1 h2=>by simp at *; omega) (fun a b=>by simp; omega) ks
    exact this.imp fun h=>by simpa using h
  have h2:((symsOf g K).map Int.ofNat).Pairwise (·≤·):=by
    rw [List.pairwise_map]
    exact (symsOf_srt g K).imp fun h=>by simp; omega
  have n2:((symsOf g K).map Int.ofNat).Nodup:=by
    rw [List.nodup_iff_pairwise_ne,List.pairwise_map]
    exact (symsOf_srt g K).imp fun h e=>by simp at e; omega
  have p2:ks.Perm ((symsOf g K).map Int.ofNat):=(List.perm_ext_iff_of_nodup hn n2).2 fun s=>by
    rw [hk,List.mem_map]
    constructor
    · rintro ⟨h0,hne⟩
      obtain ⟨_,h4⟩:=kern_sym hc hf h0 hne
      refine ⟨s.toNat,List.mem_filter.2 ⟨List.mem_range.2 (by omega),?_⟩,by simp; omega⟩
      rw [decide_eq_true_eq,Int.toNat_of_nonneg h0]; exact hne
    · rintro ⟨n,hm,rfl⟩
      exact ⟨by simp,of_decide_eq_true (List.mem_filter.1 hm).2⟩
  exact List.Perm.eq_of_pairwise (fun a b _ _ h3 h4=>Int.le_antisymm h3 h4) h1 h2 (hp.trans p2)
end
section
variable {κ α : Type} [DecidableEq κ]
def getD' (s:κ) (ps:List (κ × Lq α)):Lq α:=(getQ s ps).getD ((none,0),[])
theorem getQ_nodup {ps:List (κ × Lq α)} (hn:(ps.map Prod.fst).Nodup) {s:κ} {q:Lq α} (hm:(s,q)∈ps):getQ s ps = some q:=by
  induction ps with
  | nil=>simp at hm
  | cons x m ih =>
    obtain ⟨a,u⟩:=x
    rw [List.map_cons,List.nodup_cons] at hn
    unfold getQ
    rcases List.mem_cons.1 hm with e | hm2
    · cases e; rw [if_pos rfl]
    · have:s≠a:=fun e=>hn.1 (by subst e; exact List.mem_map.2 ⟨_,hm2,rfl⟩)
      rw [if_neg this]; exact ih hn.2 hm2
theorem mO_order {sz:Nat} {f:List α→List Value} {ps:List (κ × Lq α)} (hn:(ps.map Prod.fst).Nodup) {ks:List κ} (hp:ks.Perm (ps.map Prod.fst)):(mO sz f ps).Perm (ks.map fun s=>owQ sz f (getD' s ps)):=by
  have e:mO sz f ps = (ps.map Prod.fst).map fun s=>owQ sz f (getD' s ps):=by
    unfold mO
    rw [List.map_map]
    refine List.map_congr_left fun x hx=>?_
    show owQ sz f x.2 = owQ sz f (getD' x.1 ps)
    unfold getD'
    rw [getQ_nodup hn hx]; rfl
  rw [e]
  exact (hp.map _).symm
end
theorem sta_perm {w:World} {L M N:List Asn} (h:St w (sta M :: L)) (hp:M.Perm N):St w (sta N :: L):=St.flat.2 ((St.flat.1 h).perm (hp.append_right _))
theorem sta_pop {w:World} {L M:List Asn} {A:Asn} (h:St w (sta (A :: M) :: L)):St w (A :: sta M :: L):=by
  have h1:St w (A :: (M ++ L)):=St.flat.1 h
  have h2:St w (M ++ (A :: L)):=h1.perm List.perm_middle.symm
  exact (St.flat.2 h2).swap
def totE (es:List (List EdgeT)):Nat:=(es.map List.length).sum
theorem totE_snoc (es:List (List EdgeT)) (x:List EdgeT):totE (es ++ [x]) = totE es + x.length:=by unfold totE; simp
theorem bsy_len2 {g:GramT} {K:Kern}:∀ (l:List Nat) (acc:List Kern × List EdgeT),(bsy g K l acc).2.length = acc.2.length + l.length
  | [],_=>rfl
  | s :: l,acc=>by
    show (bsy g K l _).2.length = _
    rw [bsy_len2 l]; simp; omega
theorem ks_set {ss:List SQ} {i:Nat} {q:SQ} (hq:ss[i]? = some q) (e:Lq EdgeT):ksOf (ss.set i (q.1,e)) = ksOf ss∧kOw (ss.set i (q.1,e)) = kOw ss∧esOf (ss.set i (q.1,e)) = (esOf ss).set i e.2∧eOw (ss.set i (q.1,e)) = (eOw ss).set i (owQ 2 ev2 e):=by
  refine ⟨?_,?_,?_,?_⟩
  · unfold ksOf; rw [List.map_set]
    exact set_same (by rw [List.getElem?_map,hq]; rfl)
  · unfold kOw; rw [List.map_set]
    exact set_same (by rw [List.getElem?_map,hq]; rfl)
  · unfold esOf; rw [List.map_set]
  · unfold eOw; rw [List.map_set]
theorem ssV_set {ss:List SQ} {i:Nat} {q:SQ} (hq:ss[i]? = some q) (e:Lq EdgeT):(ssV ss).set (i * 2 + 1) (slQ e) = ssV (ss.set i (q.1,e)) :=
  fm_set (f:=stV) (n:=2) (fun _=>rfl) ss i 1 q (q.1,e) _ hq (by decide) rfl
structure AutI (g:GramT) (ss:List SQ):Prop where
  dn:DoneP g ss.length
  ks:ksOf ss = (bst g ss.length).1
  es:esOf ss = (bst g ss.length).2
structure BldI (g:GramT) (ss:List SQ) (m:List (ByteArray × Value)) (asked:Int) (i:Nat):Prop where
  ks:ksOf ss = (bst g i).1
  es:esOf ss = (bst g i).2 ++ List.replicate (ss.length - i) []
  lt:∀ j,j < i→j < (bst g j).1.length
  le:ss.length≤256
  key:KeyI m (ksOf ss)
  ask:asked = 1 + (totE (bst g i).2:Int)
structure BltI (g:GramT) (K:Kern) (ss:List SQ) (m:List (ByteArray × Value)) (asked:Int) (i t:Nat) (es:List EdgeT):Prop where
  ks:ksOf ss = (bsy g K ((symsOf g K).take t) ((bst g i).1,[])).1
  ed:es = (bsy g K ((symsOf g K).take t) ((bst g i).1,[])).2
  es:esOf ss = (bst g i).2 ++ List.replicate (ss.length - i) []
  le:ss.length≤256
  key:KeyI m (ksOf ss)
  ask:asked = 1 + (totE (bst g i).2:Int) + t
section
variable {g:GramT} {K:Kern} {ss:List SQ} {m m' : List (ByteArray × Value)} {asked:Int} {i t:Nat} {es:List EdgeT}
theorem BldI.start {b:Option Addr} {d:Nat} (h:KeyI m (inK [] [⟨0,0⟩])):BldI g (newS [] b d [⟨0,0⟩]) m 1 0:=by
  have e:newS [] b d [⟨0,0⟩] = [(((b,d),[⟨0,0⟩]),((none,0),[]))]:=by simp [newS,ksOf]
  have e2:inK [] [(⟨0,0⟩ : ItemT)] = [[⟨0,0⟩]]:=by simp [inK]
  rw [e2] at h
  rw [e]
  exact ⟨rfl,rfl,fun j hj=>by omega,by simp,h,rfl⟩
theorem BldI.inner (h:BldI g ss m asked i) (hK:(bst g i).1[i]? = some K):BltI g K ss m asked i 0 [] :=
  ⟨h.ks,rfl,h.es,h.le,h.key,by rw [h.ask]; omega⟩
theorem BltI.next (h:BltI g K ss m asked i t es) {s:Nat} (hs:(symsOf g K)[t]? = some s) (hi:i≤ss.length) {b:Option Addr} {d:Nat} (hk:KeyI m' (inK (ksOf ss) (kern g K s))) (hle:(newS ss b d (kern g K s)).length≤256) :
    BltI g K (newS ss b d (kern g K s)) m' (asked + 1) i (t + 1) (es ++ [⟨(s:Int),(((ksOf ss).idxOf (kern g K s):Nat):Int)⟩]):=by
  have e:=bsy_take (g:=g) (K:=K) (acc:=((bst g i).1,[])) hs
  refine ⟨?_,?_,?_,hle,by rw [newS_ks]; exact hk,by rw [h.ask]; omega⟩
  · rw [newS_ks,e,h.ks]
  · rw [e,h.ed,h.ks]
  · unfold newS
    split
    · exact h.es
    · have:esOf (ss ++ [(((b,d),kern g K s),(((none,0),[]):Lq EdgeT))]) = esOf ss ++ [[]]:=by simp [esOf]
      rw [this,h.es,List.length_append,List.length_singleton,show ss.length + 1 - i = (ss.length - i) + 1 by omega,List.replicate_succ',List.append_assoc]
theorem BltI.done (h:BltI g K ss m asked i (symsOf g K).length es) (hb:∀ j,j < i→j < (bst g j).1.length) (hK:(bst g i).1[i]? = some K) (hes:(bst g i).2.length = i) (hi:i < ss.length) {q:SQ} (hq:ss[i]? = some q) (e:Lq EdgeT) (he:e.2 = es) :
    BldI g (ss.set i (q.1,e)) m asked (i + 1):=by
  have hs:=ks_set hq e
  have hk:=h.ks
  have hd:=h.ed
  rw [List.take_length] at hk hd
  have hb1:=bst_succ hK
  refine ⟨by rw [hs.1,hb1,hk],?_,fun j hj=>?_,by rw [List.length_set]; exact h.le,by rw [hs.1]; exact h.key,?_⟩
  · rw [hs.2.2.1,h.es,hb1,he,← hd,List.length_set,List.set_append_right _ _ (by omega),hes,Nat.sub_self,show ss.length - i = (ss.length - (i + 1)) + 1 by omega,List.replicate_succ,List.set_cons_zero,List.append_assoc]
    rfl
  · by_cases e2:j = i
    · subst e2; exact (List.getElem?_eq_some_iff.1 hK).1
    · exact hb j (by omega)
  · rw [hb1,totE_snoc,h.ask,bsy_len2]
    simp; omega
end
end Go.V
set_option linter.unusedVariables false
set_option maxRecDepth 4000
namespace Go.V
theorem totE_le {g:GramT}:∀ i,totE (bst g i).2≤i * (g.T + g.N)
  | 0=>Nat.zero_le _
  | i + 1=>by
    cases h:(bst g i).1[i]? with
    | none=>rw [bst_none h,Nat.succ_mul]; exact Nat.le_trans (totE_le i) (Nat.le_add_right _ _)
    | some K =>
      rw [bst_succ h,totE_snoc,bsy_len2,Nat.succ_mul]
      have h1:(symsOf g K).length≤g.T + g.N:=by
        have:=List.length_filter_le (fun s=>decide (kern g K (s:Nat)≠[])) (List.range (g.T + g.N))
        rwa [List.length_range] at this
      have:=totE_le (g:=g) i
      simp; omega
theorem newS_len (ss:List SQ) (b:Option Addr) (d:Nat) (K:Kern):ss.length≤(newS ss b d K).length∧(newS ss b d K).length≤ss.length + 1:=by
  unfold newS; split <;> simp
theorem mV_keys {κ α : Type} (ps:List (κ × Lq α)):(mV ps).map Prod.fst = ps.map Prod.fst:=by unfold mV; rw [List.map_map]; rfl
theorem mV_len {κ α : Type} (ps:List (κ × Lq α)):(mV ps).length = ps.length:=List.length_map _
abbrev z3:List Value:=[.slice none 0 0,.int .i64 0,.int .i64 0]
end Go.V
namespace Go.Proofs.YtndaepmjkbmjmaaGreatDoor
open Go.V
variable {w:World} {L:List Asn} {g:GramT} {x:GA}
set_option maxHeartbeats 4000000 in
theorem y_Build (hg:gR (hp w) g x) (hb:okG g):Run Tryz.prog n_lr0_Build [.agg ⟨x.cells⟩] w fun v w' =>
    (¬ClosedP g∧v = .tuple #[.agg #[.slice none 0 0,.int .i64 0,.int .i64 0],.int .i64 1]∧Gr w w') ∨
    (ClosedP g∧BigP g∧v = .tuple #[.agg #[.slice none 0 0,.int .i64 0,.int .i64 0],.int .i64 11]∧Gr w w') ∨
    (ClosedP g∧∃ (o:Option Addr) (ss:List SQ),AutI g ss∧v = .tuple #[.agg #[.slice o ss.length ss.length,.int .i64 (1 + (totE (esOf ss):Int)),.int .i64 (ss.length:Int)],.int .i64 0] ∧
      St w' (own 2 o ss.length ss.length (ssV ss) :: sta (kOw ss) :: sta (eOw ss) :: all w)):=by
  refine run_lr0_Build _ _ _ _ _ _ _ _ _ _ _ _ _ w _ (gbox hg fun k1 w1 gw hg B=>?_)
  refine newC_i (St.all w1) fun k2 w2 h=>?_
  refine ⟨_,_,_,_,_,_,_,_,_,_,_,_,_,B.row h.gone1,(g_Closed (hg.mono h.gone1) hb).mono ?_⟩
  rintro _ w3 ⟨⟨rb,rfl,hrb⟩,g3⟩
  have h:=h.gr g3
  have s3:sub (hp w1) (hp w3):=h.gone1
  refine ⟨_,rfl,br_intro (fun h1=>?_) fun h1=>?_⟩
  · have hn:¬ClosedP g:=fun hc=>by rw [hrb.2 hc] at h1; simp at h1
    exact stR_i h rfl (by simp [oneC]) fun w4 h=>⟨_,_,_,_,_,(rdCel 0 h.l).at (sub.refl _) rfl,.inl ⟨hn,rfl,gw.trans h.gone1⟩⟩
  have hc:ClosedP g:=hrb.1 (by simpa using h1)
  obtain ⟨hT,hN,hP,hP2,hT1,hN2⟩:=hc.sizes
  obtain ⟨_,_,_,_,_,_,hbr⟩:=id hb
  refine ⟨_,_,_,_,_,_,_,_,_,_,_,_,_,B.row s3,(y_ofA (hg.mono s3) hb).mono ?_⟩
  rintro _ w5 ⟨km,kb,pb,rfl,hpb,h5⟩
  have h:=(St.on (N:=[_,_,_]) h5 h.l).pick 5 [3,0,1,2,4]
  obtain ⟨H,hlH,sH,h⟩:=St.freeze h
  have s1H:sub (hp w1) H:=rdH 3 hlH
  have hm:MkR H g km:=mk_of (hg.mono s1H) hpb hlH
  have sw:sub (hp w) H:=sub.trans gw s1H
  clear hlH h5 sH B s3 g3
  refine ⟨_,rfl,new_i h fun ka w6 h=>?_⟩
  have h:=mapA_new (κ:=ByteArray) h
  refine newC_i h fun kt w7 h=>newC_i h fun k3 w8 h=>?_
  have h:St w8 (own 2 (some (aM k3)) 1 1 (tv [⟨0,0⟩]) :: cel kt [.slice none 0 0,.int .i64 0,.int .i64 0,.map (some ka)] :: mapA ka ([] : List (ByteArray × Value)) :: cel k2 z3 :: [has H]):=own_some (cs:=[]) h rfl rfl (Nat.le_refl _)
  have h:=own_nil 2 ((St.flat (M:=[])).2 ((St.flat (M:=[])).2 h))
  refine (y_intern (ss:=[]) (h.pick 8 [4,0,5,1,2,3,6,7]) KeyI.start (by simp) (by simp [smallI]) ⟨by decide,by decide⟩ ⟨by decide,by decide⟩ (by simp) (by decide)).mono ?_
  rintro _ w9 ⟨rfl,o1,c1,m1,hk1,h⟩
  refine ⟨_,rfl,fun z w'=>∃ (i:Nat) (ss:List SQ) (o:Option Addr) (c:Nat) (m:List (ByteArray × Value)) (asked:Int),z = i∧i≤ss.length∧BldI g ss m asked i∧St w' (tabL kt ka o c asked ss.length m ss (cel k2 z3 :: [has H])),fun z _=>300 - z.toNat,
    ⟨0,newS [] (some (aM k3)) 1 [⟨0,0⟩],o1,c1,m1,1,rfl,Nat.zero_le _,.start hk1,?_⟩,?_⟩
  · have e:(0:Int) + (((newS [] (some (aM k3)) 1 [⟨0,0⟩]).length - ([] : List SQ).length:Nat):Int) = ((newS [] (some (aM k3)) 1 [⟨0,0⟩]).length:Int):=by simp
    rw [e] at h
    exact h
  clear h hk1
  rintro _ _ w10 ⟨i,ss,o,c,m,asked,rfl,hi,hB,h⟩
  have hlen:ss.length≤256:=hB.le
  refine ⟨_,_,_,(rdCel 0 h.l).cell0 (sub.refl _),br_intro (fun h1=>?_) fun h1=>?_⟩
  rotate_left
  · have h1:i = ss.length:=by have:=of_decide_eq_false h1; omega
    subst h1
    have hkl:=ksOf_len ss
    have hes:=hB.es
    rw [Nat.sub_self,List.replicate_zero,List.append_nil] at hes
    have hA:AutI g ss:=⟨⟨by rw [← hB.ks,hkl],hlen,hB.lt⟩,hB.ks,hes⟩
    refine ⟨_,_,_,(rdCel 0 h.l).cell0 (sub.refl _),run_slices_Clip_api_State_api_State_ _ _ _ w10 _ (slc_clip (own_le (h.pick 2 [1])) ⟨_,_,_,rfl,?_⟩)⟩
    have h:=own_clip (h.pick 7 [1,0,3,4,5,6])
    refine st1_i (h.pick 2 [1,0]) (by simp) fun w31 h=>?_
    have r31:rowH (hp w31) (aM kt) ([.slice (slP o 0 ss.length 2) ss.length ss.length,.int .i64 asked,.int .i64 (ss.length:Int)] ++ [.map (some ka)]):=rdCel 0 h.l
    refine ⟨_,_,_,_,_,r31.take.at (sub.refl _) rfl,stR_i (h.pick 6 [4,1,2,3,5]) rfl (by simp [oneC]) fun w32 h=>⟨_,_,_,_,_,(rdCel 0 h.l).at (sub.refl _) rfl,.inr (.inr ⟨hc,slP o 0 ss.length 2,ss,hA,?_,?_⟩)⟩⟩
    · rw [hes,← hB.ask]
    · exact St.on (N:=[_,_,_]) (h.pick 5 [1,2,3,4]) (has_i sw)
  have h1:i < ss.length:=by have:=of_decide_eq_true h1; omega
  obtain ⟨q,hq⟩ : ∃ q,ss[i]? = some q:=⟨_,List.getElem?_eq_getElem h1⟩
  obtain ⟨K,hKq⟩ : ∃ K,K = q.1.2:=⟨_,rfl⟩
  have hK:(bst g i).1[i]? = some K:=by rw [← hB.ks]; unfold ksOf; rw [List.getElem?_map,hq,hKq]; rfl
  have hI:=bst_inv (g:=g) (by omega) i
  have hKm:=List.mem_of_getElem? hK
  have hKf:=hI.fit K hKm
  have hKd:∀ x∈K,x.dot≤i:=hI.dots i K hK
  have hKl:=kern_len hP (hI.srt K hKm) hKf fun x hx=>by have:=hKd x hx; omega
  have htot:=totE_le (g:=g) i
  have htot2:totE (bst g i).2≤33280:=Nat.le_trans htot (Nat.mul_le_mul (show i≤256 by omega) (show g.T + g.N≤130 by omega))
  have hes:=bst_es (g:=g) i (by rw [← hB.ks,ksOf_len]; omega)
  obtain ⟨ad,rfl,rs⟩:=st_row (rdOv 1 h.l) hq
  obtain ⟨h6,s6,ho6⟩:=staRead (h.pick 4 [3]).l (kOw_get hq)
  have hrK:rdS (hp w10) K q.1.1.1 q.1.2.length:=by have:=(owQ_rdI ho6).mono s6; rwa [hKq]
  have hql:q.1.2.length = K.length:=by rw [hKq]
  clear ho6 s6
  have s10:sub H (hp w10):=rdH 6 h.l
  refine ⟨_,_,_,(rdCel 0 h.l).cell0 (sub.refl _),idx_n rfl h1 ⟨_,_,_,rs.cell0 (sub.refl _),(y_kernels (hm.mono s10) hrK hKf (by rw [hql]; omega) hbr).mono ?_⟩⟩
  rintro _ w11 ⟨kk,ps,rfl,hps,hnd,hks,h2⟩
  have h:=h2.on2 h.l
  clear rs hrK h2 s10
  have hkeys:ps.length≤130:=by
    have:=nodup_len (m:=(List.range 130).map Int.ofNat) hnd fun s hs=>by
      obtain ⟨h0,hne⟩:=(hks s).1 hs
      obtain ⟨_,h4⟩:=kern_sym hc hKf h0 hne
      exact List.mem_map.2 ⟨s.toNat,List.mem_range.2 (by omega),by simp; omega⟩
    rwa [List.length_map,List.length_map,List.length_range] at this
  refine ⟨_,rfl,(map_range tyOk (rfl:kdOfT Ty _ = .map _ _) h).mono ?_⟩
  rintro _ w12 ⟨r,rfl,h⟩
  refine ⟨_,rfl,fun o n c' w'=>∃ ks:List Int,n = ks.length∧St w' (own 1 o n c' (iv ks) :: mapIt kk r (mV ps) ks :: sta (mO 2 tv ps) :: tabL kt ka (some ad) c asked ss.length m ss (cel k2 z3 :: [has H])),fun _ n _ _=>ps.length - n,⟨[],rfl,own_nil 1 h⟩,?_⟩
  clear h
  rintro _ o16 _ c16 w13 ⟨ks,rfl,h⟩
  refine (map_next (h.pick 2 [1,0])).mono ?_
  rintro _ w14 (⟨rfl,hperm,h⟩ | ⟨s,u,hsm,rfl,hkl,h⟩)
  rotate_left
  · rw [mV_len] at hkl
    refine .inr ⟨s,u,rfl,(map_entry h).mono ?_⟩
    rintro _ w27 ⟨rfl,e27⟩
    rw [e27]
    refine ⟨s,u,rfl,newC_i (mapItL_it h) fun k49 w28 h=>?_⟩
    refine (app_one (us:=iv ks) tyOk (rfl:kdOfT Ty _ = .slice _) (rfl:kdOfT Ty _ = .slice _) rfl rfl rfl (h.pick 3 [0,2,1]) rfl (by simp [oneC]) (by show (ks.length + 1) * 8≤_; omega) (by omega)).mono ?_
    rintro _ w29 ⟨o29,c29,rfl,h⟩
    refine ⟨_,_,_,rfl,⟨ks ++ [s],by simp,?_⟩,by dsimp only; omega⟩
    have e:iv (ks ++ [s]) = iv ks ++ [.int .i64 s]:=by simp [iv]
    rw [e]
    exact h.pick 3 [0,2]
  rw [mV_keys] at hperm
  obtain ⟨S,hS⟩ : ∃ S,S = symsOf g K:=⟨_,rfl⟩
  have hksS:=syms_of (ks:=ks) hc hKf (hperm.nodup_iff.2 hnd) fun s=>by rw [hperm.mem_iff]; exact hks s
  rw [← hS] at hksS
  have hpS:(S.map Int.ofNat).Perm (ps.map Prod.fst):=by rw [← hksS]; exact (List.mergeSort_perm ks _).trans hperm
  have hksl:ks.length = S.length:=by rw [hperm.length_eq,← hpS.length_eq,List.length_map]
  have hSl:S.length≤130:=by have:=hpS.length_eq; rw [List.length_map,List.length_map] at this; omega
  refine .inl ⟨rfl,(y_sortI (h.pick 2 [1,0]) (by omega)).mono ?_⟩
  rintro _ w15 ⟨rfl,h⟩
  rw [hksS] at h
  have h:=sta_perm (h.pick 3 [2,0,1]) (mO_order hnd hpS)
  refine ⟨rfl,fun o n c' z w'=>∃ (t:Nat) (es:List EdgeT) (ss' : List SQ) (o' : Option Addr) (c'' : Nat) (m' : List (ByteArray × Value)) (asked' : Int),z = t∧t≤S.length∧n = es.length∧BltI g K ss' m' asked' i t es∧ss.length≤ss'.length ∧
      St w' (own 2 o n c' (ev2 es) :: own 1 o16 ks.length c16 (iv (S.map Int.ofNat)) :: mapA kk (mV ps) :: sta (((S.map Int.ofNat).drop t).map fun s=>owQ 2 tv (getD' s ps)) :: tabL kt ka o' c'' asked' ss'.length m' ss' (cel k2 z3 :: [has H])),fun _ _ _ z _=>S.length - z.toNat,
    ⟨0,[],ss,some ad,c,m,asked,rfl,Nat.zero_le _,rfl,hB.inner hK,Nat.le_refl _,own_nil 2 (h.pick 3 [1,2,0])⟩,?_⟩
  clear h hq hKq hql
  rintro _ o17 _ c17 _ w16 ⟨t,es,ss',o',c'',m',asked',rfl,ht,rfl,hT2,hle,h⟩
  have hle2:ss'.length≤256:=hT2.le
  have hesl:es.length = t:=by
    rw [hT2.ed,bsy_len2,List.length_take,← hS,Nat.min_eq_left ht]; simp
  refine br_intro (fun h3=>?_) fun h3=>?_
  · have h3:t < S.length:=by have:=of_decide_eq_true h3; omega
    obtain ⟨s,hs⟩ : ∃ s,S[t]? = some s:=⟨_,List.getElem?_eq_getElem h3⟩
    have hsI:(S.map Int.ofNat)[t]? = some (s:Int):=by rw [List.getElem?_map,hs]; rfl
    obtain ⟨oad,hoa,hoc⟩:=own_cell (h.pick 2 [1]) (j:=t) (v:=.int .i64 (s:Int)) (by unfold iv; rw [List.getElem?_map,hsI]; rfl)
    have hkn:kern g K (s:Int)≠[]:=symsOf_ne s (by rw [← hS]; exact List.mem_of_getElem? hs)
    have hsk:(s:Int)∈ps.map Prod.fst:=(hks s).2 ⟨by omega,hkn⟩
    obtain ⟨Q,hQ⟩ : ∃ Q,getQ (s:Int) ps = some Q:=Option.isSome_iff_exists.1 (getQ_iff.2 hsk)
    have hQD:getD' (s:Int) ps = Q:=by unfold getD'; rw [hQ]; rfl
    have hQ2:Q.2 = kern g K (s:Int):=by rw [← hps s (by omega)]; unfold getK; rw [hQ]
    have hdrop:(S.map Int.ofNat).drop t = (s:Int) :: (S.map Int.ofNat).drop (t + 1):=by
      rw [List.drop_eq_getElem_cons (by rw [List.length_map]; exact h3)]
      congr 1
      exact (List.getElem?_eq_some_iff.1 hsI).2
    have hkl:=cls_len g K
    have hkl2:(kern g K (s:Int)).length≤(cls g K).length:=kernN_len g _ _
    have hQl:Q.2.length≤29300:=by rw [hQ2]; exact Nat.le_trans hkl2 (Nat.le_trans hkl (by omega))
    refine idx_i hoa (by omega) ⟨_,hoc,(map_lookup (κ:=Int) tyOk (rfl:kdOfT Ty _ = .map _ _) und_int rfl rfl (h.pick 3 [2]) (s:Int)).mono ?_⟩
    rintro _ w17 ⟨rfl,e17⟩
    rw [e17]
    rw [hdrop,List.map_cons,hQD] at h
    have h:=sta_pop (h.pick 4 [3,0,1,2])
    refine ⟨Q.1.1,Q.2.length,Q.1.2,by rw [assoc_mV,hQ]; rfl,(y_laid h (by omega)).mono ?_⟩
    rintro _ w18 ⟨o18,rfl,h⟩
    rw [hQ2,lay_same kern_srt] at h ⊢
    have hsmall:∀ x∈kern g K (s:Int),smallI x:=fun x hx=>by
      refine small_of hP (kern_fit hKf (Int.natCast_nonneg _) x hx) ?_
      obtain ⟨y,h1,_,rfl⟩:=kern_mem.1 hx
      have:=h1.dot hKd (Int.natCast_nonneg _)
      show y.dot + 1 < 65536
      omega
    have hask:=hT2.ask
    refine ⟨_,_,_,rfl,(y_intern (h.pick 10 [5,6,7,8,9,0,1,2,3,4]) hT2.key hkn hsmall ⟨by omega,by omega⟩ ⟨by omega,by omega⟩ (by omega) (by rw [← hQ2]; omega)).mono ?_⟩
    rintro _ w19 ⟨rfl,o2',c2',m2',hk2,h⟩
    have hnl:=newS_len ss' o18 (kern g K (s:Int)).length (kern g K (s:Int))
    have eint:(ss'.length:Int) + (((newS ss' o18 (kern g K (s:Int)).length (kern g K (s:Int))).length - ss'.length:Nat):Int) = ((newS ss' o18 (kern g K (s:Int)).length (kern g K (s:Int))).length:Int):=by omega
    rw [eint] at h
    refine ⟨_,rfl,newC_i h fun k38 w20 h=>?_⟩
    refine (app_one (us:=ev2 es) tyOk (rfl:kdOfT Ty _ = .slice _) (rfl:kdOfT Ty _ = .slice _) rfl rfl rfl (h.pick 8 [0,7,1,2,3,4,5,6]) rfl (by simp [oneC]) (by show (es.length + 1) * 16≤_; omega) (by omega)).mono ?_
    rintro _ w21 ⟨o20,c20,rfl,h⟩
    refine ⟨_,_,_,rfl,_,_,_,(rdCel 2 h.l).cell0 (sub.refl _),br_intro (fun h4=>?_) fun h4=>?_⟩
    · have h4:256 < (newS ss' o18 (kern g K (s:Int)).length (kern g K (s:Int))).length:=by have:=of_decide_eq_true h4; omega
      refine stR_i (h.pick 12 [10,11]) rfl (by simp [oneC]) fun w22 h=>⟨_,_,_,_,_,(rdCel 0 h.l).at (sub.refl _) rfl,.inr (.inl ⟨hc,⟨i,K,t + 1,hK,fun j hj=>?_,?_⟩,rfl,sub.trans sw (rdH 1 h.l)⟩)⟩
      · by_cases e:j = i
        · subst e; exact (List.getElem?_eq_some_iff.1 hK).1
        · exact hB.lt j (by omega)
      · rw [hS] at hs
        rw [bsy_take hs,← hT2.ks]
        have:=ksOf_len (newS ss' o18 (kern g K (s:Int)).length (kern g K (s:Int)))
        rw [newS_ks] at this
        show 256 < (inK _ _).length
        omega
    · have h4:(newS ss' o18 (kern g K (s:Int)).length (kern g K (s:Int))).length≤256:=by have:=of_decide_eq_false h4; omega
      refine ⟨⟨by omega,by omega⟩,⟨t + 1,es ++ [⟨(s:Int),(((ksOf ss').idxOf (kern g K (s:Int)):Nat):Int)⟩],_,o2',c2',m2',_,by simp,h3,by simp,hT2.next (by rw [← hS]; exact hs) (by omega) hk2 h4,by omega,?_⟩,msr h3⟩
      have e:ev2 (es ++ [⟨(s:Int),(((ksOf ss').idxOf (kern g K (s:Int)):Nat):Int)⟩]) = ev2 es ++ [.int .i64 (s:Int),.int .i64 (((ksOf ss').idxOf (kern g K (s:Int)):Nat):Int)]:=by unfold ev2; rw [List.flatMap_append]; rfl
      rw [e]
      exact h.pick 10 [0,8,9,7,2,3,4,5,6]
  · have h3:t = S.length:=by have:=of_decide_eq_false h3; omega
    intro w23 hd
    have h:=h.eq (drawn_hp hd)
    obtain ⟨q',hq'⟩ : ∃ q',ss'[i]? = some q':=⟨_,List.getElem?_eq_getElem (by omega)⟩
    have rt:rowH (hp w23) (aM kt) [.slice o' ss'.length c'',.int .i64 asked',.int .i64 (ss'.length:Int),.map (some ka)]:=rdCel 4 h.l
    obtain ⟨ad',rfl,_⟩:=st_row (rdOv 5 h.l) hq'
    refine ⟨fun u=>Gr w23 u,Gr.refl _,_,_,_,fun u s=>rt.cell0 s,run_slices_Clip_api_Edge_api_Edge_ _ _ _ w23 _ (slc_clip (own_le h) ⟨_,_,_,rfl,Gr.refl _,idx_n rfl (by omega) ?_⟩)⟩
    have h:=own_clip h
    rw [add_add,mulS_eq]
    refine own_st1 (h.pick 6 [5,0,4]) rfl (by rw [ssV_len]; omega) fun w26 h=>?_
    rw [h3] at hT2
    have hen:(slP o17 0 es.length 2,es.length,es).2.2 = es:=rfl
    have e1:=ssV_set hq' ((slP o17 0 es.length 2,es.length),es)
    have e2:=ks_set hq' ((slP o17 0 es.length 2,es.length),es)
    have h:=(St.staSet (n:=i) (h.pick 6 [1,5,0,2,3,4]) (by unfold eOw; rw [List.length_map]; omega)).pick 5 [2,1,3,4,0]
    refine ⟨⟨by omega,by omega⟩,⟨i + 1,ss'.set i (q'.1,((slP o17 0 es.length 2,es.length),es)),some ad',c'',m',asked',by simp,by rw [List.length_set]; omega,(by rw [← hS]; exact hT2:BltI g K ss' m' asked' i (symsOf g K).length es).done hB.lt hK hes (by omega) hq' _ rfl,?_⟩,by dsimp only; omega⟩
    unfold tabL
    rw [List.length_set,e2.2.1,e2.2.2.2,← e1]
    exact h
end Go.Proofs.YtndaepmjkbmjmaaGreatDoor
set_option linter.unusedVariables false
set_option maxRecDepth 4000
namespace Go.V
end Go.V
namespace Go.Proofs.YtndaepmjkbmjmaaGreatDoor
open Go.V
variable {w:World} {L:List Asn} {g:GramT} {x:GA} {a:Option Addr} {l c:Nat} {I:List ItemT}
end Go.Proofs.YtndaepmjkbmjmaaGreatDoor
set_option linter.unusedVariables false
namespace Go.Proofs.YtndaepmjkbmjmaaGreatDoor
open Go.V
end Go.Proofs.YtndaepmjkbmjmaaGreatDoor
set_option linter.unusedVariables false
set_option maxRecDepth 4000
namespace Go.V
structure StT where
  kern:List ItemT
  edges:List EdgeT
instance:Rep StT:={ n:=2,rd:=fun h q vs=>∃ a l c b n d,vs = [.slice a l c,.slice b n d]∧l≤c∧n≤d∧rdS h q.kern a l∧rdS h q.edges b n,mono:=fun s ⟨a,l,c,b,n,d,h1,h2,h3,h4,h5⟩=>⟨a,l,c,b,n,d,h1,h2,h3,h4.mono s,h5.mono s⟩,len:=fun ⟨_,_,_,_,_,_,h,_⟩=>by rw [h]; rfl }
end Go.V
namespace Go.Proofs.YtndaepmjkbmjmaaGreatDoor
open Go.V
variable {w:World} {L:List Asn} {g:GramT} {x:GA} {a a2:Option Addr} {l c l2 c2:Nat} {I J:List ItemT}
end Go.Proofs.YtndaepmjkbmjmaaGreatDoor
set_option linter.unusedVariables false
set_option maxRecDepth 4000
namespace Go.Proofs.YtndaepmjkbmjmaaGreatDoor
open Go.V
variable {w:World} {L:List Asn} {g:GramT} {x:GA} {a a2:Option Addr} {l c l2 c2:Nat} {I J:List ItemT}
end Go.Proofs.YtndaepmjkbmjmaaGreatDoor
set_option linter.unusedVariables false
set_option maxRecDepth 4000
namespace Go.V
section
variable {g:GramT} {I ls:List ItemT} {bs:List Bool} {i:Nat} {x y:ItemT}
theorem ClosedP.left (h:ClosedP g) {p:ProdT} (hp:p∈g.prods):(g.T:Int)≤p.left:=by
  obtain ⟨_,h1,h2,p0,hp0,hl,_⟩:=h
  obtain ⟨n,hn⟩:=List.getElem?_of_mem hp
  cases n with
  | zero=>rw [hp0] at hn; cases hn; omega
  | succ n =>
    have hm:p∈g.prods.drop 1:=by
      refine List.mem_of_getElem? (i:=n) ?_
      rw [List.getElem?_drop,Nat.add_comm]; exact hn
    have:=((h2.2.2.1 p hm).1).1
    omega
structure DclI (g:GramT) (I:List ItemT) (bs:List Bool) (i:Nat) (ls:List ItemT):Prop where
  nd:ls.Nodup
  sb:∀ x∈I,x∈ls
  ok:∀ x∈ls,ClM g I x
  ln:bs.length = g.T + g.N
  bt:∀ s:Nat,bs[s]? = some true→∀ k∈byL g s,it0 k∈ls
  dn:∀ (j:Nat) y,j < i→ls[j]? = some y→(g.T:Int)≤aft g y→bs[(aft g y).toNat]? = some true
theorem DclI.start:DclI g I (List.replicate (g.T + g.N) false) 0 (lay I) :=
  ⟨(lay_srt I).nodup,fun x hx=>lay_mem.2 hx,fun x hx=>.base (lay_mem.1 hx),by simp,fun s hs=>by rw [List.getElem?_replicate] at hs; split at hs <;> simp at hs,fun j y hj=>by omega⟩
theorem item_len (h1:ls.Nodup) (h2:∀ x∈ls,ClM g I x):ls.length≤I.length + g.prods.length:=by
  have:=nodup_len (m:=I ++ (List.range g.prods.length).map it0) h1 fun x hx=>by
    rw [List.mem_append]
    rcases (h2 x hx).or with h | ⟨i,hi,rfl⟩
    · exact .inl h
    · exact .inr (List.mem_map.2 ⟨i,List.mem_range.2 hi,rfl⟩)
  simpa using this
theorem DclI.len (h:DclI g I bs i ls):ls.length≤I.length + g.prods.length:=item_len h.nd h.ok
theorem DclI.skip (h:DclI g I bs i ls) (hy:ls[i]? = some y) (hs:aft g y < g.T∨bs[(aft g y).toNat]? = some true):DclI g I bs (i + 1) ls :=
  ⟨h.nd,h.sb,h.ok,h.ln,h.bt,fun j z hj hz h0=>by
    by_cases e:j = i
    · subst e; rw [hy] at hz; cases hz
      rcases hs with hs | hs
      · omega
      · exact hs
    · exact h.dn j z (by omega) hz h0⟩
structure DclJ (g:GramT) (I:List ItemT) (s:Int) (ls:List ItemT) (j:Nat) (ms:List ItemT):Prop where
  nd:ms.Nodup
  pre:∃ ex,ms = ls ++ ex
  ok:∀ x∈ms,ClM g I x
  al:∀ k∈byN g j s,it0 k∈ms
theorem DclI.inner (h:DclI g I bs i ls) (s:Int):DclJ g I s ls 0 ls:=⟨h.nd,⟨[],by simp⟩,h.ok,fun k hk=>by simp [byN] at hk⟩
theorem DclI.more {ms:List ItemT} (h:DclI g I bs i ls) (hy:ls[i]? = some y) (h0:0≤aft g y) (hl:(aft g y).toNat < bs.length) (hJ:DclJ g I (aft g y) ls g.prods.length ms):DclI g I (bs.set (aft g y).toNat true) (i + 1) ms:=by
  obtain ⟨ex,rfl⟩:=hJ.pre
  refine ⟨hJ.nd,fun x hx=>List.mem_append_left _ (h.sb x hx),hJ.ok,by rw [List.length_set]; exact h.ln,fun s hs k hk=>?_,fun j z hj hz h1=>?_⟩
  · by_cases e:(aft g y).toNat = s
    · have e2:(s:Int) = aft g y:=by omega
      rw [e2] at hk
      exact hJ.al k hk
    · rw [List.getElem?_set_ne e] at hs
      exact List.mem_append_left _ (h.bt s hs k hk)
  · have hjl:j < ls.length:=by have:=(List.getElem?_eq_some_iff.1 hy).1; omega
    rw [List.getElem?_append_left hjl] at hz
    by_cases e:(aft g y).toNat = (aft g z).toNat
    · rw [← e,List.getElem?_set_self hl]
    · rw [List.getElem?_set_ne e]
      by_cases e2:j = i
      · subst e2; rw [hy] at hz; cases hz; exact absurd rfl e
      · exact h.dn j z (by omega) hz h1
theorem DclI.fin (h:DclI g I bs i ls) (hc:ClosedP g) (hi:i = ls.length):lay ls = cls g I:=by
  refine cls_one (lay_srt _) fun x=>?_
  rw [lay_mem]
  refine ⟨h.ok x,fun hx=>?_⟩
  induction hx with
  | base hx=>exact h.sb _ hx
  | @step y k p _ h1 h2 h3 ih =>
    obtain ⟨j,hj⟩:=List.getElem?_of_mem ih
    have hl:=hc.left (List.mem_of_getElem? h2)
    have:=h.dn j y (by have:=(List.getElem?_eq_some_iff.1 hj).1; omega) hj (by omega)
    exact h.bt _ this k (byL_mem.2 ⟨p,h2,by rw [h3]; omega⟩)
theorem DclJ.skip {s:Int} {j:Nat} {ms:List ItemT} {p:ProdT} (h:DclJ g I s ls j ms) (hp:g.prods[j]? = some p) (hs:p.left≠s∨it0 j∈ms):DclJ g I s ls (j + 1) ms :=
  ⟨h.nd,h.pre,h.ok,fun k hk=>by
    rw [byN_succ hp,List.mem_append] at hk
    rcases hk with hk | hk
    · exact h.al k hk
    · split at hk
      · rename_i e
        simp at hk; subst hk
        rcases hs with hs | hs
        · exact absurd e.symm hs
        · exact hs
      · simp at hk⟩
theorem DclJ.put {s:Int} {j:Nat} {ms:List ItemT} {p:ProdT} (h:DclJ g I s ls j ms) (hp:g.prods[j]? = some p) (hs:p.left = s) (hn:it0 j∉ms) (hy:ClM g I y) (ha:aft g y = s) (h0:0≤s):DclJ g I s ls (j + 1) (ms ++ [it0 j]):=by
  obtain ⟨ex,rfl⟩:=h.pre
  refine ⟨?_,⟨ex ++ [it0 j],by simp⟩,fun x hx=>?_,fun k hk=>?_⟩
  · rw [List.nodup_append]
    exact ⟨h.nd,by simp,fun a ha b hb e=>by simp at hb; subst hb; subst e; exact hn (by simpa using ha)⟩
  · rw [List.mem_append,List.mem_singleton] at hx
    rcases hx with hx | rfl
    · exact h.ok x hx
    · exact .step hy (by omega) hp (by omega)
  · rw [byN_succ hp,List.mem_append] at hk
    rcases hk with hk | hk
    · exact List.mem_append_left _ (h.al k hk)
    · split at hk
      · simp at hk; subst hk; simp
      · simp at hk
end
end Go.V
namespace Go.Proofs.YtndaepmjkbmjmaaGreatDoor
open Go.V
variable {w:World} {L:List Asn} {g:GramT} {x:GA} {a a2:Option Addr} {l c l2 c2:Nat} {I J:List ItemT}
end Go.Proofs.YtndaepmjkbmjmaaGreatDoor
set_option linter.unusedVariables false
set_option maxRecDepth 4000
namespace Go.V
def stRd (h:Hp) (ss:List SQ) (o:Option Addr):Prop:=∀ (i:Nat) q,ss[i]? = some q→∃ ad,o = some ad∧rowH h (ad.add (mulS i 2)) (stV q)∧rdS h q.1.2 q.1.1.1 q.1.2.length∧rdS h q.2.2 q.2.1.1 q.2.2.length
theorem stRd.mono {h h' : Hp} {ss:List SQ} {o:Option Addr} (s:sub h h') (r:stRd h ss o):stRd h' ss o:=fun i q hq=>by
  obtain ⟨ad,h1,h2,h3,h4⟩:=r i q hq
  exact ⟨ad,h1,h2.mono s,h3.mono s,h4.mono s⟩
theorem rdEd_of {h:Hp} {xs:List EdgeT} {a:Option Addr} {l:Nat} (hl:xs.length = l) (r:rdV a (ev2 xs) h):rdS h xs a l:=by
  refine ⟨hl,fun i x hx=>?_⟩
  rcases r with e | ⟨ad,rfl,hc⟩
  · have h1:=congrArg List.length e
    rw [ev2_len,List.length_nil] at h1
    have:=(List.getElem?_eq_some_iff.1 hx).1; omega
  · exact ⟨ad,encE x,rfl,rowH_unflat (n:=2) (fun _=>rfl) xs ad hc i x hx,rfl⟩
theorem rdEd_get {h:Hp} {xs:List EdgeT} {a:Option Addr} {l:Nat} (r:rdS h xs a l) {i:Nat} (hi:i < l):∃ x ad,xs[i]? = some x∧a = some ad∧rowH h (ad.add (mulS i 2)) (encE x):=by
  obtain ⟨x,ad,vs,hx,ha,hr,e⟩:=r.get hi
  rw [show vs = encE x from e] at hr
  exact ⟨x,ad,hx,ha,hr⟩
theorem stRd_of {h:Hp} {L:List Asn} {ss:List SQ} {o:Option Addr} {n c:Nat} (hs:starL (own 2 o n c (ssV ss) :: sta (kOw ss) :: sta (eOw ss) :: L) h):stRd h ss o:=fun i q hq=>by
  obtain ⟨ad,e,r⟩:=st_row (rdOv 0 hs) hq
  obtain ⟨h1,s1,a1⟩:=staRead (starL_tail hs) (kOw_get hq)
  obtain ⟨h2,s2,a2⟩:=staRead (starL_tail (starL_tail hs)) (eOw_get hq)
  exact ⟨ad,e,r,(owQ_rdI a1).mono s1,(rdEd_of rfl (own_rdVh a2)).mono s2⟩
def symsTo (g:GramT) (K:Kern) (s:Nat):List Nat:=(List.range s).filter fun s=>decide (kern g K s≠[])
section
variable {g:GramT} {K:Kern} {ss:List SQ} {asked:Int} {i s:Nat} {es:List EdgeT}
theorem symsTo_succ:symsTo g K (s + 1) = symsTo g K s ++ if kern g K (s:Int)≠[] then [s] else []:=by
  unfold symsTo
  rw [List.range_succ,List.filter_append]
  congr 1
  by_cases h:kern g K (s:Int)≠[]
  · simp [h]
  · simp [h]
theorem kern_0 (hc:ClosedP g) (hf:∀ x∈K,fitI g x):kern g K 0 = []:=by
  refine Classical.byContradiction fun h=>?_
  have:=kern_sym (s:=0) hc hf (Int.le_refl _) h
  omega
structure RldI (g:GramT) (ss:List SQ) (asked:Int) (i:Nat):Prop where
  ks:ksOf ss = (bst g i).1
  es:esOf ss = (bst g i).2 ++ List.replicate (ss.length - i) []
  lt:∀ j,j < i→j < (bst g j).1.length
  le:ss.length≤256
  ask:asked = 1 + (totE (bst g i).2:Int)
structure RltI (g:GramT) (K:Kern) (ss:List SQ) (asked:Int) (i s:Nat) (es:List EdgeT):Prop where
  ks:ksOf ss = (bsy g K (symsTo g K s) ((bst g i).1,[])).1
  ed:es = (bsy g K (symsTo g K s) ((bst g i).1,[])).2
  eL:esOf ss = (bst g i).2 ++ es :: List.replicate (ss.length - i - 1) []
  le:ss.length≤256
  ask:asked = 1 + (totE (bst g i).2:Int) + es.length
theorem RldI.start {b:Option Addr} {d:Nat}:RldI g [(((b,d),[⟨0,0⟩]),((none,0),[]))] 1 0:=⟨rfl,rfl,fun j hj=>by omega,by simp,rfl⟩
theorem RldI.inner (h:RldI g ss asked i) (hi:i < ss.length) (h0:kern g K 0 = []):RltI g K ss asked i 1 []:=by
  have e:symsTo g K 1 = []:=by rw [show (1:Nat) = 0 + 1 from rfl,symsTo_succ]; simp [h0,symsTo]
  refine ⟨by rw [e]; exact h.ks,by rw [e]; rfl,?_,h.le,by rw [h.ask]; simp⟩
  rw [h.es,show ss.length - i = (ss.length - i - 1) + 1 by omega,List.replicate_succ]; simp
theorem RltI.skip (h:RltI g K ss asked i s es) (hk:kern g K (s:Int) = []):RltI g K ss asked i (s + 1) es:=by
  have e:symsTo g K (s + 1) = symsTo g K s:=by rw [symsTo_succ]; simp [hk]
  exact ⟨by rw [e]; exact h.ks,by rw [e]; exact h.ed,h.eL,h.le,h.ask⟩
theorem newS_es (ss:List SQ) (b:Option Addr) (d:Nat) (K:Kern):esOf (newS ss b d K) = esOf ss ++ List.replicate ((newS ss b d K).length - ss.length) []:=by
  unfold newS
  split
  · simp
  · simp [esOf]
theorem RltI.next (h:RltI g K ss asked i s es) (hk:kern g K (s:Int)≠[]) (hi:i < ss.length) (hes:(bst g i).2.length = i) {b:Option Addr} {d:Nat} (hle:(newS ss b d (kern g K s)).length≤256) {q:SQ} (hq:(newS ss b d (kern g K s))[i]? = some q) (E:Lq EdgeT)
    (hE:E.2 = es ++ [⟨(s:Int),(((ksOf ss).idxOf (kern g K s):Nat):Int)⟩]):RltI g K ((newS ss b d (kern g K s)).set i (q.1,E)) (asked + 1) i (s + 1) E.2:=by
  have e:symsTo g K (s + 1) = symsTo g K s ++ [s]:=by rw [symsTo_succ,if_pos hk]
  have hs:=ks_set hq E
  have hnl:=newS_len ss b d (kern g K s)
  refine ⟨?_,?_,?_,by rw [List.length_set]; exact hle,by rw [h.ask,hE]; simp; omega⟩
  · rw [hs.1,newS_ks,e,bsy_snoc,h.ks]
  · rw [hE,e,bsy_snoc,h.ed,h.ks]
  · rw [hs.2.2.1,newS_es,h.eL,List.length_set,List.append_assoc,List.set_append_right _ _ (by omega),hes,Nat.sub_self,List.cons_append,List.set_cons_zero,List.replicate_append_replicate]
    congr 3
    omega
theorem RltI.done (h:RltI g K ss asked i (g.T + g.N) es) (hb:∀ j,j < i→j < (bst g j).1.length) (hK:(bst g i).1[i]? = some K):RldI g ss asked (i + 1):=by
  have hb1:=bst_succ hK
  refine ⟨by rw [hb1]; exact h.ks,?_,fun j hj=>?_,h.le,?_⟩
  · rw [hb1,h.eL,h.ed,List.append_assoc]; rfl
  · by_cases e2:j = i
    · subst e2; exact (List.getElem?_eq_some_iff.1 hK).1
    · exact hb j (by omega)
  · rw [hb1,totE_snoc,h.ask,h.ed]
    show _ = 1 + ((totE (bst g i).2 + (bsy g K (symsOf g K) ((bst g i).1,[])).2.length:Nat):Int)
    rw [show symsOf g K = symsTo g K (g.T + g.N) from rfl]
    omega
theorem RltI.len (h:RltI g K ss asked i s es) (hs:s≤g.T + g.N):es.length≤s:=by
  rw [h.ed,bsy_len2]
  have:=List.length_filter_le (fun s=>decide (kern g K (s:Nat)≠[])) (List.range s)
  rw [List.length_range] at this
  simpa [symsTo] using this
theorem RltI.get (h:RltI g K ss asked i s es) (hes:(bst g i).2.length = i) {q:SQ} (hq:ss[i]? = some q):q.2.2 = es:=by
  have h1:(esOf ss)[i]? = some q.2.2:=by unfold esOf; rw [List.getElem?_map,hq]; rfl
  rw [h.eL,List.getElem?_append_right (by omega),hes,Nat.sub_self] at h1
  simpa using h1.symm
end
end Go.V
namespace Go.Proofs.YtndaepmjkbmjmaaGreatDoor
open Go.V
variable {w:World} {L:List Asn} {g:GramT} {x:GA} {a a2:Option Addr} {l c l2 c2:Nat} {I J:List ItemT}
end Go.Proofs.YtndaepmjkbmjmaaGreatDoor
set_option linter.unusedVariables false
set_option maxRecDepth 4000
namespace Go.Proofs.YtndaepmjkbmjmaaGreatDoor
open Go.V
variable {w:World} {L:List Asn} {g:GramT} {x:GA}
end Go.Proofs.YtndaepmjkbmjmaaGreatDoor

set_option linter.unusedVariables false
set_option maxRecDepth 4000
namespace Go.V
theorem rdS_lit9 {α : Type} [Rep α] {h:Hp} {xs:List α} {b:Nat} {vs:List Value} (r:rowH h ⟨b,0,none⟩ vs) (hx:∀ (i:Nat) x,xs[i]? = some x→rd h x ((vs.drop (i * Rep.n α)).take (Rep.n α))):rdS h xs (some ⟨b,0,none⟩) xs.length :=
  ⟨rfl,fun i x hi=>by
    refine ⟨_,_,rfl,fun j v hj=>?_,hx i x hi⟩
    rw [List.getElem?_take] at hj
    split at hj
    · rw [List.getElem?_drop] at hj
      rw [add_add,mulS_eq]
      exact r _ v hj
    · cases hj⟩
end Go.V
namespace Go.Proofs.YtndaepmjkbmjmaaGreatDoor
open Go.V
variable {w:World} {L:List Asn} {g:GramT} {x:GA} {a a2:Option Addr} {l c l2 c2:Nat} {I J:List ItemT}
end Go.Proofs.YtndaepmjkbmjmaaGreatDoor
set_option linter.unusedVariables false
set_option maxRecDepth 4000
namespace Go.Proofs.YtndaepmjkbmjmaaGreatDoor
open Go.V
section
variable {g:GramT} {I J:List ItemT} {x:ItemT} {s:Int}
open Classical
end
section
variable {w:World} {L:List Asn} {g:GramT} {x:GA} {a a2:Option Addr} {l c l2 c2:Nat} {I J:List ItemT} {s:Int}
end
end Go.Proofs.YtndaepmjkbmjmaaGreatDoor
set_option linter.unusedVariables false
set_option maxRecDepth 4000
namespace Go.Proofs.YtndaepmjkbmjmaaGreatDoor
open Go.V
section
variable {w:World} {L:List Asn} {g:GramT} {x:GA} {a a2:Option Addr} {l c l2 c2:Nat} {I J:List ItemT} {s:Int}
end
end Go.Proofs.YtndaepmjkbmjmaaGreatDoor
namespace Go.Proofs.YtndaepmjkbmjmaaGreatDoor
open Go.V
section
variable {w:World} {L:List Asn} {g:GramT} {x:GA} {a a2:Option Addr} {l c l2 c2:Nat} {I J:List ItemT} {s:Int}
end
end Go.Proofs.YtndaepmjkbmjmaaGreatDoor
set_option linter.unusedVariables false
set_option maxRecDepth 4000
namespace Go.V
def Res (g:GramT) (ss:List SQ) (ask int f:Int):Prop :=
  (¬ClosedP g∧ss = []∧ask = 0∧int = 0∧f = 1)∨(ClosedP g∧BigP g∧ss = []∧ask = 0∧int = 0∧f = 11)∨(ClosedP g∧AutI g ss∧ask = 1 + (totE (esOf ss):Int)∧int = (ss.length:Int)∧f = 0)
theorem Res.one {g:GramT} {ss ss' : List SQ} {a i f a' i' f' : Int} (h:Res g ss a i f) (h' : Res g ss' a' i' f'):ksOf ss = ksOf ss'∧esOf ss = esOf ss'∧a = a'∧i = i'∧f = f'∧ss.length = ss'.length:=by
  rcases h with ⟨h1,rfl,rfl,rfl,rfl⟩ | ⟨h1,hb,rfl,rfl,rfl,rfl⟩ | ⟨h1,hA,rfl,rfl,rfl⟩
  · rcases h' with ⟨h2,rfl,rfl,rfl,rfl⟩ | ⟨h2,_⟩ | ⟨h2,_⟩
    · exact ⟨rfl,rfl,rfl,rfl,rfl,rfl⟩
    · exact absurd h2 h1
    · exact absurd h2 h1
  · rcases h' with ⟨h2,_⟩ | ⟨h2,_,rfl,rfl,rfl,rfl⟩ | ⟨h2,hA,_⟩
    · exact absurd h1 h2
    · exact ⟨rfl,rfl,rfl,rfl,rfl,rfl⟩
    · exact (done_big hA.dn hb).elim
  · rcases h' with ⟨h2,_⟩ | ⟨h2,hb,_⟩ | ⟨h2,hA',rfl,rfl,rfl⟩
    · exact absurd h1 h2
    · exact (done_big hA.dn hb).elim
    · have e:=done_one hA.dn hA'.dn
      have e2:esOf ss = esOf ss':=by rw [hA.es,hA'.es,e]
      refine ⟨by rw [hA.ks,hA'.ks,e],e2,by rw [e2],by rw [e],rfl,e⟩
theorem AutI.klen {g:GramT} {ss:List SQ} (hc:ClosedP g) (h:AutI g ss):∀ q∈ss,q.1.2.length≤29100∧q.2.2.length≤130:=fun q hq=>by
  obtain ⟨hT,hN,hP,hP2,_,_⟩:=hc.sizes
  have hI:=bst_inv (g:=g) (by omega) ss.length
  obtain ⟨j,hj⟩:=List.getElem?_of_mem hq
  have e:(bst g ss.length).1[j]? = some q.1.2:=by rw [← h.ks]; unfold ksOf; rw [List.getElem?_map,hj]; rfl
  have e2:(bst g ss.length).2[j]? = some q.2.2:=by rw [← h.es]; unfold esOf; rw [List.getElem?_map,hj]; rfl
  have hm:=List.mem_of_getElem? e
  have hjl:=(List.getElem?_eq_some_iff.1 hj).1
  have h256:=h.dn.2.1
  refine ⟨kern_len hP (hI.srt _ hm) (hI.fit _ hm) fun x hx=>by have:=hI.dots j _ e x hx; omega,?_⟩
  have key:∀ i,∀ es∈(bst g i).2,es.length≤g.T + g.N:=by
    intro i
    induction i with
    | zero=>intro es hes; simp [bst] at hes
    | succ i ih =>
      intro es hes
      cases hi:(bst g i).1[i]? with
      | none=>rw [bst_none hi] at hes; exact ih es hes
      | some K =>
        rw [bst_succ hi] at hes
        rcases List.mem_append.1 hes with hes | hes
        · exact ih es hes
        · rw [List.mem_singleton] at hes
          subst hes
          rw [bsy_len2]
          have:=List.length_filter_le (fun s=>decide (kern g K (s:Nat)≠[])) (List.range (g.T + g.N))
          rw [List.length_range] at this
          simpa [symsOf] using this
  have:=key _ _ (List.mem_of_getElem? e2)
  omega
theorem Res.klen {g:GramT} {ss:List SQ} {a i f:Int} (h:Res g ss a i f):(∀ q∈ss,q.1.2.length≤29100∧q.2.2.length≤130)∧ss.length≤256:=by
  rcases h with ⟨_,rfl,_⟩ | ⟨_,_,rfl,_⟩ | ⟨hc,hA,_⟩
  · exact ⟨fun q hq=>by simp at hq,by simp⟩
  · exact ⟨fun q hq=>by simp at hq,by simp⟩
  · exact ⟨hA.klen hc,hA.dn.2.1⟩
end Go.V
namespace Go.Proofs.YtndaepmjkbmjmaaGreatDoor
open Go.V
section
variable {w:World} {L:List Asn} {g:GramT} {x:GA}
theorem y_BuildR (hg:gR (hp w) g x) (hb:okG g):Run Tryz.prog n_lr0_Build [.agg ⟨x.cells⟩] w fun v w'=>∃ (o:Option Addr) (c:Nat) (ss:List SQ) (ask int f:Int),v = .tuple #[.agg #[.slice o ss.length c,.int .i64 ask,.int .i64 int],.int .i64 f]∧Res g ss ask int f∧St w' (own 2 o ss.length c (ssV ss) :: sta (kOw ss) :: sta (eOw ss) :: all w):=by
  refine (y_Build hg hb).mono ?_
  have z:∀ {w' : World},Gr w w'→St w' (own 2 none 0 0 (ssV []) :: sta (kOw []) :: sta (eOw []) :: all w):=fun gr=>own_nil 2 ((St.flat (M:=[])).2 ((St.flat (M:=[])).2 (St.here gr)))
  rintro _ w' (⟨hn,rfl,gr⟩ | ⟨hc,hbig,rfl,gr⟩ | ⟨hc,o,ss,hA,rfl,h⟩)
  · exact ⟨none,0,[],0,0,1,rfl,.inl ⟨hn,rfl,rfl,rfl,rfl⟩,z gr⟩
  · exact ⟨none,0,[],0,0,11,rfl,.inr (.inl ⟨hc,hbig,rfl,rfl,rfl,rfl⟩),z gr⟩
  · exact ⟨o,_,ss,_,_,0,rfl,.inr (.inr ⟨hc,hA,rfl,rfl,rfl⟩),h⟩
end
end Go.Proofs.YtndaepmjkbmjmaaGreatDoor
set_option linter.unusedVariables false
set_option maxRecDepth 4000
namespace Go.Proofs.YtndaepmjkbmjmaaGreatDoor
open Go.V
section
variable {w:World} {L:List Asn} {g:GramT} {x:GA}
end
end Go.Proofs.YtndaepmjkbmjmaaGreatDoor
set_option linter.unusedVariables false
set_option maxRecDepth 4000
namespace Go.Proofs.YtndaepmjkbmjmaaGreatDoor
open Go.V
section
variable {w:World} {L:List Asn} {g:GramT} {x:GA}
end
end Go.Proofs.YtndaepmjkbmjmaaGreatDoor
set_option linter.unusedVariables false
set_option maxRecDepth 4000
namespace Go.V
section
variable {g:GramT} {K:Kern} {st:List Kern} {n i j:Nat}
theorem idx_inK {k:Kern}:(inK st k)[st.idxOf k]? = some k:=by
  unfold inK
  split
  · rename_i h
    rw [List.getElem?_eq_getElem (List.idxOf_lt_length_of_mem h),List.getElem_idxOf]
  · rename_i h
    rw [List.idxOf_eq_length h,List.getElem?_append_right (Nat.le_refl _),Nat.sub_self]; rfl
theorem bsy_edge:∀ (l:List Nat) (st:List Kern) (es:List EdgeT) (k s:Nat),l[k]? = some s→∃ to:Nat,(bsy g K l (st,es)).2[es.length + k]? = some ⟨(s:Int),(to:Int)⟩∧(bsy g K l (st,es)).1[to]? = some (kern g K (s:Int))
  | [],_,_,_,_,h=>by simp at h
  | a :: l,st,es,0,s,h=>by
    simp at h; subst h
    refine ⟨st.idxOf (kern g K (a:Int)),?_,?_⟩
    · show (bsy g K l (inK st (kern g K (a:Int)),es ++ [⟨(a:Int),_⟩])).2[es.length + 0]? = _
      have pre:∀ (l:List Nat) (st:List Kern) (es:List EdgeT) (k:Nat) e,es[k]? = some e→(bsy g K l (st,es)).2[k]? = some e:=by
        intro l
        induction l with
        | nil=>exact fun st es k e h=>h
        | cons b l ih =>
          intro st es k e h
          exact ih _ _ k e (by rw [List.getElem?_append_left (List.getElem?_eq_some_iff.1 h).1]; exact h)
      exact pre l _ _ _ _ (by rw [Nat.add_zero,List.getElem?_append_right (Nat.le_refl _),Nat.sub_self]; rfl)
    · show (bsy g K l (inK st (kern g K (a:Int)),es ++ [⟨(a:Int),_⟩])).1[_]? = _
      exact bsy_mono l _ _ _ _ idx_inK
  | a :: l,st,es,k + 1,s,h=>by
    obtain ⟨to,h1,h2⟩:=bsy_edge l (inK st (kern g K (a:Int))) (es ++ [⟨(a:Int),((st.idxOf (kern g K (a:Int)):Nat):Int)⟩]) k s (by simpa using h)
    refine ⟨to,?_,h2⟩
    rw [List.length_append,List.length_singleton] at h1
    rw [show es.length + (k + 1) = es.length + 1 + k by omega]
    exact h1
theorem bst_emono {i n:Nat} (h:i≤n) (j:Nat) (e:List EdgeT) (he:(bst g i).2[j]? = some e):(bst g n).2[j]? = some e:=by
  induction h with
  | refl=>exact he
  | @step m _ ih =>
    cases hi:(bst g m).1[m]? with
    | none=>rw [bst_none hi]; exact ih
    | some K=>rw [bst_succ hi,List.getElem?_append_left (List.getElem?_eq_some_iff.1 ih).1]; exact ih
theorem aut_at {ss:List SQ} (h:AutI g ss) {i:Nat} {q:SQ} (hq:ss[i]? = some q):(bst g i).1[i]? = some q.1.2∧q.2.2 = (bsy g q.1.2 (symsOf g q.1.2) ((bst g i).1,[])).2∧∀ (j:Nat) K,(bst g (i + 1)).1[j]? = some K→∃ r,ss[j]? = some r∧r.1.2 = K:=by
  have hil:=(List.getElem?_eq_some_iff.1 hq).1
  have hlt:=h.dn.2.2 i hil
  have e1:(bst g ss.length).1[i]? = some q.1.2:=by rw [← h.ks]; unfold ksOf; rw [List.getElem?_map,hq]; rfl
  obtain ⟨K,hK⟩ : ∃ K,(bst g i).1[i]? = some K:=⟨_,List.getElem?_eq_getElem hlt⟩
  have e2:=bst_mono (Nat.le_of_lt hil) i K hK
  rw [e1] at e2
  cases e2
  refine ⟨hK,?_,fun j K' hj=>?_⟩
  · have hb:=bst_succ hK
    have hes:=bst_es (g:=g) i (by omega)
    have e3:(bst g (i + 1)).2[i]? = some (bsy g q.1.2 (symsOf g q.1.2) ((bst g i).1,[])).2:=by
      rw [hb,List.getElem?_append_right (by omega),hes,Nat.sub_self]; rfl
    have e4:=bst_emono hil i _ e3
    rw [← h.es] at e4
    unfold esOf at e4
    rw [List.getElem?_map,hq] at e4
    exact Option.some.inj e4
  · have e5:=bst_mono hil j K' hj
    rw [← h.ks] at e5
    unfold ksOf at e5
    rw [List.getElem?_map] at e5
    cases hr:ss[j]? with
    | none=>rw [hr] at e5; cases e5
    | some r=>rw [hr] at e5; exact ⟨r,rfl,Option.some.inj e5⟩
theorem AutI.pos {ss:List SQ} (h:AutI g ss):0 < ss.length:=by
  refine Nat.pos_of_ne_zero fun h0=>?_
  have:=h.dn.1
  rw [h0] at this
  simp [bst] at this
end
end Go.V
namespace Go.Proofs.YtndaepmjkbmjmaaGreatDoor
open Go.V
section
variable {w:World} {L:List Asn} {g:GramT} {x:GA} {st:Int}
end
end Go.Proofs.YtndaepmjkbmjmaaGreatDoor
set_option linter.unusedVariables false
set_option maxRecDepth 4000
namespace Go.V
section
variable {g:GramT} {K K' : Kern} {s s' : Int} {ss:List SQ}
theorem bsy_new:∀ (l:List Nat) (st:List Kern) (es:List EdgeT) (j:Nat) (L:Kern),st.length≤j→(bsy g K l (st,es)).1[j]? = some L→∃ k s:Nat,l[k]? = some s∧L = kern g K (s:Int)∧(bsy g K l (st,es)).2[es.length + k]? = some ⟨(s:Int),(j:Int)⟩
  | [],st,es,j,L,hj,h=>by
    have:=(List.getElem?_eq_some_iff.1 h).1
    have h2:(bsy g K [] (st,es)).1.length = st.length:=rfl
    omega
  | a :: l,st,es,j,L,hj,h=>by
    by_cases hlt:(inK st (kern g K (a:Int))).length≤j
    · obtain ⟨k,s,h1,h2,h3⟩:=bsy_new l (inK st (kern g K (a:Int))) (es ++ [(⟨(a:Int),((st.idxOf (kern g K (a:Int)):Nat):Int)⟩ : EdgeT)]) j L hlt h
      refine ⟨k + 1,s,by simpa using h1,h2,?_⟩
      rw [List.length_append,List.length_singleton] at h3
      rw [show es.length + (k + 1) = es.length + 1 + k by omega]
      exact h3
    · have hn:kern g K (a:Int)∉st:=fun hm=>by
        have:(inK st (kern g K (a:Int))).length = st.length:=by unfold inK; rw [if_pos hm]
        omega
      have hlen:(inK st (kern g K (a:Int))).length = st.length + 1:=by unfold inK; rw [if_neg hn]; simp
      have hjs:j = st.length:=by omega
      obtain ⟨to,h1,h2⟩:=bsy_edge (g:=g) (K:=K) (a :: l) st es 0 a rfl
      have e:st.idxOf (kern g K (a:Int)) = st.length:=List.idxOf_eq_length hn
      have hj2:(inK st (kern g K (a:Int)))[j]? = some (kern g K (a:Int)):=by rw [hjs,← e]; exact idx_inK
      have hL:=bsy_mono l (inK st (kern g K (a:Int))) (es ++ [(⟨(a:Int),((st.idxOf (kern g K (a:Int)):Nat):Int)⟩ : EdgeT)]) j _ hj2 (g:=g) (K:=K)
      have h:(bsy g K l (inK st (kern g K (a:Int)),es ++ [(⟨(a:Int),((st.idxOf (kern g K (a:Int)):Nat):Int)⟩ : EdgeT)])).1[j]? = some L:=h
      rw [hL] at h
      refine ⟨0,a,rfl,(Option.some.inj h).symm,?_⟩
      have pre:∀ (l:List Nat) (st:List Kern) (es:List EdgeT) (k:Nat) e,es[k]? = some e→(bsy g K l (st,es)).2[k]? = some e:=by
        intro l
        induction l with
        | nil=>exact fun st es k e h=>h
        | cons b l ih =>
          intro st es k e h
          exact ih _ _ k e (by rw [List.getElem?_append_left (List.getElem?_eq_some_iff.1 h).1]; exact h)
      show (bsy g K l (inK st (kern g K (a:Int)),es ++ [⟨(a:Int),_⟩])).2[es.length + 0]? = _
      exact pre l _ _ _ _ (by rw [Nat.add_zero,List.getElem?_append_right (Nat.le_refl _),Nat.sub_self,hjs,e]; rfl)
theorem aut_edge (hc:ClosedP g) (h:AutI g ss) {i:Nat} {q:SQ} (hq:ss[i]? = some q) {m:Nat} {e:EdgeT} (he:q.2.2[m]? = some e):1≤e.sym∧e.sym < g.T + g.N∧∃ (j:Nat) (r:SQ),e.to = j∧1≤j∧ss[j]? = some r∧r.1.2 = kern g q.1.2 e.sym∧kern g q.1.2 e.sym≠[]:=by
  obtain ⟨hK,hE,hto⟩:=aut_at h hq
  obtain ⟨_,_,_,hP2,_,_⟩:=hc.sizes
  have hI:=bst_inv (g:=g) (by omega) i
  have hKf:=hI.fit _ (List.mem_of_getElem? hK)
  have hml:m < (symsOf g q.1.2).length:=by
    have:=(List.getElem?_eq_some_iff.1 he).1
    rw [hE,bsy_len2] at this
    simpa using this
  obtain ⟨to,h1,h2⟩:=bsy_edge (g:=g) (K:=q.1.2) (symsOf g q.1.2) (bst g i).1 [] m _ (List.getElem?_eq_getElem hml)
  rw [← hE] at h1
  have h1:q.2.2[m]? = some ⟨(((symsOf g q.1.2)[m] : Nat):Int),(to:Int)⟩:=by simpa using h1
  rw [he] at h1
  have h1:=Option.some.inj h1
  have hne:=symsOf_ne (g:=g) (K:=q.1.2) _ (List.getElem_mem hml)
  obtain ⟨r,hr,hrK⟩:=hto to _ (by rw [bst_succ hK]; exact h2)
  have hsy:=kern_sym hc hKf (Int.natCast_nonneg _) hne
  rw [h1]
  refine ⟨hsy.1,hsy.2,to,r,rfl,Nat.pos_of_ne_zero fun h0=>?_,hr,hrK,hne⟩
  subst h0
  have e0:(bst g ss.length).1[0]? = some [⟨0,0⟩]:=bst_mono (Nat.zero_le _) 0 _ rfl
  rw [← h.ks] at e0
  unfold ksOf at e0
  rw [List.getElem?_map,hr] at e0
  have e0:r.1.2 = [⟨0,0⟩]:=Option.some.inj e0
  rw [hrK] at e0
  have hm:(⟨0,0⟩ : ItemT)∈kern g q.1.2 (((symsOf g q.1.2)[m] : Nat):Int):=by rw [e0]; simp
  obtain ⟨y,hy,_,e⟩:=kern_mem.1 hm
  injection e with _ e2
  have:=(hy.fit hKf).2.1
  omega
theorem aut_from (hc:ClosedP g) (h:AutI g ss) {j:Nat} (hj:1≤j) (hjl:j < ss.length):∃ (i:Nat) (q:SQ) (m:Nat) (e:EdgeT),i < j∧ss[i]? = some q∧q.2.2[m]? = some e∧e.to = j:=by
  have key:∀ n,n≤ss.length→j < (bst g n).1.length→∃ (i:Nat) (K:Kern),i < n∧(bst g i).1[i]? = some K∧(bst g i).1.length≤j∧j < (bst g (i + 1)).1.length:=by
    intro n
    induction n with
    | zero=>intro _ h2; have:(bst g 0).1.length = 1:=rfl; omega
    | succ n ih =>
      intro hn h2
      by_cases h3:j < (bst g n).1.length
      · obtain ⟨i,K,h4,h5⟩:=ih (by omega) h3
        exact ⟨i,K,by omega,h5⟩
      · exact ⟨n,_,Nat.lt_succ_self n,List.getElem?_eq_getElem (h.dn.2.2 n (by omega)),by omega,h2⟩
  obtain ⟨i,K,h1,h2,h3,h4⟩:=key ss.length (Nat.le_refl _) (by rw [h.dn.1]; exact hjl)
  have hil:i < ss.length:=h1
  obtain ⟨q,hq⟩ : ∃ q,ss[i]? = some q:=⟨_,List.getElem?_eq_getElem hil⟩
  obtain ⟨hK,hE,_⟩:=aut_at h hq
  rw [h2] at hK
  cases hK
  have hlt:=h.dn.2.2 i hil
  rw [bst_succ h2] at h4
  obtain ⟨m,s,h5,h6,h7⟩:=bsy_new (g:=g) (symsOf g q.1.2) (bst g i).1 [] j _ h3 (List.getElem?_eq_getElem h4)
  exact ⟨i,q,m,_,by omega,hq,by rw [hE]; simpa using h7,rfl⟩
noncomputable def syAt (g:GramT) (ss:List SQ) (j:Nat):Int:=Classical.epsilon fun s:Int=>∃ (r:SQ) (K:Kern),ss[j]? = some r∧(∀ x∈K,fitI g x)∧r.1.2 = kern g K s∧kern g K s≠[]∧1≤s
theorem AutI.two (hc:ClosedP g) (h:AutI g ss):2≤ss.length:=by
  have hp:=h.pos
  refine Classical.byContradiction fun hlt=>?_
  have h1:ss.length = 1:=by omega
  obtain ⟨q,hq⟩ : ∃ q,ss[0]? = some q:=⟨_,List.getElem?_eq_getElem hp⟩
  obtain ⟨hK,hE,_⟩:=aut_at h hq
  have e0:q.1.2 = [⟨0,0⟩]:=by
    have:(bst g 0).1[0]? = some [⟨0,0⟩]:=rfl
    rw [this] at hK
    exact (Option.some.inj hK).symm
  obtain ⟨_,h2,h3,p0,hp0,hl,hr,_⟩:=id hc
  obtain ⟨hT,hN,_,_,hT1,_⟩:=hc.sizes
  have hgT:g.T = g.terms.length:=rfl
  have hst:=h3.2.2.2
  have ha:aft g ⟨0,0⟩ = g.start:=by rw [aft_some hp0,hr]; rfl
  have hne:kern g q.1.2 (((g.start).toNat:Nat):Int)≠[]:=by
    refine List.ne_nil_of_mem (a:=(⟨0,1⟩ : ItemT)) (kern_mem.2 ⟨⟨0,0⟩,.base (by rw [e0]; simp),?_,rfl⟩)
    rw [ha]; omega
  have hm:(g.start).toNat∈symsOf g q.1.2:=List.mem_filter.2 ⟨List.mem_range.2 (by omega),decide_eq_true hne⟩
  obtain ⟨k,hk⟩:=List.getElem?_of_mem hm
  have hkl:k < q.2.2.length:=by
    rw [hE,bsy_len2]
    have:=(List.getElem?_eq_some_iff.1 hk).1
    simpa using this
  obtain ⟨_,_,j,r,_,hj,hr,_⟩:=aut_edge hc h hq (List.getElem?_eq_getElem hkl)
  have:=(List.getElem?_eq_some_iff.1 hr).1
  omega
structure RchI (g:GramT) (ss:List SQ) (ins:List Bool) (bys:List Int) (todo:List Nat) (q0 k:Nat):Prop where
  li:ins.length = ss.length
  lb:bys.length = ss.length
  z:ins[0]? = some true
  td:∀ q∈todo,q < ss.length
  by' : ∀ (j:Nat) b,bys[j]? = some b→b = 0∨b = syAt g ss j
  bt:∀ j,ins[j]? = some true→1≤j→bys[j]? = some (syAt g ss j)
  cl:∀ (q:Nat) r,ins[q]? = some true→ss[q]? = some r→q∈todo∨(∀ (m:Nat) e,r.2.2[m]? = some e→(q = q0→m < k)→ins[e.to.toNat]? = some true)
theorem RchI.all {ins:List Bool} {bys:List Int} {q0 k:Nat} (hc:ClosedP g) (hA:AutI g ss) (h:RchI g ss ins bys [] q0 k) (hk:q0 = ss.length):∀ j,j < ss.length→ins[j]? = some true:=by
  intro j
  induction j using Nat.strongRecOn with
  | ind j ih =>
    intro hj
    cases j with
    | zero=>exact h.z
    | succ j =>
      obtain ⟨i,q,m,e,hij,hq,he,hto⟩:=aut_from hc hA (by omega) hj
      have hil:=(List.getElem?_eq_some_iff.1 hq).1
      rcases h.cl i q (ih i hij hil) hq with hm | hm
      · simp at hm
      · have:=hm m e he (fun e=>by omega)
        rw [hto,Int.toNat_natCast] at this
        exact this
theorem RchI.pop {ins:List Bool} {bys:List Int} {q0 k q:Nat} {todo:List Nat} (h:RchI g ss ins bys (q :: todo) q0 k) (hk:q0 = ss.length):RchI g ss ins bys todo q 0 :=
  ⟨h.li,h.lb,h.z,fun x hx=>h.td x (by simp [hx]),h.by',h.bt,fun x r hx hr=>by
    rcases h.cl x r hx hr with hm | hm
    · rcases List.mem_cons.1 hm with rfl | hm
      · exact .inr fun m e _ hlt=>absurd (hlt rfl) (by omega)
      · exact .inl hm
    · exact .inr fun m e he _=>hm m e he fun e2=>by have:=(List.getElem?_eq_some_iff.1 hr).1; omega⟩
theorem RchI.fin {ins:List Bool} {bys:List Int} {q0 k:Nat} {todo:List Nat} {r:SQ} (h:RchI g ss ins bys todo q0 k) (hr:ss[q0]? = some r) (hk:r.2.2.length≤k):RchI g ss ins bys todo ss.length 0 :=
  ⟨h.li,h.lb,h.z,h.td,h.by',h.bt,fun x r' hx hr'=>by
    rcases h.cl x r' hx hr' with hm | hm
    · exact .inl hm
    · refine .inr fun m e he _=>hm m e he fun e2=>?_
      subst e2
      rw [hr] at hr'; cases hr'
      have:=(List.getElem?_eq_some_iff.1 he).1; omega⟩
theorem RchI.step {ins:List Bool} {bys:List Int} {q0 k:Nat} {todo:List Nat} {r:SQ} (hc:ClosedP g) (hA:AutI g ss) (h:RchI g ss ins bys todo q0 k) (hr:ss[q0]? = some r) {e:EdgeT} (he:r.2.2[k]? = some e) {j:Nat} (hj:e.to = j) (hjl:j < ss.length) (hsy:syAt g ss j = e.sym) :
    (ins[j]? = some true→RchI g ss ins (bys.set j e.sym) todo q0 (k + 1))∧(ins[j]? = some false→RchI g ss (ins.set j true) (bys.set j e.sym) (todo ++ [j]) q0 (k + 1)):=by
  have hby:∀ (i:Nat) b,(bys.set j e.sym)[i]? = some b→b = 0∨b = syAt g ss i:=fun i b hb=>by
    by_cases e2:j = i
    · subst e2
      rw [List.getElem?_set_self (by rw [h.lb]; exact hjl)] at hb
      cases hb; exact .inr hsy.symm
    · rw [List.getElem?_set_ne e2] at hb; exact h.by' i b hb
  refine ⟨fun hin=>?_,fun hin=>?_⟩
  · refine ⟨h.li,by rw [List.length_set]; exact h.lb,h.z,h.td,hby,fun i hi h1=>?_,fun x r' hx hr'=>?_⟩
    · by_cases e2:j = i
      · subst e2; rw [List.getElem?_set_self (by rw [h.lb]; exact hjl),hsy]
      · rw [List.getElem?_set_ne e2]; exact h.bt i hi h1
    · rcases h.cl x r' hx hr' with hm | hm
      · exact .inl hm
      · refine .inr fun m e' he' hlt=>?_
        by_cases e2:x = q0∧m = k
        · obtain ⟨rfl,rfl⟩:=e2
          rw [hr] at hr'; cases hr'
          rw [he] at he'; cases he'
          rw [hj,Int.toNat_natCast]; exact hin
        · exact hm m e' he' fun e3=>by have:=hlt e3; rcases Nat.lt_or_ge m k with h5 | h5; exact h5; exact absurd ⟨e3,by omega⟩ e2
  · have hge:∀ i,ins[i]? = some true→(ins.set j true)[i]? = some true:=fun i hi=>by
      by_cases e2:j = i
      · subst e2; rw [hin] at hi; cases hi
      · rw [List.getElem?_set_ne e2]; exact hi
    refine ⟨by rw [List.length_set]; exact h.li,by rw [List.length_set]; exact h.lb,hge 0 h.z,fun x hx=>?_,hby,fun i hi h1=>?_,fun x r' hx hr'=>?_⟩
    · rw [List.mem_append,List.mem_singleton] at hx
      rcases hx with hx | rfl
      · exact h.td x hx
      · exact hjl
    · by_cases e2:j = i
      · subst e2; rw [List.getElem?_set_self (by rw [h.lb]; exact hjl),hsy]
      · rw [List.getElem?_set_ne e2] at hi ⊢; exact h.bt i hi h1
    · by_cases e2:j = x
      · subst e2; exact .inl (by simp)
      · rw [List.getElem?_set_ne e2] at hx
        rcases h.cl x r' hx hr' with hm | hm
        · exact .inl (by simp [hm])
        · refine .inr fun m e' he' hlt=>?_
          by_cases e3:x = q0∧m = k
          · obtain ⟨rfl,rfl⟩:=e3
            rw [hr] at hr'; cases hr'
            rw [he] at he'; cases he'
            rw [hj,Int.toNat_natCast,List.getElem?_set_self (by rw [h.li]; exact hjl)]
          · exact hge _ (hm m e' he' fun e4=>by have:=hlt e4; rcases Nat.lt_or_ge m k with h5 | h5; exact h5; exact absurd ⟨e4,by omega⟩ e3)
theorem RchI.start (hp:0 < ss.length):RchI g ss ((List.replicate ss.length false).set 0 true) (List.replicate ss.length 0) [0] ss.length 0:=by
  have hi:∀ i,((List.replicate ss.length false).set 0 true)[i]? = some true→i = 0:=fun i h=>by
    by_cases e:0 = i
    · exact e.symm
    · rw [List.getElem?_set_ne e,List.getElem?_replicate] at h
      split at h <;> simp at h
  refine ⟨by simp,by simp,by rw [List.getElem?_set_self (by simpa using hp)],fun q hq=>by simp at hq; omega,fun j b hb=>?_,fun j hj h1=>by have:=hi j hj; omega,fun q r hq hr=>.inl (by rw [hi q hq]; simp)⟩
  rw [List.getElem?_replicate] at hb
  split at hb
  · cases hb; exact .inl rfl
  · cases hb
end
end Go.V
set_option linter.unusedVariables false
set_option maxRecDepth 4000
namespace Go.V
variable {w:World} {L:List Asn}
end Go.V
namespace Go.Proofs.YtndaepmjkbmjmaaGreatDoor
open Go.V
section
variable {w:World} {L:List Asn} {g:GramT} {x:GA}
end
end Go.Proofs.YtndaepmjkbmjmaaGreatDoor
set_option linter.unusedVariables false
set_option maxRecDepth 4000
namespace Go.Proofs.YtndaepmjkbmjmaaGreatDoor
open Go.V
section
variable {w:World} {L:List Asn} {g:GramT} {x:GA}
end
end Go.Proofs.YtndaepmjkbmjmaaGreatDoor
set_option linter.unusedVariables false
set_option maxRecDepth 4000
namespace Go.V
class MKey2 (κ : Type) extends MVal κ where
  a:κ→Int
  b:κ→Int
  val2:∀ k,toMVal.val k = .agg ⟨[.int .i64 (a k),.int .i64 (b k)]⟩
  ext:∀ k l,a k = a l→b k = b l→k = l
section
variable {P:Program} {κ : Type} [DecidableEq κ] [MKey2 κ] {kt ti:TypeId} {f0 f1:Field}
structure Two (P:Program) (kt ti:TypeId) (f0 f1:Field):Prop where
  ht:P.underlying kt = some (.struct (P.fieldsOf kt))
  hf:P.fieldsOf kt = #[f0,f1]
  hi:P.underlying ti = some (.int .i64)
  ht0:f0.type = ti
  ht1:f1.type = ti
  n0 : f0.name ≠ "_"
  n1 : f1.name ≠ "_"
  o0:f0.offset = 0
  o1:f1.offset = 1
  sih:P.stoodInHeld kt = false
theorem two_eq (T:Two P kt ti f0 f1) (w:World) (x y u v:Int):(Op.equal kt (.agg #[.int .i64 x,.int .i64 y]) (.agg #[.int .i64 u,.int .i64 v])).run P w = .ok (decide (x = u∧y = v)) w:=by
  have p0:∀ (v u:Value) (w:World),(part ti #[v,u] 0).run P w = .ok v w:=fun v u w=>by simp [part,run_isAgg T.hi,kdOf,Kd.isAgg]
  have p1:∀ (v u:Value) (w:World),(part ti #[v,u] 1).run P w = .ok u w:=fun v u w=>by simp [part,run_isAgg T.hi,kdOf,Kd.isAgg]
  have eqI:∀ n m d w,(Op.equalIn (d + 1) ti (.int .i64 n) (.int .i64 m)).run P w = .ok (n == m) w:=fun n m d w=>run_equalIn_int w d _ _ _ _ _ T.hi
  show (Op.equalIn (9998 + 1 + 1) kt _ _).run P w = _
  rw [run_equalIn_agg w (9998 + 1) kt _ _ T.ht T.sih,T.hf]
  have n0:=T.n0
  have n1:=T.n1
  have e:decide (x = u∧y = v) = (x == u && y == v):=by
    rw [Bool.eq_iff_iff]; simp
  rw [e]
  unfold Op.eqFields
  simp only [ne_eq,n0,not_false_eq_true,if_true,Sem.run_bind,T.ht0,T.o0,p0,Result.andThen_ok,eqI]
  cases hq:(x == u)
  · simp
  · unfold Op.eqFields
    simp only [ne_eq,n1,not_false_eq_true,if_true,Sem.run_bind,T.ht1,T.o1,p1,Result.andThen_ok,eqI,Bool.not_true,Bool.false_eq_true,if_false]
    cases hn:(y == v)
    · simp
    · unfold Op.eqFields; simp
theorem two_find (T:Two P kt ti f0 f1) (w:World) (k:κ):∀ (es:List MapEntry) (m:List (κ × Value)) (i:Nat),es.map (fun e=>(e.key,e.val)) = m.map (fun x=>(MVal.val x.1,x.2)) →
    ∃ r,(Instr.findAsking kt (MVal.val k) es i).run P w = .ok r w∧(r.map (·.2)) = assoc k m∧(∀ j v,r = some (j,v)→i≤j∧j < i + m.length∧(m[j - i]?).map (·.1) = some k∧∀ u,aput k u m = m.set (j - i) (k,u))∧(r = none→∀ u,aput k u m = m ++ [(k,u)])
  | [],[],i,_=>⟨none,rfl,rfl,fun j v h=>(by cases h),fun _ u=>rfl⟩
  | [],_ :: _,i,h=>by simp at h
  | _ :: _,[],i,h=>by simp at h
  | e :: es,(a,v) :: m,i,h=>by
    simp only [List.map_cons,List.cons.injEq,Prod.mk.injEq] at h
    obtain ⟨⟨h1,h2⟩,h3⟩:=h
    have he:(Op.equal kt (MVal.val k) e.key).run P w = .ok (decide (k = a)) w:=by
      rw [h1,MKey2.val2,MKey2.val2]
      have:=two_eq T w (MKey2.a k) (MKey2.b k) (MKey2.a a) (MKey2.b a)
      have e2:decide (MKey2.a k = MKey2.a a∧MKey2.b k = MKey2.b a) = decide (k = a):=decide_eq_decide.2 ⟨fun ⟨h1,h2⟩=>MKey2.ext k a h1 h2,fun h=>by rw [h]; exact ⟨rfl,rfl⟩⟩
      rw [e2] at this
      exact this
    unfold Instr.findAsking
    simp only [Sem.run_bind,he,Result.andThen_ok]
    by_cases hk:k = a
    · subst hk
      refine ⟨some (i,e.val),by simp,by simp [assoc,h2],fun j u hj=>?_,fun hn=>by cases hn⟩
      cases hj
      simp [aput]
    · obtain ⟨r,q1,q2,q3,q4⟩:=two_find T w k es m (i + 1) h3
      refine ⟨r,by simp [hk,q1],by simp [assoc,hk,q2],fun j u hj=>?_,fun hn u=>by simp [aput,hk,q4 hn u]⟩
      obtain ⟨p1,p2,p3,p4⟩:=q3 j u hj
      have e1:j - i = (j - (i + 1)) + 1:=by omega
      refine ⟨by omega,by simp; omega,by rw [e1]; simpa using p3,fun u=>by rw [e1]; simp [aput,hk,p4 u]⟩
theorem KeyP.two (T:Two P kt ti f0 f1):KeyP P kt κ where
  check:=fun w em k=>by
    rw [MKey2.val2]
    have hd:=T.ht
    rw [T.hf] at hd
    have p0:∀ (v u:Value) (w:World),(part ti #[v,u] 0).run P w = .ok v w:=fun v u w=>by simp [part,run_isAgg T.hi,kdOf,Kd.isAgg]
    have p1:∀ (v u:Value) (w:World),(part ti #[v,u] 1).run P w = .ok u w:=fun v u w=>by simp [part,run_isAgg T.hi,kdOf,Kd.isAgg]
    have ci:∀ (n:Nat) (z:Int) (w:World),(Instr.checkKey em (n + 1) ti (.int .i64 z)).run P w = .ok () w:=fun n z w=>MapKept.run_checkKey (P:=P) (w:=w) T.hi (by exact rfl) em n
    show (Instr.checkKey em (9998 + 1 + 1) kt _).run P w = _
    unfold Instr.checkKey
    simp only [Sem.run_bind,run_underlying hd,Result.andThen_ok]
    have n0:=T.n0
    have n1:=T.n1
    simp [n0,n1,T.ht0,T.ht1,T.o0,T.o1,Sem.run_bind,p0,p1,ci]
  find:=fun w k es m he=>by
    obtain ⟨r,q1,q2,q3,q4⟩:=two_find T w k es m 0 he
    refine ⟨r,?_,q2,fun j v hj=>?_,q4⟩
    · have hd:=T.ht
      cases es with
      | nil =>
        cases m with
        | nil=>simp [Instr.findKey,run_underlying hd,Instr.findNow]; unfold Instr.findAsking at q1; simpa using q1
        | cons _ _=>simp at he
      | cons e es =>
        have hn:Instr.findNow (.struct (P.fieldsOf kt)) (MVal.val k) (e :: es) 0 = none:=by
          unfold Instr.findNow
          simp [Instr.sameNow]
        simp only [Instr.findKey,Sem.run_bind,run_underlying hd,Result.andThen_ok,hn]
        exact q1
    · obtain ⟨_,p2,p3,p4⟩:=q3 j v hj
      rw [Nat.sub_zero] at p3 p4
      exact ⟨by omega,p3,p4⟩
  bits:=fun k=>by rw [MKey2.val2]; simp [Instr.sameBits]
end
end Go.V
set_option linter.unusedVariables false
set_option maxRecDepth 4000
namespace Go.V
structure TransT where
  st:Int
  sym:Int
deriving DecidableEq
instance:Inhabited TransT:=⟨⟨0,0⟩⟩
instance:Rep TransT:={ n:=2,rd:=fun _ x vs=>vs = [.int .i64 x.st,.int .i64 x.sym],mono:=fun _ h=>h,len:=fun h=>by rw [h]; rfl }
instance:MKey2 TransT:={ val:=fun k=>.agg ⟨[.int .i64 k.st,.int .i64 k.sym]⟩,inj:=fun a b h=>by cases a; cases b; simp at h; obtain ⟨h1,h2⟩:=h; subst h1; subst h2; rfl,a:=TransT.st,b:=TransT.sym,val2:=fun _=>rfl,ext:=fun k l h1 h2=>by cases k; cases l; cases h1; cases h2; rfl }
def encR (x:TransT):List Value:=[.int .i64 x.st,.int .i64 x.sym]
def trv (xs:List TransT):List Value:=xs.flatMap encR
theorem trv_len (xs:List TransT):(trv xs).length = xs.length * 2:=fm_len (f:=encR) (n:=2) (fun _=>rfl) xs
theorem trv_app (xs ys:List TransT):trv (xs ++ ys) = trv xs ++ trv ys:=List.flatMap_append
theorem rdTr_of {h:Hp} {xs:List TransT} {a:Option Addr} {l:Nat} (hl:xs.length = l) (r:rdV a (trv xs) h):rdS h xs a l:=by
  refine ⟨hl,fun i x hx=>?_⟩
  rcases r with e | ⟨ad,rfl,hc⟩
  · have h1:=congrArg List.length e
    rw [trv_len,List.length_nil] at h1
    have:=(List.getElem?_eq_some_iff.1 hx).1; omega
  · exact ⟨ad,encR x,rfl,rowH_unflat (n:=2) (fun _=>rfl) xs ad hc i x hx,rfl⟩
theorem rdTr_get {h:Hp} {xs:List TransT} {a:Option Addr} {l:Nat} (r:rdS h xs a l) {i:Nat} (hi:i < l):∃ x ad,xs[i]? = some x∧a = some ad∧rowH h (ad.add (mulS i 2)) (encR x):=by
  obtain ⟨x,ad,vs,hx,ha,hr,e⟩:=r.get hi
  rw [show vs = encR x from e] at hr
  exact ⟨x,ad,hx,ha,hr⟩
def nxt (ss:List SQ) (i:Nat) (s:Int):Option Int:=match ss[i]? with
  | none=>none
  | some q=>(q.2.2.find? fun e=>decide (e.sym = s)).map (·.to)
def trAt (g:GramT) (i:Nat) (es:List EdgeT):List TransT:=(es.filter fun e=>decide ((g.T:Int)≤e.sym)).map fun e=>⟨(i:Int),e.sym⟩
def TrN (g:GramT) (ss:List SQ):Nat→List TransT
  | 0=>[]
  | i + 1=>TrN g ss i ++ (match ss[i]? with | some q=>trAt g i q.2.2 | none=>[])
def TrL (g:GramT) (ss:List SQ):List TransT:=TrN g ss ss.length
def dirOf (g:GramT) (ss:List SQ) (t:TransT):List Int :=
  (if t = ⟨0,g.start⟩ then [0] else []) ++ (match nxt ss t.st.toNat t.sym with
    | none=>[]
    | some j=>(match ss[j.toNat]? with | none=>[] | some q=>(q.2.2.filter fun e=>decide (e.sym < (g.T:Int))).map (·.sym)))
def wayN (ss:List SQ):Int→List Int→Int
  | q,[]=>q
  | q,s :: l=>match nxt ss q.toNat s with
    | none=>-1
    | some j=>wayN ss j l
section
variable {g:GramT} {ss:List SQ}
theorem TrN_succ {i:Nat} {q:SQ} (hq:ss[i]? = some q):TrN g ss (i + 1) = TrN g ss i ++ trAt g i q.2.2:=by
  show TrN g ss i ++ (match ss[i]? with | some q=>trAt g i q.2.2 | none=>[]) = _
  rw [hq]
theorem trAt_snoc {i:Nat} {es:List EdgeT} {e:EdgeT}:trAt g i (es ++ [e]) = if (g.T:Int)≤e.sym then trAt g i es ++ [⟨(i:Int),e.sym⟩] else trAt g i es:=by
  unfold trAt
  rw [List.filter_append,List.map_append]
  by_cases h:(g.T:Int)≤e.sym <;> simp [h]
theorem nxt_some {i:Nat} {q:SQ} (hq:ss[i]? = some q) (s:Int):nxt ss i s = (q.2.2.find? fun e=>decide (e.sym = s)).map (·.to):=by unfold nxt; rw [hq]
theorem aut_rise (h:AutI g ss) {i:Nat} {q:SQ} (hq:ss[i]? = some q):q.2.2.map (·.sym) = (symsOf g q.1.2).map Int.ofNat:=by
  obtain ⟨hK,hE,_⟩:=aut_at h hq
  have key:∀ (l:List Nat) (st:List Kern) (es:List EdgeT),(bsy g q.1.2 l (st,es)).2.map (·.sym) = es.map (·.sym) ++ l.map Int.ofNat:=by
    intro l
    induction l with
    | nil=>intro st es; simp [bsy]
    | cons a l ih =>
      intro st es
      show (bsy g q.1.2 l _).2.map _ = _
      rw [ih]; simp
  have:=key (symsOf g q.1.2) (bst g i).1 []
  rw [← hE] at this
  simpa using this
theorem find_at:∀ {es:List EdgeT} {k:Nat} {e:EdgeT},(es.map (·.sym)).Nodup→es[k]? = some e→(es.find? fun x=>decide (x.sym = e.sym)) = some e
  | [],k,e,_,h=>by simp at h
  | x :: es,0,e,_,h=>by simp at h; subst h; simp
  | x :: es,k + 1,e,hn,h=>by
    rw [List.map_cons,List.nodup_cons] at hn
    have h:es[k]? = some e:=by simpa using h
    have hne:x.sym≠e.sym:=fun e2=>hn.1 (by rw [e2]; exact List.mem_map.2 ⟨e,List.mem_of_getElem? h,rfl⟩)
    rw [List.find?_cons,decide_eq_false hne]
    exact find_at hn.2 h
theorem aut_nd (h:AutI g ss) {i:Nat} {q:SQ} (hq:ss[i]? = some q):(q.2.2.map (·.sym)).Nodup:=by
  rw [aut_rise h hq,List.nodup_iff_pairwise_ne,List.pairwise_map]
  exact (symsOf_srt g q.1.2).imp fun h e=>by simp at e; omega
theorem nxt_edge (h:AutI g ss) {i:Nat} {q:SQ} (hq:ss[i]? = some q) {k:Nat} {e:EdgeT} (he:q.2.2[k]? = some e):nxt ss i e.sym = some e.to:=by
  rw [nxt_some hq,find_at (aut_nd h hq) he]; rfl
theorem nxt_inv {i:Nat} {s:Int} {j:Int} (h:nxt ss i s = some j):∃ (q:SQ) (k:Nat) (e:EdgeT),ss[i]? = some q∧q.2.2[k]? = some e∧e.sym = s∧e.to = j:=by
  unfold nxt at h
  cases hq:ss[i]? with
  | none=>rw [hq] at h; cases h
  | some q =>
    rw [hq] at h
    simp only [Option.map_eq_some_iff] at h
    obtain ⟨e,he,rfl⟩:=h
    obtain ⟨k,hk⟩:=List.getElem?_of_mem (List.mem_of_find?_eq_some he)
    have:=List.find?_some he
    exact ⟨q,k,e,rfl,hk,of_decide_eq_true this,rfl⟩
end
end Go.V
set_option linter.unusedVariables false
namespace Go.Proofs.YtndaepmjkbmjmaaGreatDoor
open Go.V
def ann_slices_Clip_int_int_:Ann:={ rngs:=[],loops:=[],joins:=[],blocks:=[] }
set_option maxRecDepth 100000 in
def vc_slices_Clip_int_int_ (a:Option Addr) (b c:Nat) (w:World) (R:Value→WP):Prop :=  slc a b c none (some (↑b:Int)) (some (↑b:Int)) 1 fun (o1:Option Addr) (k1 k2:Nat)=>R (vS o1 k1 k2) w
set_option maxRecDepth 100000 in
theorem run_slices_Clip_int_int_ (a:Option Addr) (b c:Nat) (w:World) (R:Value→WP) (h:vc_slices_Clip_int_int_ a b c w R):Run Tryz.prog 107 [(.slice a b c)] w R:=rv Tryz.func107 ann_slices_Clip_int_int_ (by kernel_rfl) h

def ann_slices_Clip_api_Back_api_Back_:Ann:={ rngs:=[],loops:=[],joins:=[],blocks:=[] }
set_option maxRecDepth 100000 in
def vc_slices_Clip_api_Back_api_Back_ (a:Option Addr) (b c:Nat) (w:World) (R:Value→WP):Prop :=  slc a b c none (some (↑b:Int)) (some (↑b:Int)) 3 fun (o1:Option Addr) (k1 k2:Nat)=>R (vS o1 k1 k2) w
set_option maxRecDepth 100000 in
theorem run_slices_Clip_api_Back_api_Back_ (a:Option Addr) (b c:Nat) (w:World) (R:Value→WP) (h:vc_slices_Clip_api_Back_api_Back_ a b c w R):Run Tryz.prog 108 [(.slice a b c)] w R:=rv Tryz.func108 ann_slices_Clip_api_Back_api_Back_ (by kernel_rfl) h

abbrev n_trans_Direct:FuncId:=158
def ann_trans_Direct:Ann:={ rngs:=[],loops:=[(6,[(6,(.one .slice)),(23,(.one (.int .i64)))]),(12,[(9,(.one .slice)),(50,(.one (.int .i64)))])],joins:=[(11,[(9,(.one .slice))])],blocks:=[] }
set_option maxRecDepth 100000 in
def vc_trans_Direct (a:Option Addr) (b c:Nat) (d:Option Addr) (e f:Nat) (g:Option Addr) (i j:Nat) (k:Int) (l:Option Addr) (m n:Nat) (w:World) (R:Value→WP):Prop :=  new w (oC [vS a b c,vS d e f,vS g i j,iI k,vS l m n] 27) fun k1 w1=>∃ o1 k2 k3 o2 k4 k5 o3 k6 k7 n1 o4 k8 k9,V.rowAt w1 (aM k1) 0 5 = some [vS o1 k2 k3,vS o2 k4 k5,vS o3 k6 k7,iI n1,vS o4 k8 k9]∧RunE Proofs.Tryz.prog Ev 200 [vA (Array.mk [vS o1 k2 k3,vS o2 k4 k5,vS o3 k6 k7,iI n1,vS o4 k8 k9])] w1 fun v1 w2=>∃ o5 n2,v1 = vT (Array.mk [vP o5,iI n2])∧br (n2 != 0) (R (vT (Array.mk [vS none 0 0,iI n2])) w2) (RunE Proofs.Tryz.prog Ev 201 [vP o5] w2 fun v2 w3=>∃ o6 k10 k11,v2 = vS o6 k10 k11∧∃ (x1:lP [(6,shS),(23,shI)]),∃ (x2:lN [(6,shS),(23,shI)]),x1 none 0 0 0 w3∧∀ (I1:Nat→Value) (o7:Option Addr) (k12 k13:Nat) (n3:Int) (w4:World),x1 o7 k12 k13 n3 w4→br (decide (n3 < (↑k10:Int))) (idx o6 k10 n3 2 fun a1=>∃ n4 n5,V.rowAt w4 a1 0 2 = some [iI n4,iI n5]∧new w4 (oC [iI 0,iI 0] 184) fun k14 w5=>stR w5 (aM k14) [iI n4,iI n5] fun w6=>∃ (x3:lP [(9,shS)]),(∃ n6 n7,V.rowAt w6 (aM k14) 0 2 = some [iI n6,iI n7]∧∃ n8,World.cell? w6 (Addr.add (aM k1) 3) = some (iI n8)∧∃ v3,Sem.run Proofs.Tryz.prog (cmpS BinOp.eql 184 (Operand.tmp 27) (Operand.tmp 30) (vG [iI n6,iI n7]) (vG [iI 0,iI n8])) w6 = Result.ok v3 w6∧∃ b1,v3 = vB b1∧br b1 (new w6 (oC [iI 0] 3) fun k15 w7=>RunS Proofs.Tryz.prog (apB 24 (Array.mk [vS none 0 0,vS (some (aM k15)) 1 1])) w7 fun v4 w8=>∃ o8 k16 k17,v4 = vS o8 k16 k17∧x3 o8 k16 k17 w8) (x3 none 0 0 w6))∧∀ (I2:Nat→Value) (o9:Option Addr) (k18 k19:Nat) (w9:World),x3 o9 k18 k19 w9→∀ w10,drawn w9 w10→∃ (I3:World→Prop),I3 w10∧nn o5 fun a2=>∃ o10 k20 k21,(∀ w11,I3 w11→World.cell? w11 (Addr.add a2 5) = some (vS o10 k20 k21))∧nn o5 fun a3=>∃ o11,(∀ w12,I3 w12→World.cell? w12 (Addr.add a3 8) = some (Value.map o11))∧∃ n9 n10,(∀ w13,I3 w13→V.rowAt w13 (aM k14) 0 2 = some [iI n9,iI n10])∧RunS Proofs.Tryz.prog (Instr.lookup 180 (Value.map o11) (vG [iI n9,iI n10]) false) w10 fun v5 w14=>∃ n11,v5 = iI n11∧∃ (I4:World→Prop),I4 w14∧(∀ w15,I4 w15→I3 w15)∧idx o10 k20 n11 2 fun a4=>∃ o12 k22 k23,(∀ w16,I4 w16→World.cell? w16 (Addr.add a4 1) = some (vS o12 k22 k23))∧∃ (x4:lP [(9,shS),(50,shI)]),∃ (x5:lN [(9,shS),(50,shI)]),x4 o9 k18 k19 0 w14∧∀ (I5:Nat→Value) (o13:Option Addr) (k24 k25:Nat) (n12:Int) (w17:World),x4 o13 k24 k25 n12 w17→br (decide (n12 < (↑k22:Int))) (idx o12 k22 n12 2 fun a5=>∃ n13 n14,V.rowAt w17 a5 0 2 = some [iI n13,iI n14]∧new w17 (oC [iI 0,iI 0] 56) fun k26 w18=>stR w18 (aM k26) [iI n13,iI n14] fun w19=>∃ n15,World.cell? w19 (aM k26) = some (iI n15)∧∃ o14 k27 k28,World.cell? w19 (aM k1) = some (vS o14 k27 k28)∧br (decide (n15 < (↑k27:Int))) (∃ n16,World.cell? w19 (aM k26) = some (iI n16)∧new w19 (oC [iI n16] 3) fun k29 w20=>RunS Proofs.Tryz.prog (apB 24 (Array.mk [vS o13 k24 k25,vS (some (aM k29)) 1 1])) w20 fun v6 w21=>∃ o15 k30 k31,v6 = vS o15 k30 k31∧inI (n12 + 1)∧x4 o15 k30 k31 (n12 + 1) w21∧x5 o15 k30 k31 (n12 + 1) w21 < x5 o13 k24 k25 n12 w17) (inI (n12 + 1)∧x4 o13 k24 k25 (n12 + 1) w19∧x5 o13 k24 k25 (n12 + 1) w19 < x5 o13 k24 k25 n12 w17)) (RunE Proofs.Tryz.prog Ev 107 [vS o13 k24 k25] w17 fun v7 w22=>∃ o16 k32 k33,v7 = vS o16 k32 k33∧new w22 (oC [vS o16 k32 k33] 24) fun k34 w23=>RunS Proofs.Tryz.prog (apB 71 (Array.mk [vS o7 k12 k13,vS (some (aM k34)) 1 1])) w23 fun v8 w24=>∃ o17 k35 k36,v8 = vS o17 k35 k36∧inI (n3 + 1)∧x1 o17 k35 k36 (n3 + 1) w24∧x2 o17 k35 k36 (n3 + 1) w24 < x2 o7 k12 k13 n3 w4)) (RunE Proofs.Tryz.prog Ev 202 [vS o7 k12 k13] w4 fun v9 w25=>∃ o18 k37 k38,v9 = vS o18 k37 k38∧R (vT (Array.mk [vS o18 k37 k38,iI 0])) w25))
set_option maxRecDepth 100000 in
theorem run_trans_Direct (a:Option Addr) (b c:Nat) (d:Option Addr) (e f:Nat) (g:Option Addr) (i j:Nat) (k:Int) (l:Option Addr) (m n:Nat) (w:World) (R:Value→WP) (h:vc_trans_Direct a b c d e f g i j k l m n w R):Run Tryz.prog 158 [(.agg #[(.slice a b c),(.slice d e f),(.slice g i j),(.int .i64 k),(.slice l m n)])] w R:=rv Tryz.func158 ann_trans_Direct (by kernel_rfl) h

abbrev n_trans_List:FuncId:=163
def ann_trans_List:Ann:={ rngs:=[],loops:=[],joins:=[],blocks:=[] }
set_option maxRecDepth 100000 in
def vc_trans_List (a:Option Addr) (b c:Nat) (d:Option Addr) (e f:Nat) (g:Option Addr) (i j:Nat) (k:Int) (l:Option Addr) (m n:Nat) (w:World) (R:Value→WP):Prop :=  new w (oC [vS a b c,vS d e f,vS g i j,iI k,vS l m n] 27) fun k1 w1=>∃ o1 k2 k3 o2 k4 k5 o3 k6 k7 n1 o4 k8 k9,V.rowAt w1 (aM k1) 0 5 = some [vS o1 k2 k3,vS o2 k4 k5,vS o3 k6 k7,iI n1,vS o4 k8 k9]∧RunE Proofs.Tryz.prog Ev 200 [vA (Array.mk [vS o1 k2 k3,vS o2 k4 k5,vS o3 k6 k7,iI n1,vS o4 k8 k9])] w1 fun v1 w2=>∃ o5 n2,v1 = vT (Array.mk [vP o5,iI n2])∧br (n2 != 0) (R (vT (Array.mk [vS none 0 0,iI n2])) w2) (RunE Proofs.Tryz.prog Ev 201 [vP o5] w2 fun v2 w3=>∃ o6 k10 k11,v2 = vS o6 k10 k11∧R (vT (Array.mk [vS o6 k10 k11,iI 0])) w3)
set_option maxRecDepth 100000 in
theorem run_trans_List (a:Option Addr) (b c:Nat) (d:Option Addr) (e f:Nat) (g:Option Addr) (i j:Nat) (k:Int) (l:Option Addr) (m n:Nat) (w:World) (R:Value→WP) (h:vc_trans_List a b c d e f g i j k l m n w R):Run Tryz.prog 163 [(.agg #[(.slice a b c),(.slice d e f),(.slice g i j),(.int .i64 k),(.slice l m n)])] w R:=rv Tryz.func163 ann_trans_List (by kernel_rfl) h

abbrev n_trans_of:FuncId:=200
def ann_trans_of:Ann:={ rngs:=[],loops:=[(6,[(27,(.one (.int .i64)))]),(9,[(35,(.one (.int .i64)))])],joins:=[],blocks:=[] }
set_option maxRecDepth 100000 in
def vc_trans_of (a:Option Addr) (b c:Nat) (d:Option Addr) (e f:Nat) (g:Option Addr) (i j:Nat) (k:Int) (l:Option Addr) (m n:Nat) (w:World) (R:Value→WP):Prop :=  new w (oC [vS a b c,vS d e f,vS g i j,iI k,vS l m n] 27) fun k1 w1=>∃ o1 k2 k3 o2 k4 k5 o3 k6 k7 n1 o4 k8 k9,V.rowAt w1 (aM k1) 0 5 = some [vS o1 k2 k3,vS o2 k4 k5,vS o3 k6 k7,iI n1,vS o4 k8 k9]∧RunE Proofs.Tryz.prog Ev 26 [vA (Array.mk [vS o1 k2 k3,vS o2 k4 k5,vS o3 k6 k7,iI n1,vS o4 k8 k9])] w1 fun v1 w2=>∃ o5 k10 k11 n2 n3 n4,v1 = vT (Array.mk [vA (Array.mk [vS o5 k10 k11,iI n2,iI n3]),iI n4])∧new w2 (oC [vS none 0 0,iI 0,iI 0] 45) fun k12 w3=>stR w3 (aM k12) [vS o5 k10 k11,iI n2,iI n3] fun w4=>br (n4 != 0) (R (vT (Array.mk [vP none,iI n4])) w4) (∃ o6 k13 k14 o7 k15 k16 o8 k17 k18 n5 o9 k19 k20,V.rowAt w4 (aM k1) 0 5 = some [vS o6 k13 k14,vS o7 k15 k16,vS o8 k17 k18,iI n5,vS o9 k19 k20]∧∃ o10 k21 k22 n6 n7,V.rowAt w4 (aM k12) 0 3 = some [vS o10 k21 k22,iI n6,iI n7]∧new w4 (Obj.map (Array.mk []) 0) fun k23 w5=>new w5 (oC [vS o6 k13 k14,vS o7 k15 k16,vS o8 k17 k18,iI n5,vS o9 k19 k20,vS o10 k21 k22,iI n6,iI n7,Value.map (some k23)] 279) fun k24 w6=>∃ o11 k25 k26,World.cell? w6 (aM k12) = some (vS o11 k25 k26)∧∃ (x1:lP [(27,shI)]),∃ (x2:lN [(27,shI)]),x1 0 w6∧∀ (I1:Nat→Value) (n8:Int) (w7:World),x1 n8 w7→br (decide (n8 < (↑k25:Int))) (idx o11 k25 n8 2 fun a1=>∃ o12 k27 k28 o13 k29 k30,V.rowAt w7 a1 0 2 = some [vS o12 k27 k28,vS o13 k29 k30]∧new w7 (oC [vS none 0 0,vS none 0 0] 54) fun k31 w8=>stR w8 (aM k31) [vS o12 k27 k28,vS o13 k29 k30] fun w9=>∃ o14 k32 k33,World.cell? w9 (Addr.add (aM k31) 1) = some (vS o14 k32 k33)∧∃ (x3:lP [(35,shI)]),∃ (x4:lN [(35,shI)]),x3 0 w9∧∀ (I2:Nat→Value) (n9:Int) (w10:World),x3 n9 w10→br (decide (n9 < (↑k32:Int))) (idx o14 k32 n9 2 fun a2=>∃ n10 n11,V.rowAt w10 a2 0 2 = some [iI n10,iI n11]∧new w10 (oC [iI 0,iI 0] 56) fun k34 w11=>stR w11 (aM k34) [iI n10,iI n11] fun w12=>∀ w13,drawn w12 w13→∃ (I3:World→Prop),I3 w13∧∃ o15,(∀ w14,I3 w14→World.cell? w14 (Addr.add (aM k24) 8) = some (Value.map o15))∧∃ n12,(∀ w15,I3 w15→World.cell? w15 (aM k34) = some (iI n12))∧∃ n13,(∀ w16,I3 w16→World.cell? w16 (Addr.add (aM k34) 1) = some (iI n13))∧RunS Proofs.Tryz.prog (Instr.mapUpdate 180 (Value.map o15) (vG [iI n8,iI n12]) (iI n13)) w13 fun (x5:Unit) (w17:World)=>inI (n9 + 1)∧x3 (n9 + 1) w17∧x4 (n9 + 1) w17 < x4 n9 w10) (inI (n8 + 1)∧x1 (n8 + 1) w10∧x2 (n8 + 1) w10 < x2 n8 w7)) (R (vT (Array.mk [vP (some (aM k24)),iI 0])) w7))
set_option maxRecDepth 100000 in
theorem run_trans_of (a:Option Addr) (b c:Nat) (d:Option Addr) (e f:Nat) (g:Option Addr) (i j:Nat) (k:Int) (l:Option Addr) (m n:Nat) (w:World) (R:Value→WP) (h:vc_trans_of a b c d e f g i j k l m n w R):Run Tryz.prog 200 [(.agg #[(.slice a b c),(.slice d e f),(.slice g i j),(.int .i64 k),(.slice l m n)])] w R:=rv Tryz.func200 ann_trans_of (by kernel_rfl) h

abbrev n_trans_ways_list:FuncId:=201
def ann_trans_ways_list:Ann:={ rngs:=[],loops:=[(3,[(3,(.one .slice)),(14,(.one (.int .i64)))]),(6,[(3,(.one .slice)),(22,(.one (.int .i64)))])],joins:=[],blocks:=[] }
set_option maxRecDepth 100000 in
def vc_trans_ways_list (a:Option Addr) (w:World) (R:Value→WP):Prop :=  nn a fun a1=>∃ o1 k1 k2,World.cell? w (Addr.add a1 5) = some (vS o1 k1 k2)∧∃ (x1:lP [(3,shS),(14,shI)]),∃ (x2:lN [(3,shS),(14,shI)]),x1 none 0 0 0 w∧∀ (I1:Nat→Value) (o2:Option Addr) (k3 k4:Nat) (n1:Int) (w1:World),x1 o2 k3 k4 n1 w1→br (decide (n1 < (↑k1:Int))) (idx o1 k1 n1 2 fun a2=>∃ o3 k5 k6 o4 k7 k8,V.rowAt w1 a2 0 2 = some [vS o3 k5 k6,vS o4 k7 k8]∧new w1 (oC [vS none 0 0,vS none 0 0] 54) fun k9 w2=>stR w2 (aM k9) [vS o3 k5 k6,vS o4 k7 k8] fun w3=>∃ o5 k10 k11,World.cell? w3 (Addr.add (aM k9) 1) = some (vS o5 k10 k11)∧∃ (x3:lP [(3,shS),(22,shI)]),∃ (x4:lN [(3,shS),(22,shI)]),x3 o2 k3 k4 0 w3∧∀ (I2:Nat→Value) (o6:Option Addr) (k12 k13:Nat) (n2:Int) (w4:World),x3 o6 k12 k13 n2 w4→br (decide (n2 < (↑k10:Int))) (idx o5 k10 n2 2 fun a3=>∃ n3 n4,V.rowAt w4 a3 0 2 = some [iI n3,iI n4]∧new w4 (oC [iI 0,iI 0] 56) fun k14 w5=>stR w5 (aM k14) [iI n3,iI n4] fun w6=>∀ w7,drawn w6 w7→∃ (I3:World→Prop),I3 w7∧∃ n5,(∀ w8,I3 w8→World.cell? w8 (aM k14) = some (iI n5))∧nn a fun a4=>∃ o7 k15 k16,(∀ w9,I3 w9→World.cell? w9 a4 = some (vS o7 k15 k16))∧br (decide ((↑k15:Int)≤n5)) (∃ n6,World.cell? w7 (aM k14) = some (iI n6)∧new w7 (oC [iI n1,iI n6] 184) fun k17 w10=>RunS Proofs.Tryz.prog (apB 179 (Array.mk [vS o6 k12 k13,vS (some (aM k17)) 1 1])) w10 fun v1 w11=>∃ o8 k18 k19,v1 = vS o8 k18 k19∧inI (n2 + 1)∧x3 o8 k18 k19 (n2 + 1) w11∧x4 o8 k18 k19 (n2 + 1) w11 < x4 o6 k12 k13 n2 w4) (inI (n2 + 1)∧x3 o6 k12 k13 (n2 + 1) w7∧x4 o6 k12 k13 (n2 + 1) w7 < x4 o6 k12 k13 n2 w4)) (inI (n1 + 1)∧x1 o6 k12 k13 (n1 + 1) w4∧x2 o6 k12 k13 (n1 + 1) w4 < x2 o2 k3 k4 n1 w1)) (RunE Proofs.Tryz.prog Ev 238 [vS o2 k3 k4] w1 fun v2 w12=>∃ o9 k20 k21,v2 = vS o9 k20 k21∧R (vS o9 k20 k21) w12)
set_option maxRecDepth 100000 in
theorem run_trans_ways_list (a:Option Addr) (w:World) (R:Value→WP) (h:vc_trans_ways_list a w R):Run Tryz.prog 201 [(.pointer a)] w R:=rv Tryz.func201 ann_trans_ways_list (by kernel_rfl) h

def ann_slices_Clip_LLint_int_:Ann:={ rngs:=[],loops:=[],joins:=[],blocks:=[] }
set_option maxRecDepth 100000 in
def vc_slices_Clip_LLint_int_ (a:Option Addr) (b c:Nat) (w:World) (R:Value→WP):Prop :=  slc a b c none (some (↑b:Int)) (some (↑b:Int)) 1 fun (o1:Option Addr) (k1 k2:Nat)=>R (vS o1 k1 k2) w
set_option maxRecDepth 100000 in
theorem run_slices_Clip_LLint_int_ (a:Option Addr) (b c:Nat) (w:World) (R:Value→WP) (h:vc_slices_Clip_LLint_int_ a b c w R):Run Tryz.prog 202 [(.slice a b c)] w R:=rv Tryz.func202 ann_slices_Clip_LLint_int_ (by kernel_rfl) h

def ann_slices_Clip_api_Trans_api_Trans_:Ann:={ rngs:=[],loops:=[],joins:=[],blocks:=[] }
set_option maxRecDepth 100000 in
def vc_slices_Clip_api_Trans_api_Trans_ (a:Option Addr) (b c:Nat) (w:World) (R:Value→WP):Prop :=  slc a b c none (some (↑b:Int)) (some (↑b:Int)) 2 fun (o1:Option Addr) (k1 k2:Nat)=>R (vS o1 k1 k2) w
set_option maxRecDepth 100000 in
theorem run_slices_Clip_api_Trans_api_Trans_ (a:Option Addr) (b c:Nat) (w:World) (R:Value→WP) (h:vc_slices_Clip_api_Trans_api_Trans_ a b c w R):Run Tryz.prog 238 [(.slice a b c)] w R:=rv Tryz.func238 ann_slices_Clip_api_Trans_api_Trans_ (by kernel_rfl) h

abbrev n_slices_Compact_int_int_:FuncId:=240
def ann_slices_Compact_int_int_:Ann:={ rngs:=[],loops:=[(4,[(3,(.one (.int .i64)))]),(9,[(3,(.one (.int .i64))),(5,(.one (.int .i64)))])],joins:=[],blocks:=[] }
set_option maxRecDepth 100000 in
def vc_slices_Compact_int_int_ (a:Option Addr) (b c:Nat) (w:World) (R:Value→WP):Prop :=  br (decide ((↑b:Int) < 2)) (R (vS a b c) w) (∃ (x1:lP [(3,shI)]),∃ (x2:lN [(3,shI)]),x1 1 w∧∀ (I1:Nat→Value) (n1:Int) (w1:World),x1 n1 w1→br (decide (n1 < (↑b:Int))) (∀ w2,drawn w1 w2→∃ (I2:World→Prop),I2 w2∧idx a b n1 1 fun a1=>∃ n2,(∀ w3,I2 w3→World.cell? w3 a1 = some (iI n2))∧inI (n1 - 1)∧idx a b (n1 - 1) 1 fun a2=>∃ n3,(∀ w4,I2 w4→World.cell? w4 a2 = some (iI n3))∧br (n2 == n3) (slc a b c (some n1) none none 1 fun (o1:Option Addr) (k1 k2:Nat)=>∃ (x3:lP [(3,shI),(5,shI)]),∃ (x4:lN [(3,shI),(5,shI)]),x3 n1 1 w2∧∀ (I3:Nat→Value) (n4 n5:Int) (w5:World),x3 n4 n5 w5→br (decide (n5 < (↑k1:Int))) (∀ w6,drawn w5 w6→∃ (I4:World→Prop),I4 w6∧idx o1 k1 n5 1 fun a3=>∃ n6,(∀ w7,I4 w7→World.cell? w7 a3 = some (iI n6))∧inI (n5 - 1)∧idx o1 k1 (n5 - 1) 1 fun a4=>∃ n7,(∀ w8,I4 w8→World.cell? w8 a4 = some (iI n7))∧br (n6 != n7) (idx o1 k1 n5 1 fun a5=>∃ n8,World.cell? w6 a5 = some (iI n8)∧idx a b n4 1 fun a6=>st1 w6 a6 (iI n8) fun w9=>inI (n4 + 1)∧inI (n5 + 1)∧x3 (n4 + 1) (n5 + 1) w9∧x4 (n4 + 1) (n5 + 1) w9 < x4 n4 n5 w5) (inI (n5 + 1)∧x3 n4 (n5 + 1) w6∧x4 n4 (n5 + 1) w6 < x4 n4 n5 w5)) (slc a b c (some n4) none none 1 fun (o2:Option Addr) (k3 k4:Nat)=>RunS Proofs.Tryz.prog (Builtin.clear_ (Array.mk [24]) 0 (Array.mk [vS o2 k3 k4])) w5 fun v1 w10=>slc a b c none (some n4) none 1 fun (o3:Option Addr) (k5 k6:Nat)=>R (vS o3 k5 k6) w10)) (inI (n1 + 1)∧x1 (n1 + 1) w2∧x2 (n1 + 1) w2 < x2 n1 w1)) (R (vS a b c) w1))
set_option maxRecDepth 100000 in
theorem run_slices_Compact_int_int_ (a:Option Addr) (b c:Nat) (w:World) (R:Value→WP) (h:vc_slices_Compact_int_int_ a b c w R):Run Tryz.prog 240 [(.slice a b c)] w R:=rv Tryz.func240 ann_slices_Compact_int_int_ (by kernel_rfl) h

end Go.Proofs.YtndaepmjkbmjmaaGreatDoor
set_option linter.unusedVariables false
set_option maxRecDepth 4000
namespace Go.V
section
variable {κ : Type} [DecidableEq κ] [MVal κ] {P:Program} {Ty:TypeId→Option TyI} {w:World} {L:List Asn} {b:Nat} {m:List (κ × Value)} {h:Hp}
end
def WayI (ss:List SQ) (m:List (TransT × Value)) (i:Nat) (es:List EdgeT):Prop:=∀ k:TransT,assoc k m =
  if k.st < 0 then none else if k.st.toNat < i then (nxt ss k.st.toNat k.sym).map (Value.int .i64) else if k.st.toNat = i then (es.find? fun e=>decide (e.sym = k.sym)).map (fun e=>Value.int .i64 e.to) else none
section
variable {ss:List SQ} {m:List (TransT × Value)} {i:Nat}
theorem WayI.start:WayI ss [] 0 []:=fun k=>by simp [assoc]
theorem find_snoc {es:List EdgeT} {e:EdgeT} (hn:e.sym∉es.map (·.sym)) (s:Int):((es ++ [e]).find? fun x=>decide (x.sym = s)) = if s = e.sym then some e else es.find? fun x=>decide (x.sym = s):=by
  rw [List.find?_append]
  by_cases h:s = e.sym
  · subst h
    have:(es.find? fun x=>decide (x.sym = e.sym)) = none:=List.find?_eq_none.2 fun x hx h2=>hn (List.mem_map.2 ⟨x,hx,by simpa using h2⟩)
    rw [this]; simp
  · rw [if_neg h]
    have:([e].find? fun x=>decide (x.sym = s)) = none:=by simp [Ne.symm h]
    rw [this]; simp
theorem WayI.step {es:List EdgeT} (h:WayI ss m i es) {e:EdgeT} (hn:e.sym∉es.map (·.sym)):WayI ss (aput ⟨(i:Int),e.sym⟩ (.int .i64 e.to) m) i (es ++ [e]):=fun k=>by
  rw [assoc_put,h k,find_snoc hn]
  by_cases hk:k = ⟨(i:Int),e.sym⟩
  · subst hk
    simp
  · rw [if_neg hk]
    split
    · rfl
    · split
      · rfl
      · split
        · have:k.sym≠e.sym:=fun h=>hk (by cases k; simp at *; omega)
          rw [if_neg this]
        · rfl
theorem WayI.next {q:SQ} (hq:ss[i]? = some q) (h:WayI ss m i q.2.2):WayI ss m (i + 1) []:=fun k=>by
  rw [h k]
  split
  · rfl
  · by_cases h1:k.st.toNat < i
    · rw [if_pos h1,if_pos (by omega)]
    · rw [if_neg h1]
      by_cases h2:k.st.toNat = i
      · rw [if_pos h2,if_pos (by omega),h2,nxt_some hq,Option.map_map]; rfl
      · rw [if_neg h2,if_neg (by omega)]; simp
theorem WayI.all (h:WayI ss m ss.length []) {k:TransT} (hk:0≤k.st):assoc k m = (nxt ss k.st.toNat k.sym).map (Value.int .i64):=by
  rw [h k,if_neg (by omega)]
  split
  · rfl
  · have:nxt ss k.st.toNat k.sym = none:=by unfold nxt; rw [List.getElem?_eq_none (by omega)]
    rw [this]; simp
end
abbrev wyC (x:GA) (o:Option Addr) (n c:Nat) (a int:Int) (kb:Nat):List Value:=x.cells ++ [.slice o n c,.int .i64 a,.int .i64 int,.map (some kb)]
structure WyR (h:Hp) (g:GramT) (ss:List SQ) (k:Nat):Prop where
  ex:∃ (x:GA) (o:Option Addr) (c kb:Nat) (a int:Int) (m:List (TransT × Value)),rowH h (aM k) (wyC x o ss.length c a int kb)∧gR h g x∧stRd h ss o∧mapA kb m h∧WayI ss m ss.length []
theorem WyR.mono {h h' : Hp} {g:GramT} {ss:List SQ} {k:Nat} (s:sub h h') (r:WyR h g ss k):WyR h' g ss k:=by
  obtain ⟨x,o,c,kb,a,int,m,h1,h2,h3,h4,h5⟩:=r.ex
  exact ⟨x,o,c,kb,a,int,m,h1.mono s,h2.mono s,h3.mono s,mapA_mono s h4,h5⟩
end Go.V
namespace Go.Proofs.YtndaepmjkbmjmaaGreatDoor
open Go.V
variable {w:World} {L:List Asn} {g:GramT} {x:GA}
theorem two_Trans : Two Tryz.prog ty_api_Trans ty_int { name := "State", type := ty_int, offset := 0, embedded := false, tag := "", pkgPath := "", byteOffset := 0 } { name := "Sym", type := ty_int, offset := 1, embedded := false, tag := "", pkgPath := "", byteOffset := 8 } where
  ht:=by kernel_rfl
  hf:=by kernel_rfl
  hi:=und_int
  ht0:=rfl
  ht1:=rfl
  n0:=by decide
  n1:=by decide
  o0:=rfl
  o1:=rfl
  sih:=sih_api_Trans
theorem key_Trans:KeyP Tryz.prog ty_api_Trans TransT:=KeyP.two two_Trans
theorem y_trof (hg:gR (hp w) g x) (hb:okG g):Run Tryz.prog n_trans_of [.agg ⟨x.cells⟩] w fun v w'=>∃ (ss:List SQ) (ask int f:Int) (p:Option Addr),v = .tuple #[.pointer p,.int .i64 f]∧Res g ss ask int f∧Gr w w'∧(f = 0→∃ k,p = some (aM k)∧WyR (hp w') g ss k)∧(f≠0→p = none):=by
  refine run_trans_of _ _ _ _ _ _ _ _ _ _ _ _ _ w _ (gbox hg fun k1 w1 gw hg B=>?_)
  refine ⟨_,_,_,_,_,_,_,_,_,_,_,_,_,B.row (sub.refl _),(y_BuildR hg hb).mono ?_⟩
  rintro _ w2 ⟨o,c,ss,ask,int,f,rfl,hR,h⟩
  have g12:Gr w1 w2:=rdH 3 h.l
  have hg:=hg.mono g12
  have hs:=stRd_of h.l
  refine ⟨_,_,_,_,_,_,rfl,newC_i (St.all w2) fun k12 w3 h=>stR_i h rfl (by simp [oneC]) fun w4 h=>br_intro (fun h1=>?_) fun h1=>?_⟩
  · have h1:f≠0:=by simpa using h1
    exact ⟨ss,ask,int,f,none,rfl,hR,gw.trans (g12.trans h.gone1),fun h=>absurd h h1,fun _=>rfl⟩
  have h1:f = 0:=by simpa using h1
  subst h1
  obtain ⟨hc,hA⟩ : ClosedP g∧AutI g ss:=by
    rcases hR with ⟨_,_,_,_,e⟩ | ⟨_,_,_,_,_,e⟩ | ⟨hc,hA,_⟩
    · omega
    · omega
    · exact ⟨hc,hA⟩
  have hkl:=hA.klen hc
  have h256:=hA.dn.2.1
  have g24:Gr w2 w4:=h.gone1
  have hg:=hg.mono g24
  have hs:=hs.mono g24
  have r12:rowH (hp w4) (aM k12) [.slice o ss.length c,.int .i64 ask,.int .i64 int]:=rdCel 0 h.l
  clear h
  refine ⟨_,_,_,_,_,_,_,_,_,_,_,_,_,B.row (g12.trans g24),_,_,_,_,_,r12.at (sub.refl _) rfl,new_i (St.all w4) fun kb w5 h=>?_⟩
  have h:=mapA_new (κ:=TransT) h
  refine newC_i (vs:=wyC x o ss.length c ask int kb) h fun km w6 h=>?_
  refine ⟨_,_,_,r12.cell0 (rdH 2 h.l),fun z w'=>∃ (i:Nat) (m:List (TransT × Value)),z = i∧i≤ss.length∧WayI ss m i []∧St w' (cel km (wyC x o ss.length c ask int kb) :: mapA kb m :: all w4),fun z _=>ss.length - z.toNat,
    ⟨0,[],rfl,Nat.zero_le _,.start,h⟩,?_⟩
  clear h
  rintro _ _ w7 ⟨i,m,rfl,hi,hW,h⟩
  have s7:sub (hp w4) (hp w7):=rdH 2 h.l
  refine br_intro (fun h1=>?_) fun h1=>?_
  rotate_left
  · have h1:i = ss.length:=by have:=of_decide_eq_false h1; omega
    subst h1
    obtain ⟨hm,sm,hA2⟩:=rdA 1 h.l
    exact ⟨ss,ask,int,0,some (aM km),rfl,hR,gw.trans (g12.trans (g24.trans s7)),fun _=>⟨km,rfl,x,o,c,kb,ask,int,m,rdCel 0 h.l,hg.mono s7,hs.mono s7,mapA_mono sm hA2,hW⟩,fun h=>absurd rfl h⟩
  have h1:i < ss.length:=by have:=of_decide_eq_true h1; omega
  obtain ⟨q,hq⟩ : ∃ q,ss[i]? = some q:=⟨_,List.getElem?_eq_getElem h1⟩
  obtain ⟨ad,rfl,rs,_,re⟩:=hs i q hq
  have hql:=(hkl q (List.mem_of_getElem? hq)).2
  have hnd:=aut_nd hA hq
  refine idx_n rfl h1 ⟨_,_,_,_,_,_,rs.at s7 rfl,newC_i h fun k31 w8 h=>stR_i h rfl (by simp [oneC]) fun w9 h=>?_⟩
  have r31:rowH (hp w9) (aM k31) (stV q):=rdCel 0 h.l
  refine ⟨_,_,_,r31.cell (sub.refl _) (j:=1) rfl,fun z w'=>∃ (k:Nat) (m:List (TransT × Value)),z = k∧k≤q.2.2.length∧WayI ss m i (q.2.2.take k)∧St w' (cel km (wyC x (some ad) ss.length c ask int kb) :: mapA kb m :: all w4),fun z _=>q.2.2.length - z.toNat,
    ⟨0,m,rfl,Nat.zero_le _,hW,h.pick 3 [1,2]⟩,?_⟩
  clear h hW
  rintro _ _ w10 ⟨k,m,rfl,hk,hW,h⟩
  have s10:sub (hp w4) (hp w10):=rdH 2 h.l
  refine br_intro (fun h2=>?_) fun h2=>?_
  rotate_left
  · have h2:k = q.2.2.length:=by have:=of_decide_eq_false h2; omega
    subst h2
    rw [List.take_length] at hW
    exact ⟨⟨by omega,by omega⟩,⟨i + 1,m,by simp,h1,hW.next hq,h⟩,msr h1⟩
  have h2:k < q.2.2.length:=by have:=of_decide_eq_true h2; omega
  obtain ⟨e,ead,he,hea,red⟩:=rdEd_get re h2
  refine idx_n hea h2 ⟨_,_,red.at s10 rfl,newC_i h fun k34 w11 h=>stR_i h rfl (by simp [oneC]) fun w12 h=>?_⟩
  intro w13 hd
  have h:=h.eq (drawn_hp hd)
  have r34:rowH (hp w13) (aM k34) [.int .i64 e.sym,.int .i64 e.to]:=rdCel 0 h.l
  have rm:rowH (hp w13) (aM km) (wyC x (some ad) ss.length c ask int kb):=rdCel 1 h.l
  refine ⟨fun u=>Gr w13 u,Gr.refl _,_,fun u s=>rm.cell s (j:=8) rfl,_,fun u s=>r34.cell0 s,_,fun u s=>r34.cell s (j:=1) rfl,(map_updateP (κ:=TransT) tyOk (rfl:kdOfT Ty _ = .map _ _) key_Trans (h.pick 3 [2,0,1]) ⟨(i:Int),e.sym⟩ _).mono ?_⟩
  rintro _ w17 h
  have ht:q.2.2.take (k + 1) = q.2.2.take k ++ [e]:=by rw [List.take_add_one,he]; rfl
  have hn:e.sym∉(q.2.2.take k).map (·.sym):=fun hm=>by
    have e1:q.2.2.map (·.sym) = (q.2.2.take k).map (·.sym) ++ e.sym :: (q.2.2.drop (k + 1)).map (·.sym):=by
      rw [← List.map_cons,← List.map_append]
      congr 1
      have:=List.take_append_drop (k + 1) q.2.2
      rw [ht] at this
      simpa using this.symm
    rw [e1,List.nodup_append] at hnd
    exact hnd.2.2 _ hm _ (by simp) rfl
  have hW:=hW.step hn
  rw [← ht] at hW
  exact ⟨⟨by omega,by omega⟩,⟨k + 1,_,by simp,h2,hW,h.pick 3 [2,0]⟩,msr h2⟩
end Go.Proofs.YtndaepmjkbmjmaaGreatDoor
set_option linter.unusedVariables false
set_option maxRecDepth 4000
namespace Go.V
section
variable {g:GramT} {ss:List SQ}
theorem trAt_len (g:GramT) (i:Nat) (es:List EdgeT):(trAt g i es).length≤es.length:=by
  unfold trAt; rw [List.length_map]; exact List.length_filter_le _ _
theorem TrN_len (hk:∀ q∈ss,q.2.2.length≤130):∀ i,(TrN g ss i).length≤i * 130
  | 0=>by simp [TrN]
  | i + 1=>by
    have:=TrN_len hk i
    cases hq:ss[i]? with
    | none=>simp [TrN,hq]; omega
    | some q =>
      rw [TrN_succ hq,List.length_append]
      have h1:=trAt_len g i q.2.2
      have h2:=hk q (List.mem_of_getElem? hq)
      omega
theorem Res.aut {a i f:Int} (h:Res g ss a i f) (hf:f = 0):ClosedP g∧AutI g ss:=by
  subst hf
  rcases h with ⟨_,_,_,_,e⟩ | ⟨_,_,_,_,_,e⟩ | ⟨hc,hA,_⟩
  · omega
  · omega
  · exact ⟨hc,hA⟩
end
end Go.V
namespace Go.Proofs.YtndaepmjkbmjmaaGreatDoor
open Go.V
variable {w:World} {L:List Asn} {g:GramT} {x:GA} {ss:List SQ}
theorem y_trlist {k:Nat} (hw:WyR (hp w) g ss k) (hn:ss.length≤256) (hk:∀ q∈ss,q.2.2.length≤130):Run Tryz.prog n_trans_ways_list [.pointer (some (aM k))] w fun v w'=>∃ (o:Option Addr) (c:Nat),v = .slice o (TrL g ss).length c∧St w' (own 2 o (TrL g ss).length c (trv (TrL g ss)) :: all w):=by
  obtain ⟨x,oa,ca,kb,a,int,m,rk,hg,hs,hm,hW⟩:=hw.ex
  have hTl:g.T = x.tl:=hg.t.1
  refine run_trans_ways_list _ w _ ⟨_,_,_,rk.cell (sub.refl _) (j:=5) rfl,fun o n c z w'=>∃ i:Nat,z = i∧i≤ss.length∧n = (TrN g ss i).length∧St w' (own 2 o n c (trv (TrN g ss i)) :: all w),fun _ _ _ z _=>ss.length - z.toNat,
    ⟨0,rfl,Nat.zero_le _,rfl,own_nil 2 (St.all w)⟩,?_⟩
  rintro _ o2 _ c2 _ w1 ⟨i,rfl,hi,rfl,h⟩
  have s1:sub (hp w) (hp w1):=rdH 1 h.l
  refine br_intro (fun h1=>?_) fun h1=>?_
  rotate_left
  · have h1:i = ss.length:=by have:=of_decide_eq_false h1; omega
    subst h1
    refine run_slices_Clip_api_Trans_api_Trans_ _ _ _ w1 _ (slc_clip (own_le h) ⟨_,_,_,rfl,_,_,rfl,own_clip h⟩)
  have h1:i < ss.length:=by have:=of_decide_eq_true h1; omega
  obtain ⟨q,hq⟩ : ∃ q,ss[i]? = some q:=⟨_,List.getElem?_eq_getElem h1⟩
  obtain ⟨ad,rfl,rs,_,re⟩:=hs i q hq
  have hql:=hk q (List.mem_of_getElem? hq)
  have hNl:=TrN_len (g:=g) hk i
  refine idx_n rfl h1 ⟨_,_,_,_,_,_,rs.at s1 rfl,newC_i h fun k9 w2 h=>stR_i h rfl (by simp [oneC]) fun w3 h=>?_⟩
  have r9:rowH (hp w3) (aM k9) (stV q):=rdCel 0 h.l
  refine ⟨_,_,_,r9.cell (sub.refl _) (j:=1) rfl,fun o n c z w'=>∃ (j:Nat),z = j∧j≤q.2.2.length∧n = (TrN g ss i ++ trAt g i (q.2.2.take j)).length∧St w' (own 2 o n c (trv (TrN g ss i ++ trAt g i (q.2.2.take j))) :: all w),fun _ _ _ z _=>q.2.2.length - z.toNat,
    ⟨0,rfl,Nat.zero_le _,by simp [trAt],by simpa [trAt] using (show St w3 (own 2 o2 (TrN g ss i).length c2 (trv (TrN g ss i)) :: all w) from h.pick 2 [1])⟩,?_⟩
  clear h
  rintro _ o6 _ c6 _ w4 ⟨j,rfl,hj,rfl,h⟩
  have s4:sub (hp w) (hp w4):=rdH 1 h.l
  have hTA:=trAt_len g i (q.2.2.take j)
  rw [List.length_take] at hTA
  refine br_intro (fun h2=>?_) fun h2=>?_
  rotate_left
  · have h2:j = q.2.2.length:=by have:=of_decide_eq_false h2; omega
    subst h2
    rw [List.take_length] at h ⊢
    exact ⟨⟨by omega,by omega⟩,⟨i + 1,by simp,h1,by rw [TrN_succ hq],by rw [TrN_succ hq]; exact h⟩,msr h1⟩
  have h2:j < q.2.2.length:=by have:=of_decide_eq_true h2; omega
  obtain ⟨e,ead,he,hea,red⟩:=rdEd_get re h2
  have ht:q.2.2.take (j + 1) = q.2.2.take j ++ [e]:=by rw [List.take_add_one,he]; rfl
  refine idx_n hea h2 ⟨_,_,red.at s4 rfl,newC_i h fun k14 w5 h=>stR_i h rfl (by simp [oneC]) fun w6 h=>?_⟩
  intro w7 hd
  have h:=h.eq (drawn_hp hd)
  have r14:rowH (hp w7) (aM k14) [.int .i64 e.sym,.int .i64 e.to]:=rdCel 0 h.l
  have s7:sub (hp w) (hp w7):=rdH 2 h.l
  refine ⟨fun u=>Gr w7 u,Gr.refl _,_,fun u s=>r14.cell0 s,_,_,_,fun u s=>rk.cell0 (sub.trans s7 s),br_intro (fun h3=>?_) fun h3=>?_⟩
  · have h3:(g.T:Int)≤e.sym:=by rw [hTl]; exact of_decide_eq_true h3
    have z1:((TrN g ss i ++ trAt g i (q.2.2.take j)).length + 1) * 16≤140737488355328∧(TrN g ss i ++ trAt g i (q.2.2.take j)).length < 9223372036854775807:=by rw [List.length_append]; omega
    refine ⟨_,r14.cell0 (sub.refl _),newC_i h fun k17 w10 h=>?_⟩
    refine (app_one (us:=trv (TrN g ss i ++ trAt g i (q.2.2.take j))) tyOk (rfl:kdOfT Ty _ = .slice _) (rfl:kdOfT Ty _ = .slice _) rfl rfl rfl (h.pick 3 [0,2]) rfl (by simp [oneC]) z1.1 z1.2).mono ?_
    rintro _ w11 ⟨o8,c8,rfl,h⟩
    have e2:trAt g i (q.2.2.take (j + 1)) = trAt g i (q.2.2.take j) ++ [⟨(i:Int),e.sym⟩]:=by rw [ht,trAt_snoc,if_pos h3]
    have e3:trv (TrN g ss i ++ trAt g i (q.2.2.take (j + 1))) = trv (TrN g ss i ++ trAt g i (q.2.2.take j)) ++ [.int .i64 (i:Int),.int .i64 e.sym]:=by rw [e2,← List.append_assoc,trv_app]; rfl
    refine ⟨_,_,_,rfl,⟨by omega,by omega⟩,⟨j + 1,by simp,h2,by rw [e2]; simp; omega,?_⟩,msr h2⟩
    rw [e3]; exact h.pick 2 [0]
  · have h3:¬(g.T:Int)≤e.sym:=by rw [hTl]; exact of_decide_eq_false h3
    have e2:trAt g i (q.2.2.take (j + 1)) = trAt g i (q.2.2.take j):=by rw [ht,trAt_snoc,if_neg h3]
    exact ⟨⟨by omega,by omega⟩,⟨j + 1,by simp,h2,by rw [e2],by rw [e2]; exact h.pick 2 [1]⟩,msr h2⟩
theorem y_trList (hg:gR (hp w) g x) (hb:okG g):Run Tryz.prog n_trans_List [.agg ⟨x.cells⟩] w fun v w'=>∃ (ss:List SQ) (ask int f:Int) (o:Option Addr) (c:Nat),v = .tuple #[.slice o (TrL g ss).length c,.int .i64 f]∧Res g ss ask int f∧St w' (own 2 o (TrL g ss).length c (trv (TrL g ss)) :: all w):=by
  refine run_trans_List _ _ _ _ _ _ _ _ _ _ _ _ _ w _ (gbox hg fun k1 w1 gw hg B=>?_)
  refine ⟨_,_,_,_,_,_,_,_,_,_,_,_,_,B.row (sub.refl _),(y_trof hg hb).mono ?_⟩
  rintro _ w2 ⟨ss,ask,int,f,p,rfl,hR,g2,h0,hn⟩
  refine ⟨_,_,rfl,br_intro (fun h1=>?_) fun h1=>?_⟩
  · have h1:f≠0:=by simpa using h1
    have hz:ss = []:=by rcases hR with ⟨_,e,_⟩ | ⟨_,_,e,_⟩ | ⟨_,_,_,_,e⟩ <;> first | exact e | exact absurd e h1
    subst hz
    exact ⟨[],ask,int,f,none,0,rfl,hR,own_nil 2 (St.here (gw.trans g2))⟩
  have h1:f = 0:=by simpa using h1
  obtain ⟨k,rfl,hw⟩:=h0 h1
  obtain ⟨hc,hA⟩:=hR.aut h1
  have hkl:=hA.klen hc
  refine (y_trlist hw hA.dn.2.1 fun q hq=>(hkl q hq).2).mono ?_
  rintro _ w3 ⟨o,c,rfl,h⟩
  subst h1
  exact ⟨_,_,_,rfl,ss,ask,int,0,o,c,rfl,hR,St.on1 h (has_i (gw.trans g2))⟩
end Go.Proofs.YtndaepmjkbmjmaaGreatDoor
set_option linter.unusedVariables false
set_option maxRecDepth 4000
namespace Go.V
def bS (g:GramT) (s:Int):Bool:=decide (s < 0) || decide (((g.T + g.N:Nat):Int)≤s)
theorem nxt_pos {g:GramT} {ss:List SQ} (hc:ClosedP g) (hA:AutI g ss) {i:Nat} {s j:Int} (h:nxt ss i s = some j):0≤j∧j < ss.length:=by
  obtain ⟨q,k,e,hq,he,rfl,rfl⟩:=nxt_inv h
  obtain ⟨_,_,n,r,hn,h1,hr,_⟩:=aut_edge hc hA hq he
  have:=(List.getElem?_eq_some_iff.1 hr).1
  omega
end Go.V
namespace Go.Proofs.YtndaepmjkbmjmaaGreatDoor
open Go.V
variable {w:World} {L:List Asn} {g:GramT} {x:GA} {ss:List SQ} {a:Option Addr} {l c:Nat} {row:List Int}
end Go.Proofs.YtndaepmjkbmjmaaGreatDoor
set_option linter.unusedVariables false
set_option maxRecDepth 4000
namespace Go.V
section
variable {g:GramT} {ss:List SQ}
def flT (g:GramT) (es:List EdgeT):List Int:=(es.filter fun e=>decide (e.sym < (g.T:Int))).map (·.sym)
theorem flT_snoc {es:List EdgeT} {e:EdgeT}:flT g (es ++ [e]) = if e.sym < (g.T:Int) then flT g es ++ [e.sym] else flT g es:=by
  unfold flT
  rw [List.filter_append,List.map_append]
  by_cases h:e.sym < (g.T:Int) <;> simp [h]
theorem flT_len (g:GramT) (es:List EdgeT):(flT g es).length≤es.length:=by
  unfold flT; rw [List.length_map]; exact List.length_filter_le _ _
def preT (g:GramT) (t:TransT):List Int:=if t = ⟨0,g.start⟩ then [0] else []
theorem preT_len (g:GramT) (t:TransT):(preT g t).length≤1:=by unfold preT; split <;> simp
theorem TrN_mem {t:TransT}:∀ {n:Nat},t∈TrN g ss n→∃ (i:Nat) (q:SQ) (k:Nat) (e:EdgeT),i < n∧ss[i]? = some q∧q.2.2[k]? = some e∧(g.T:Int)≤e.sym∧t = ⟨(i:Int),e.sym⟩
  | 0,h=>by simp [TrN] at h
  | n + 1,h=>by
    cases hq:ss[n]? with
    | none =>
      simp [TrN,hq] at h
      obtain ⟨i,q,k,e,h1,h2⟩:=TrN_mem h
      exact ⟨i,q,k,e,by omega,h2⟩
    | some q =>
      rw [TrN_succ hq,List.mem_append] at h
      rcases h with h | h
      · obtain ⟨i,q,k,e,h1,h2⟩:=TrN_mem h
        exact ⟨i,q,k,e,by omega,h2⟩
      · unfold trAt at h
        obtain ⟨e,he,rfl⟩:=List.mem_map.1 h
        obtain ⟨h1,h2⟩:=List.mem_filter.1 he
        obtain ⟨k,hk⟩:=List.getElem?_of_mem h1
        exact ⟨n,q,k,e,by omega,hq,hk,of_decide_eq_true h2,rfl⟩
theorem dirOf_eq {t:TransT} {j:Nat} {q:SQ} (h:nxt ss t.st.toNat t.sym = some (j:Int)) (hq:ss[j]? = some q):dirOf g ss t = preT g t ++ flT g q.2.2:=by
  unfold dirOf
  rw [h]
  show _ ++ (match ss[(j:Int).toNat]? with | none=>[] | some q=>_) = _
  rw [Int.toNat_natCast,hq]
  rfl
end
end Go.V
namespace Go.Proofs.YtndaepmjkbmjmaaGreatDoor
open Go.V
variable {w:World} {L:List Asn} {g:GramT} {x:GA} {ss:List SQ}
theorem eqTrans (w:World) (xo yo:Operand) (x y:TransT):Sem.run Tryz.prog (cmpS .eql ty_api_Trans xo yo (.agg ⟨encR x⟩) (.agg ⟨encR y⟩)) w = .ok (.bool (decide (x = y))) w:=by
  unfold cmpS
  rw [Sem.run_bind,run_eqGuard_agg w _ _ _ _ _ _ eqg_api_Trans]
  simp only [Result.andThen_ok]
  rw [run_eql_struct]
  have e:decide (x = y) = decide (x.st = y.st∧x.sym = y.sym):=by
    cases x; cases y; simp
  rw [e]
  show ((Op.equal ty_api_Trans (.agg #[.int .i64 x.st,.int .i64 x.sym]) (.agg #[.int .i64 y.st,.int .i64 y.sym])).run Tryz.prog w).andThen _ = _
  rw [two_eq two_Trans]
  rfl
set_option maxHeartbeats 1000000 in
theorem y_trDirect (hg:gR (hp w) g x) (hb:okG g):Run Tryz.prog n_trans_Direct [.agg ⟨x.cells⟩] w fun v w'=>∃ (ss:List SQ) (ask int f:Int) (o:Option Addr) (c:Nat) (ds:List (Lq Int)),v = .tuple #[.slice o ds.length c,.int .i64 f]∧Res g ss ask int f∧ds.map (·.2) = (TrL g ss).map (dirOf g ss)∧St w' (own 1 o ds.length c (ds.map slQ) :: sta (ds.map (owQ 1 iv)) :: all w):=by
  refine run_trans_Direct _ _ _ _ _ _ _ _ _ _ _ _ _ w _ (gbox hg fun k1 w1 gw hg B=>?_)
  refine ⟨_,_,_,_,_,_,_,_,_,_,_,_,_,B.row (sub.refl _),(y_trof hg hb).mono ?_⟩
  rintro _ w2 ⟨ss,ask,int,f,p,rfl,hR,g2,h0,hn⟩
  refine ⟨_,_,rfl,br_intro (fun h1=>?_) fun h1=>?_⟩
  · have h1:f≠0:=by simpa using h1
    have hz:ss = []:=by rcases hR with ⟨_,e,_⟩ | ⟨_,_,e,_⟩ | ⟨_,_,_,_,e⟩ <;> first | exact e | exact absurd e h1
    subst hz
    exact ⟨[],ask,int,f,none,0,[],rfl,hR,rfl,own_nil 1 ((St.flat (M:=[])).2 (St.here (gw.trans g2)))⟩
  have h1:f = 0:=by simpa using h1
  subst h1
  obtain ⟨k,rfl,hw⟩:=h0 rfl
  obtain ⟨hc,hA⟩:=hR.aut rfl
  have hkl:=hA.klen hc
  have h256:=hA.dn.2.1
  have hTn:=TrN_len (g:=g) (fun q hq=>(hkl q hq).2) ss.length
  refine (y_trlist hw h256 fun q hq=>(hkl q hq).2).mono ?_
  rintro _ w3 ⟨oL,cL,rfl,h⟩
  have g3:Gr w2 w3:=rdH 1 h.l
  have rL:rdS (hp w3) (TrL g ss) oL (TrL g ss).length:=rdTr_of rfl (rdOv 0 h.l)
  clear h
  obtain ⟨x',oa,ca,kb,a',int',m,rk,hg',hs,hm,hW⟩:=(hw.mono g3).ex
  have g13:Gr w1 w3:=g2.trans g3
  have hTl:g.T = x.tl:=hg.t.1
  have hst:x.s = g.start:=hg.s
  refine ⟨_,_,_,rfl,fun o n c z w'=>∃ (i:Nat) (ds:List (Lq Int)),z = i∧i≤(TrL g ss).length∧n = ds.length∧ds.map (·.2) = ((TrL g ss).take i).map (dirOf g ss)∧St w' (own 1 o n c (ds.map slQ) :: sta (ds.map (owQ 1 iv)) :: all w3),fun _ _ _ z _=>(TrL g ss).length - z.toNat,
    ⟨0,[],rfl,Nat.zero_le _,rfl,rfl,own_nil 1 ((St.flat (M:=[])).2 (St.all w3))⟩,?_⟩
  rintro _ o7 _ c7 _ w4 ⟨i,ds,rfl,hi,rfl,hds,h⟩
  have s4:sub (hp w3) (hp w4):=rdH 2 h.l
  have hdl:ds.length = i:=by have:=congrArg List.length hds; rw [List.length_map,List.length_map,List.length_take] at this; omega
  have hTL:(TrL g ss).length≤ss.length * 130:=hTn
  refine br_intro (fun h1=>?_) fun h1=>?_
  rotate_left
  · have h1:i = (TrL g ss).length:=by have:=of_decide_eq_false h1; omega
    rw [h1,List.take_length] at hds
    refine run_slices_Clip_LLint_int_ _ _ _ w4 _ (slc_clip (own_le h) ⟨_,_,_,rfl,ss,ask,int,0,_,_,ds,rfl,hR,hds,?_⟩)
    exact St.on2 (own_clip h) (has_i (gw.trans g13))
  have h1:i < (TrL g ss).length:=by have:=of_decide_eq_true h1; omega
  obtain ⟨t,tad,ht,hta,rt⟩:=rdTr_get rL h1
  obtain ⟨i0,q0,k0,e0,hi0,hq0,he0,hge,hte⟩:=TrN_mem (List.mem_of_getElem? ht)
  have hnx:nxt ss t.st.toNat t.sym = some e0.to:=by rw [hte]; exact nxt_edge hA hq0 he0
  obtain ⟨hto1,hto2⟩:=nxt_pos hc hA hnx
  obtain ⟨j0,hj0⟩ : ∃ j0:Nat,e0.to = j0:=⟨e0.to.toNat,by omega⟩
  rw [hj0] at hnx hto2
  have hto:j0 < ss.length:=by omega
  obtain ⟨r,hr⟩ : ∃ r,ss[j0]? = some r:=⟨_,List.getElem?_eq_getElem hto⟩
  have hdir:dirOf g ss t = preT g t ++ flT g r.2.2:=dirOf_eq hnx hr
  have hrl:=(hkl r (List.mem_of_getElem? hr)).2
  have hpl:=preT_len g t
  have hst0:0≤t.st:=by rw [hte]; exact Int.natCast_nonneg _
  have htk:(TrL g ss).take (i + 1) = (TrL g ss).take i ++ [t]:=by rw [List.take_add_one,ht]; rfl
  obtain ⟨sad,rfl,rs,_,re⟩:=hs j0 r hr
  refine idx_n hta h1 ⟨_,_,rt.at s4 rfl,newC_i h fun k14 w5 h=>stR_i h rfl (by simp [oneC]) fun w6 h=>?_⟩
  have h:St w6 (cel k14 (encR t) :: own 1 o7 ds.length c7 (ds.map slQ) :: sta (ds.map (owQ 1 iv)) :: all w3):=h
  have r14:rowH (hp w6) (aM k14) (encR t):=rdCel 0 h.l
  have s6:sub (hp w3) (hp w6):=rdH 3 h.l
  refine ⟨fun o n c w'=>n = (preT g t).length∧St w' (own 1 o n c (iv (preT g t)) :: cel k14 (encR t) :: own 1 o7 ds.length c7 (ds.map slQ) :: sta (ds.map (owQ 1 iv)) :: all w3),⟨_,_,r14.at (sub.refl _) rfl,_,B.c3 (sub.trans g13 s6),_,eqTrans w6 _ _ t ⟨0,x.s⟩,_,rfl,br_intro (fun h2=>?_) fun h2=>?_⟩,?_⟩
  · have h2:t = ⟨0,g.start⟩:=by rw [← hst]; exact of_decide_eq_true h2
    have e:preT g t = [0]:=by unfold preT; rw [if_pos h2]
    refine newC_i h fun k15 w7 h=>?_
    refine (app_one (us:=[]) tyOk (rfl:kdOfT Ty _ = .slice _) (rfl:kdOfT Ty _ = .slice _) rfl rfl rfl ((own_nil 1 h).pick 5 [1,0,2,3,4]) rfl (by simp [oneC]) (by decide) (by decide)).mono ?_
    rintro _ w8 ⟨o8,c8,rfl,h⟩
    rw [e]
    exact ⟨_,_,_,rfl,rfl,h.pick 5 [0,2,3,4]⟩
  · have h2:¬t = ⟨0,g.start⟩:=by rw [← hst]; exact of_decide_eq_false h2
    have e:preT g t = []:=by unfold preT; rw [if_neg h2]
    rw [e]
    exact ⟨rfl,own_nil 1 h⟩
  clear h r14 s6
  rintro _ o9 _ c9 w9 ⟨rfl,h⟩
  intro w10 hd
  have h:=h.eq (drawn_hp hd)
  have s10:sub (hp w3) (hp w10):=rdH 4 h.l
  have r14:rowH (hp w10) (aM k14) (encR t):=rdCel 1 h.l
  refine ⟨fun u=>Gr w10 u,Gr.refl _,_,_,_,fun u s=>rk.cell (sub.trans s10 s) (j:=5) rfl,_,fun u s=>rk.cell (sub.trans s10 s) (j:=8) rfl,_,_,fun u s=>r14.at s rfl,(map_lookupHP (κ:=TransT) hm s10 tyOk (rfl:kdOfT Ty _ = .map _ _) key_Trans rfl rfl t).mono ?_⟩
  rintro _ w14 ⟨rfl,e14⟩
  rw [e14]
  rw [hW.all hst0,hnx]
  refine ⟨_,rfl,fun u=>Gr w10 u,Gr.refl _,fun _ h=>h,idx_n rfl hto ⟨_,_,_,fun u s=>rs.cell (sub.trans s10 s) (j:=1) rfl,fun o n c z w'=>∃ j:Nat,z = j∧j≤r.2.2.length∧n = (preT g t ++ flT g (r.2.2.take j)).length ∧
    St w' (own 1 o n c (iv (preT g t ++ flT g (r.2.2.take j))) :: own 1 o7 ds.length c7 (ds.map slQ) :: sta (ds.map (owQ 1 iv)) :: all w3),fun _ _ _ z _=>r.2.2.length - z.toNat,
    ⟨0,rfl,Nat.zero_le _,by simp [flT],by simpa [flT] using (show St w10 (own 1 o9 (preT g t).length c9 (iv (preT g t)) :: own 1 o7 ds.length c7 (ds.map slQ) :: sta (ds.map (owQ 1 iv)) :: all w3) from h.pick 4 [0,2,3])⟩,?_⟩⟩
  clear h r14
  rintro _ o13 _ c13 _ w17 ⟨j,rfl,hj,rfl,h⟩
  have s17:sub (hp w3) (hp w17):=rdH 3 h.l
  have hfl:=flT_len g (r.2.2.take j)
  rw [List.length_take] at hfl
  refine br_intro (fun h2=>?_) fun h2=>?_
  · have h2:j < r.2.2.length:=by have:=of_decide_eq_true h2; omega
    obtain ⟨e,ead,he,hea,red⟩:=rdEd_get re h2
    have htj:r.2.2.take (j + 1) = r.2.2.take j ++ [e]:=by rw [List.take_add_one,he]; rfl
    refine idx_n hea h2 ⟨_,_,red.at s17 rfl,newC_i h fun k26 w18 h=>stR_i h rfl (by simp [oneC]) fun w19 h=>?_⟩
    have r26:rowH (hp w19) (aM k26) [.int .i64 e.sym,.int .i64 e.to]:=rdCel 0 h.l
    have s19:sub (hp w3) (hp w19):=rdH 4 h.l
    refine ⟨_,r26.cell0 (sub.refl _),_,_,_,B.c0 (sub.trans g13 s19),br_intro (fun h3=>?_) fun h3=>?_⟩
    · have h3:e.sym < (g.T:Int):=by rw [hTl]; exact of_decide_eq_true h3
      have z1:((preT g t ++ flT g (r.2.2.take j)).length + 1) * 8≤140737488355328∧(preT g t ++ flT g (r.2.2.take j)).length < 9223372036854775807:=by rw [List.length_append]; omega
      refine ⟨_,r26.cell0 (sub.refl _),newC_i h fun k29 w20 h=>?_⟩
      refine (app_one (us:=iv (preT g t ++ flT g (r.2.2.take j))) tyOk (rfl:kdOfT Ty _ = .slice _) (rfl:kdOfT Ty _ = .slice _) rfl rfl rfl (h.pick 5 [0,2,3,4]) rfl (by simp [oneC]) z1.1 z1.2).mono ?_
      rintro _ w21 ⟨o15,c15,rfl,h⟩
      have e2:preT g t ++ flT g (r.2.2.take (j + 1)) = preT g t ++ flT g (r.2.2.take j) ++ [e.sym]:=by rw [htj,flT_snoc,if_pos h3,List.append_assoc]
      have e3:iv (preT g t ++ flT g (r.2.2.take (j + 1))) = iv (preT g t ++ flT g (r.2.2.take j)) ++ [.int .i64 e.sym]:=by rw [e2]; unfold iv; rw [List.map_append]; rfl
      refine ⟨_,_,_,rfl,⟨by omega,by omega⟩,⟨j + 1,by simp,h2,by rw [e2]; simp; omega,?_⟩,msr h2⟩
      rw [e3]; exact h.pick 4 [0,2,3]
    · have h3:¬e.sym < (g.T:Int):=by rw [hTl]; exact of_decide_eq_false h3
      have e2:flT g (r.2.2.take (j + 1)) = flT g (r.2.2.take j):=by rw [htj,flT_snoc,if_neg h3]
      exact ⟨⟨by omega,by omega⟩,⟨j + 1,by simp,h2,by rw [e2],by rw [e2]; exact h.pick 4 [1,2,3]⟩,msr h2⟩
  have h2:j = r.2.2.length:=by have:=of_decide_eq_false h2; omega
  rw [h2,List.take_length,← hdir] at h ⊢
  refine run_slices_Clip_int_int_ _ _ _ w17 _ (slc_clip (own_le h) ⟨_,_,_,rfl,?_⟩)
  have h:=own_clip h
  refine newC_i h fun k34 w23 h=>?_
  have z1:(ds.length + 1) * 24≤140737488355328∧ds.length < 9223372036854775807:=by omega
  refine (app_one (us:=ds.map slQ) tyOk (rfl:kdOfT Ty _ = .slice _) (rfl:kdOfT Ty _ = .slice _) rfl rfl rfl (h.pick 4 [0,2,1,3]) rfl (by simp [oneC]) z1.1 z1.2).mono ?_
  rintro _ w24 ⟨o17,c17,rfl,h⟩
  have h:=St.snoc (h.pick 4 [2,3,0])
  refine ⟨_,_,_,rfl,⟨by omega,by omega⟩,⟨i + 1,ds ++ [((slP o13 0 (dirOf g ss t).length 1,(dirOf g ss t).length),dirOf g ss t)],by simp,h1,by simp,by rw [htk]; simp [hds],?_⟩,msr h1⟩
  have h3:St w24 (own 1 o17 (ds.length + 1) c17 (ds.map slQ ++ [.slice (slP o13 0 (dirOf g ss t).length 1) (dirOf g ss t).length (dirOf g ss t).length]) :: sta (ds.map (owQ 1 iv) ++ [own 1 (slP o13 0 (dirOf g ss t).length 1) (dirOf g ss t).length (dirOf g ss t).length (iv (dirOf g ss t))]) :: all w3):=h.pick 2 [1,0]
  simpa [slQ,owQ] using h3
end Go.Proofs.YtndaepmjkbmjmaaGreatDoor

set_option linter.unusedVariables false
set_option maxRecDepth 4000
namespace Go.V
section
variable {g:GramT} {ss ss' : List SQ}
theorem es_at (h:esOf ss = esOf ss') (i:Nat):(ss[i]?).map (fun q=>q.2.2) = (ss'[i]?).map fun q=>q.2.2:=by
  have:=congrArg (fun l=>l[i]?) h
  unfold esOf at this
  simpa [List.getElem?_map] using this
theorem nxt_es (h:esOf ss = esOf ss') (i:Nat) (s:Int):nxt ss i s = nxt ss' i s:=by
  have:=es_at h i
  unfold nxt
  cases h1:ss[i]? <;> cases h2:ss'[i]? <;> simp [h1,h2] at this ⊢
  rw [this]
theorem TrN_es (h:esOf ss = esOf ss'):∀ i,TrN g ss i = TrN g ss' i
  | 0=>rfl
  | i + 1=>by
    have:=es_at h i
    show TrN g ss i ++ _ = TrN g ss' i ++ _
    rw [TrN_es h i]
    cases h1:ss[i]? <;> cases h2:ss'[i]? <;> simp [h1,h2] at this ⊢
    rw [this]
theorem es_len (h:esOf ss = esOf ss'):ss.length = ss'.length:=by have:=congrArg List.length h; simpa [esOf] using this
theorem TrL_es (h:esOf ss = esOf ss'):TrL g ss = TrL g ss':=by unfold TrL; rw [es_len h,TrN_es h]
theorem dirOf_es (h:esOf ss = esOf ss') (t:TransT):dirOf g ss t = dirOf g ss' t:=by
  unfold dirOf
  rw [nxt_es h]
  congr 1
  cases nxt ss' t.st.toNat t.sym with
  | none=>rfl
  | some j =>
    have:=es_at h j.toNat
    show (match ss[j.toNat]? with | none=>[] | some q=>_) = (match ss'[j.toNat]? with | none=>[] | some q=>_)
    cases h1:ss[j.toNat]? <;> cases h2:ss'[j.toNat]? <;> simp [h1,h2] at this ⊢
    rw [this]
theorem wayN_es (h:esOf ss = esOf ss'):∀ (l:List Int) (q:Int),wayN ss q l = wayN ss' q l
  | [],q=>rfl
  | s :: l,q=>by
    unfold wayN
    rw [nxt_es h]
    cases nxt ss' q.toNat s with
    | none=>rfl
    | some j=>exact wayN_es h l j
end
end Go.V
namespace Go.Proofs.YtndaepmjkbmjmaaGreatDoor
open Go.V
variable {w:World} {L:List Asn} {g:GramT} {x:GA}
end Go.Proofs.YtndaepmjkbmjmaaGreatDoor
set_option linter.unusedVariables false
set_option maxRecDepth 4000
namespace Go.V
section
variable {g:GramT} {ss:List SQ}
theorem TrN_pre:∀ (n i:Nat),i≤n→∃ t,TrN g ss n = TrN g ss i ++ t
  | 0, i, h => ⟨[], by have : i = 0 := by omega
                       subst this; simp⟩
  | n + 1,i,h=>by
    by_cases e:i = n + 1
    · subst e; exact ⟨[],by simp⟩
    · obtain ⟨t,ht⟩:=TrN_pre n i (by omega)
      exact ⟨t ++ (match ss[n]? with | some q=>trAt g n q.2.2 | none=>[]),by rw [← List.append_assoc,← ht]; rfl⟩
theorem trAt_app (i:Nat) (a b:List EdgeT):trAt g i (a ++ b) = trAt g i a ++ trAt g i b:=by unfold trAt; rw [List.filter_append,List.map_append]
theorem TrL_at {i:Nat} {q:SQ} (hq:ss[i]? = some q) {j:Nat} {e:EdgeT} (he:q.2.2[j]? = some e) (h:(g.T:Int)≤e.sym):(TrL g ss)[(TrN g ss i ++ trAt g i (q.2.2.take j)).length]? = some ⟨(i:Int),e.sym⟩:=by
  have hi:=(List.getElem?_eq_some_iff.1 hq).1
  obtain ⟨t,ht⟩:=TrN_pre (g:=g) (ss:=ss) ss.length (i + 1) (by omega)
  have hd:q.2.2 = q.2.2.take j ++ e :: q.2.2.drop (j + 1):=by
    have hj:=(List.getElem?_eq_some_iff.1 he)
    rw [← hj.2,← List.drop_eq_getElem_cons hj.1,List.take_append_drop]
  have e1:trAt g i q.2.2 = trAt g i (q.2.2.take j) ++ ⟨(i:Int),e.sym⟩ :: trAt g i (q.2.2.drop (j + 1)):=by
    conv=>lhs; rw [hd]
    rw [trAt_app]
    congr 1
    unfold trAt
    rw [List.filter_cons_of_pos (by simpa using h)]
    rfl
  unfold TrL
  rw [ht,TrN_succ hq,e1,← List.append_assoc,List.append_assoc,List.getElem?_append_right (Nat.le_refl _),Nat.sub_self]
  rfl
end
end Go.V
namespace Go.Proofs.YtndaepmjkbmjmaaGreatDoor
open Go.V
variable {w:World} {L:List Asn} {g:GramT} {x:GA}
end Go.Proofs.YtndaepmjkbmjmaaGreatDoor
set_option linter.unusedVariables false
set_option maxRecDepth 4000
namespace Go.V
section
variable {g:GramT} {ss:List SQ}
theorem fil_succ (W:Nat→Bool) (n:Nat):(List.range (n + 1)).filter W = (List.range n).filter W ++ if W n = true then [n] else []:=by
  rw [List.range_succ,List.filter_append]
  congr 1
  by_cases h:W n = true <;> simp [h]
def wnt (g:GramT) (ss:List SQ) (t:TransT) (j n:Nat):Bool:=if n = 0 then decide (t = ⟨0,g.start⟩) else (nxt ss j n).isSome
theorem nxt_kern (h:AutI g ss) {j:Nat} {r:SQ} (hr:ss[j]? = some r) {n:Nat} (hn:n < g.T + g.N):(nxt ss j (n:Int)).isSome = decide (kern g r.1.2 (n:Int)≠[]):=by
  have hrise:=aut_rise h hr
  rw [nxt_some hr,Option.isSome_map,Bool.eq_iff_iff,decide_eq_true_eq,List.find?_isSome]
  constructor
  · rintro ⟨e,he,h1⟩
    have h1:e.sym = n:=of_decide_eq_true h1
    have:e.sym∈r.2.2.map (·.sym):=List.mem_map.2 ⟨e,he,rfl⟩
    rw [hrise,h1] at this
    obtain ⟨m,hm,e2⟩:=List.mem_map.1 this
    have e2:m = n:=Int.ofNat.inj e2
    subst e2
    exact symsOf_ne m hm
  · intro hk
    have:(n:Int)∈r.2.2.map (·.sym):=by
      rw [hrise]
      exact List.mem_map.2 ⟨n,List.mem_filter.2 ⟨List.mem_range.2 hn,decide_eq_true hk⟩,rfl⟩
    obtain ⟨e,he,h1⟩:=List.mem_map.1 this
    exact ⟨e,he,decide_eq_true h1⟩
theorem fil_lt:∀ (T N:Nat) (p:Nat→Bool),((List.range (T + N)).filter p).filter (fun n=>decide (n < T)) = (List.range T).filter p
  | T,0,p=>by
    rw [Nat.add_zero,List.filter_filter]
    refine List.filter_congr fun n hn=>?_
    rw [List.mem_range] at hn
    simp [hn]
  | T,N + 1,p=>by
    rw [← Nat.add_assoc,fil_succ,List.filter_append,fil_lt T N p]
    have:(if p (T + N) = true then [T + N] else []).filter (fun n=>decide (n < T)) = []:=by split <;> simp
    rw [this,List.append_nil]
theorem flT_eq (h:AutI g ss) {j:Nat} {r:SQ} (hr:ss[j]? = some r):flT g r.2.2 = ((List.range g.T).filter fun n=>decide (kern g r.1.2 (n:Nat)≠[])).map Int.ofNat:=by
  have hrise:=aut_rise h hr
  have e1:flT g r.2.2 = (r.2.2.map (·.sym)).filter fun s=>decide (s < (g.T:Int)):=by
    unfold flT
    rw [List.filter_map]
    rfl
  have e2:=fil_lt g.T g.N fun n=>decide (kern g r.1.2 (n:Nat)≠[])
  rw [e1,hrise,List.filter_map,← e2]
  congr 1
  refine List.filter_congr fun n hn=>?_
  show decide ((n:Int) < _) = _
  exact decide_eq_decide.2 (by omega)
theorem dir_wnt (hc:ClosedP g) (h:AutI g ss) {t:TransT} {j:Nat} {r:SQ} (hr:ss[j]? = some r):preT g t ++ flT g r.2.2 = ((List.range g.T).filter (wnt g ss t j)).map Int.ofNat:=by
  obtain ⟨hT,hN,hP,hP2,h1,_⟩:=hc.sizes
  have hK:=(aut_at h hr).1
  have hf:=(bst_inv (g:=g) (by omega) j).fit _ (List.mem_of_getElem? hK)
  have h0:=kern_0 hc hf
  rw [flT_eq h hr]
  obtain ⟨T,hT'⟩ : ∃ T,g.T = T + 1:=⟨g.T - 1,by omega⟩
  rw [hT',List.range_succ_eq_map]
  have e1:((0 :: (List.range T).map Nat.succ).filter fun n=>decide (kern g r.1.2 (n:Nat)≠[])) = ((List.range T).map Nat.succ).filter fun n=>decide (kern g r.1.2 (n:Nat)≠[]):=by
    rw [List.filter_cons_of_neg]
    simpa using h0
  have e2:((List.range T).map Nat.succ).filter (wnt g ss t j) = ((List.range T).map Nat.succ).filter fun n=>decide (kern g r.1.2 (n:Nat)≠[]):=by
    refine List.filter_congr fun n hn=>?_
    obtain ⟨m,hm,rfl⟩:=List.mem_map.1 hn
    rw [List.mem_range] at hm
    unfold wnt
    rw [if_neg (by omega),nxt_kern h hr (by omega)]
  rw [e1]
  unfold preT
  by_cases ht:t = ⟨0,g.start⟩
  · rw [if_pos ht,List.filter_cons_of_pos (by unfold wnt; simp [ht]),e2]
    rfl
  · rw [if_neg ht,List.filter_cons_of_neg (by unfold wnt; simp [ht]),e2]
    rfl
end
end Go.V
namespace Go.Proofs.YtndaepmjkbmjmaaGreatDoor
open Go.V
variable {w:World} {L:List Asn} {g:GramT} {x:GA}
end Go.Proofs.YtndaepmjkbmjmaaGreatDoor
set_option linter.unusedVariables false
set_option maxRecDepth 4000
namespace Go.V
section
variable {g:GramT} {ss:List SQ}
theorem wayN_cons (q s:Int) (l:List Int):wayN ss q (s :: l) = match nxt ss q.toNat s with | none=>-1 | some j=>wayN ss j l:=rfl
theorem wayN_rng (hn:∀ i s j,nxt ss i s = some j→0≤j∧j < ss.length):∀ (l:List Int) (q:Int),0≤q→q < ss.length→wayN ss q l = -1∨(0≤wayN ss q l∧wayN ss q l < ss.length)
  | [],q,h1,h2=>.inr ⟨h1,h2⟩
  | s :: l,q,h1,h2=>by
    unfold wayN
    cases h:nxt ss q.toNat s with
    | none=>exact .inl rfl
    | some j=>exact wayN_rng hn l j (hn _ _ _ h).1 (hn _ _ _ h).2
theorem wayN_app (hn:∀ i s j,nxt ss i s = some j→0≤j∧j < ss.length) (b:List Int):∀ (l:List Int) (q:Int),0≤q→q < ss.length→wayN ss q (l ++ b) = if wayN ss q l = -1 then -1 else wayN ss (wayN ss q l) b
  | [],q,h1,h2=>by
    show wayN ss q b = if q = -1 then -1 else wayN ss q b
    rw [if_neg (by omega)]
  | s :: l,q,h1,h2=>by
    show wayN ss q (s :: (l ++ b)) = _
    rw [wayN_cons q s (l ++ b),wayN_cons q s l]
    cases h:nxt ss q.toNat s with
    | none=>simp
    | some j=>exact wayN_app hn b l j (hn _ _ _ h).1 (hn _ _ _ h).2
end
end Go.V
namespace Go.Proofs.YtndaepmjkbmjmaaGreatDoor
open Go.V
variable {w:World} {L:List Asn} {g:GramT} {x:GA} {fr:Int} {one two:List Int} {a1 a2:Option Addr} {l1 c1 l2 c2:Nat}
end Go.Proofs.YtndaepmjkbmjmaaGreatDoor
set_option linter.unusedVariables false
set_option maxRecDepth 4000
namespace Go.V
section
variable {g:GramT} {ss:List SQ}
structure WysI (g:GramT) (ss:List SQ) (ins:List Bool) (todo:List Nat) (ws:List (Lq Int)):Prop where
  len:ws.length = ins.length
  way:∀ (j:Nat),ins[j]? = some true→∃ v,ws[j]? = some v∧wayN ss 0 v.2 = (j:Int)∧v.2.any (bS g) = false∧v.2.length + 1≤ins.count true
  td:∀ j:Nat,j∈todo→ins[j]? = some true
theorem count_tr {ins:List Bool} {j:Nat} (h:ins[j]? = some false):(ins.set j true).count true = ins.count true + 1:=by
  induction ins generalizing j with
  | nil=>simp at h
  | cons b l ih =>
    cases j with
    | zero=>simp at h; subst h; simp
    | succ j =>
      have:=ih (j:=j) (by simpa using h)
      rw [List.set_cons_succ,List.count_cons,List.count_cons]
      omega
theorem WysI.start (hp:0 < ss.length):WysI g ss ((List.replicate ss.length false).set 0 true) [0] (List.replicate ss.length ((none,0),[])):=by
  have hc:((List.replicate ss.length false).set 0 true).count true = 1:=by
    rw [count_tr (by rw [List.getElem?_replicate,if_pos hp])]
    simp [List.count_replicate]
  have hi:∀ i,((List.replicate ss.length false).set 0 true)[i]? = some true→i = 0:=fun i h=>by
    by_cases e:0 = i
    · exact e.symm
    · rw [List.getElem?_set_ne e,List.getElem?_replicate] at h
      split at h <;> simp at h
  refine ⟨by simp,fun j hj=>?_,fun j hj=>?_⟩
  · have:=hi j hj
    subst this
    exact ⟨_,by rw [List.getElem?_replicate,if_pos hp],rfl,rfl,by rw [hc]; simp⟩
  · rw [List.mem_singleton] at hj
    subst hj
    rw [List.getElem?_set_self (by simpa using hp)]
theorem WysI.pop {ins:List Bool} {q:Nat} {todo:List Nat} {ws:List (Lq Int)} (h:WysI g ss ins (q :: todo) ws):WysI g ss ins todo ws:=⟨h.len,h.way,fun j hj=>h.td j (by simp [hj])⟩
theorem WysI.step {ins:List Bool} {q j:Nat} {todo:List Nat} {ws:List (Lq Int)} {v:Lq Int} {s:Int} {a:Option Addr} {c:Nat} (h:WysI g ss ins todo ws) (hn:∀ i s j,nxt ss i s = some j→0≤j∧j < ss.length) (hp:0 < ss.length)
    (hq:ins[q]? = some true) (hv:ws[q]? = some v) (hs:bS g s = false) (hx:nxt ss q s = some (j:Int)) (hj:ins[j]? = some false):WysI g ss (ins.set j true) (todo ++ [j]) (ws.set j ((a,c),v.2 ++ [s])):=by
  have hjl:=(List.getElem?_eq_some_iff.1 hj).1
  have hct:=count_tr hj
  obtain ⟨v',hv',w1,w2,w3⟩:=h.way q hq
  rw [hv] at hv'; cases hv'
  refine ⟨by rw [List.length_set,List.length_set,h.len],fun i hi=>?_,fun i hi=>?_⟩
  · by_cases e:j = i
    · subst e
      refine ⟨_,by rw [List.getElem?_set_self (by rw [h.len]; exact hjl)],?_,?_,?_⟩
      · show wayN ss 0 (v.2 ++ [s]) = _
        rw [wayN_app hn [s] v.2 0 (Int.le_refl _) (by omega),w1,if_neg (by omega)]
        unfold wayN
        rw [Int.toNat_natCast,hx]
        rfl
      · show (v.2 ++ [s]).any (bS g) = false
        rw [List.any_append,w2]
        simp [hs]
      · show (v.2 ++ [s]).length + 1≤_
        rw [List.length_append,List.length_singleton,hct]; omega
    · rw [List.getElem?_set_ne e] at hi
      obtain ⟨v2,h1,h2,h3,h4⟩:=h.way i hi
      exact ⟨v2,by rw [List.getElem?_set_ne e]; exact h1,h2,h3,by omega⟩
  · rw [List.mem_append,List.mem_singleton] at hi
    by_cases e:j = i
    · subst e; rw [List.getElem?_set_self hjl]
    · rw [List.getElem?_set_ne e]
      exact h.td i (hi.resolve_right (fun h=>e h.symm))
end
end Go.V
set_option linter.unusedVariables false
set_option maxRecDepth 4000
namespace Go.Proofs.YtndaepmjkbmjmaaGreatDoor
open Go.V
variable {w:World} {L:List Asn} {g:GramT} {x:GA}
end Go.Proofs.YtndaepmjkbmjmaaGreatDoor
set_option linter.unusedVariables false
set_option maxRecDepth 4000
namespace Go.V
section
variable {g:GramT} {ss:List SQ}
theorem edge_of (hc:ClosedP g) (hA:AutI g ss) {i:Nat} {q:SQ} (hq:ss[i]? = some q) {y:ItemT} {s:Int} (hy:ClM g q.1.2 y) (hs:aft g y = s) (h0:0≤s):∃ (j:Nat) (r:SQ),nxt ss i s = some (j:Int)∧ss[j]? = some r∧(⟨y.prod,y.dot + 1⟩ : ItemT)∈r.1.2:=by
  obtain ⟨hT,hN,hP,hP2,_,_⟩:=hc.sizes
  have hK:=(aut_at hA hq).1
  have hf:=(bst_inv (g:=g) (by omega) i).fit _ (List.mem_of_getElem? hK)
  have hm:(⟨y.prod,y.dot + 1⟩ : ItemT)∈kern g q.1.2 s:=kern_mem.2 ⟨y,hy,hs,rfl⟩
  have hne:kern g q.1.2 s≠[]:=List.ne_nil_of_mem hm
  have hsr:=kern_sym hc hf h0 hne
  obtain ⟨n,rfl⟩ : ∃ n:Nat,s = n:=⟨s.toNat,by omega⟩
  have hsome:=nxt_kern hA hq (n:=n) (by omega)
  rw [decide_eq_true hne] at hsome
  obtain ⟨t,ht⟩:=Option.isSome_iff_exists.1 hsome
  obtain ⟨q',k,e,hq',he,he1,he2⟩:=nxt_inv ht
  rw [hq] at hq'; cases hq'
  obtain ⟨_,_,j,r,hj,_,hr,hrk,_⟩:=aut_edge hc hA hq he
  refine ⟨j,r,by rw [ht,← he2,hj],hr,?_⟩
  rw [hrk,he1]
  exact hm
theorem walk_right (hc:ClosedP g) (hA:AutI g ss) {n:Nat} {p:ProdT} (hp:g.prods[n]? = some p):∀ (d m:Nat),m + d = p.right.length→∀ (i:Nat) (q:SQ),ss[i]? = some q→ClM g q.1.2 ⟨(n:Int),(m:Int)⟩ →
    ∃ (j:Nat) (r:SQ),wayN ss (i:Int) (p.right.drop m) = (j:Int)∧ss[j]? = some r∧ClM g r.1.2 ⟨(n:Int),(p.right.length:Int)⟩
  | 0,m,hm,i,q,hq,hy=>⟨i,q,by rw [List.drop_of_length_le (by omega)]; rfl,hq,by rw [show p.right.length = m by omega]; exact hy⟩
  | d + 1,m,hm,i,q,hq,hy=>by
    have hlt:m < p.right.length:=by omega
    have hpm:p∈g.prods:=List.mem_of_getElem? hp
    have hs:aft g ⟨(n:Int),(m:Int)⟩ = p.right[m]:=by
      rw [aft_some (p:=p) (by show g.prods[(n:Int).toNat]? = _; rw [Int.toNat_natCast]; exact hp)]
      show p.right.getD (m:Int).toNat (-1) = _
      rw [Int.toNat_natCast]
      simp [hlt]
    have hsy:=hc.sym hpm (List.getElem_mem hlt)
    obtain ⟨j,r,h1,h2,h3⟩:=edge_of hc hA hq hy hs (by omega)
    have h4:ClM g r.1.2 ⟨(n:Int),((m + 1:Nat):Int)⟩:=.base (by simpa using h3)
    obtain ⟨j',r',e1,e2,e3⟩:=walk_right hc hA hp d (m + 1) (by omega) j r h2 h4
    refine ⟨j',r',?_,e2,e3⟩
    rw [List.drop_eq_getElem_cons hlt,wayN_cons,Int.toNat_natCast,h1]
    exact e1
end
end Go.V
set_option linter.unusedVariables false
set_option maxRecDepth 4000
namespace Go.V
section
variable {g:GramT} {ss:List SQ}
theorem rdIt_getR {h:Hp} {xs:List ItemT} {a:Option Addr} {l:Nat} (r:rdS h xs a l) {i:Nat} (hi:i < l):∃ x ad,xs[i]? = some x∧a = some ad∧rowH h (ad.add (mulS i 2)) (encT x):=by
  obtain ⟨x,ad,vs,hx,ha,hr,e⟩:=r.get hi
  rw [show vs = encT x from e] at hr
  exact ⟨x,ad,hx,ha,hr⟩
end
end Go.V
namespace Go.Proofs.YtndaepmjkbmjmaaGreatDoor
open Go.V
variable {w:World} {L:List Asn} {g:GramT} {x:GA} {st:Int}
end Go.Proofs.YtndaepmjkbmjmaaGreatDoor
set_option linter.unusedVariables false
namespace Go.Proofs.YtndaepmjkbmjmaaGreatDoor
open Go.V
abbrev n_first_Nullable:FuncId:=164
def ann_first_Nullable:Ann:={ rngs:=[],loops:=[],joins:=[],blocks:=[] }
set_option maxRecDepth 100000 in
def vc_first_Nullable (a:Option Addr) (b c:Nat) (d:Option Addr) (e f:Nat) (g:Option Addr) (i j:Nat) (k:Int) (l:Option Addr) (m n:Nat) (w:World) (R:Value→WP):Prop :=  new w (oC [vS a b c,vS d e f,vS g i j,iI k,vS l m n] 27) fun k1 w1=>∃ o1 k2 k3 o2 k4 k5 o3 k6 k7 n1 o4 k8 k9,V.rowAt w1 (aM k1) 0 5 = some [vS o1 k2 k3,vS o2 k4 k5,vS o3 k6 k7,iI n1,vS o4 k8 k9]∧RunE Proofs.Tryz.prog Ev 215 [vA (Array.mk [vS o1 k2 k3,vS o2 k4 k5,vS o3 k6 k7,iI n1,vS o4 k8 k9])] w1 fun v1 w2=>∃ b1,v1 = vB b1∧br (!b1) (R (vT (Array.mk [vS none 0 0,iI 1])) w2) (∀ w3,drawn w2 w3→∃ (I1:World→Prop),I1 w3∧∃ o5 k10 k11 o6 k12 k13 o7 k14 k15 n2 o8 k16 k17,(∀ w4,I1 w4→V.rowAt w4 (aM k1) 0 5 = some [vS o5 k10 k11,vS o6 k12 k13,vS o7 k14 k15,iI n2,vS o8 k16 k17])∧∃ o9 k18 k19,(∀ w5,I1 w5→World.cell? w5 (aM k1) = some (vS o9 k18 k19))∧RunE Proofs.Tryz.prog Ev 216 [vA (Array.mk [vS o5 k10 k11,vS o6 k12 k13,vS o7 k14 k15,iI n2,vS o8 k16 k17])] w3 fun v2 w6=>∃ o10,v2 = vP o10∧∃ (I2:World→Prop),I2 w6∧(∀ w7,I2 w7→I1 w7)∧nn o10 fun a1=>∃ o11 k20 k21,(∀ w8,I2 w8→World.cell? w8 (Addr.add a1 5) = some (vS o11 k20 k21))∧slc o11 k20 k21 (some (↑k18:Int)) none none 1 fun (o12:Option Addr) (k22 k23:Nat)=>R (vT (Array.mk [vS o12 k22 k23,iI 0])) w6)
set_option maxRecDepth 100000 in
theorem run_first_Nullable (a:Option Addr) (b c:Nat) (d:Option Addr) (e f:Nat) (g:Option Addr) (i j:Nat) (k:Int) (l:Option Addr) (m n:Nat) (w:World) (R:Value→WP) (h:vc_first_Nullable a b c d e f g i j k l m n w R):Run Tryz.prog 164 [(.agg #[(.slice a b c),(.slice d e f),(.slice g i j),(.int .i64 k),(.slice l m n)])] w R:=rv Tryz.func164 ann_first_Nullable (by kernel_rfl) h

abbrev n_first_either:FuncId:=215
def ann_first_either:Ann:={ rngs:=[],loops:=[],joins:=[],blocks:=[] }
set_option maxRecDepth 100000 in
def vc_first_either (a:Option Addr) (b c:Nat) (d:Option Addr) (e f:Nat) (g:Option Addr) (i j:Nat) (k:Int) (l:Option Addr) (m n:Nat) (w:World) (R:Value→WP):Prop :=  new w (oC [vS a b c,vS d e f,vS g i j,iI k,vS l m n] 27) fun k1 w1=>∃ o1 k2 k3 o2 k4 k5 o3 k6 k7 n1 o4 k8 k9,V.rowAt w1 (aM k1) 0 5 = some [vS o1 k2 k3,vS o2 k4 k5,vS o3 k6 k7,iI n1,vS o4 k8 k9]∧RunE Proofs.Tryz.prog Ev 247 [vA (Array.mk [vS o1 k2 k3,vS o2 k4 k5,vS o3 k6 k7,iI n1,vS o4 k8 k9])] w1 fun v1 w2=>∃ b1,v1 = vB b1∧br b1 (R (vB true) w2) (∃ o5 k10 k11 o6 k12 k13 o7 k14 k15 n2 o8 k16 k17,V.rowAt w2 (aM k1) 0 5 = some [vS o5 k10 k11,vS o6 k12 k13,vS o7 k14 k15,iI n2,vS o8 k16 k17]∧RunE Proofs.Tryz.prog Ev 49 [vA (Array.mk [vS o5 k10 k11,vS o6 k12 k13,vS o7 k14 k15,iI n2,vS o8 k16 k17])] w2 fun v2 w3=>∃ b2,v2 = vB b2∧R (vB b2) w3)
set_option maxRecDepth 100000 in
theorem run_first_either (a:Option Addr) (b c:Nat) (d:Option Addr) (e f:Nat) (g:Option Addr) (i j:Nat) (k:Int) (l:Option Addr) (m n:Nat) (w:World) (R:Value→WP) (h:vc_first_either a b c d e f g i j k l m n w R):Run Tryz.prog 215 [(.agg #[(.slice a b c),(.slice d e f),(.slice g i j),(.int .i64 k),(.slice l m n)])] w R:=rv Tryz.func215 ann_first_either (by kernel_rfl) h

abbrev n_first_of:FuncId:=216
def ann_first_of:Ann:={ rngs:=[],loops:=[(4,[(24,(.one (.int .i64)))]),(9,[(6,(.one (.int .i64)))]),(12,[(6,(.one (.int .i64))),(48,(.one (.int .i64)))])],joins:=[],blocks:=[] }
set_option maxRecDepth 100000 in
def vc_first_of (a:Option Addr) (b c:Nat) (d:Option Addr) (e f:Nat) (g:Option Addr) (i j:Nat) (k:Int) (l:Option Addr) (m n:Nat) (w:World) (R:Value→WP):Prop :=  new w (oC [vS a b c,vS d e f,vS g i j,iI k,vS l m n] 27) fun k1 w1=>∃ o1 k2 k3,World.cell? w1 (aM k1) = some (vS o1 k2 k3)∧∃ o2 k4 k5,World.cell? w1 (Addr.add (aM k1) 1) = some (vS o2 k4 k5)∧inI ((↑k2:Int) + (↑k4:Int))∧∀ w2,drawn w1 w2→∃ (I1:World→Prop),I1 w2∧∃ o3 k6 k7 o4 k8 k9 o5 k10 k11 n1 o6 k12 k13,(∀ w3,I1 w3→V.rowAt w3 (aM k1) 0 5 = some [vS o3 k6 k7,vS o4 k8 k9,vS o5 k10 k11,iI n1,vS o6 k12 k13])∧mkOk ((↑k2:Int) + (↑k4:Int)) ((↑k2:Int) + (↑k4:Int)) 1∧new w2 (Obj.cells (Array.mk (reps (Int.toNat ((↑k2:Int) + (↑k4:Int))) [vB false])) 4) fun k14 w4=>I1 w4∧new w4 (oC [vS o3 k6 k7,vS o4 k8 k9,vS o5 k10 k11,iI n1,vS o6 k12 k13,vS (some (aM k14)) (Int.toNat ((↑k2:Int) + (↑k4:Int))) (Int.toNat ((↑k2:Int) + (↑k4:Int))),vS none 0 0] 291) fun k15 w5=>I1 w5∧∃ (x1:lP [(24,shI)]),∃ (x2:lN [(24,shI)]),x1 0 w5∧∀ (I2:Nat→Value) (n2:Int) (w6:World),x1 n2 w6→br (decide (n2 < (↑k2:Int) + (↑k4:Int))) (∀ w7,drawn w6 w7→∃ (I3:World→Prop),I3 w7∧∃ o7 k16 k17,(∀ w8,I3 w8→World.cell? w8 (Addr.add (aM k15) 6) = some (vS o7 k16 k17))∧∃ o8 k18 k19,(∀ w9,I3 w9→World.cell? w9 (aM k1) = some (vS o8 k18 k19))∧new w7 (oC [iI n2] 3) fun k20 w10=>I3 w10∧RunE Proofs.Tryz.prog Ev 59 [iI (↑k18:Int),vS (some (aM k20)) 1 1] w10 fun v1 w11=>∃ o9,v1 = vP o9∧I3 w11∧new w11 (oC [vP o9] 118) fun k21 w12=>I3 w12∧RunS Proofs.Tryz.prog (apB 286 (Array.mk [vS o7 k16 k17,vS (some (aM k21)) 1 1])) w12 fun v2 w13=>∃ o10 k22 k23,v2 = vS o10 k22 k23∧I3 w13∧st1 w13 (Addr.add (aM k15) 6) (vS o10 k22 k23) fun w14=>inI (n2 + 1)∧x1 (n2 + 1) w14∧x2 (n2 + 1) w14 < x2 n2 w6) (∃ (x3:lP [(6,shI)]),∃ (x4:lN [(6,shI)]),x3 1 w6∧∀ (I4:Nat→Value) (n3:Int) (w15:World),x3 n3 w15→br (decide (0 < n3)) (∃ o11 k24 k25,World.cell? w15 (Addr.add (aM k1) 4) = some (vS o11 k24 k25)∧∃ (x5:lP [(6,shI),(48,shI)]),∃ (x6:lN [(6,shI),(48,shI)]),x5 0 0 w15∧∀ (I5:Nat→Value) (n4 n5:Int) (w16:World),x5 n4 n5 w16→br (decide (n5 < (↑k24:Int))) (idx o11 k24 n5 3 fun a1=>∃ n6 o12 k26 k27 n7,V.rowAt w16 a1 0 3 = some [iI n6,vS o12 k26 k27,iI n7]∧new w16 (oC [iI 0,vS none 0 0,iI 0] 81) fun k28 w17=>stR w17 (aM k28) [iI n6,vS o12 k26 k27,iI n7] fun w18=>∀ w19,drawn w18 w19→∃ (I6:World→Prop),I6 w19∧∃ o13 k29 k30,(∀ w20,I6 w20→World.cell? w20 (Addr.add (aM k15) 6) = some (vS o13 k29 k30))∧∃ n8,(∀ w21,I6 w21→World.cell? w21 (aM k28) = some (iI n8))∧idx o13 k29 n8 1 fun a2=>∃ o14,(∀ w22,I6 w22→World.cell? w22 a2 = some (vP o14))∧∃ o15 k31 k32,(∀ w23,I6 w23→World.cell? w23 (Addr.add (aM k28) 1) = some (vS o15 k31 k32))∧RunE Proofs.Tryz.prog Ev 248 [vP (some (aM k15)),vP o14,vS o15 k31 k32] w19 fun v3 w24=>∃ n9 b1,v3 = vT (Array.mk [iI n9,vB b1])∧I6 w24∧inI (n4 + n9)∧∀ w25,drawn w24 w25→∃ (I7:World→Prop),I7 w25∧br b1 (∃ o16 k33 k34,(∀ w26,I7 w26→World.cell? w26 (Addr.add (aM k15) 5) = some (vS o16 k33 k34))∧∃ n10,(∀ w27,I7 w27→World.cell? w27 (aM k28) = some (iI n10))∧idx o16 k33 n10 1 fun a3=>∃ b2,(∀ w28,I7 w28→World.cell? w28 a3 = some (vB b2))∧br (!b2) (∀ w29,drawn w25 w29→∃ (I8:World→Prop),I8 w29∧∃ o17 k35 k36,(∀ w30,I8 w30→World.cell? w30 (Addr.add (aM k15) 5) = some (vS o17 k35 k36))∧∃ n11,(∀ w31,I8 w31→World.cell? w31 (aM k28) = some (iI n11))∧idx o17 k35 n11 1 fun a4=>st1 w29 a4 (vB true) fun w32=>inI (n4 + n9 + 1)∧inI (n5 + 1)∧x5 (n4 + n9 + 1) (n5 + 1) w32∧x6 (n4 + n9 + 1) (n5 + 1) w32 < x6 n4 n5 w16) (inI (n5 + 1)∧x5 (n4 + n9) (n5 + 1) w25∧x6 (n4 + n9) (n5 + 1) w25 < x6 n4 n5 w16)) (inI (n5 + 1)∧x5 (n4 + n9) (n5 + 1) w25∧x6 (n4 + n9) (n5 + 1) w25 < x6 n4 n5 w16)) (x3 n4 w16∧x4 n4 w16 < x4 n3 w15)) (R (vP (some (aM k15))) w15))
set_option maxRecDepth 100000 in
theorem run_first_of (a:Option Addr) (b c:Nat) (d:Option Addr) (e f:Nat) (g:Option Addr) (i j:Nat) (k:Int) (l:Option Addr) (m n:Nat) (w:World) (R:Value→WP) (h:vc_first_of a b c d e f g i j k l m n w R):Run Tryz.prog 216 [(.agg #[(.slice a b c),(.slice d e f),(.slice g i j),(.int .i64 k),(.slice l m n)])] w R:=rv Tryz.func216 ann_first_of (by kernel_rfl) h

abbrev n_first_sets_row:FuncId:=248
def ann_first_sets_row:Ann:={ rngs:=[],loops:=[(3,[(8,(.one (.int .i64))),(13,(.one (.int .i64)))])],joins:=[],blocks:=[] }
set_option maxRecDepth 100000 in
def vc_first_sets_row (a b c:Option Addr) (d e:Nat) (w:World) (R:Value→WP):Prop :=  ∃ (x1:lP [(8,shI),(13,shI)]),∃ (x2:lN [(8,shI),(13,shI)]),x1 0 0 w∧∀ (I1:Nat→Value) (n1 n2:Int) (w1:World),x1 n1 n2 w1→br (decide (n2 < (↑d:Int))) (idx c d n2 1 fun a1=>∃ n3,World.cell? w1 a1 = some (iI n3)∧nn a fun a2=>∃ o1 k1 k2,World.cell? w1 (Addr.add a2 6) = some (vS o1 k1 k2)∧idx o1 k1 n3 1 fun a3=>∃ o2,World.cell? w1 a3 = some (vP o2)∧new w1 (oC [vP o2] 118) fun k3 w2=>RunE Proofs.Tryz.prog Ev 213 [vP b,vS (some (aM k3)) 1 1] w2 fun v1 w3=>∃ n4,v1 = iI n4∧inI (n1 + n4)∧nn a fun a4=>∃ o3 k4 k5,World.cell? w3 (Addr.add a4 5) = some (vS o3 k4 k5)∧idx o3 k4 n3 1 fun a5=>∃ b1,World.cell? w3 a5 = some (vB b1)∧br (!b1) (R (vT (Array.mk [iI (n1 + n4),vB false])) w3) (inI (n2 + 1)∧x1 (n1 + n4) (n2 + 1) w3∧x2 (n1 + n4) (n2 + 1) w3 < x2 n1 n2 w1)) (R (vT (Array.mk [iI n1,vB true])) w1)
set_option maxRecDepth 100000 in
theorem run_first_sets_row (a b c:Option Addr) (d e:Nat) (w:World) (R:Value→WP) (h:vc_first_sets_row a b c d e w R):Run Tryz.prog 248 [(.pointer a),(.pointer b),(.slice c d e)] w R:=rv Tryz.func248 ann_first_sets_row (by kernel_rfl) h

end Go.Proofs.YtndaepmjkbmjmaaGreatDoor
set_option linter.unusedVariables false
set_option maxRecDepth 4000
namespace Go.V
def rowB (nl:List Bool) (vs:List (List Bool)):List Bool→List Int→List Bool
  | bs,[]=>bs
  | bs,s :: r=>if fnB nl s.toNat then rowB nl vs (addB bs (mbI (vs.getD s.toNat []))) r else addB bs (mbI (vs.getD s.toNat []))
def rowN (nl:List Bool) (row:List Int):Bool:=row.all fun s=>fnB nl s.toNat
theorem rowB_nil (nl:List Bool) (vs:List (List Bool)) (bs:List Bool):rowB nl vs bs [] = bs:=rfl
theorem rowB_cons (nl:List Bool) (vs:List (List Bool)) (bs:List Bool) (s:Int) (r:List Int):rowB nl vs bs (s :: r) = if fnB nl s.toNat then rowB nl vs (addB bs (mbI (vs.getD s.toNat []))) r else addB bs (mbI (vs.getD s.toNat [])):=rfl
theorem rowB_len (nl:List Bool) (vs:List (List Bool)):∀ (row:List Int) (bs:List Bool),(rowB nl vs bs row).length = bs.length
  | [],bs=>rfl
  | s :: r,bs=>by
    unfold rowB
    split
    · rw [rowB_len nl vs r,addB_len]
    · rw [addB_len]
theorem fnB_rowB_sub (nl:List Bool) (vs:List (List Bool)):∀ (row:List Int) (bs:List Bool) (k:Nat),fnB bs k = true→fnB (rowB nl vs bs row) k = true
  | [],bs,k,h=>h
  | s :: r,bs,k,h=>by
    unfold rowB
    have:fnB (addB bs (mbI (vs.getD s.toNat []))) k = true:=by rw [fnB_add_mb,h]; rfl
    split
    · exact fnB_rowB_sub nl vs r _ k this
    · exact this
theorem cntB_rowB (nl:List Bool) (vs:List (List Bool)):∀ (row:List Int) (bs:List Bool),cntB bs≤cntB (rowB nl vs bs row)
  | [],bs=>Nat.le_refl _
  | s :: r,bs=>by
    unfold rowB
    split
    · exact Nat.le_trans (cntB_add _ _) (cntB_rowB nl vs r _)
    · exact cntB_add _ _
end Go.V
namespace Go.Proofs.YtndaepmjkbmjmaaGreatDoor
open Go.V
section
variable {w:World} {L:List Asn} {a an ao:Option Addr} {l c nl cn ol co ks:Nat} {p:Option Addr} {bs nulls:List Bool} {row:List Int} {os:List (Option Addr)} {vss:List (List Bool)} {gs:List Value}
set_option maxHeartbeats 1000000 in
theorem f_row (h:St w (setO p bs :: L)) (hs:∀ h,starL L h→rowH h ⟨ks,0,none⟩ (gs ++ [.slice an nl cn,.slice ao ol co])) (hgs:gs.length = 5) (hn:∀ h,starL L h→rdS h nulls an nl) (ho:∀ h,starL L h→rdS h os ao ol) (hv:vss.length = os.length) (hno:nulls.length = os.length)
    (hq:∀ h,starL L h→∀ (i:Nat) q v,os[i]? = some q→vss[i]? = some v→setR h q v∨(q = p∧v = bs)) (ht:∀ h,starL L h→tabA h)
    (hr:∀ h,starL L h→rdS h row a l) (hin:∀ s∈row,0≤s∧s.toNat < os.length) (hb:l≤4611686018427387904) :
    Run Tryz.prog n_first_sets_row [.pointer (some ⟨ks,0,none⟩),.pointer p,.slice a l c] w fun v w'=>v = .tuple #[.int .i64 ((cntB (rowB nulls vss bs row):Int) - cntB bs),.bool (rowN nulls row)]∧St w' (setO p (rowB nulls vss bs row) :: L):=by
  obtain ⟨h0,hl,_,h1⟩:=h.freeze
  have hs:=hs h0 hl
  have hn:=hn h0 hl
  have ho:=ho h0 hl
  have hq:=hq h0 hl
  have ht:tabA h0:=ht h0 hl
  have hr:=hr h0 hl
  have hn1:=h.setR.le
  have done:∀ w' b,St w' (setO p b :: [has h0])→St w' (setO p b :: L):=fun w' b h=>h.on1 hl
  clear h hl
  have c5:∀ w',sub h0 (hp w')→w'.cell? ((⟨ks,0,none⟩ : Addr).add 5) = some (.slice an nl cn):=fun w' s=>hs.cell s (j:=5) (by rw [List.getElem?_append_right (by omega),hgs]; rfl)
  have c6:∀ w',sub h0 (hp w')→w'.cell? ((⟨ks,0,none⟩ : Addr).add 6) = some (.slice ao ol co):=fun w' s=>hs.cell s (j:=6) (by rw [List.getElem?_append_right (by omega),hgs]; rfl)
  refine run_first_sets_row _ _ _ _ _ w _ ?_
  refine ⟨fun n1 n2 w'=>∃ (j:Nat) (U:List Bool),n2 = j∧j≤l∧n1 = (cntB U:Int) - cntB bs∧cntB bs≤cntB U∧U.length = bs.length∧(∀ k,fnB bs k = true→fnB U k = true)∧rowB nulls vss bs row = rowB nulls vss U (row.drop j)∧rowN nulls row = rowN nulls (row.drop j)∧St w' [setO p U,has h0],fun _ n2 _=>l - n2.toNat,⟨0,bs,rfl,by omega,by omega,Nat.le_refl _,rfl,fun _ h=>h,by simp,by simp,h1⟩,?_⟩
  clear h1
  rintro _ _ n2 w1 ⟨j,U,rfl,hj,rfl,hcU,hlU,hsub,e1,e2,h⟩
  have s1:sub h0 (hp w1):=(h.pick 2 [1]).has
  have k1:=cntB_le U
  refine br_intro (fun hlt=>?_) fun hlt=>?_
  · have hlt:j < l:=by have:=of_decide_eq_true hlt; omega
    obtain ⟨y,ad,hy1,hya,hy2⟩:=hr.get1 hlt
    obtain ⟨y0,yl⟩:=hin y (List.mem_of_getElem? hy1)
    obtain ⟨q,ad2,hq1,hqa,hq2⟩:=ho.get1 (i:=y.toNat) (by have:=ho.1; omega)
    obtain ⟨v,hv1⟩ : ∃ v,vss[y.toNat]? = some v:=⟨vss[y.toNat]'(by omega),List.getElem?_eq_getElem _⟩
    obtain ⟨z,ad3,hz1,hza,hz2⟩:=hn.get1 (i:=y.toNat) (by have:=hn.1; omega)
    have hvd:vss.getD y.toNat [] = v:=by simp [List.getD,hv1]
    have hzd:fnB nulls y.toNat = z:=by simp [fnB,List.getD,hz1]
    have ed:row.drop j = y :: row.drop (j + 1):=by
      have:=List.drop_eq_getElem_cons (l:=row) (i:=j) (by rw [hr.1]; exact hlt)
      rw [this]; congr 1
      have:=List.getElem?_eq_some_iff.1 hy1; exact this.2
    refine idx_i hya hlt ⟨y,hy2 _ s1,_,_,_,c6 _ s1,?_⟩
    have ey:y = ((y.toNat:Nat):Int):=by omega
    rw [ey]
    refine idx_i hqa (by have:=ho.1; omega) ⟨q,hq2 _ s1,newC_i h fun b2 w2 h2=>?_⟩
    have hq':=hq _ _ _ hq1 hv1
    obtain ⟨v',hr',he'⟩ : ∃ v',(∀ h,starL [cel b2 [.pointer q],has h0] h→setR h q v'∨(q = p∧v' = U))∧addB U (mbI v') = addB U (mbI v):=by
      rcases hq' with hr | ⟨rfl,rfl⟩
      · exact ⟨v,fun h hh=>.inl (hr.mono (starL_in (A:=has h0) (List.mem_cons_of_mem _ (List.mem_singleton_self _)) hh |>.elim fun h1 x=>x.2.trans x.1)),rfl⟩
      · exact ⟨U,fun h hh=>.inr ⟨rfl,rfl⟩,by rw [addB_self fun _ h=>h,addB_self hsub]⟩
    refine (s_Union (vss:=[v']) (os:=[q]) (l:=1) (h2.pick 3 [1,0,2]) (fun h hh=>?_) rfl (fun h hh i q' w' hi hw=>?_) (fun h hh=>?_) (by omega)).mono ?_
    · obtain ⟨h1,_,_,s1,_,⟨e,he⟩,_⟩:=hh
      exact (rdS_of_row (xs:=[q]) rfl (.inr ⟨_,rfl,cel_row ⟨e,he⟩⟩)).mono s1
    · match i,hi,hw with
      | 0,hi,hw=>cases hi; cases hw; exact hr' h hh
      | i + 1,hi,_=>simp at hi
    · exact rdV.mono (starL_in (A:=has h0) (List.mem_cons_of_mem _ (List.mem_singleton_self _)) hh |>.elim fun h1 x=>x.2.trans x.1) ht
    rintro _ w3 ⟨rfl,h3⟩
    have eU:unionB U [v'] = addB U (mbI v):=he'
    rw [eU] at h3 ⊢
    have h3:=h3.pick 3 [0,2]
    have s3:sub h0 (hp w3):=(h3.pick 2 [1]).has
    have k2:=cntB_add U (mbI v)
    have k3:=cntB_le (addB U (mbI v))
    rw [addB_len] at k3
    rw [ed] at e1 e2
    rw [rowB_cons,hvd,hzd] at e1
    rw [show rowN nulls (y :: row.drop (j + 1)) = (z && rowN nulls (row.drop (j + 1))) from by unfold rowN; rw [List.all_cons,hzd]] at e2
    refine ⟨_,rfl,⟨by omega,by omega⟩,_,_,_,c5 _ s3,?_⟩
    refine idx_i hza (by have:=hn.1; omega) ⟨z,hz2 _ s3,br_intro (fun h4=>?_) fun h4=>?_⟩
    · have h4:z = false:=by simpa using h4
      subst h4
      simp only [Bool.false_eq_true,if_false] at e1
      refine ⟨?_,?_⟩
      · rw [e1,e2,Bool.false_and,show (cntB U:Int) - cntB bs + ((cntB (addB U (mbI v)):Int) - cntB U) = (cntB (addB U (mbI v)):Int) - cntB bs from by omega]
      · rw [e1]; exact done _ _ h3
    · have h4:z = true:=by simpa using h4
      subst h4
      simp only [if_true] at e1
      rw [Bool.true_and] at e2
      refine ⟨⟨by omega,by omega⟩,⟨j + 1,addB U (mbI v),by simp,by omega,by omega,by omega,by rw [addB_len]; exact hlU,fun k hk=>by rw [fnB_add_mb,hsub k hk]; rfl,e1,e2,h3⟩,msr hlt⟩
  · have hlt:j = l:=by have:=of_decide_eq_false hlt; omega
    subst hlt
    rw [List.drop_of_length_le (by have:=hr.1; omega)] at e1 e2
    rw [rowB_nil] at e1
    refine ⟨?_,?_⟩
    · rw [e1,e2]; rfl
    · rw [e1]; exact done _ _ h
end
end Go.Proofs.YtndaepmjkbmjmaaGreatDoor
