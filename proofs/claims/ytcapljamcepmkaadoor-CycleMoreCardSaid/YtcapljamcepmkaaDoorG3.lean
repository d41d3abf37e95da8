/- Texts of this claim, one behind the other. -/
import Derived.Test.YtcapljamcepmkaaDoorG1
import Derived.Test.YtcapljamcepmkaaDoorG2
import Derived.Test.YtcapljamcepmkaaDoorCards
import Derived.Test.YtcapljamcepmkaaDoorTie
import Derived.WalkKit
import Derived.ProofKit
import Derived.OpenShut
import Derived.Carry
import Derived.OpenVars
import Derived.Deep.DeepHandedRow
import Derived.Lib.LaidTab
set_option linter.unusedVariables false
namespace Go.Proofs.YtcapljamcepmkaaDoor
open Go.V
abbrev n_first_Nullable : FuncId := 57
def ann_first_Nullable : Ann := { rngs := [], loops := [], joins := [], blocks := [] }
set_option maxRecDepth 100000 in
def vc_first_Nullable (a : Option Addr) (b c : Nat) (d : Option Addr) (e f : Nat) (g : Option Addr) (i j : Nat) (k : Int) (l : Option Addr) (m n : Nat) (w : World) (R : Value → WP) : Prop :=  new w (oC [vS a b c, vS d e f, vS g i j, iI k, vS l m n] 27) fun k1 w1 => ∃ o1 k2 k3 o2 k4 k5 o3 k6 k7 n1 o4 k8 k9, V.rowAt w1 (aM k1) 0 5 = some [vS o1 k2 k3, vS o2 k4 k5, vS o3 k6 k7, iI n1, vS o4 k8 k9] ∧ rE 82 [vA (Array.mk [vS o1 k2 k3, vS o2 k4 k5, vS o3 k6 k7, iI n1, vS o4 k8 k9])] w1 fun v1 w2 => ∃ b1, v1 = vB b1 ∧ br (!b1) (R (vT (Array.mk [vS none 0 0, iI 1])) w2) (∀ w3, drawn w2 w3 → ∃ (I1 : World → Prop), I1 w3 ∧ ∃ o5 k10 k11 o6 k12 k13 o7 k14 k15 n2 o8 k16 k17, (∀ w4, I1 w4 → V.rowAt w4 (aM k1) 0 5 = some [vS o5 k10 k11, vS o6 k12 k13, vS o7 k14 k15, iI n2, vS o8 k16 k17]) ∧ ∃ o9 k18 k19, (∀ w5, I1 w5 → World.cell? w5 (aM k1) = some (vS o9 k18 k19)) ∧ rE 83 [vA (Array.mk [vS o5 k10 k11, vS o6 k12 k13, vS o7 k14 k15, iI n2, vS o8 k16 k17])] w3 fun v2 w6 => ∃ o10, v2 = vP o10 ∧ ∃ (I2 : World → Prop), I2 w6 ∧ (∀ w7, I2 w7 → I1 w7) ∧ nn o10 fun a1 => ∃ o11 k20 k21, (∀ w8, I2 w8 → World.cell? w8 (Addr.add a1 5) = some (vS o11 k20 k21)) ∧ slc o11 k20 k21 (some (↑k18 : Int)) none none 1 fun (o12 : Option Addr) (k22 k23 : Nat) => R (vT (Array.mk [vS o12 k22 k23, iI 0])) w6)
set_option maxRecDepth 100000 in
theorem run_first_Nullable (a : Option Addr) (b c : Nat) (d : Option Addr) (e f : Nat) (g : Option Addr) (i j : Nat) (k : Int) (l : Option Addr) (m n : Nat) (w : World) (R : Value → WP) (h : vc_first_Nullable a b c d e f g i j k l m n w R) : Run Tryd.prog 57 [(.agg #[(.slice a b c), (.slice d e f), (.slice g i j), (.int .i64 k), (.slice l m n)])] w R := rv Tryd.func57 ann_first_Nullable (by kernel_rfl) h

abbrev n_first_either : FuncId := 82
def ann_first_either : Ann := { rngs := [], loops := [], joins := [], blocks := [] }
set_option maxRecDepth 100000 in
def vc_first_either (a : Option Addr) (b c : Nat) (d : Option Addr) (e f : Nat) (g : Option Addr) (i j : Nat) (k : Int) (l : Option Addr) (m n : Nat) (w : World) (R : Value → WP) : Prop :=  new w (oC [vS a b c, vS d e f, vS g i j, iI k, vS l m n] 27) fun k1 w1 => ∃ o1 k2 k3 o2 k4 k5 o3 k6 k7 n1 o4 k8 k9, V.rowAt w1 (aM k1) 0 5 = some [vS o1 k2 k3, vS o2 k4 k5, vS o3 k6 k7, iI n1, vS o4 k8 k9] ∧ rE 116 [vA (Array.mk [vS o1 k2 k3, vS o2 k4 k5, vS o3 k6 k7, iI n1, vS o4 k8 k9])] w1 fun v1 w2 => ∃ b1, v1 = vB b1 ∧ br b1 (R (vB true) w2) (∃ o5 k10 k11 o6 k12 k13 o7 k14 k15 n2 o8 k16 k17, V.rowAt w2 (aM k1) 0 5 = some [vS o5 k10 k11, vS o6 k12 k13, vS o7 k14 k15, iI n2, vS o8 k16 k17] ∧ rE 56 [vA (Array.mk [vS o5 k10 k11, vS o6 k12 k13, vS o7 k14 k15, iI n2, vS o8 k16 k17])] w2 fun v2 w3 => ∃ b2, v2 = vB b2 ∧ R (vB b2) w3)
set_option maxRecDepth 100000 in
theorem run_first_either (a : Option Addr) (b c : Nat) (d : Option Addr) (e f : Nat) (g : Option Addr) (i j : Nat) (k : Int) (l : Option Addr) (m n : Nat) (w : World) (R : Value → WP) (h : vc_first_either a b c d e f g i j k l m n w R) : Run Tryd.prog 82 [(.agg #[(.slice a b c), (.slice d e f), (.slice g i j), (.int .i64 k), (.slice l m n)])] w R := rv Tryd.func82 ann_first_either (by kernel_rfl) h

abbrev n_first_of : FuncId := 83
def ann_first_of : Ann := { rngs := [], loops := [(4, [(24, (.one (.int .i64)))]), (9, [(6, (.one (.int .i64)))]), (12, [(6, (.one (.int .i64))), (48, (.one (.int .i64)))])], joins := [], blocks := [] }
set_option maxRecDepth 100000 in
def vc_first_of (a : Option Addr) (b c : Nat) (d : Option Addr) (e f : Nat) (g : Option Addr) (i j : Nat) (k : Int) (l : Option Addr) (m n : Nat) (w : World) (R : Value → WP) : Prop :=  new w (oC [vS a b c, vS d e f, vS g i j, iI k, vS l m n] 27) fun k1 w1 => ∃ o1 k2 k3, World.cell? w1 (aM k1) = some (vS o1 k2 k3) ∧ ∃ o2 k4 k5, World.cell? w1 (Addr.add (aM k1) 1) = some (vS o2 k4 k5) ∧ inI ((↑k2 : Int) + (↑k4 : Int)) ∧ ∀ w2, drawn w1 w2 → ∃ (I1 : World → Prop), I1 w2 ∧ ∃ o3 k6 k7 o4 k8 k9 o5 k10 k11 n1 o6 k12 k13, (∀ w3, I1 w3 → V.rowAt w3 (aM k1) 0 5 = some [vS o3 k6 k7, vS o4 k8 k9, vS o5 k10 k11, iI n1, vS o6 k12 k13]) ∧ mkOk ((↑k2 : Int) + (↑k4 : Int)) ((↑k2 : Int) + (↑k4 : Int)) 1 ∧ new w2 (Obj.cells (Array.mk (reps (Int.toNat ((↑k2 : Int) + (↑k4 : Int))) [vB false])) 4) fun k14 w4 => I1 w4 ∧ new w4 (oC [vS o3 k6 k7, vS o4 k8 k9, vS o5 k10 k11, iI n1, vS o6 k12 k13, vS (some (aM k14)) (Int.toNat ((↑k2 : Int) + (↑k4 : Int))) (Int.toNat ((↑k2 : Int) + (↑k4 : Int))), vS none 0 0] 120) fun k15 w5 => I1 w5 ∧ ∃ (x1 : lP [(24, shI)]), ∃ (x2 : lN [(24, shI)]), x1 0 w5 ∧ ∀ (I2 : Nat → Value) (n2 : Int) (w6 : World), x1 n2 w6 → br (decide (n2 < (↑k2 : Int) + (↑k4 : Int))) (∀ w7, drawn w6 w7 → ∃ (I3 : World → Prop), I3 w7 ∧ ∃ o7 k16 k17, (∀ w8, I3 w8 → World.cell? w8 (Addr.add (aM k15) 6) = some (vS o7 k16 k17)) ∧ ∃ o8 k18 k19, (∀ w9, I3 w9 → World.cell? w9 (aM k1) = some (vS o8 k18 k19)) ∧ new w7 (oC [iI n2] 3) fun k20 w10 => I3 w10 ∧ rE 52 [iI (↑k18 : Int), vS (some (aM k20)) 1 1] w10 fun v1 w11 => ∃ o9, v1 = vP o9 ∧ I3 w11 ∧ new w11 (oC [vP o9] 67) fun k21 w12 => I3 w12 ∧ rS (apB 64 (Array.mk [vS o7 k16 k17, vS (some (aM k21)) 1 1])) w12 fun v2 w13 => ∃ o10 k22 k23, v2 = vS o10 k22 k23 ∧ I3 w13 ∧ st1 w13 (Addr.add (aM k15) 6) (vS o10 k22 k23) fun w14 => inI (n2 + 1) ∧ x1 (n2 + 1) w14 ∧ x2 (n2 + 1) w14 < x2 n2 w6) (∃ (x3 : lP [(6, shI)]), ∃ (x4 : lN [(6, shI)]), x3 1 w6 ∧ ∀ (I4 : Nat → Value) (n3 : Int) (w15 : World), x3 n3 w15 → br (decide (0 < n3)) (∃ o11 k24 k25, World.cell? w15 (Addr.add (aM k1) 4) = some (vS o11 k24 k25) ∧ ∃ (x5 : lP [(6, shI), (48, shI)]), ∃ (x6 : lN [(6, shI), (48, shI)]), x5 0 0 w15 ∧ ∀ (I5 : Nat → Value) (n4 n5 : Int) (w16 : World), x5 n4 n5 w16 → br (decide (n5 < (↑k24 : Int))) (idx o11 k24 n5 3 fun a1 => ∃ n6 o12 k26 k27 n7, V.rowAt w16 a1 0 3 = some [iI n6, vS o12 k26 k27, iI n7] ∧ new w16 (oC [iI 0, vS none 0 0, iI 0] 41) fun k28 w17 => stR w17 (aM k28) [iI n6, vS o12 k26 k27, iI n7] fun w18 => ∀ w19, drawn w18 w19 → ∃ (I6 : World → Prop), I6 w19 ∧ ∃ o13 k29 k30, (∀ w20, I6 w20 → World.cell? w20 (Addr.add (aM k15) 6) = some (vS o13 k29 k30)) ∧ ∃ n8, (∀ w21, I6 w21 → World.cell? w21 (aM k28) = some (iI n8)) ∧ idx o13 k29 n8 1 fun a2 => ∃ o14, (∀ w22, I6 w22 → World.cell? w22 a2 = some (vP o14)) ∧ ∃ o15 k31 k32, (∀ w23, I6 w23 → World.cell? w23 (Addr.add (aM k28) 1) = some (vS o15 k31 k32)) ∧ rE 117 [vP (some (aM k15)), vP o14, vS o15 k31 k32] w19 fun v3 w24 => ∃ n9 b1, v3 = vT (Array.mk [iI n9, vB b1]) ∧ I6 w24 ∧ inI (n4 + n9) ∧ ∀ w25, drawn w24 w25 → ∃ (I7 : World → Prop), I7 w25 ∧ br b1 (∃ o16 k33 k34, (∀ w26, I7 w26 → World.cell? w26 (Addr.add (aM k15) 5) = some (vS o16 k33 k34)) ∧ ∃ n10, (∀ w27, I7 w27 → World.cell? w27 (aM k28) = some (iI n10)) ∧ idx o16 k33 n10 1 fun a3 => ∃ b2, (∀ w28, I7 w28 → World.cell? w28 a3 = some (vB b2)) ∧ br (!b2) (∀ w29, drawn w25 w29 → ∃ (I8 : World → Prop), I8 w29 ∧ ∃ o17 k35 k36, (∀ w30, I8 w30 → World.cell? w30 (Addr.add (aM k15) 5) = some (vS o17 k35 k36)) ∧ ∃ n11, (∀ w31, I8 w31 → World.cell? w31 (aM k28) = some (iI n11)) ∧ idx o17 k35 n11 1 fun a4 => st1 w29 a4 (vB true) fun w32 => inI (n4 + n9 + 1) ∧ inI (n5 + 1) ∧ x5 (n4 + n9 + 1) (n5 + 1) w32 ∧ x6 (n4 + n9 + 1) (n5 + 1) w32 < x6 n4 n5 w16) (inI (n5 + 1) ∧ x5 (n4 + n9) (n5 + 1) w25 ∧ x6 (n4 + n9) (n5 + 1) w25 < x6 n4 n5 w16)) (inI (n5 + 1) ∧ x5 (n4 + n9) (n5 + 1) w25 ∧ x6 (n4 + n9) (n5 + 1) w25 < x6 n4 n5 w16)) (x3 n4 w16 ∧ x4 n4 w16 < x4 n3 w15)) (R (vP (some (aM k15))) w15))
set_option maxRecDepth 100000 in
theorem run_first_of (a : Option Addr) (b c : Nat) (d : Option Addr) (e f : Nat) (g : Option Addr) (i j : Nat) (k : Int) (l : Option Addr) (m n : Nat) (w : World) (R : Value → WP) (h : vc_first_of a b c d e f g i j k l m n w R) : Run Tryd.prog 83 [(.agg #[(.slice a b c), (.slice d e f), (.slice g i j), (.int .i64 k), (.slice l m n)])] w R := rv Tryd.func83 ann_first_of (by kernel_rfl) h

abbrev n_first_sets_row : FuncId := 117
def ann_first_sets_row : Ann := { rngs := [], loops := [(3, [(8, (.one (.int .i64))), (13, (.one (.int .i64)))])], joins := [], blocks := [] }
set_option maxRecDepth 100000 in
def vc_first_sets_row (a b c : Option Addr) (d e : Nat) (w : World) (R : Value → WP) : Prop :=  ∃ (x1 : lP [(8, shI), (13, shI)]), ∃ (x2 : lN [(8, shI), (13, shI)]), x1 0 0 w ∧ ∀ (I1 : Nat → Value) (n1 n2 : Int) (w1 : World), x1 n1 n2 w1 → br (decide (n2 < (↑d : Int))) (idx c d n2 1 fun a1 => ∃ n3, World.cell? w1 a1 = some (iI n3) ∧ nn a fun a2 => ∃ o1 k1 k2, World.cell? w1 (Addr.add a2 6) = some (vS o1 k1 k2) ∧ idx o1 k1 n3 1 fun a3 => ∃ o2, World.cell? w1 a3 = some (vP o2) ∧ new w1 (oC [vP o2] 67) fun k3 w2 => rE 54 [vP b, vS (some (aM k3)) 1 1] w2 fun v1 w3 => ∃ n4, v1 = iI n4 ∧ inI (n1 + n4) ∧ nn a fun a4 => ∃ o3 k4 k5, World.cell? w3 (Addr.add a4 5) = some (vS o3 k4 k5) ∧ idx o3 k4 n3 1 fun a5 => ∃ b1, World.cell? w3 a5 = some (vB b1) ∧ br (!b1) (R (vT (Array.mk [iI (n1 + n4), vB false])) w3) (inI (n2 + 1) ∧ x1 (n1 + n4) (n2 + 1) w3 ∧ x2 (n1 + n4) (n2 + 1) w3 < x2 n1 n2 w1)) (R (vT (Array.mk [iI n1, vB true])) w1)
set_option maxRecDepth 100000 in
theorem run_first_sets_row (a b c : Option Addr) (d e : Nat) (w : World) (R : Value → WP) (h : vc_first_sets_row a b c d e w R) : Run Tryd.prog 117 [(.pointer a), (.pointer b), (.slice c d e)] w R := rv Tryd.func117 ann_first_sets_row (by kernel_rfl) h

end Go.Proofs.YtcapljamcepmkaaDoor
set_option linter.unusedVariables false
namespace Go.V
def rowB (nl : List Bool) (vs : List (List Bool)) : List Bool → List Int → List Bool
  | bs, [] => bs
  | bs, s :: r => if fnB nl s.toNat then rowB nl vs (addB bs (mbI (vs.getD s.toNat []))) r else addB bs (mbI (vs.getD s.toNat []))
def rowN (nl : List Bool) (row : List Int) : Bool := row.all fun s => fnB nl s.toNat
theorem rowB_nil (nl : List Bool) (vs : List (List Bool)) (bs : List Bool) : rowB nl vs bs [] = bs := rfl
theorem rowB_cons (nl : List Bool) (vs : List (List Bool)) (bs : List Bool) (s : Int) (r : List Int) : rowB nl vs bs (s :: r) = if fnB nl s.toNat then rowB nl vs (addB bs (mbI (vs.getD s.toNat []))) r else addB bs (mbI (vs.getD s.toNat [])) := rfl
theorem rowB_len (nl : List Bool) (vs : List (List Bool)) : ∀ (row : List Int) (bs : List Bool), (rowB nl vs bs row).length = bs.length
  | [], bs => rfl
  | s :: r, bs => by
    unfold rowB
    split
    · rw [rowB_len nl vs r, addB_len]
    · rw [addB_len]
theorem fnB_rowB_sub (nl : List Bool) (vs : List (List Bool)) : ∀ (row : List Int) (bs : List Bool) (k : Nat), fnB bs k = true → fnB (rowB nl vs bs row) k = true
  | [], bs, k, h => h
  | s :: r, bs, k, h => by
    unfold rowB
    have : fnB (addB bs (mbI (vs.getD s.toNat []))) k = true := by rw [fnB_add_mb, h]; rfl
    split
    · exact fnB_rowB_sub nl vs r _ k this
    · exact this
theorem cntB_rowB (nl : List Bool) (vs : List (List Bool)) : ∀ (row : List Int) (bs : List Bool), cntB bs ≤ cntB (rowB nl vs bs row)
  | [], bs => Nat.le_refl _
  | s :: r, bs => by
    unfold rowB
    split
    · exact Nat.le_trans (cntB_add _ _) (cntB_rowB nl vs r _)
    · exact cntB_add _ _
end Go.V
namespace Go.Proofs.YtcapljamcepmkaaDoor
open Go.V
section
variable {w : World} {L : List Asn} {a an ao : Option Addr} {l c nl cn ol co ks : Nat} {p : Option Addr} {bs nulls : List Bool} {row : List Int} {os : List (Option Addr)} {vss : List (List Bool)} {gs : List Value}
set_option maxHeartbeats 1000000 in
theorem f_row (h : St w (setO p bs :: L)) (hs : ∀ h, starL L h → rowH h ⟨ks, 0, none⟩ (gs ++ [.slice an nl cn, .slice ao ol co])) (hgs : gs.length = 5) (hn : ∀ h, starL L h → rdS h nulls an nl) (ho : ∀ h, starL L h → rdS h os ao ol) (hv : vss.length = os.length) (hno : nulls.length = os.length)
    (hq : ∀ h, starL L h → ∀ (i : Nat) q v, os[i]? = some q → vss[i]? = some v → setR h q v ∨ (q = p ∧ v = bs)) (ht : ∀ h, starL L h → tabA h)
    (hr : ∀ h, starL L h → rdS h row a l) (hin : ∀ s ∈ row, 0 ≤ s ∧ s.toNat < os.length) (hb : l ≤ 4611686018427387904) :
    Run Tryd.prog n_first_sets_row [.pointer (some ⟨ks, 0, none⟩), .pointer p, .slice a l c] w fun v w' => v = .tuple #[.int .i64 ((cntB (rowB nulls vss bs row) : Int) - cntB bs), .bool (rowN nulls row)] ∧ St w' (setO p (rowB nulls vss bs row) :: L) := by
  obtain ⟨h0, hl, _, h1⟩ := h.freeze
  have hs := hs h0 hl
  have hn := hn h0 hl
  have ho := ho h0 hl
  have hq := hq h0 hl
  have ht : tabA h0 := ht h0 hl
  have hr := hr h0 hl
  have hn1 := h.setR.le
  have done : ∀ w' b, St w' (setO p b :: [has h0]) → St w' (setO p b :: L) := fun w' b h => h.on1 hl
  clear h hl
  have c5 : ∀ w', sub h0 (hp w') → w'.cell? ((⟨ks, 0, none⟩ : Addr).add 5) = some (.slice an nl cn) := fun w' s => hs.cell s (j := 5) (by rw [List.getElem?_append_right (by omega), hgs]; rfl)
  have c6 : ∀ w', sub h0 (hp w') → w'.cell? ((⟨ks, 0, none⟩ : Addr).add 6) = some (.slice ao ol co) := fun w' s => hs.cell s (j := 6) (by rw [List.getElem?_append_right (by omega), hgs]; rfl)
  refine run_first_sets_row _ _ _ _ _ w _ ?_
  refine ⟨fun n1 n2 w' => ∃ (j : Nat) (U : List Bool), n2 = j ∧ j ≤ l ∧ n1 = (cntB U : Int) - cntB bs ∧ cntB bs ≤ cntB U ∧ U.length = bs.length ∧ (∀ k, fnB bs k = true → fnB U k = true) ∧ rowB nulls vss bs row = rowB nulls vss U (row.drop j) ∧ rowN nulls row = rowN nulls (row.drop j) ∧ St w' [setO p U, has h0], fun _ n2 _ => l - n2.toNat, ⟨0, bs, rfl, by omega, by omega, Nat.le_refl _, rfl, fun _ h => h, by simp, by simp, h1⟩, ?_⟩
  clear h1
  rintro _ _ n2 w1 ⟨j, U, rfl, hj, rfl, hcU, hlU, hsub, e1, e2, h⟩
  have s1 : sub h0 (hp w1) := (h.pick 2 [1]).has
  have k1 := cntB_le U
  refine br_intro (fun hlt => ?_) fun hlt => ?_
  · have hlt : j < l := by have := of_decide_eq_true hlt; omega
    obtain ⟨y, ad, hy1, hya, hy2⟩ := hr.get1 hlt
    obtain ⟨y0, yl⟩ := hin y (List.mem_of_getElem? hy1)
    obtain ⟨q, ad2, hq1, hqa, hq2⟩ := ho.get1 (i := y.toNat) (by have := ho.1; omega)
    obtain ⟨v, hv1⟩ : ∃ v, vss[y.toNat]? = some v := ⟨vss[y.toNat]'(by omega), List.getElem?_eq_getElem _⟩
    obtain ⟨z, ad3, hz1, hza, hz2⟩ := hn.get1 (i := y.toNat) (by have := hn.1; omega)
    have hvd : vss.getD y.toNat [] = v := by simp [List.getD, hv1]
    have hzd : fnB nulls y.toNat = z := by simp [fnB, List.getD, hz1]
    have ed : row.drop j = y :: row.drop (j + 1) := by
      have := List.drop_eq_getElem_cons (l := row) (i := j) (by rw [hr.1]; exact hlt)
      rw [this]; congr 1
      have := List.getElem?_eq_some_iff.1 hy1; exact this.2
    refine idx_i hya hlt ⟨y, hy2 _ s1, _, _, _, c6 _ s1, ?_⟩
    have ey : y = ((y.toNat : Nat) : Int) := by omega
    rw [ey]
    refine idx_i hqa (by have := ho.1; omega) ⟨q, hq2 _ s1, newC_i h fun b2 w2 h2 => ?_⟩
    have hq' := hq _ _ _ hq1 hv1
    obtain ⟨v', hr', he'⟩ : ∃ v', (∀ h, starL [cel b2 [.pointer q], has h0] h → setR h q v' ∨ (q = p ∧ v' = U)) ∧ addB U (mbI v') = addB U (mbI v) := by
      rcases hq' with hr | ⟨rfl, rfl⟩
      · exact ⟨v, fun h hh => .inl (hr.mono (starL_in (A := has h0) (List.mem_cons_of_mem _ (List.mem_singleton_self _)) hh |>.elim fun h1 x => x.2.trans x.1)), rfl⟩
      · exact ⟨U, fun h hh => .inr ⟨rfl, rfl⟩, by rw [addB_self fun _ h => h, addB_self hsub]⟩
    refine (s_Union (vss := [v']) (os := [q]) (l := 1) (h2.pick 3 [1, 0, 2]) (fun h hh => ?_) rfl (fun h hh i q' w' hi hw => ?_) (fun h hh => ?_) (by omega)).mono ?_
    · obtain ⟨h1, _, _, s1, _, ⟨e, he⟩, _⟩ := hh
      exact (rdS_of_row (xs := [q]) rfl (.inr ⟨_, rfl, cel_row ⟨e, he⟩⟩)).mono s1
    · match i, hi, hw with
      | 0, hi, hw => cases hi; cases hw; exact hr' h hh
      | i + 1, hi, _ => simp at hi
    · exact rdV.mono (starL_in (A := has h0) (List.mem_cons_of_mem _ (List.mem_singleton_self _)) hh |>.elim fun h1 x => x.2.trans x.1) ht
    rintro _ w3 ⟨rfl, h3⟩
    have eU : unionB U [v'] = addB U (mbI v) := he'
    rw [eU] at h3 ⊢
    have h3 := h3.pick 3 [0, 2]
    have s3 : sub h0 (hp w3) := (h3.pick 2 [1]).has
    have k2 := cntB_add U (mbI v)
    have k3 := cntB_le (addB U (mbI v))
    rw [addB_len] at k3
    rw [ed] at e1 e2
    rw [rowB_cons, hvd, hzd] at e1
    rw [show rowN nulls (y :: row.drop (j + 1)) = (z && rowN nulls (row.drop (j + 1))) from by unfold rowN; rw [List.all_cons, hzd]] at e2
    refine ⟨_, rfl, ⟨by omega, by omega⟩, _, _, _, c5 _ s3, ?_⟩
    refine idx_i hza (by have := hn.1; omega) ⟨z, hz2 _ s3, br_intro (fun h4 => ?_) fun h4 => ?_⟩
    · have h4 : z = false := by simpa using h4
      subst h4
      simp only [Bool.false_eq_true, if_false] at e1
      refine ⟨?_, ?_⟩
      · rw [e1, e2, Bool.false_and, show (cntB U : Int) - cntB bs + ((cntB (addB U (mbI v)) : Int) - cntB U) = (cntB (addB U (mbI v)) : Int) - cntB bs from by omega]
      · rw [e1]; exact done _ _ h3
    · have h4 : z = true := by simpa using h4
      subst h4
      simp only [if_true] at e1
      rw [Bool.true_and] at e2
      refine ⟨⟨by omega, by omega⟩, ⟨j + 1, addB U (mbI v), by simp, by omega, by omega, by omega, by rw [addB_len]; exact hlU, fun k hk => by rw [fnB_add_mb, hsub k hk]; rfl, e1, e2, h3⟩, msr hlt⟩
  · have hlt : j = l := by have := of_decide_eq_false hlt; omega
    subst hlt
    rw [List.drop_of_length_le (by have := hr.1; omega)] at e1 e2
    rw [rowB_nil] at e1
    refine ⟨?_, ?_⟩
    · rw [e1, e2]; rfl
    · rw [e1]; exact done _ _ h
end
end Go.Proofs.YtcapljamcepmkaaDoor
set_option linter.unusedVariables false
namespace Go.V
inductive Nul (g : GramT) : Int → Prop
  | mk (p : ProdT) : p ∈ g.prods → (∀ s ∈ p.right, Nul g s) → Nul g p.left
inductive Fst (g : GramT) : Int → Nat → Prop
  | tm (t : Nat) : t < g.T → Fst g (t : Int) t
  | pr (p : ProdT) (i : Nat) (s : Int) (t : Nat) : p ∈ g.prods → p.right[i]? = some s → (∀ x ∈ p.right.take i, Nul g x) → Fst g s t → Fst g p.left t
def NulR (g : GramT) (row : List Int) : Prop := ∀ s ∈ row, Nul g s
def FstR (g : GramT) (row : List Int) (t : Nat) : Prop := ∃ (i : Nat) (s : Int), row[i]? = some s ∧ (∀ x ∈ row.take i, Nul g x) ∧ Fst g s t
theorem rowN_iff {nl : List Bool} {row : List Int} : rowN nl row = true ↔ ∀ s ∈ row, fnB nl s.toNat = true := by
  unfold rowN; rw [List.all_eq_true]
theorem fnB_rowB (nl : List Bool) (vs : List (List Bool)) : ∀ (row : List Int) (bs : List Bool) (k : Nat), fnB (rowB nl vs bs row) k = true ↔ fnB bs k = true ∨ (k < bs.length ∧ ∃ (i : Nat) (s : Int), row[i]? = some s ∧ (∀ x ∈ row.take i, fnB nl x.toNat = true) ∧ fnB (vs.getD s.toNat []) k = true)
  | [], bs, k => by rw [rowB_nil]; simp
  | s :: r, bs, k => by
    rw [rowB_cons]
    constructor
    · intro h
      by_cases hz : fnB nl s.toNat = true
      · rw [if_pos hz, fnB_rowB nl vs r] at h
        rw [fnB_add_mb, addB_len, Bool.or_eq_true, Bool.and_eq_true, decide_eq_true_eq] at h
        rcases h with (h | ⟨h1, h2⟩) | ⟨h1, i, y, h2, h3, h4⟩
        · exact .inl h
        · exact .inr ⟨h1, 0, s, rfl, by simp, h2⟩
        · refine .inr ⟨h1, i + 1, y, h2, ?_, h4⟩
          intro x hx
          rw [List.take_succ_cons] at hx
          rcases List.mem_cons.1 hx with rfl | hx
          · exact hz
          · exact h3 x hx
      · rw [if_neg hz, fnB_add_mb, Bool.or_eq_true, Bool.and_eq_true, decide_eq_true_eq] at h
        rcases h with h | ⟨h1, h2⟩
        · exact .inl h
        · exact .inr ⟨h1, 0, s, rfl, by simp, h2⟩
    · intro h
      have hu : (fnB bs k = true ∨ (k < bs.length ∧ fnB (vs.getD s.toNat []) k = true)) → fnB (addB bs (mbI (vs.getD s.toNat []))) k = true := fun h => by
        rw [fnB_add_mb, Bool.or_eq_true, Bool.and_eq_true, decide_eq_true_eq]; exact h
      by_cases hz : fnB nl s.toNat = true
      · rw [if_pos hz, fnB_rowB nl vs r, addB_len]
        rcases h with h | ⟨h1, i, y, h2, h3, h4⟩
        · exact .inl (hu (.inl h))
        · match i, h2, h3 with
          | 0, h2, _ => cases h2; exact .inl (hu (.inr ⟨h1, h4⟩))
          | i + 1, h2, h3 => exact .inr ⟨h1, i, y, h2, fun x hx => h3 x (by rw [List.take_succ_cons]; exact List.mem_cons_of_mem _ hx), h4⟩
      · rw [if_neg hz]
        rcases h with h | ⟨h1, i, y, h2, h3, h4⟩
        · exact hu (.inl h)
        · match i, h2, h3 with
          | 0, h2, _ => cases h2; exact hu (.inr ⟨h1, h4⟩)
          | i + 1, h2, h3 => exact absurd (h3 s (by rw [List.take_succ_cons]; exact List.mem_cons_self)) hz
def InG (g : GramT) : Prop := ∀ p ∈ g.prods, ((g.T : Int) ≤ p.left ∧ p.left < g.T + g.N) ∧ ∀ s ∈ p.right, 0 ≤ s ∧ s < (g.T : Int) + g.N
structure MkF (g : GramT) (nl : List Bool) (vs : List (List Bool)) : Prop where
  ln : nl.length = g.T + g.N
  lv : vs.length = g.T + g.N
  le : ∀ v ∈ vs, v.length = g.T
  sn : ∀ i, fnB nl i = true → Nul g (i : Int)
  sv : ∀ i t, fnB (vs.getD i []) t = true → Fst g (i : Int) t
  tm : ∀ t, t < g.T → fnB (vs.getD t []) t = true
def ClP (nl : List Bool) (vs : List (List Bool)) (p : ProdT) : Prop := (rowN nl p.right = true → fnB nl p.left.toNat = true) ∧ rowB nl vs (vs.getD p.left.toNat []) p.right = vs.getD p.left.toNat []
theorem toNat_back {s : Int} (h : 0 ≤ s) : ((s.toNat : Nat) : Int) = s := by omega
theorem MkF.row {g : GramT} {nl : List Bool} {vs : List (List Bool)} (m : MkF g nl vs) {row : List Int} (hr : ∀ s ∈ row, 0 ≤ s ∧ s < (g.T : Int) + g.N) : (rowN nl row = true → NulR g row) ∧ ∀ bs t, fnB (rowB nl vs bs row) t = true → fnB bs t = true ∨ FstR g row t := by
  refine ⟨fun h s hs => ?_, fun bs t h => ?_⟩
  · have := m.sn _ (rowN_iff.1 h s hs)
    rwa [toNat_back (hr s hs).1] at this
  · rcases (fnB_rowB nl vs row bs t).1 h with h | ⟨_, i, s, h1, h2, h3⟩
    · exact .inl h
    · refine .inr ⟨i, s, h1, fun x hx => ?_, ?_⟩
      · have := m.sn _ (h2 x hx)
        rwa [toNat_back (hr x (List.mem_of_mem_take hx)).1] at this
      · have := m.sv _ _ h3
        rwa [toNat_back (hr s (List.mem_of_getElem? h1)).1] at this
theorem Nul.left {g : GramT} (hg : InG g) {s : Int} (h : Nul g s) : (g.T : Int) ≤ s ∧ s < g.T + g.N := by
  cases h with | mk p hp _ => exact (hg p hp).1
theorem Fst.lt {g : GramT} {s : Int} {t : Nat} (h : Fst g s t) : t < g.T := by
  induction h with
  | tm t h => exact h
  | pr p i s t _ _ _ _ ih => exact ih
structure AllF (g : GramT) (nl : List Bool) (vs : List (List Bool)) : Prop where
  ln : nl.length = g.T + g.N
  lv : vs.length = g.T + g.N
  le : ∀ v ∈ vs, v.length = g.T
  nn : ∀ i, fnB nl i = true ↔ Nul g (i : Int)
  nv : ∀ i t, fnB (vs.getD i []) t = true ↔ Fst g (i : Int) t
theorem MkF.getD_len {g : GramT} {nl : List Bool} {vs : List (List Bool)} (m : MkF g nl vs) {i : Nat} (hi : i < g.T + g.N) : (vs.getD i []).length = g.T := by
  have h : vs[i]? = some (vs[i]'(by rw [m.lv]; exact hi)) := List.getElem?_eq_getElem _
  rw [List.getD, h]
  exact m.le _ (List.mem_of_getElem? h)
theorem MkF.all {g : GramT} {nl : List Bool} {vs : List (List Bool)} (hg : InG g) (m : MkF g nl vs) (hc : ∀ p ∈ g.prods, ClP nl vs p) : AllF g nl vs := by
  have cn : ∀ s, Nul g s → fnB nl s.toNat = true := fun s h => by
    induction h with
    | mk p hp _ ih => exact (hc p hp).1 (rowN_iff.2 ih)
  have cv : ∀ s t, Fst g s t → fnB (vs.getD s.toNat []) t = true := fun s t h => by
    induction h with
    | tm t h => exact m.tm t h
    | pr p i s t hp hi hx hs ih =>
      have hl := (hg p hp).1
      rw [← (hc p hp).2, fnB_rowB]
      exact .inr ⟨by rw [m.getD_len (by omega)]; exact hs.lt, i, s, hi, fun x hx' => cn x (hx x hx'), ih⟩
  exact ⟨m.ln, m.lv, m.le, fun i => ⟨m.sn i, fun h => cn _ h⟩, fun i t => ⟨m.sv i t, fun h => cv _ _ h⟩⟩
theorem AllF.row {g : GramT} {nl : List Bool} {vs : List (List Bool)} (m : AllF g nl vs) {row : List Int} (hr : ∀ s ∈ row, 0 ≤ s ∧ s < (g.T : Int) + g.N) : (rowN nl row = true ↔ NulR g row) ∧ ∀ bs t, fnB (rowB nl vs bs row) t = true ↔ fnB bs t = true ∨ (t < bs.length ∧ FstR g row t) := by
  refine ⟨?_, fun bs t => ?_⟩
  · rw [rowN_iff]
    refine forall_congr' fun s => ⟨fun h hs => ?_, fun h hs => ?_⟩
    · have := (m.nn _).1 (h hs); rwa [toNat_back (hr s hs).1] at this
    · exact (m.nn _).2 (by rw [toNat_back (hr s hs).1]; exact h hs)
  · rw [fnB_rowB]
    refine or_congr Iff.rfl (and_congr Iff.rfl (exists_congr fun i => exists_congr fun s => ?_))
    refine ⟨fun ⟨h1, h2, h3⟩ => ⟨h1, fun x hx => ?_, ?_⟩, fun ⟨h1, h2, h3⟩ => ⟨h1, fun x hx => ?_, ?_⟩⟩
    · have := (m.nn _).1 (h2 x hx); rwa [toNat_back (hr x (List.mem_of_mem_take hx)).1] at this
    · have := (m.nv _ _).1 h3; rwa [toNat_back (hr s (List.mem_of_getElem? h1)).1] at this
    · exact (m.nn _).2 (by rw [toNat_back (hr x (List.mem_of_mem_take hx)).1]; exact h2 x hx)
    · exact (m.nv _ _).2 (by rw [toNat_back (hr s (List.mem_of_getElem? h1)).1]; exact h3)
def opn (v : List Bool) : Nat := v.length - cntB v
def meas (nl : List Bool) (vs : List (List Bool)) : Nat := opn nl + (vs.map opn).sum
theorem sum_set : ∀ {l : List Nat} {k x y : Nat}, l[k]? = some x → (l.set k y).sum + x = l.sum + y
  | [], k, x, y, h => by simp at h
  | z :: l, 0, x, y, h => by simp at h; subst h; simp; omega
  | z :: l, k + 1, x, y, h => by
    have := sum_set (l := l) (k := k) (x := x) (y := y) (by simpa using h)
    simp; omega
theorem meas_set {nl : List Bool} {vs : List (List Bool)} {k : Nat} {v v' : List Bool} (h : vs[k]? = some v) (hl : v'.length = v.length) (hc : cntB v ≤ cntB v') : meas nl (vs.set k v') + (cntB v' - cntB v) = meas nl vs := by
  have h1 := sum_set (l := vs.map opn) (k := k) (x := opn v) (y := opn v') (by rw [List.getElem?_map, h]; rfl)
  have h2 := cntB_le v
  have h3 := cntB_le v'
  unfold meas
  rw [List.map_set]
  unfold opn at *
  omega
end Go.V
set_option linter.unusedVariables false
namespace Go.V
theorem exists_least {P : Nat → Prop} (h : ∃ m, P m) : ∃ m, P m ∧ ∀ k, P k → m ≤ k := by
  obtain ⟨m, hm⟩ := h
  induction m using Nat.strongRecOn with
  | _ m ih =>
    by_cases hl : ∃ k, k < m ∧ P k
    · obtain ⟨k, hk, hp⟩ := hl
      exact ih k hk hp
    · exact ⟨m, hm, fun k hk => Nat.le_of_not_lt fun hlt => hl ⟨k, hlt, hk⟩⟩
theorem least_fn {α : Type} (P : α → Nat → Prop) : ∃ μ : α → Nat, (∀ x m, P x m → μ x ≤ m) ∧ ∀ x, (∃ m, P x m) → P x (μ x) := by
  have h : ∀ x, ∃ m, (∀ k, P x k → m ≤ k) ∧ ((∃ k, P x k) → P x m) := fun x => by
    by_cases hx : ∃ k, P x k
    · obtain ⟨m, h1, h2⟩ := exists_least hx
      exact ⟨m, h2, fun _ => h1⟩
    · exact ⟨0, fun k hk => absurd ⟨k, hk⟩ hx, fun h => absurd h hx⟩
  exact ⟨fun x => (h x).choose, fun x => (h x).choose_spec.1, fun x => (h x).choose_spec.2⟩
theorem cnt_mono2 {m m' : Nat → Bool} (h : ∀ k, m k = true → m' k = true) : ∀ n, cnt n m ≤ cnt n m' ∧ (cnt n m = cnt n m' → ∀ k, k < n → m k = m' k)
  | 0 => ⟨Nat.le_refl _, fun _ k hk => by omega⟩
  | n + 1 => by
    obtain ⟨h1, h2⟩ := cnt_mono2 h n
    rw [cnt_succ, cnt_succ]
    have h3 := h n
    cases e : m n <;> cases e' : m' n
    · refine ⟨by simpa using h1, fun he k hk => ?_⟩
      by_cases ek : k = n
      · subst ek; rw [e, e']
      · exact h2 (by simpa using he) k (by omega)
    · simp only [Bool.false_eq_true, if_false, if_true]
      exact ⟨by omega, fun he => by omega⟩
    · rw [e, e'] at h3; simp at h3
    · refine ⟨by simpa using h1, fun he k hk => ?_⟩
      by_cases ek : k = n
      · subst ek; rw [e, e']
      · exact h2 (by simpa using he) k (by omega)
theorem cntB_inj {bs cs : List Bool} (hl : cs.length = bs.length) (hs : ∀ k, fnB bs k = true → fnB cs k = true) (hc : cntB cs = cntB bs) : cs = bs := by
  refine fnB_inj hl fun k => ?_
  by_cases hk : k < bs.length
  · unfold cntB at hc
    rw [hl] at hc
    exact ((cnt_mono2 hs bs.length).2 hc.symm k hk).symm
  · rw [fnB_out (by omega), fnB_out (by omega)]
theorem fnB_setT {nl : List Bool} {k : Nat} (hk : k < nl.length) (j : Nat) : fnB (nl.set k true) j = (fnB nl j || j == k) := by
  unfold fnB
  rw [List.getD_eq_getElem?_getD, List.getD_eq_getElem?_getD, List.getElem?_set]
  by_cases e : k = j
  · subst e; simp [hk]
  · have : ¬ j = k := fun h => e h.symm
    simp [e, this]
theorem opn_set {nl : List Bool} {k : Nat} (hk : k < nl.length) (hf : fnB nl k = false) : opn (nl.set k true) + 1 = opn nl := by
  have h1 : cntB (nl.set k true) = cntB nl + 1 := by
    unfold cntB
    rw [List.length_set, ← cnt_add hk hf]
    exact cnt_congr fun j _ => fnB_setT hk j
  have h2 := cntB_le (nl.set k true)
  rw [List.length_set] at h2
  unfold opn
  rw [List.length_set]
  omega
theorem getD_setV {vs : List (List Bool)} {k : Nat} (hk : k < vs.length) (v : List Bool) (j : Nat) : (vs.set k v).getD j [] = if j = k then v else vs.getD j [] := by
  rw [List.getD_eq_getElem?_getD, List.getD_eq_getElem?_getD, List.getElem?_set]
  by_cases e : k = j
  · subst e; simp [hk]
  · have : ¬ j = k := fun h => e h.symm
    simp [e, this]
theorem MkF.lay {g : GramT} (hg : InG g) {nl : List Bool} {vs : List (List Bool)} (m : MkF g nl vs) {p : ProdT} (hp : p ∈ g.prods) : MkF g nl (vs.set p.left.toNat (rowB nl vs (vs.getD p.left.toNat []) p.right)) := by
  obtain ⟨hl, hr⟩ := hg p hp
  have hk : p.left.toNat < g.T + g.N := by omega
  have hkv : p.left.toNat < vs.length := by rw [m.lv]; exact hk
  refine ⟨m.ln, by rw [List.length_set]; exact m.lv, fun v hv => ?_, m.sn, fun i t h => ?_, fun t ht => ?_⟩
  · rcases List.mem_or_eq_of_mem_set hv with hv | rfl
    · exact m.le v hv
    · rw [rowB_len]; exact m.getD_len hk
  · rw [getD_setV hkv] at h
    split at h
    · rename_i e
      subst e
      rw [toNat_back (by omega)]
      rcases (m.row hr).2 _ _ h with h | ⟨i, s, h1, h2, h3⟩
      · have := m.sv _ _ h; rwa [toNat_back (by omega)] at this
      · exact .pr p i s t hp h1 h2 h3
    · exact m.sv _ _ h
  · rw [getD_setV hkv]
    split
    · omega
    · exact m.tm t ht
theorem MkF.van {g : GramT} (hg : InG g) {nl : List Bool} {vs : List (List Bool)} (m : MkF g nl vs) {p : ProdT} (hp : p ∈ g.prods) (hn : NulR g p.right) : MkF g (nl.set p.left.toNat true) vs := by
  obtain ⟨hl, hr⟩ := hg p hp
  have hk : p.left.toNat < nl.length := by rw [m.ln]; omega
  refine ⟨by rw [List.length_set]; exact m.ln, m.lv, m.le, fun i h => ?_, m.sv, m.tm⟩
  rw [fnB_setT hk, Bool.or_eq_true, beq_iff_eq] at h
  rcases h with h | rfl
  · exact m.sn i h
  · rw [toNat_back (by omega)]; exact .mk p hp hn
theorem meas_le {g : GramT} {nl : List Bool} {vs : List (List Bool)} (m : MkF g nl vs) : meas nl vs ≤ (g.T + g.N) + (g.T + g.N) * g.T := by
  unfold meas
  have h1 : opn nl ≤ g.T + g.N := by unfold opn; rw [m.ln]; omega
  have h2 : ∀ l : List (List Bool), (∀ v ∈ l, v.length = g.T) → (l.map opn).sum ≤ l.length * g.T := fun l => by
    induction l with
    | nil => intro _; simp
    | cons v l ih =>
      intro h
      have h3 := ih fun u hu => h u (List.mem_cons_of_mem _ hu)
      have h4 : opn v ≤ g.T := by unfold opn; rw [h v List.mem_cons_self]; omega
      simp only [List.map_cons, List.sum_cons, List.length_cons, Nat.succ_mul]
      omega
  have h3 := h2 vs m.le
  rw [m.lv] at h3
  omega
theorem inG {g : GramT} (h : EitherP g) : InG g ∧ g.T ≤ 65 ∧ g.N ≤ 65 ∧ 0 < g.N ∧ 0 < g.T ∧ g.prods.length ≤ 97 := by
  have hT : g.T = g.terms.length := rfl
  have hN : g.N = g.nons.length := rfl
  rcases h with ⟨s, p, _⟩ | ⟨h0, s, p, q, hq, q1, q2, q3⟩
  · have h2 := syms_iff.1 s
    have t0 : 0 < g.terms.length := (List.getElem?_eq_some_iff.1 s.1).1
    refine ⟨fun r hr => ?_, by omega, by omega, by omega, by omega, by have := p.2.1; omega⟩
    have := p.2.2.1 r hr
    exact ⟨⟨by have := this.1.1; omega, this.1.2.1⟩, fun y hy => by have := this.2 y hy; unfold symOk at this; omega⟩
  · have h2 := syms_iff.1 s
    have t0 : 0 < g.terms.length := (List.getElem?_eq_some_iff.1 s.1).1
    refine ⟨fun r hr => ?_, by omega, by omega, by omega, by omega, by have := p.2.1; omega⟩
    have hd : r = q ∨ r ∈ g.prods.drop 1 := by
      cases hg : g.prods with
      | nil => rw [hg] at hr; cases hr
      | cons a l =>
        rw [hg] at hr hq
        cases hq
        rcases List.mem_cons.1 hr with h | h
        · exact .inl h
        · exact .inr h
    rcases hd with rfl | hd
    · refine ⟨by omega, fun y hy => ?_⟩
      rw [q2, List.mem_singleton] at hy
      subst hy
      have := p.2.2.2.2; omega
    · have := p.2.2.1 r hd
      exact ⟨⟨by have := this.1.1; omega, this.1.2.1⟩, fun y hy => by have := this.2 y hy; unfold symOk at this; omega⟩
end Go.V
set_option linter.unusedVariables false
namespace Go.V
theorem name_it {α : Sort _} (a : α) : ∃ q, q = a := ⟨a, rfl⟩
def FC (x : GA) (k14 n : Nat) (o : Option Addr) (j c : Nat) : List Value := [.slice x.ta x.tl x.tc, .slice x.na x.nl x.nc, .slice x.la x.ll x.lc, .int .i64 x.s, .slice x.pa x.pl x.pc, .slice (some ⟨k14, 0, none⟩) n n, .slice o j c]
def initV (T j : Nat) : List (List Bool) := (List.range j).map fun (i : Nat) => ofB (T : Int) [(i : Int)]
theorem initV_succ (T j : Nat) : initV T (j + 1) = initV T j ++ [ofB (T : Int) [(j : Int)]] := by simp [initV, List.range_succ]
theorem initV_len (T j : Nat) : (initV T j).length = j := by simp [initV]
theorem ofB_fn {T i : Nat} (hT : T ≤ 65) (t : Nat) : (ofB (T : Int) [(i : Int)]).length = T ∧ (fnB (ofB (T : Int) [(i : Int)]) t = true ↔ t = i ∧ t < T) := by
  have hN : ofN (T : Int) = T := by unfold ofN; split <;> split at * <;> omega
  unfold ofB
  refine ⟨by rw [addB_len, List.length_replicate, hN], ?_⟩
  rw [fnB_add, List.length_replicate, hN, addS, fnB_rep, Bool.false_or]
  simp only [Bool.and_eq_true, decide_eq_true_eq, List.contains_iff_mem, List.mem_singleton]
  omega
theorem initV_mk {g : GramT} (hT : g.T ≤ 65) : MkF g (List.replicate (g.T + g.N) false) (initV g.T (g.T + g.N)) := by
  have hget : ∀ i, fnB ((initV g.T (g.T + g.N)).getD i []) = if i < g.T + g.N then fnB (ofB (g.T : Int) [(i : Int)]) else fnB [] := fun i => by
    unfold initV
    rw [List.getD_eq_getElem?_getD, List.getElem?_map]
    by_cases h : i < g.T + g.N
    · rw [List.getElem?_range h, if_pos h]; rfl
    · rw [List.getElem?_eq_none (by simp; omega), if_neg h]; rfl
  refine ⟨by simp, initV_len _ _, fun v hv => ?_, fun i h => ?_, fun i t h => ?_, fun t ht => ?_⟩
  · obtain ⟨i, _, rfl⟩ := List.mem_map.1 hv
    exact (ofB_fn hT 0).1
  · rw [fnB_rep] at h; cases h
  · rw [hget] at h
    split at h
    · obtain ⟨rfl, h'⟩ := ((ofB_fn hT t).2).1 h
      exact .tm t h'
    · simp [fnB] at h
  · rw [hget, if_pos (by omega)]
    exact (ofB_fn hT t).2.2 ⟨rfl, ht⟩
end Go.V
namespace Go.Proofs.YtcapljamcepmkaaDoor
open Go.V
section
variable {w : World} {L : List Asn} {g : GramT} {x : GA}
set_option maxHeartbeats 4000000 in
theorem f_of (hg : gR (hp w) g x) (hb : okG g) (he : EitherP g) (ht : tabA (hp w)) : Run Tryd.prog n_first_of [.agg ⟨x.cells⟩] w fun v w' => ∃ (b k14 : Nat) (o : Option Addr) (c : Nat) (nl : List Bool) (ps : List Nat) (vs : List (List Bool)), v = .pointer (some ⟨b, 0, none⟩) ∧ AllF g nl vs ∧ ps.length = vs.length ∧
    St w' (cel b (FC x k14 (g.T + g.N) o ps.length c) :: cel k14 (bv nl) :: own 1 o ps.length c (pv (ps.map bk)) :: sta (setsA ps vs) :: all w) := by
  refine run_first_of _ _ _ _ _ _ _ _ _ _ _ _ _ w _ ?_
  refine gbox hg fun k1 w1 gw hg B => ?_
  obtain ⟨iG, bT, bN, pN, pT, bP⟩ := inG he
  have tl : g.T = x.tl := hg.t.1
  have nl : g.N = x.nl := hg.n.1
  have pl := hg.p.1
  have ht := rdV.mono gw ht
  refine ⟨_, _, _, B.c0 (sub.refl _), _, _, _, B.c1 (sub.refl _), ⟨by omega, by omega⟩, fun w2 hd => ?_⟩
  have e2 : hp w2 = hp w1 := hp_drawn hd
  have gs : sub (hp w) (hp w1) := gw
  generalize hH : hp w1 = H at *
  have eN : (x.tl : Int) + (x.nl : Int) = ((g.T + g.N : Nat) : Int) := by rw [tl, nl]; omega
  rw [eN]
  have hTe : (x.tl : Int) = (g.T : Int) := by rw [tl]
  rw [Int.toNat_natCast, reps_one]
  have h2 : St w2 [has H] := by have := St.all w2; unfold V.all at this; rwa [e2] at this
  refine ⟨fun w => sub H (hp w), e2 ▸ sub.refl _, _, _, _, _, _, _, _, _, _, _, _, _, _, fun w s => B.row s, ⟨by omega, rfl, by omega⟩, newC_i h2 fun k14 w4 h4 => ⟨rdH 1 h4.l, newC_i h4 fun k15 w5 h5 => ⟨rdH 2 h5.l, ?_⟩⟩⟩
  clear h2 h4
  have bvr : List.replicate (g.T + g.N) (Value.bool false) = bv (List.replicate (g.T + g.N) false) := by simp [bv]
  rw [bvr] at h5
  refine ⟨fun n w' => ∃ (j : Nat) (o : Option Addr) (c : Nat) (ps : List Nat), n = j ∧ j ≤ g.T + g.N ∧ ps.length = j ∧ St w' [cel k15 (FC x k14 (g.T + g.N) o j c), cel k14 (bv (List.replicate (g.T + g.N) false)), own 1 o j c (pv (ps.map bk)), sta (setsA ps (initV g.T j)), has H], fun n _ => g.T + g.N - n.toNat, ⟨0, none, 0, [], rfl, by omega, rfl, ?_⟩, ?_⟩
  · have h6 := own_nil 1 h5
    have h7 : St w5 (sta (setsA [] (initV g.T 0)) :: _) := St.flat.2 (show St w5 ([] ++ _) from h6)
    exact h7.pick 5 [2, 3, 1, 0, 4]
  clear h5
  rintro _ n2 w6 ⟨j, o, c, ps, rfl, hj, hps, h⟩
  refine br_intro (fun hlt => ?_) fun hlt => ?_
  · have hlt : j < g.T + g.N := by have := of_decide_eq_true hlt; omega
    intro w7 hd
    have h := h.drawn hd
    have I : ∀ {w : World} {cs}, rowH (hp w) ⟨k15, 0, none⟩ cs → sub H (hp w) → rowH (hp w) ⟨k15, 0, none⟩ cs ∧ sub H (hp w) := fun a b => ⟨a, b⟩
    refine ⟨fun w => rowH (hp w) ⟨k15, 0, none⟩ (FC x k14 (g.T + g.N) o j c) ∧ sub H (hp w), I (rdCel 0 h.l) (rdH 4 h.l), _, _, _, fun w h => h.1.cell (sub.refl _) (j := 6) rfl, _, _, _, fun w h => B.c0 h.2, newC_i h fun k20 w10 h => ⟨I (rdCel 1 h.l) (rdH 5 h.l), ?_⟩⟩
    refine (s_Of (xs := [(j : Int)]) (l := 1) (x.tl : Int) (rdI_of rfl (.inr ⟨_, rfl, rdCel 0 h.l⟩)) (by omega)).mono ?_
    rintro _ w11 ⟨px, rfl, h1⟩
    have h := h1.on1 h
    refine ⟨_, rfl, I (rdCel 2 h.l) (rdH 6 h.l), newC_i h fun k21 w12 h => ⟨I (rdCel 3 h.l) (rdH 7 h.l), ?_⟩⟩
    refine (app_one tyOk (rfl : kdOfT Ty _ = .slice _) (rfl : kdOfT Ty _ = .slice _) rfl rfl rfl (h.pick 8 [0, 5, 1, 2, 3, 4, 6, 7]) rfl (by simp [oneC]) (by show (_ + 1) * 8 ≤ _; omega) (by omega)).mono ?_
    rintro _ w13 ⟨o', c', rfl, h⟩
    refine ⟨_, _, _, rfl, I (rdCel 4 h.l) (rdH 7 h.l), ?_⟩
    show st1 w13 ((⟨k15, 0, none⟩ : Addr).add 6) _ _
    rw [add_lit0]
    refine st1_i (h.pick 8 [4, 0, 2, 5, 6, 7]) (by simp [FC]) fun w14 h => ⟨⟨by omega, by omega⟩, ⟨j + 1, o', c', ps ++ [px], by simp, by omega, by simp [hps], ?_⟩, msr hlt⟩
    have h : St w14 [cel k15 (FC x k14 (g.T + g.N) o' (j + 1) c'), own 1 o' (j + 1) c' (pv (ps.map bk) ++ [.pointer (some ⟨px, 0, none⟩)]), setO (some ⟨px, 0, none⟩) (ofB (x.tl : Int) [(j : Int)]), cel k14 (bv (List.replicate (g.T + g.N) false)), sta (setsA ps (initV g.T j)), has H] := h
    have e1 : pv (ps.map bk) ++ [.pointer (some ⟨px, 0, none⟩)] = pv ((ps ++ [px]).map bk) := by simp [pv, bk]
    have lSv : (setsA ps (initV g.T j) ++ [setO (some ⟨px, 0, none⟩) (ofB (x.tl : Int) [(j : Int)])]) = setsA (ps ++ [px]) (initV g.T (j + 1)) := by
      rw [initV_succ, hTe]; unfold setsA; rw [List.zipWith_append (by rw [initV_len]; exact hps)]; rfl
    rw [e1] at h
    have h := St.snoc (A := setO (some ⟨px, 0, none⟩) (ofB (x.tl : Int) [(j : Int)])) (M := setsA ps (initV g.T j)) (h.pick 6 [2, 4, 0, 1, 3, 5])
    rw [lSv] at h
    exact h.pick 5 [1, 3, 2, 0, 4]
  have hlt : j = g.T + g.N := by have := of_decide_eq_false hlt; omega
  subst hlt
  obtain ⟨Q, hQ⟩ := name_it (fun (n : Int) (w : World) (m : Nat) => ∃ (nl : List Bool) (vs : List (List Bool)), MkF g nl vs ∧ 0 ≤ n ∧ (m : Int) = meas nl vs + (if 0 < n then 1 else 0) ∧ (n = 0 → ∀ p ∈ g.prods, ClP nl vs p) ∧
    St w [cel k15 (FC x k14 (g.T + g.N) o (g.T + g.N) c), cel k14 (bv nl), own 1 o (g.T + g.N) c (pv (ps.map bk)), sta (setsA ps vs), has H])
  obtain ⟨μ, mu1, mu2⟩ := least_fn (fun (y : Int × World) m => Q y.1 y.2 m)
  refine ⟨fun n w' => ∃ m, Q n w' m, fun n w => μ (n, w), ⟨meas (List.replicate (g.T + g.N) false) (initV g.T (g.T + g.N)) + 1, ?_⟩, ?_⟩
  · rw [hQ]
    exact ⟨_, _, initV_mk bT, by decide, by simp, fun h => absurd h (by decide), h⟩
  clear h
  intro _ n3 w15 hP
  have hP := mu2 (n3, w15) hP
  dsimp only at hP
  generalize hμ : μ (n3, w15) = μ0 at *
  rw [hQ] at hP
  obtain ⟨nl0, vs0, mk0, hn3, hmu, hcl, h⟩ := hP
  refine br_intro (fun hpos => ?_) fun hpos => ?_
  rotate_left
  · have hpos := of_decide_eq_false hpos
    have hcl := hcl (by omega)
    refine ⟨k15, k14, o, c, nl0, ps, vs0, rfl, mk0.all iG hcl, by rw [hps, mk0.lv], ?_⟩
    rw [hps]
    exact St.on (N := [_, _, _, _]) h (has_i gs)
  have hpos := of_decide_eq_true hpos
  rw [if_pos hpos] at hmu
  refine ⟨_, _, _, B.c4 (rdH 4 h.l), fun n4 n5 w' => ∃ (j : Nat) (nl : List Bool) (vs : List (List Bool)), n5 = j ∧ j ≤ x.pl ∧ 0 ≤ n4 ∧ n4 + meas nl vs = meas nl0 vs0 ∧ MkF g nl vs ∧ (n4 = 0 → ∀ p ∈ g.prods.take j, ClP nl vs p) ∧ St w' [cel k15 (FC x k14 (g.T + g.N) o (g.T + g.N) c), cel k14 (bv nl), own 1 o (g.T + g.N) c (pv (ps.map bk)), sta (setsA ps vs), has H], fun _ n5 _ => x.pl - n5.toNat, ⟨0, nl0, vs0, rfl, by omega, by omega, by omega, mk0, by simp, h⟩, ?_⟩
  clear h
  rintro _ n4 n5 w16 ⟨j, nl, vs, rfl, hj, hn4, hm4, mk, hcl4, h⟩
  refine br_intro (fun hlt => ?_) fun hlt => ?_
  rotate_left
  · have hlt : j = x.pl := by have := of_decide_eq_false hlt; omega
    subst hlt
    rw [List.take_of_length_le (by omega)] at hcl4
    have key : Q n4 w16 (meas nl vs + (if 0 < n4 then 1 else 0)) := by
      rw [hQ]; exact ⟨nl, vs, mk, hn4, by split <;> simp, hcl4, h⟩
    refine ⟨⟨_, key⟩, ?_⟩
    have := mu1 (n4, w16) _ key
    dsimp only
    rw [hμ]
    split at this <;> omega
  have hlt : j < x.pl := by have := of_decide_eq_true hlt; omega
  obtain ⟨p, ad, pvs, hp1, hpa, hp2, a, l, c3, rfl, hlc, hp3⟩ := hg.p.get hlt
  have hpm := List.mem_of_getElem? hp1
  obtain ⟨hpl, hpr⟩ := iG p hpm
  have et : g.prods.take (j + 1) = g.prods.take j ++ [p] := by rw [List.take_add_one, hp1]; rfl
  refine idx_n hpa hlt ⟨_, _, _, _, _, hp2.at (rdH 4 h.l) rfl, newC_i h fun k28 w17 h => stR_i h rfl (by intro v hv; simp at hv; rcases hv with rfl | rfl | rfl <;> rfl) fun w18 h => ?_⟩
  intro w19 hd
  have h := h.drawn hd
  obtain ⟨k, hk⟩ : ∃ k : Nat, p.left = k := ⟨p.left.toNat, by omega⟩
  rw [hk] at h
  have hkt : p.left.toNat = k := by omega
  have hkN : k < g.T + g.N := by omega
  obtain ⟨px, hpx⟩ : ∃ px, ps[k]? = some px := ⟨ps[k]'(by omega), List.getElem?_eq_getElem _⟩
  obtain ⟨v, hv⟩ : ∃ v, vs[k]? = some v := ⟨vs[k]'(by rw [mk.lv]; exact hkN), List.getElem?_eq_getElem _⟩
  have hvd : vs.getD k [] = v := by rw [List.getD_eq_getElem?_getD, hv]; rfl
  have hpb : (ps.map bk)[k]? = some (bk px) := by rw [List.getElem?_map, hpx]; rfl
  have rp : rdS (hp w19) (ps.map bk) o (g.T + g.N) := rdPt 3 h.l rfl rfl (by simp [hps])
  obtain ⟨q, ad2, hq1, hqa, hq2⟩ := rp.get1 hkN
  rw [hpb] at hq1; cases hq1
  refine ⟨fun w => rowH (hp w) ⟨k15, 0, none⟩ (FC x k14 (g.T + g.N) o (g.T + g.N) c) ∧ rowH (hp w) ⟨k28, 0, none⟩ [.int .i64 (k : Int), .slice a l c3, .int .i64 p.level] ∧ rdS (hp w) (ps.map bk) o (g.T + g.N), ⟨rdCel 1 h.l, rdCel 0 h.l, rp⟩, _, _, _, fun w h => h.1.cell (sub.refl _) (j := 6) rfl, _, fun w h => h.2.1.cell0 (sub.refl _), ?_⟩
  refine idx_i hqa hkN ⟨bk px, fun w h => ?_, _, _, _, fun w h => h.2.1.cell (sub.refl _) (j := 1) rfl, ?_⟩
  · obtain ⟨q', ad', e1, e2, e3⟩ := h.2.2.get1 hkN
    rw [hpb] at e1; cases e1
    rw [hqa] at e2; cases e2
    exact e3 _ (sub.refl _)
  have gS : (setsA ps vs)[k]? = some (setO (bk px) v) := by unfold setsA; rw [List.getElem?_zipWith, hpx, hv]
  have setS : ∀ v', (setsA ps vs).set k (setO (bk px) v') = setsA ps (vs.set k v') := fun v' => zip_set (fun p v => setO (bk p) v) hpx
  have h := St.out (h.pick 6 [4, 0, 1, 2, 3, 5]) gS
  refine (f_row (nulls := nl) (os := ps.map bk) (vss := vs) (row := p.right) (gs := x.cells) h (fun h hh => rdCel 2 hh) rfl (fun h hh => rdB_of mk.ln (.inr ⟨_, rfl, rdCel 3 hh⟩)) (fun h hh => rdPt 4 hh rfl rfl (by simp [hps])) (by simp [hps, mk.lv]) (by simp [hps, mk.ln]) (fun h hh i q v' hi hv' => ?_) (fun h hh => rdV.mono (rdH 5 hh) ht) (fun h hh => hp3.mono (rdH 5 hh)) (fun s hs => ⟨(hpr s hs).1, ?_⟩) ?_).mono ?_
  · rw [List.getElem?_map] at hi
    cases hpi : ps[i]? with
    | none => rw [hpi] at hi; cases hi
    | some pi =>
      rw [hpi] at hi; cases hi
      by_cases ek : i = k
      · subst ek
        rw [hpx] at hpi; cases hpi
        rw [hv] at hv'; cases hv'
        exact .inr ⟨rfl, rfl⟩
      · exact .inl (rdSE 0 hh hpi hv' ek)
  · have := (hpr s hs).2; simp [hps]; omega
  · have := hp3.1; have := hb.2.2.2.2.2.2 p hpm; omega
  rintro _ w24 ⟨rfl, h⟩
  have mk' := mk.lay iG hpm
  rw [hkt, hvd] at mk'
  have hv'l : (rowB nl vs v p.right).length = v.length := rowB_len _ _ _ _
  have hcv := cntB_rowB nl vs p.right v
  have hms := meas_set (nl := nl) hv hv'l hcv
  have hsb := fnB_rowB_sub nl vs p.right v
  have hml := meas_le mk0
  have hmb : (g.T + g.N) + (g.T + g.N) * g.T ≤ 100000 := by
    have := Nat.mul_le_mul (show g.T + g.N ≤ 130 by omega) bT; omega
  have hstay : (rowN nl p.right = true → fnB nl k = true) → n4 + ((cntB (rowB nl vs v p.right) : Int) - cntB v) = 0 → ∀ r ∈ g.prods.take (j + 1), ClP nl (vs.set k (rowB nl vs v p.right)) r := fun hnn h0 r hr => by
    have e0 : rowB nl vs v p.right = v := cntB_inj hv'l hsb (by omega)
    have e1 : vs.set k v = vs := by
      apply List.ext_getElem?
      intro i
      rw [List.getElem?_set]
      split
      · rename_i e; subst e; rw [hv]; simp; rw [mk.lv]; exact hkN
      · rfl
    rw [e0, e1]
    rw [et] at hr
    rcases List.mem_append.1 hr with hr | hr
    · exact hcl4 (by omega) r hr
    · simp at hr; subst hr
      unfold ClP
      rw [hkt, hvd]
      exact ⟨hnn, e0⟩
  have h := St.back h gS
  rw [setS] at h
  generalize rowB nl vs v p.right = v' at *
  refine ⟨_, _, rfl, ⟨rdCel 2 h.l, rdCel 1 h.l, rdPt 4 h.l rfl rfl (by simp [hps])⟩, ⟨by omega, by omega⟩, fun w25 hd => ?_⟩
  have h := h.drawn hd
  have stay : ∀ {w'}, St w' [sta (setsA ps (vs.set k v')), cel k28 [.int .i64 (k : Int), .slice a l c3, .int .i64 p.level], cel k15 (FC x k14 (g.T + g.N) o (g.T + g.N) c), cel k14 (bv nl), own 1 o (g.T + g.N) c (pv (ps.map bk)), has H] → (rowN nl p.right = true → fnB nl k = true) → inI ((j : Int) + 1) ∧ (∃ (j' : Nat) (nl : List Bool) (vs : List (List Bool)), (j : Int) + 1 = j' ∧ j' ≤ x.pl ∧ 0 ≤ n4 + ((cntB v' : Int) - cntB v) ∧ n4 + ((cntB v' : Int) - cntB v) + meas nl vs = meas nl0 vs0 ∧ MkF g nl vs ∧ (n4 + ((cntB v' : Int) - cntB v) = 0 → ∀ p ∈ g.prods.take j', ClP nl vs p) ∧ St w' [cel k15 (FC x k14 (g.T + g.N) o (g.T + g.N) c), cel k14 (bv nl), own 1 o (g.T + g.N) c (pv (ps.map bk)), sta (setsA ps vs), has H]) ∧ x.pl - ((j : Int) + 1).toNat < x.pl - (j : Int).toNat := fun {w'} h hnn => by
    refine ⟨⟨by omega, by omega⟩, ⟨j + 1, nl, vs.set k v', by simp, by omega, by omega, by omega, mk', hstay hnn, h.pick 6 [2, 3, 4, 0, 5]⟩, msr hlt⟩
  refine ⟨fun w => sub (hp w25) (hp w), sub.refl _, br_intro (fun h1 => ?_) fun h1 => stay h fun h2 => by rw [h1] at h2; cases h2⟩
  refine ⟨_, _, _, fun w s => (rdCel (b := k15) (vs := FC x k14 (g.T + g.N) o (g.T + g.N) c) 2 h.l).cell s (j := 5) rfl, _, fun w s => (rdCel (b := k28) (vs := [.int .i64 (k : Int), .slice a l c3, .int .i64 p.level]) 1 h.l).cell0 s, ?_⟩
  have rn : rdS (hp w25) nl (some ⟨k14, 0, none⟩) (g.T + g.N) := rdB_of mk.ln (.inr ⟨_, rfl, rdCel 3 h.l⟩)
  obtain ⟨z, ad3, hz1, hza, hz2⟩ := rn.get1 hkN
  have hzd : fnB nl k = z := by unfold fnB; rw [List.getD_eq_getElem?_getD, hz1]; rfl
  cases hza
  refine idx_i rfl hkN ⟨z, fun w s => hz2 _ s, br_intro (fun h2 => ?_) fun h2 => stay h fun _ => by rw [hzd]; simpa using h2⟩
  have h2 : z = false := by simpa using h2
  subst h2
  intro w29 hd
  have h := h.drawn hd
  refine ⟨fun w => sub (hp w29) (hp w), sub.refl _, _, _, _, fun w s => (rdCel (b := k15) (vs := FC x k14 (g.T + g.N) o (g.T + g.N) c) 2 h.l).cell s (j := 5) rfl, _, fun w s => (rdCel (b := k28) (vs := [.int .i64 (k : Int), .slice a l c3, .int .i64 p.level]) 1 h.l).cell0 s, ?_⟩
  refine idx_i rfl hkN ?_
  rw [add_lit0]
  refine st1_i (h.pick 6 [3, 0, 2, 4, 5]) (by simp [bv, mk.ln]; exact hkN) fun w32 h => ?_
  have eb : (bv nl).set k (.bool true) = bv (nl.set k true) := by unfold bv; rw [List.map_set]
  rw [eb] at h
  have ho := opn_set (nl := nl) (k := k) (by rw [mk.ln]; exact hkN) hzd
  have mk2 := mk'.van iG hpm ((mk.row hpr).1 h1)
  rw [hkt] at mk2
  have hm2 : meas (nl.set k true) (vs.set k v') + 1 = meas nl (vs.set k v') := by unfold meas; omega
  exact ⟨⟨by omega, by omega⟩, ⟨by omega, by omega⟩, ⟨j + 1, nl.set k true, vs.set k v', by simp, by omega, by omega, by omega, mk2, fun h0 => by omega, h.pick 5 [2, 0, 3, 1, 4]⟩, msr hlt⟩
end
end Go.Proofs.YtcapljamcepmkaaDoor
set_option linter.unusedVariables false
namespace Go.V
def NnP (g : GramT) (nn : List Bool) : Prop := nn.length = g.N ∧ ∀ i : Nat, fnB nn i = true ↔ Nul g ((g.T + i : Nat) : Int)
def BsP (g : GramT) (row : List Int) (bs : List Bool) : Prop := bs.length = g.T ∧ ∀ t, fnB bs t = true ↔ FstR g row t
theorem fnB_dropL (l : List Bool) (k i : Nat) : fnB (l.drop k) i = fnB l (k + i) := by
  unfold fnB; rw [List.getD_eq_getElem?_getD, List.getD_eq_getElem?_getD, List.getElem?_drop]
theorem BsP.inj {g : GramT} {row : List Int} {bs cs : List Bool} (h : BsP g row bs) (k : BsP g row cs) : bs = cs :=
  fnB_inj (h.1.trans k.1.symm) fun i => by rw [Bool.eq_iff_iff, h.2, k.2]
theorem NnP.inj {g : GramT} {bs cs : List Bool} (h : NnP g bs) (k : NnP g cs) : bs = cs :=
  fnB_inj (h.1.trans k.1.symm) fun i => by rw [Bool.eq_iff_iff, h.2, k.2]
end Go.V
namespace Go.Proofs.YtcapljamcepmkaaDoor
open Go.V
section
variable {w : World} {L : List Asn} {g : GramT} {x : GA}
theorem f_either (hg : gR (hp w) g x) (hb : okG g) : Run Tryd.prog n_first_either [.agg ⟨x.cells⟩] w fun v w' => (∃ r : Bool, v = .bool r ∧ (r = true ↔ EitherP g)) ∧ Gr w w' := by
  refine run_first_either _ _ _ _ _ _ _ _ _ _ _ _ _ w _ ?_
  refine gbox hg fun k1 w1 gw hg B => ?_
  refine ⟨_, _, _, _, _, _, _, _, _, _, _, _, _, B.row (sub.refl _), (g_Valid (x := x) hg hb).mono ?_⟩
  rintro _ w2 ⟨⟨r1, rfl, e1⟩, g2⟩
  unfold EitherP
  rw [← e1]
  refine ⟨_, rfl, br_intro (fun h1 => ⟨⟨true, rfl, by simp [h1]⟩, gw.trans g2⟩) fun h1 => ⟨_, _, _, _, _, _, _, _, _, _, _, _, _, B.row g2, (g_Closed (x := x) (hg.mono g2) hb).mono ?_⟩⟩
  rintro _ w3 ⟨⟨r2, rfl, e2⟩, g3⟩
  rw [← e2]
  exact ⟨_, rfl, ⟨r2, rfl, by simp [h1]⟩, gw.trans (g2.trans g3)⟩
theorem f_Nullable (hg : gR (hp w) g x) (hb : okG g) (ht : tabA (hp w)) : Run Tryd.prog n_first_Nullable [.agg ⟨x.cells⟩] w fun v w' =>
    (¬ EitherP g ∧ v = .tuple #[.slice none 0 0, .int .i64 1] ∧ Gr w w') ∨
    (EitherP g ∧ ∃ (k : Nat) (nl nn : List Bool), nl.length = g.T ∧ NnP g nn ∧ v = .tuple #[.slice (some ⟨k, g.T, none⟩) g.N g.N, .int .i64 0] ∧ St w' (cel k (bv (nl ++ nn)) :: all w)) := by
  refine run_first_Nullable _ _ _ _ _ _ _ _ _ _ _ _ _ w _ ?_
  refine gbox hg fun k1 w1 gw hg B => ?_
  refine ⟨_, _, _, _, _, _, _, _, _, _, _, _, _, B.row (sub.refl _), (f_either (x := x) hg hb).mono ?_⟩
  rintro _ w2 ⟨⟨r, rfl, e⟩, g2⟩
  refine ⟨_, rfl, br_intro (fun h1 => .inl ⟨fun he => ?_, rfl, gw.trans g2⟩) fun h1 => fun w3 hd => ?_⟩
  · rw [e.2 he] at h1; cases h1
  have he := e.1 (by simpa using h1)
  have g3 : Gr w1 w3 := g2.trans (Gr.drawn hd)
  obtain ⟨iG, bT, bN, pN, pT, bP⟩ := inG he
  have tl : g.T = x.tl := hg.t.1
  refine ⟨fun w => Gr w3 w, Gr.refl _, _, _, _, _, _, _, _, _, _, _, _, _, _, fun w s => B.row (g3.trans s), _, _, _, fun w s => B.c0 (g3.trans s), (f_of (x := x) (hg.mono g3) hb he (rdV.mono (gw.trans g3) ht)).mono ?_⟩
  rintro _ w6 ⟨b, k14, o, c, nl, ps, vs, rfl, al, hps, h⟩
  have hs : sub (hp w3) (hp w6) := rdH 4 h.l
  have rb : rowH (hp w6) ⟨b, 0, none⟩ (FC x k14 (g.T + g.N) o ps.length c) := rdCel 0 h.l
  refine ⟨_, rfl, fun w => sub (hp w6) (hp w), sub.refl _, fun w s => sub.trans hs s, _, _, _, fun w s => rb.cell s (j := 5) rfl, slc_from (lo := x.tl) (by omega) (Nat.le_refl _) (.inr ⟨he, k14, nl.take g.T, nl.drop g.T, by rw [List.length_take, al.ln]; omega, ⟨by rw [List.length_drop, al.ln]; omega, fun i => ?_⟩, ?_, ?_⟩)⟩
  · rw [fnB_dropL]; exact al.nn _
  · rw [← tl, show g.T + g.N - g.T = g.N from by omega]
    have e : slP (some ⟨k14, 0, none⟩) g.T (g.T + g.N) 1 = some ⟨k14, g.T, none⟩ := by
      unfold slP
      rw [if_neg (by omega), Option.map_some, show mulS g.T 1 = g.T from by rw [mulS_eq, Nat.mul_one], add_lit0]
    rw [e]
  · rw [List.take_append_drop]
    exact St.on (N := [_]) (h0 := hp w3) (h.pick 5 [1, 4]) (has_i (gw.trans g3))
end
end Go.Proofs.YtcapljamcepmkaaDoor
set_option linter.unusedVariables false
namespace Go.V
def SsP (g : GramT) (bss : List (List Bool)) : Prop := bss.length = g.N ∧ ∀ (i : Nat) bs, bss[i]? = some bs → bs.length = g.T ∧ ∀ t, fnB bs t = true ↔ Fst g ((g.T + i : Nat) : Int) t
theorem SsP.inj {g : GramT} {bs cs : List (List Bool)} (h : SsP g bs) (k : SsP g cs) : bs = cs := by
  apply List.ext_getElem?
  intro i
  cases h1 : bs[i]? with
  | none =>
    have := List.getElem?_eq_none_iff.1 h1
    exact (List.getElem?_eq_none (by rw [k.1, ← h.1]; exact this)).symm
  | some b =>
    have hl := (List.getElem?_eq_some_iff.1 h1).1
    obtain ⟨c, h2⟩ : ∃ c, cs[i]? = some c := ⟨cs[i]'(by rw [k.1, ← h.1]; exact hl), List.getElem?_eq_getElem _⟩
    rw [h2]
    obtain ⟨a1, a2⟩ := h.2 i b h1
    obtain ⟨b1, b2⟩ := k.2 i c h2
    exact congrArg some (fnB_inj (a1.trans b1.symm) fun t => by rw [Bool.eq_iff_iff, a2, b2])
end Go.V
namespace Go.Proofs.YtcapljamcepmkaaDoor
open Go.V
section
variable {w : World} {L : List Asn} {g : GramT} {x : GA}
end
end Go.Proofs.YtcapljamcepmkaaDoor
set_option linter.unusedVariables false
namespace Go.V
end Go.V
namespace Go.Proofs.YtcapljamcepmkaaDoor
open Go.V
section
variable {w : World} {L : List Asn} {a a2 : Option Addr} {l l2 c c2 : Nat} {xs ys : List Int}
end
end Go.Proofs.YtcapljamcepmkaaDoor
set_option linter.unusedVariables false
namespace Go.V
theorem rowH.part {h : Hp} {b : Nat} {vs : List Value} (r : rowH h ⟨b, 0, none⟩ vs) (i n : Nat) : rowH h ((⟨b, 0, none⟩ : Addr).add (mulS i n)) ((vs.drop (i * n)).take n) := fun j v hj => by
  rw [List.getElem?_take] at hj
  split at hj
  · rw [List.getElem?_drop] at hj
    rw [add_add, mulS_eq]
    exact r _ v hj
  · cases hj
end Go.V
set_option linter.unusedVariables false
namespace Go.V
theorem rdS_lit {α : Type} [Rep α] {h : Hp} {xs : List α} {b : Nat} {vs : List Value} (r : rowH h ⟨b, 0, none⟩ vs) (hx : ∀ (i : Nat) x, xs[i]? = some x → rd h x ((vs.drop (i * Rep.n α)).take (Rep.n α))) : rdS h xs (some ⟨b, 0, none⟩) xs.length :=
  ⟨rfl, fun i x hi => ⟨_, _, rfl, r.part i _, hx i x hi⟩⟩
end Go.V
namespace Go.Proofs.YtcapljamcepmkaaDoor
open Go.V
section
variable {w : World} {L : List Asn}
end
end Go.Proofs.YtcapljamcepmkaaDoor
set_option linter.unusedVariables false
namespace Go.V
theorem nn_rd {h : Hp} {k T : Nat} {nl nn : List Bool} (r : rowH h ⟨k, 0, none⟩ (bv (nl ++ nn))) (hl : nl.length = T) (hn : 0 < nn.length) : rdS h nn (some ⟨k, T, none⟩) nn.length := by
  have h0 : rdS h (nl ++ nn) (some ⟨k, 0, none⟩) (nl.length + nn.length) := rdB_of (by simp) (.inr ⟨_, rfl, r⟩)
  have h1 := h0.drop (k := T) (m := nl.length + nn.length) (by omega) (Nat.le_refl _)
  have e : slP (some ⟨k, 0, none⟩) T (nl.length + nn.length) 1 = some ⟨k, T, none⟩ := by
    unfold slP
    rw [if_neg (by omega), Option.map_some, show mulS T 1 = T from by rw [mulS_eq, Nat.mul_one], add_lit0]
  have e2 : (nl ++ nn).drop T = nn := by rw [← hl, List.drop_left]
  rw [e2, show nl.length + nn.length - T = nn.length from by omega] at h1
  exact e ▸ h1
end Go.V
namespace Go.Proofs.YtcapljamcepmkaaDoor
open Go.V
section
variable {w : World} {L : List Asn}
end
end Go.Proofs.YtcapljamcepmkaaDoor
set_option linter.unusedVariables false
namespace Go.V
end Go.V

set_option linter.unusedVariables false
namespace Go.Proofs.YtcapljamcepmkaaDoor
open Go.V
section
variable {w : World} {L : List Asn} {g : GramT} {x : GA} {a a2 : Option Addr} {l l2 c c2 : Nat} {xs ys : List Int}
end
end Go.Proofs.YtcapljamcepmkaaDoor
set_option linter.unusedVariables false
namespace Go.V
theorem ownH_le {sz l c : Nat} {a : Option Addr} {vs : List Value} {h : Hp} (ha : own sz a l c vs h) : l ≤ c := by
  rcases ha with ⟨_, rfl, rfl, _⟩ | ⟨_, _, _, _, _, _, _, _, h⟩
  · exact Nat.le_refl _
  · exact h
end Go.V
namespace Go.Proofs.YtcapljamcepmkaaDoor
open Go.V
section
variable {w : World} {L : List Asn} {g : GramT} {x : GA}
theorem f_Nullable1 (hg : gR (hp w) g x) (hb : okG g) (ht : tabA (hp w)) : Run Tryd.prog n_first_Nullable [.agg ⟨x.cells⟩] w fun v w' => ∃ (o : Option Addr) (n c : Nat) (e : Int), v = .tuple #[.slice o n c, .int .i64 e] ∧ Gr w w' ∧ ((¬ EitherP g ∧ e = 1 ∧ n = 0) ∨ (EitherP g ∧ e = 0 ∧ n = g.N ∧ ∃ nn, NnP g nn ∧ rdS (hp w') nn o n)) := by
  refine (f_Nullable hg hb ht).mono ?_
  rintro _ w' (⟨h1, rfl, h2⟩ | ⟨h1, k, nl, nn, h2, h3, rfl, h4⟩)
  · exact ⟨_, _, _, _, rfl, h2, .inl ⟨h1, rfl, rfl⟩⟩
  · have := nn_rd h4.row h2 (by have := (inG h1).2.2.2.1; rw [h3.1]; exact this)
    rw [h3.1] at this
    exact ⟨_, _, _, _, rfl, h4.gone1, .inr ⟨h1, rfl, rfl, nn, h3, this⟩⟩
end
end Go.Proofs.YtcapljamcepmkaaDoor
set_option linter.unusedVariables false
namespace Go.V
def Hop (g : GramT) (s y : Int) : Prop := ∃ p ∈ g.prods, p.left = s ∧ ∃ n : Nat, p.right[n]? = some y ∧ ∀ x ∈ p.right.take n, Nul g x
theorem Fst.hop {g : GramT} {s0 : Int} {ms : List Bool} (h0 : (g.T : Int) ≤ s0) (iG : InG g) (hc : ∀ s y, (s = s0 ∨ (0 ≤ s ∧ fnB ms s.toNat = true)) → Hop g s y → fnB ms y.toNat = true) {s : Int} {t : Nat} (h : Fst g s t) : (s = s0 ∨ (0 ≤ s ∧ fnB ms s.toNat = true)) → fnB ms t = true := by
  induction h with
  | tm t ht =>
    rintro (h | ⟨_, h⟩)
    · omega
    · simpa using h
  | pr p i s' t hp h1 h2 h3 ih =>
    intro hR
    exact ih (.inr ⟨((iG p hp).2 s' (List.mem_of_getElem? h1)).1, hc _ _ hR ⟨p, hp, rfl, i, h1, h2⟩⟩)
structure Srch (g : GramT) (s0 : Int) (ms : List Bool) (xs : List Int) (D : Int → Prop) : Prop where
  ln : ms.length = g.T + g.N
  rg : ∀ y ∈ xs, 0 ≤ y ∧ y < (g.T : Int) + g.N
  cl : ∀ s, (s = s0 ∨ (0 ≤ s ∧ fnB ms s.toNat = true)) → s ∈ xs ∨ D s ∨ ∀ y, Hop g s y → fnB ms y.toNat = true
theorem Srch.push {g : GramT} {s0 : Int} {ms : List Bool} {xs : List Int} {D : Int → Prop} {y : Int} (h : Srch g s0 ms xs D) (hy : 0 ≤ y ∧ y < (g.T : Int) + g.N) : Srch g s0 (ms.set y.toNat true) (xs ++ [y]) D := by
  have hk : y.toNat < ms.length := by rw [h.ln]; omega
  refine ⟨by rw [List.length_set]; exact h.ln, fun z hz => ?_, fun s hs => ?_⟩
  · rcases List.mem_append.1 hz with hz | hz
    · exact h.rg z hz
    · simp at hz; subst hz; exact hy
  · have mono : ∀ k, fnB ms k = true → fnB (ms.set y.toNat true) k = true := fun k hk' => by rw [fnB_setT hk, hk']; rfl
    by_cases e : s = y
    · exact .inl (by simp [e])
    · have : s = s0 ∨ (0 ≤ s ∧ fnB ms s.toNat = true) := by
        rcases hs with hs | ⟨h1, h2⟩
        · exact .inl hs
        · rw [fnB_setT hk, Bool.or_eq_true, beq_iff_eq] at h2
          rcases h2 with h2 | h2
          · exact .inr ⟨h1, h2⟩
          · omega
      rcases h.cl s this with h | h | h
      · exact .inl (List.mem_append.2 (.inl h))
      · exact .inr (.inl h)
      · exact .inr (.inr fun z hz => mono _ (h z hz))
theorem Srch.done {g : GramT} {s0 : Int} {ms : List Bool} {xs : List Int} {s1 : Int} (h : Srch g s0 ms xs (· = s1)) (hd : ∀ y, Hop g s1 y → fnB ms y.toNat = true) : Srch g s0 ms xs fun _ => False :=
  ⟨h.ln, h.rg, fun s hs => by
    rcases h.cl s hs with h | rfl | h
    · exact .inl h
    · exact .inr (.inr hd)
    · exact .inr (.inr h)⟩
end Go.V
namespace Go.Proofs.YtcapljamcepmkaaDoor
open Go.V
section
variable {w : World} {L : List Asn} {g : GramT} {x : GA}
end
end Go.Proofs.YtcapljamcepmkaaDoor
set_option linter.unusedVariables false
namespace Go.V
theorem name_it0 {α : Sort _} (a : α) : ∃ q, q = a := ⟨a, rfl⟩
theorem rowH_app {h : Hp} {a : Addr} {us vs : List Value} (h1 : rowH h a us) (h2 : rowH h (a.add us.length) vs) : rowH h a (us ++ vs) := fun j v hj => by
  by_cases hl : j < us.length
  · rw [List.getElem?_append_left hl] at hj; exact h1 j v hj
  · rw [List.getElem?_append_right (by omega)] at hj
    have := h2 _ v hj
    rw [add_add, show us.length + (j - us.length) = j from by omega] at this
    exact this
theorem rowH_flat {α : Type} {h : Hp} {n : Nat} {f : α → List Value} (hf : ∀ x, (f x).length = n) : ∀ (ts : List α) (ad : Addr), (∀ (i : Nat) x, ts[i]? = some x → rowH h (ad.add (mulS i n)) (f x)) → rowH h ad (ts.flatMap f)
  | [], ad, _ => fun j v hj => by simp at hj
  | t :: ts, ad, hh => by
    rw [List.flatMap_cons]
    refine rowH_app ?_ ?_
    · have := hh 0 t rfl
      rwa [mulS_eq, Nat.zero_mul, show ad.add 0 = ad from by simp [Addr.add]] at this
    · rw [hf]
      refine rowH_flat hf ts _ fun i x hx => ?_
      have := hh (i + 1) x hx
      rw [add_add, mulS_eq]
      rwa [mulS_eq, Nat.succ_mul, Nat.add_comm] at this
theorem rowH_unflat {α : Type} {h : Hp} {n : Nat} {f : α → List Value} (hf : ∀ x, (f x).length = n) : ∀ (ts : List α) (ad : Addr), rowH h ad (ts.flatMap f) → ∀ (i : Nat) x, ts[i]? = some x → rowH h (ad.add (mulS i n)) (f x)
  | [], ad, _, i, x, hx => by simp at hx
  | t :: ts, ad, hh, i, x, hx => by
    rw [List.flatMap_cons] at hh
    match i, hx with
    | 0, hx =>
      cases hx
      rw [mulS_eq, Nat.zero_mul, show ad.add 0 = ad from by simp [Addr.add]]
      exact hh.take
    | i + 1, hx =>
      have := rowH_unflat hf ts _ hh.drop i x hx
      rw [hf, add_add, mulS_eq] at this
      rwa [mulS_eq, Nat.succ_mul, Nat.add_comm]
def termV (t : TermT) : List Value := [.string t.name, .int .i64 t.level]
def termsV (ts : List TermT) : List Value := ts.flatMap termV
def prodV (p : (Option Addr × Nat) × ProdT) : List Value := [.int .i64 p.2.left, .slice p.1.1 p.2.right.length p.1.2, .int .i64 p.2.level]
def prodsV (os : List (Option Addr × Nat)) (ps : List ProdT) : List Value := (os.zip ps).flatMap prodV
def rightsA (os : List (Option Addr × Nat)) (ps : List ProdT) : List Asn := List.zipWith (fun o p => own 1 o.1 p.right.length o.2 (iv p.right)) os ps
theorem termsV_len (ts : List TermT) : (termsV ts).length = ts.length * 2 := by
  induction ts with
  | nil => rfl
  | cons t ts ih => simp only [termsV, List.flatMap_cons, List.length_append, List.length_cons, termV, List.length_nil] at ih ⊢; omega
theorem rdT_row {h : Hp} {ts : List TermT} {ad : Addr} {l : Nat} (r : rdS h ts (some ad) l) : rowH h ad (termsV ts) :=
  rowH_flat (f := termV) (n := 2) (fun _ => rfl) ts ad fun i x hx => by
    obtain ⟨ad', vs, e, h1, h2⟩ := r.2 i x hx
    cases e
    have h2 : vs = termV x := h2
    rw [← h2]; exact h1
theorem rdT_own {h : Hp} {ts : List TermT} {a : Option Addr} {l c : Nat} (hl : ts.length = l) (r : own 2 a l c (termsV ts) h) : rdS h ts a l := by
  refine ⟨hl, fun i x hx => ?_⟩
  rcases own_rdVh r with e | ⟨ad, rfl, hc⟩
  · have := termsV_len ts
    rw [e] at this
    have h0 := (List.getElem?_eq_some_iff.1 hx).1
    simp at this; omega
  · exact ⟨ad, termV x, rfl, rowH_unflat (f := termV) (n := 2) (fun _ => rfl) ts ad hc i x hx, rfl⟩
theorem prodsV_row {os : List (Option Addr × Nat)} {ps : List ProdT} {h : Hp} {ad : Addr} (hr : rowH h ad (prodsV os ps)) {i : Nat} {o : Option Addr × Nat} {p : ProdT} (ho : os[i]? = some o) (hp : ps[i]? = some p) : rowH h (ad.add (mulS i 3)) [.int .i64 p.left, .slice o.1 p.right.length o.2, .int .i64 p.level] :=
  rowH_unflat (f := prodV) (n := 3) (fun _ => rfl) (os.zip ps) ad hr i (o, p) (by rw [List.getElem?_zip_eq_some]; exact ⟨ho, hp⟩)
theorem prodsV_len {os : List (Option Addr × Nat)} {ps : List ProdT} (h : os.length = ps.length) : (prodsV os ps).length = ps.length * 3 := by
  have : ∀ zs : List ((Option Addr × Nat) × ProdT), (zs.flatMap prodV).length = zs.length * 3 := fun zs => by
    induction zs with
    | nil => rfl
    | cons t ts ih => simp only [List.flatMap_cons, List.length_append, List.length_cons, prodV, List.length_nil] at ih ⊢; omega
  unfold prodsV; rw [this, List.length_zip, h, Nat.min_self]
theorem prodsV_snoc {os : List (Option Addr × Nat)} {ps : List ProdT} (h : os.length = ps.length) (o : Option Addr × Nat) (p : ProdT) : prodsV (os ++ [o]) (ps ++ [p]) = prodsV os ps ++ prodV (o, p) := by
  unfold prodsV; rw [List.zip_append h]; simp
theorem rightsA_snoc {os : List (Option Addr × Nat)} {ps : List ProdT} (h : os.length = ps.length) (o : Option Addr × Nat) (p : ProdT) : rightsA (os ++ [o]) (ps ++ [p]) = rightsA os ps ++ [own 1 o.1 p.right.length o.2 (iv p.right)] := by
  unfold rightsA; rw [List.zipWith_append h]; rfl
def ownG (g : GramT) (x : GA) (os : List (Option Addr × Nat)) : List Asn := [own 3 x.pa g.prods.length x.pc (prodsV os g.prods), sta (rightsA os g.prods), own 2 x.ta g.terms.length x.tc (termsV g.terms), own 1 x.na g.nons.length x.nc (g.nons.map fun s => Value.string s), own 1 x.la g.levels.length x.lc (iv g.levels)]
structure ownX (g : GramT) (x : GA) : Prop where
  t : x.tl = g.terms.length
  n : x.nl = g.nons.length
  l : x.ll = g.levels.length
  s : x.s = g.start
  p : x.pl = g.prods.length
theorem rdRight {L : List Asn} {h : Hp} {os : List (Option Addr × Nat)} {ps : List ProdT} {k : Nat} {o : Option Addr × Nat} {p : ProdT} (i : Nat) (hl : starL L h) (ho : os[k]? = some o) (hp : ps[k]? = some p) (e : nthA L i = sta (rightsA os ps) := by rfl) (hi : Nat.blt i (lenA L) = true := by rfl) : rdS h p.right o.1 p.right.length ∧ p.right.length ≤ o.2 := by
  obtain ⟨h1, s, ha⟩ := starL_nth i (by simpa [lenA_eq] using hi) hl
  rw [e] at ha
  obtain ⟨h2, s2, hb⟩ := starL_in (A := own 1 o.1 p.right.length o.2 (iv p.right)) (List.mem_of_getElem? (i := k) (by unfold rightsA; rw [List.getElem?_zipWith, ho, hp])) ha
  refine ⟨(rdI_of rfl (own_rdVh hb)).mono (s2.trans s), ?_⟩
  rcases hb with ⟨_, h, h', _⟩ | ⟨_, _, _, _, _, _, _, _, h⟩ <;> omega
theorem rdA {L : List Asn} {h : Hp} {A : Asn} (i : Nat) (hl : starL L h) (e : nthA L i = A := by rfl) (hi : Nat.blt i (lenA L) = true := by rfl) : ∃ h1, sub h1 h ∧ A h1 := by
  obtain ⟨h1, s, ha⟩ := starL_nth i (by simpa [lenA_eq] using hi) hl
  exact ⟨h1, s, e ▸ ha⟩
theorem ownH_le' {sz l c : Nat} {a : Option Addr} {vs : List Value} {h : Hp} (ha : own sz a l c vs h) : l ≤ c := by
  rcases ha with ⟨_, rfl, rfl, _⟩ | ⟨_, _, _, _, _, _, _, _, h⟩
  · exact Nat.le_refl _
  · exact h
theorem ownG_gR {g : GramT} {x : GA} {os : List (Option Addr × Nat)} {L : List Asn} {h : Hp} (hx : ownX g x) (ho : os.length = g.prods.length) (hs : starL (ownG g x os ++ L) h) : gR h g x := by
  obtain ⟨h1, s1, a1⟩ := rdA (A := own 3 x.pa g.prods.length x.pc (prodsV os g.prods)) 0 hs
  obtain ⟨h2, s2, a2⟩ := rdA (A := own 2 x.ta g.terms.length x.tc (termsV g.terms)) 2 hs
  obtain ⟨h3, s3, a3⟩ := rdA (A := own 1 x.na g.nons.length x.nc (g.nons.map fun s => Value.string s)) 3 hs
  obtain ⟨h4, s4, a4⟩ := rdA (A := own 1 x.la g.levels.length x.lc (iv g.levels)) 4 hs
  obtain ⟨q1, q2, q3, q4, q5⟩ := hx
  refine ⟨?_, ?_, ?_, q4, ?_, ?_, ?_, ?_, ?_⟩
  · rw [q1]; exact (rdT_own rfl a2).mono s2
  · rw [q2]; exact (rdS_of_row rfl (own_rdVh a3)).mono s3
  · rw [q3]; exact (rdI_of rfl (own_rdVh a4)).mono s4
  · rw [q5]
    refine ⟨rfl, fun i p hp => ?_⟩
    have hi := (List.getElem?_eq_some_iff.1 hp).1
    obtain ⟨o, hoi⟩ : ∃ o, os[i]? = some o := ⟨os[i]'(by omega), List.getElem?_eq_getElem _⟩
    rcases own_rdVh a1 with e | ⟨ad, e, hc⟩
    · have := prodsV_len ho
      rw [e] at this; simp at this; omega
    · obtain ⟨r1, r2⟩ := rdRight (k := i) (o := o) (p := p) 1 hs hoi hp
      exact ⟨ad, _, e, (prodsV_row hc hoi hp).mono s1, o.1, _, o.2, rfl, r2, r1⟩
  · rw [q1]; exact ownH_le' a2
  · rw [q2]; exact ownH_le' a3
  · rw [q3]; exact ownH_le' a4
  · rw [q5]; exact ownH_le' a1
end Go.V
namespace Go.Proofs.YtcapljamcepmkaaDoor
open Go.V
section
variable {w : World} {L : List Asn} {g : GramT} {x : GA}
set_option maxHeartbeats 4000000 in
theorem d_Copy (hg : gR (hp w) g x) (hb : okG g) (hbT : g.terms.length * 24 ≤ 140737488355328) (hbN : g.nons.length * 16 ≤ 140737488355328) : Run Tryd.prog n_presageref02_Copy [.agg ⟨x.cells⟩] w fun v w' => ∃ (x' : GA) (os : List (Option Addr × Nat)), v = .agg ⟨x'.cells⟩ ∧ ownX g x' ∧ os.length = g.prods.length ∧ St w' (ownG g x' os ++ all w) := by
  refine run_presageref02_Copy _ _ _ _ _ _ _ _ _ _ _ _ _ w _ ?_
  refine gbox hg fun k1 w1 gw hg B => ?_
  have tl := hg.t.1
  have nl := hg.n.1
  have ll := hg.l.1
  have pl := hg.p.1
  have hst := hg.s
  obtain ⟨b1, b2, b3, b4, b5, b6, b7⟩ := hb
  have gs : sub (hp w) (hp w1) := gw
  have h1 := St.all w1
  unfold V.all at h1
  generalize hH : hp w1 = H at *
  refine newC_i h1 fun k2 w2 h => ⟨_, B.c3 (rdH 1 h.l), newC_i h fun k3 w3 h => stR_i h rfl (by intro v hv; simp at hv; rcases hv with rfl | rfl | rfl | rfl | rfl <;> rfl) fun w4 h => ?_⟩
  refine ⟨_, _, _, h.cell 0, _, _, _, B.c0 (rdH 2 h.l), ?_⟩
  refine (app_own' tyOk (rfl : kdOfT Ty _ = .slice _) rfl rfl rfl (own_nil 2 h) (src_slice (news := termsV g.terms) tyOk (rfl : kdOfT Ty _ = .slice _) (n := x.tl) (by rw [termsV_len, tl]) ?_ (by
      intro u hu
      obtain ⟨t, _, ht⟩ := List.mem_flatMap.1 hu
      simp [termV] at ht; rcases ht with rfl | rfl <;> rfl)) (by show (0 + x.tl) * 24 ≤ _; omega) (by omega)).mono ?_
  · by_cases h0 : x.tl = 0
    · exact .inl h0
    · obtain ⟨t, ad, vs, _, ha, _⟩ := hg.t.get (i := 0) (by omega)
      have ht := hg.t
      rw [ha] at ht
      exact .inr ⟨ad, ha, fun j u hj => (rdT_row ht).cell (rdH 2 h.l) hj⟩
  rintro _ w5 ⟨ta, tc, rfl, h⟩
  rw [Nat.zero_add, ← tl] at h ⊢
  rw [List.nil_append] at h
  refine ⟨_, _, _, rfl, st1_i (h.pick 4 [1, 0, 2, 3]) (by simp) fun w6 h => ?_⟩
  refine ⟨_, _, _, h.cell 1, _, _, _, B.c1 (rdH 3 h.l), ?_⟩
  refine (app_own' tyOk (rfl : kdOfT Ty _ = .slice _) rfl rfl rfl (own_nil 1 h) (src_slice (news := g.nons.map fun s => Value.string s) tyOk (rfl : kdOfT Ty _ = .slice _) (n := x.nl) (by rw [List.length_map, nl, Nat.mul_one]) ?_ (by
      intro u hu
      obtain ⟨t, _, rfl⟩ := List.mem_map.1 hu
      rfl)) (by show (0 + x.nl) * 16 ≤ _; omega) (by omega)).mono ?_
  · rcases (hg.n.mono (rdH 3 h.l)).row with h0 | ⟨ad, ha, hc⟩
    · exact .inl (by have := congrArg List.length h0; rw [List.length_map, nl] at this; exact this)
    · exact .inr ⟨ad, ha, fun j u hj => cellH_w (hc j u hj)⟩
  rintro _ w7 ⟨na, nc, rfl, h⟩
  rw [Nat.zero_add, ← nl] at h ⊢
  rw [List.nil_append] at h
  refine ⟨_, _, _, rfl, ?_⟩
  rw [add_lit0]
  refine st1_i (h.pick 5 [1, 0, 2, 3, 4]) (by simp) fun w8 h => ?_
  refine ⟨_, _, _, h.cell 2, _, _, _, B.c2 (rdH 4 h.l), ?_⟩
  refine (app_own' tyOk (rfl : kdOfT Ty _ = .slice _) rfl rfl rfl (own_nil 1 h) (src_slice (news := iv g.levels) tyOk (rfl : kdOfT Ty _ = .slice _) (n := x.ll) (by rw [iv_len, ll, Nat.mul_one]) ?_ (by
      intro u hu
      obtain ⟨t, _, rfl⟩ := List.mem_map.1 hu
      rfl)) (by show (0 + x.ll) * 8 ≤ _; omega) (by omega)).mono ?_
  · rcases (hg.l.mono (rdH 4 h.l)).iv with h0 | ⟨ad, ha, hc⟩
    · exact .inl (by have := congrArg List.length h0; rw [iv_len, ll] at this; exact this)
    · exact .inr ⟨ad, ha, fun j u hj => cellH_w (hc j u hj)⟩
  rintro _ w9 ⟨la, lc, rfl, h⟩
  rw [Nat.zero_add, ← ll] at h ⊢
  rw [List.nil_append] at h
  refine ⟨_, _, _, rfl, ?_⟩
  rw [add_lit0]
  refine st1_i (h.pick 6 [1, 0, 2, 3, 4, 5]) (by simp) fun w10 h => ?_
  obtain ⟨K, hK⟩ := name_it0 (fun (pa : Option Addr) (j pc : Nat) => [Value.slice ta g.terms.length tc, .slice na g.nons.length nc, .slice la g.levels.length lc, .int .i64 x.s, .slice pa j pc])
  refine ⟨fun n w' => ∃ (j : Nat) (pa : Option Addr) (pc : Nat) (os : List (Option Addr × Nat)), n = j ∧ j ≤ g.prods.length ∧ os.length = j ∧ St w' [cel k3 (K pa j pc), own 3 pa j pc (prodsV os (g.prods.take j)), sta (rightsA os (g.prods.take j)), own 1 la g.levels.length lc (iv g.levels), own 1 na g.nons.length nc (g.nons.map fun s => Value.string s), own 2 ta g.terms.length tc (termsV g.terms), cel k2 [.slice none 0 0, .slice none 0 0, .slice none 0 0, .int .i64 0, .slice none 0 0], has H], fun n _ => g.prods.length - n.toNat, ⟨0, none, 0, [], rfl, by omega, rfl, ?_⟩, ?_⟩
  · have h : St w10 (sta (rightsA [] (g.prods.take 0)) :: _) := St.flat.2 (show St w10 ([] ++ _) from own_nil 3 h)
    rw [hK]
    exact h.pick 8 [2, 1, 0, 3, 4, 5, 6, 7]
  clear h
  rintro _ n w11 ⟨j, pa, pc, os, rfl, hj, hos, h⟩
  have hrl : (g.prods.take j).length = j := by rw [List.length_take]; omega
  refine ⟨_, _, _, B.c4 (rdH 7 h.l), br_intro (fun h2 => ?_) fun h2 => ?_⟩
  · have h2 : j < g.prods.length := by have := of_decide_eq_true h2; omega
    obtain ⟨p, ad, vs, hp1, hpa, hp2, ra, rl, rc, rfl, hrc, hp3⟩ := hg.p.get (i := j) (by omega)
    have hpm := List.mem_of_getElem? hp1
    have b7' := b7 p hpm
    have rl1 := hp3.1
    have et : g.prods.take (j + 1) = g.prods.take j ++ [p] := by rw [List.take_add_one, hp1]; rfl
    intro w12 hd
    have h := h.drawn hd
    refine ⟨fun w => sub H (hp w), rdH 7 h.l, _, _, _, fun w s => B.c4 s, idx_n hpa (by omega) ⟨_, fun w s => hp2.cell0 s, _, _, _, fun w s => B.c4 s, idx_n hpa (by omega) ⟨_, fun w s => hp2.cell s (j := 2) rfl, newC_i h fun k28 w17 h => ⟨rdH 8 h.l, stR_i h rfl (by intro v hv; simp at hv; rcases hv with rfl | rfl | rfl <;> rfl) fun w18 h => ?_⟩⟩⟩⟩
    intro w19 hd
    have h := h.drawn hd
    refine ⟨fun w => rowH (hp w) ⟨k28, 0, none⟩ [.int .i64 p.left, .slice none 0 0, .int .i64 p.level] ∧ sub H (hp w), ⟨rdCel 0 h.l, rdH 8 h.l⟩, _, _, _, fun w s => s.1.cell (sub.refl _) (j := 1) rfl, _, _, _, fun w s => B.c4 s.2, idx_n hpa (by omega) ⟨_, _, _, fun w s => hp2.cell s.2 (j := 1) rfl, ?_⟩⟩
    refine (app_own' tyOk (rfl : kdOfT Ty _ = .slice _) rfl rfl rfl (own_nil 1 h) (src_slice (news := iv p.right) tyOk (rfl : kdOfT Ty _ = .slice _) (n := rl) (by rw [iv_len, rl1, Nat.mul_one]) ?_ (by
      intro u hu
      obtain ⟨t, _, rfl⟩ := List.mem_map.1 hu
      rfl)) (by show (0 + rl) * 8 ≤ _; omega) (by omega)).mono ?_
    · rcases (hp3.mono (rdH 8 h.l)).iv with h0 | ⟨ad, ha, hc⟩
      · exact .inl (by have := congrArg List.length h0; rw [iv_len, rl1] at this; exact this)
      · exact .inr ⟨ad, ha, fun j u hj => cellH_w (hc j u hj)⟩
    rintro _ w23 ⟨qa, qc, rfl, h⟩
    rw [Nat.zero_add, ← rl1] at h ⊢
    rw [List.nil_append] at h
    refine ⟨_, _, _, rfl, ⟨rdCel 1 h.l, rdH 9 h.l⟩, ?_⟩
    rw [add_lit0]
    refine st1_i (h.pick 10 [1, 0, 2, 3, 4, 5, 6, 7, 8, 9]) (by simp) fun w24 h => ?_
    have ck : w24.cell? ((⟨k3, 0, none⟩ : Addr).add 4) = some (.slice pa j pc) := by
      have r : rowH (hp w24) ⟨k3, 0, none⟩ (K pa j pc) := rdCel 2 h.l
      rw [hK] at r
      exact r.cell (sub.refl _) (j := 4) rfl
    refine ⟨_, _, _, ck, _, _, _, _, _, h.row.at (sub.refl _) rfl, newC_i h fun k41 w25 h => ?_⟩
    have h : St w25 [cel k41 (prodV ((qa, qc), p)), cel k28 _, own 1 qa p.right.length qc (iv p.right), cel k3 (K pa j pc), own 3 pa j pc (prodsV os (g.prods.take j)), sta (rightsA os (g.prods.take j)), own 1 la g.levels.length lc (iv g.levels), own 1 na g.nons.length nc (g.nons.map fun s => Value.string s), own 2 ta g.terms.length tc (termsV g.terms), cel k2 [.slice none 0 0, .slice none 0 0, .slice none 0 0, .int .i64 0, .slice none 0 0], has H] := h
    refine (app_one tyOk (rfl : kdOfT Ty _ = .slice _) (rfl : kdOfT Ty _ = .slice _) rfl rfl rfl (h.pick 11 [0, 4, 2, 3, 5, 6, 7, 8, 9, 10]) rfl (by simp [oneC, prodV]) (by show (_ + 1) * 40 ≤ _; omega) (by omega)).mono ?_
    rintro _ w26 ⟨pa', pc', rfl, h⟩
    refine ⟨_, _, _, rfl, ?_⟩
    rw [add_lit0]
    refine st1_i (h.pick 10 [3, 0, 2, 4, 5, 6, 7, 8, 9]) (by rw [hK]; simp) fun w27 h => ?_
    have eK : (K pa j pc).set 4 (.slice pa' (j + 1) pc') = K pa' (j + 1) pc' := by rw [hK]; rfl
    rw [eK] at h
    have h := St.snoc (A := own 1 qa p.right.length qc (iv p.right)) (M := rightsA os (g.prods.take j)) (h.pick 9 [2, 3, 0, 1, 4, 5, 6, 7, 8])
    have e1 := rightsA_snoc (hos.trans hrl.symm) (qa, qc) p
    have e2 := prodsV_snoc (hos.trans hrl.symm) (qa, qc) p
    dsimp only at e1
    rw [← e1, ← et] at h
    refine ⟨⟨by omega, by omega⟩, ⟨j + 1, pa', pc', os ++ [(qa, qc)], by simp, by omega, by simp [hos], ?_⟩, msr h2⟩
    rw [et] at h ⊢
    rw [e2]
    exact h.pick 8 [1, 2, 0, 3, 4, 5, 6, 7]
  · have h2 : j = g.prods.length := by have := of_decide_eq_false h2; omega
    subst h2
    rw [List.take_length] at h
    have r : rowH (hp w11) ⟨k3, 0, none⟩ (K pa g.prods.length pc) := rdCel 0 h.l
    rw [hK] at r
    refine ⟨_, _, _, _, _, _, _, _, _, _, _, _, _, r.at (sub.refl _) rfl, stR_i (h.pick 8 [6, 1, 2, 3, 4, 5, 7]) rfl (by intro v hv; simp at hv; rcases hv with rfl | rfl | rfl | rfl | rfl <;> rfl) fun w28 h => ?_⟩
    refine ⟨_, _, _, _, _, _, _, _, _, _, _, _, _, h.row.at (sub.refl _) rfl, ⟨ta, g.terms.length, tc, na, g.nons.length, nc, la, g.levels.length, lc, x.s, pa, g.prods.length, pc⟩, os, rfl, ⟨rfl, rfl, rfl, hst, rfl⟩, hos, ?_⟩
    exact St.on (N := [_, _, _, _, _]) (h.pick 7 [1, 2, 5, 4, 3, 6]) (has_i gs)
end
end Go.Proofs.YtcapljamcepmkaaDoor
set_option linter.unusedVariables false
namespace Go.V
theorem rdP_of {os : List (Option Addr × Nat)} {ps : List ProdT} {a : Option Addr} {n c : Nat} {h : Hp} (hn : ps.length = n) (ho : os.length = ps.length) (ha : ∃ h1, sub h1 h ∧ own 3 a n c (prodsV os ps) h1) (hr : ∀ (i : Nat) o p, os[i]? = some o → ps[i]? = some p → rdS h p.right o.1 p.right.length ∧ p.right.length ≤ o.2) : rdS h ps a n := by
  refine ⟨hn, fun i p hp => ?_⟩
  have hi := (List.getElem?_eq_some_iff.1 hp).1
  obtain ⟨o, hoi⟩ : ∃ o, os[i]? = some o := ⟨os[i]'(by omega), List.getElem?_eq_getElem _⟩
  obtain ⟨h1, s1, a1⟩ := ha
  rcases own_rdVh a1 with e | ⟨ad, e, hc⟩
  · have := prodsV_len ho
    rw [e] at this; simp at this; omega
  · obtain ⟨r1, r2⟩ := hr i o p hoi hp
    exact ⟨ad, _, e, (prodsV_row hc hoi hp).mono s1, o.1, _, o.2, rfl, r2, r1⟩
def GramT.more (g : GramT) (q : ProdT) : GramT := { g with prods := g.prods ++ [q] }
theorem Nul.more {g : GramT} {q : ProdT} {s : Int} (h : Nul g s) : Nul (g.more q) s := by
  induction h with
  | mk p hp _ ih => exact .mk p (List.mem_append.2 (.inl hp)) ih
theorem Fst.more {g : GramT} {q : ProdT} {s : Int} {t : Nat} (h : Fst g s t) : Fst (g.more q) s t := by
  induction h with
  | tm t ht => exact .tm t ht
  | pr p i s t hp h1 h2 _ ih => exact .pr p i s t (List.mem_append.2 (.inl hp)) h1 (fun x hx => (h2 x hx).more) ih
end Go.V
namespace Go.Proofs.YtcapljamcepmkaaDoor
open Go.V
section
variable {w : World} {L : List Asn} {g : GramT} {x : GA}
end
end Go.Proofs.YtcapljamcepmkaaDoor
set_option linter.unusedVariables false
namespace Go.Proofs.YtcapljamcepmkaaDoor
open Go.V
abbrev n_cycle_Steps : FuncId := 10
def ann_cycle_Steps : Ann := { rngs := [], loops := [(6, [(6, (.one .slice)), (22, (.one (.int .i64)))])], joins := [], blocks := [] }
set_option maxRecDepth 100000 in
def vc_cycle_Steps (a : Option Addr) (b c : Nat) (d : Option Addr) (e f : Nat) (g : Option Addr) (i j : Nat) (k : Int) (l : Option Addr) (m n : Nat) (w : World) (R : Value → WP) : Prop :=  new w (oC [vS a b c, vS d e f, vS g i j, iI k, vS l m n] 27) fun k1 w1 => ∃ o1 k2 k3 o2 k4 k5 o3 k6 k7 n1 o4 k8 k9, V.rowAt w1 (aM k1) 0 5 = some [vS o1 k2 k3, vS o2 k4 k5, vS o3 k6 k7, iI n1, vS o4 k8 k9] ∧ rE 33 [vA (Array.mk [vS o1 k2 k3, vS o2 k4 k5, vS o3 k6 k7, iI n1, vS o4 k8 k9])] w1 fun v1 w2 => ∃ o5 n2, v1 = vT (Array.mk [vP o5, iI n2]) ∧ br (n2 != 0) (R (vT (Array.mk [vS none 0 0, iI n2])) w2) (nn o5 fun a1 => ∃ o6 k10 k11, World.cell? w2 a1 = some (vS o6 k10 k11) ∧ ∃ (x1 : lP [(6, shS), (22, shI)]), ∃ (x2 : lN [(6, shS), (22, shI)]), x1 none 0 0 0 w2 ∧ ∀ (I1 : Nat → Value) (o7 : Option Addr) (k12 k13 : Nat) (n3 : Int) (w3 : World), x1 o7 k12 k13 n3 w3 → br (decide (n3 < (↑k10 : Int))) (idx o6 k10 n3 1 fun a2 => ∃ o8, World.cell? w3 a2 = some (vP o8) ∧ rE 35 [vP o8] w3 fun v2 w4 => ∃ o9 k14 k15, v2 = vS o9 k14 k15 ∧ rE 34 [vP o5, vS o9 k14 k15] w4 fun v3 w5 => ∃ o10 k16 k17, v3 = vS o10 k16 k17 ∧ new w5 (oC [vS o10 k16 k17] 24) fun k18 w6 => rS (apB 28 (Array.mk [vS o7 k12 k13, vS (some (aM k18)) 1 1])) w6 fun v4 w7 => ∃ o11 k19 k20, v4 = vS o11 k19 k20 ∧ inI (n3 + 1) ∧ x1 o11 k19 k20 (n3 + 1) w7 ∧ x2 o11 k19 k20 (n3 + 1) w7 < x2 o7 k12 k13 n3 w3) (R (vT (Array.mk [vS o7 k12 k13, iI 0])) w3))
set_option maxRecDepth 100000 in
theorem run_cycle_Steps (a : Option Addr) (b c : Nat) (d : Option Addr) (e f : Nat) (g : Option Addr) (i j : Nat) (k : Int) (l : Option Addr) (m n : Nat) (w : World) (R : Value → WP) (h : vc_cycle_Steps a b c d e f g i j k l m n w R) : Run Tryd.prog 10 [(.agg #[(.slice a b c), (.slice d e f), (.slice g i j), (.int .i64 k), (.slice l m n)])] w R := rv Tryd.func10 ann_cycle_Steps (by kernel_rfl) h

abbrev n_cycle_On : FuncId := 12
def ann_cycle_On : Ann := { rngs := [], loops := [], joins := [], blocks := [] }
set_option maxRecDepth 100000 in
def vc_cycle_On (a : Option Addr) (b c : Nat) (d : Option Addr) (e f : Nat) (g : Option Addr) (i j : Nat) (k : Int) (l : Option Addr) (m n : Nat) (w : World) (R : Value → WP) : Prop :=  new w (oC [vS a b c, vS d e f, vS g i j, iI k, vS l m n] 27) fun k1 w1 => ∃ o1 k2 k3 o2 k4 k5 o3 k6 k7 n1 o4 k8 k9, V.rowAt w1 (aM k1) 0 5 = some [vS o1 k2 k3, vS o2 k4 k5, vS o3 k6 k7, iI n1, vS o4 k8 k9] ∧ rE 33 [vA (Array.mk [vS o1 k2 k3, vS o2 k4 k5, vS o3 k6 k7, iI n1, vS o4 k8 k9])] w1 fun v1 w2 => ∃ o5 n2, v1 = vT (Array.mk [vP o5, iI n2]) ∧ br (n2 != 0) (R (vT (Array.mk [vS none 0 0, iI n2])) w2) (rE 36 [vP o5] w2 fun v2 w3 => ∃ o6 k10 k11, v2 = vS o6 k10 k11 ∧ rE 34 [vP o5, vS o6 k10 k11] w3 fun v3 w4 => ∃ o7 k12 k13, v3 = vS o7 k12 k13 ∧ R (vT (Array.mk [vS o7 k12 k13, iI 0])) w4)
set_option maxRecDepth 100000 in
theorem run_cycle_On (a : Option Addr) (b c : Nat) (d : Option Addr) (e f : Nat) (g : Option Addr) (i j : Nat) (k : Int) (l : Option Addr) (m n : Nat) (w : World) (R : Value → WP) (h : vc_cycle_On a b c d e f g i j k l m n w R) : Run Tryd.prog 12 [(.agg #[(.slice a b c), (.slice d e f), (.slice g i j), (.int .i64 k), (.slice l m n)])] w R := rv Tryd.func12 ann_cycle_On (by kernel_rfl) h

abbrev n_cycle_Find : FuncId := 13
def ann_cycle_Find : Ann := { rngs := [], loops := [(10, [(8, (.one .slice)), (9, (.one .ptr))])], joins := [], blocks := [] }
set_option maxRecDepth 100000 in
def vc_cycle_Find (a : Option Addr) (b c : Nat) (d : Option Addr) (e f : Nat) (g : Option Addr) (i j : Nat) (k : Int) (l : Option Addr) (m n : Nat) (w : World) (R : Value → WP) : Prop :=  new w (oC [vS a b c, vS d e f, vS g i j, iI k, vS l m n] 27) fun k1 w1 => ∃ o1 k2 k3 o2 k4 k5 o3 k6 k7 n1 o4 k8 k9, V.rowAt w1 (aM k1) 0 5 = some [vS o1 k2 k3, vS o2 k4 k5, vS o3 k6 k7, iI n1, vS o4 k8 k9] ∧ rE 33 [vA (Array.mk [vS o1 k2 k3, vS o2 k4 k5, vS o3 k6 k7, iI n1, vS o4 k8 k9])] w1 fun v1 w2 => ∃ o5 n2, v1 = vT (Array.mk [vP o5, iI n2]) ∧ br (n2 != 0) (R (vT (Array.mk [vS none 0 0, iI n2])) w2) (rE 36 [vP o5] w2 fun v2 w3 => ∃ o6 k10 k11, v2 = vS o6 k10 k11 ∧ br ((↑k10 : Int) == 0) (R (vT (Array.mk [vS none 0 0, iI 0])) w3) (idx o6 k10 0 1 fun a1 => ∃ n3, World.cell? w3 a1 = some (iI n3) ∧ rE 37 [vP o5, iI n3] w3 fun v3 w4 => ∃ o7 k12 k13, v3 = vS o7 k12 k13 ∧ new w4 (oC [vS none 0 0] 24) fun k14 w5 => st1 w5 (aM k14) (vS o7 k12 k13) fun w6 => idx o6 k10 0 1 fun a2 => ∃ n4, World.cell? w6 a2 = some (iI n4) ∧ new w6 (oC [iI n4] 3) fun k15 w7 => ∀ w8, drawn w7 w8 → ∃ (I1 : World → Prop), I1 w8 ∧ ∃ o8 k16 k17, (∀ w9, I1 w9 → World.cell? w9 (aM k14) = some (vS o8 k16 k17)) ∧ idx o6 k10 0 1 fun a3 => ∃ n5, (∀ w10, I1 w10 → World.cell? w10 a3 = some (iI n5)) ∧ idx o8 k16 n5 1 fun a4 => ∃ n6, (∀ w11, I1 w11 → World.cell? w11 a4 = some (iI n6)) ∧ inI (n6 - 1) ∧ new w8 (oC [iI 0] 3) fun k18 w12 => I1 w12 ∧ st1 w12 (aM k18) (iI (n6 - 1)) fun w13 => ∃ (x1 : lP [(8, shS), (9, S1.one Cs.ptr)]), ∃ (x2 : lN [(8, shS), (9, S1.one Cs.ptr)]), x1 (some (aM k15)) 1 1 (some (aM k18)) w13 ∧ ∀ (I2 : Nat → Value) (o9 : Option Addr) (k19 k20 : Nat) (o10 : Option Addr) (w14 : World), x1 o9 k19 k20 o10 w14 → nn o10 fun a5 => ∃ n7, World.cell? w14 a5 = some (iI n7) ∧ br (decide (0 < n7)) (∀ w15, drawn w14 w15 → ∃ (I3 : World → Prop), I3 w15 ∧ nn o5 fun a6 => ∃ o11 k21 k22, (∀ w16, I3 w16 → World.cell? w16 a6 = some (vS o11 k21 k22)) ∧ inI ((↑k19 : Int) - 1) ∧ idx o9 k19 ((↑k19 : Int) - 1) 1 fun a7 => ∃ n8, (∀ w17, I3 w17 → World.cell? w17 a7 = some (iI n8)) ∧ idx o11 k21 n8 1 fun a8 => ∃ o12, (∀ w18, I3 w18 → World.cell? w18 a8 = some (vP o12)) ∧ rE 35 [vP o12] w15 fun v4 w19 => ∃ o13 k23 k24, v4 = vS o13 k23 k24 ∧ I3 w19 ∧ rE 38 [vS o13 k23 k24, Value.func (Fn.func 39) (Array.mk []) (Array.mk [vP (some (aM k14)), vP o10])] w19 fun v5 w20 => ∃ n9, v5 = iI n9 ∧ idx o13 k23 n9 1 fun a9 => ∃ n10, World.cell? w20 a9 = some (iI n10) ∧ new w20 (oC [iI n10] 3) fun k25 w21 => rS (apB 24 (Array.mk [vS o9 k19 k20, vS (some (aM k25)) 1 1])) w21 fun v6 w22 => ∃ o14 k26 k27, v6 = vS o14 k26 k27 ∧ nn o10 fun a10 => ∃ n11, World.cell? w22 a10 = some (iI n11) ∧ new w22 (oC [iI 0] 3) fun k28 w23 => st1 w23 (aM k28) (iI n11) fun w24 => ∃ n12, World.cell? w24 (aM k28) = some (iI n12) ∧ inI (n12 - 1) ∧ st1 w24 (aM k28) (iI (n12 - 1)) fun w25 => x1 o14 k26 k27 (some (aM k28)) w25 ∧ x2 o14 k26 k27 (some (aM k28)) w25 < x2 o9 k19 k20 o10 w14) (rE 34 [vP o5, vS o9 k19 k20] w14 fun v7 w26 => ∃ o15 k29 k30, v7 = vS o15 k29 k30 ∧ R (vT (Array.mk [vS o15 k29 k30, iI 0])) w26)))
set_option maxRecDepth 100000 in
theorem run_cycle_Find (a : Option Addr) (b c : Nat) (d : Option Addr) (e f : Nat) (g : Option Addr) (i j : Nat) (k : Int) (l : Option Addr) (m n : Nat) (w : World) (R : Value → WP) (h : vc_cycle_Find a b c d e f g i j k l m n w R) : Run Tryd.prog 13 [(.agg #[(.slice a b c), (.slice d e f), (.slice g i j), (.int .i64 k), (.slice l m n)])] w R := rv Tryd.func13 ann_cycle_Find (by kernel_rfl) h

abbrev n_cycle_spin : FuncId := 33
def ann_cycle_spin : Ann := { rngs := [], loops := [(8, [(34, (.one (.int .i64)))]), (12, [(53, (.one (.int .i64)))]), (17, [(10, (.one (.int .i64))), (61, (.one (.int .i64)))]), (23, [(74, (.one (.int .i64)))])], joins := [(26, [(96, (.one .bool))])], blocks := [] }
set_option maxRecDepth 100000 in
def vc_cycle_spin (a : Option Addr) (b c : Nat) (d : Option Addr) (e f : Nat) (g : Option Addr) (i j : Nat) (k : Int) (l : Option Addr) (m n : Nat) (w : World) (R : Value → WP) : Prop :=  new w (oC [vS a b c, vS d e f, vS g i j, iI k, vS l m n] 27) fun k1 w1 => ∃ o1 k2 k3 o2 k4 k5 o3 k6 k7 n1 o4 k8 k9, V.rowAt w1 (aM k1) 0 5 = some [vS o1 k2 k3, vS o2 k4 k5, vS o3 k6 k7, iI n1, vS o4 k8 k9] ∧ rE 56 [vA (Array.mk [vS o1 k2 k3, vS o2 k4 k5, vS o3 k6 k7, iI n1, vS o4 k8 k9])] w1 fun v1 w2 => ∃ b1, v1 = vB b1 ∧ br (!b1) (R (vT (Array.mk [vP none, iI 1])) w2) (∃ o5 k10 k11 o6 k12 k13 o7 k14 k15 n2 o8 k16 k17, V.rowAt w2 (aM k1) 0 5 = some [vS o5 k10 k11, vS o6 k12 k13, vS o7 k14 k15, iI n2, vS o8 k16 k17] ∧ rE 57 [vA (Array.mk [vS o5 k10 k11, vS o6 k12 k13, vS o7 k14 k15, iI n2, vS o8 k16 k17])] w2 fun v2 w3 => ∃ o9 k18 k19 n3, v2 = vT (Array.mk [vS o9 k18 k19, iI n3]) ∧ new w3 (oC [vS none 0 0] 37) fun k20 w4 => st1 w4 (aM k20) (vS o9 k18 k19) fun w5 => br (n3 != 0) (R (vT (Array.mk [vP none, iI n3])) w5) (∃ o10 k21 k22, World.cell? w5 (aM k1) = some (vS o10 k21 k22) ∧ new w5 (oC [vS none 0 0, iI (↑k21 : Int)] 66) fun k23 w6 => new w6 (oC [vP none] 61) fun k24 w7 => st1 w7 (aM k24) (vP (some (aM k23))) fun w8 => ∃ o11 k25 k26, World.cell? w8 (Addr.add (aM k1) 1) = some (vS o11 k25 k26) ∧ ∃ (x1 : lP [(34, shI)]), ∃ (x2 : lN [(34, shI)]), x1 0 w8 ∧ ∀ (I1 : Nat → Value) (n4 : Int) (w9 : World), x1 n4 w9 → br (decide (n4 < (↑k25 : Int))) (∀ w10, drawn w9 w10 → ∃ (I2 : World → Prop), I2 w10 ∧ ∃ o12, (∀ w11, I2 w11 → World.cell? w11 (aM k24) = some (vP o12)) ∧ ∃ o13, (∀ w12, I2 w12 → World.cell? w12 (aM k24) = some (vP o13)) ∧ nn o13 fun a1 => ∃ o14 k27 k28, (∀ w13, I2 w13 → World.cell? w13 a1 = some (vS o14 k27 k28)) ∧ ∃ o15 k29 k30, (∀ w14, I2 w14 → World.cell? w14 (Addr.add (aM k1) 1) = some (vS o15 k29 k30)) ∧ rE 52 [iI (↑k29 : Int), vS none 0 0] w10 fun v3 w15 => ∃ o16, v3 = vP o16 ∧ I2 w15 ∧ new w15 (oC [vP o16] 67) fun k31 w16 => I2 w16 ∧ rS (apB 64 (Array.mk [vS o14 k27 k28, vS (some (aM k31)) 1 1])) w16 fun v4 w17 => ∃ o17 k32 k33, v4 = vS o17 k32 k33 ∧ I2 w17 ∧ nn o12 fun a2 => st1 w17 a2 (vS o17 k32 k33) fun w18 => inI (n4 + 1) ∧ x1 (n4 + 1) w18 ∧ x2 (n4 + 1) w18 < x2 n4 w9) (∃ o18 k34 k35, World.cell? w9 (Addr.add (aM k1) 4) = some (vS o18 k34 k35) ∧ ∃ (x3 : lP [(53, shI)]), ∃ (x4 : lN [(53, shI)]), x3 0 w9 ∧ ∀ (I3 : Nat → Value) (n5 : Int) (w19 : World), x3 n5 w19 → br (decide (n5 < (↑k34 : Int))) (idx o18 k34 n5 3 fun a3 => ∃ n6 o19 k36 k37 n7, V.rowAt w19 a3 0 3 = some [iI n6, vS o19 k36 k37, iI n7] ∧ new w19 (oC [iI 0, vS none 0 0, iI 0] 41) fun k38 w20 => stR w20 (aM k38) [iI n6, vS o19 k36 k37, iI n7] fun w21 => ∃ o20 k39 k40, World.cell? w21 (Addr.add (aM k38) 1) = some (vS o20 k39 k40) ∧ ∃ (x5 : lP [(10, shI), (61, shI)]), ∃ (x6 : lN [(10, shI), (61, shI)]), x5 0 0 w21 ∧ ∀ (I4 : Nat → Value) (n8 n9 : Int) (w22 : World), x5 n8 n9 w22 → br (decide (n9 < (↑k39 : Int))) (idx o20 k39 n9 1 fun a4 => ∃ n10, World.cell? w22 a4 = some (iI n10) ∧ rE 58 [iI n10, vP (some (aM k24)), vP (some (aM k20))] w22 fun v5 w23 => ∃ b2, v5 = vB b2 ∧ br b2 (inI (n8 + 1) ∧ inI (n9 + 1) ∧ x5 (n8 + 1) (n9 + 1) w23 ∧ x6 (n8 + 1) (n9 + 1) w23 < x6 n8 n9 w22) (inI (n9 + 1) ∧ x5 n8 (n9 + 1) w23 ∧ x6 n8 (n9 + 1) w23 < x6 n8 n9 w22)) (∃ o21 k41 k42, World.cell? w22 (Addr.add (aM k38) 1) = some (vS o21 k41 k42) ∧ ∃ (x7 : lP [(74, shI)]), ∃ (x8 : lN [(74, shI)]), x7 0 w22 ∧ ∀ (I5 : Nat → Value) (n11 : Int) (w24 : World), x7 n11 w24 → br (decide (n11 < (↑k41 : Int))) (idx o21 k41 n11 1 fun a5 => ∃ n12, World.cell? w24 a5 = some (iI n12) ∧ ∃ (x9 : lP [(96, shB)]), (∃ o22, World.cell? w24 (aM k24) = some (vP o22) ∧ nn o22 fun a6 => ∃ n13, World.cell? w24 (Addr.add a6 1) = some (iI n13) ∧ br (decide (n13 ≤ n12)) (br (n8 == 0) (x9 true w24) (br (n8 == 1) (rE 58 [iI n12, vP (some (aM k24)), vP (some (aM k20))] w24 fun v6 w25 => ∃ b3, v6 = vB b3 ∧ x9 b3 w25) (x9 false w24))) (x9 false w24)) ∧ ∀ (I6 : Nat → Value) (b4 : Bool) (w26 : World), x9 b4 w26 → br b4 (∀ w27, drawn w26 w27 → ∃ (I7 : World → Prop), I7 w27 ∧ ∃ o23, (∀ w28, I7 w28 → World.cell? w28 (aM k24) = some (vP o23)) ∧ nn o23 fun a7 => ∃ o24 k43 k44, (∀ w29, I7 w29 → World.cell? w29 a7 = some (vS o24 k43 k44)) ∧ ∃ n14, (∀ w30, I7 w30 → World.cell? w30 (aM k38) = some (iI n14)) ∧ ∃ o25, (∀ w31, I7 w31 → World.cell? w31 (aM k24) = some (vP o25)) ∧ nn o25 fun a8 => ∃ n15, (∀ w32, I7 w32 → World.cell? w32 (Addr.add a8 1) = some (iI n15)) ∧ inI (n14 - n15) ∧ idx o24 k43 (n14 - n15) 1 fun a9 => ∃ o26, (∀ w33, I7 w33 → World.cell? w33 a9 = some (vP o26)) ∧ ∃ o27, (∀ w34, I7 w34 → World.cell? w34 (aM k24) = some (vP o27)) ∧ nn o27 fun a10 => ∃ n16, (∀ w35, I7 w35 → World.cell? w35 (Addr.add a10 1) = some (iI n16)) ∧ inI (n12 - n16) ∧ new w27 (oC [iI (n12 - n16)] 3) fun k45 w36 => I7 w36 ∧ rE 53 [vP o26, vS (some (aM k45)) 1 1] w36 fun v7 w37 => ∃ n17, v7 = iI n17 ∧ inI (n11 + 1) ∧ x7 (n11 + 1) w37 ∧ x8 (n11 + 1) w37 < x8 n11 w24) (inI (n11 + 1) ∧ x7 (n11 + 1) w26 ∧ x8 (n11 + 1) w26 < x8 n11 w24)) (inI (n5 + 1) ∧ x3 (n5 + 1) w24 ∧ x4 (n5 + 1) w24 < x4 n5 w19))) (∃ o28, World.cell? w19 (aM k24) = some (vP o28) ∧ R (vT (Array.mk [vP o28, iI 0])) w19))))
set_option maxRecDepth 100000 in
theorem run_cycle_spin (a : Option Addr) (b c : Nat) (d : Option Addr) (e f : Nat) (g : Option Addr) (i j : Nat) (k : Int) (l : Option Addr) (m n : Nat) (w : World) (R : Value → WP) (h : vc_cycle_spin a b c d e f g i j k l m n w R) : Run Tryd.prog 33 [(.agg #[(.slice a b c), (.slice d e f), (.slice g i j), (.int .i64 k), (.slice l m n)])] w R := rv Tryd.func33 ann_cycle_spin (by kernel_rfl) h

abbrev n_cycle_web_names : FuncId := 34
def ann_cycle_web_names : Ann := { rngs := [], loops := [(2, [(8, (.one (.int .i64)))])], joins := [], blocks := [] }
set_option maxRecDepth 100000 in
def vc_cycle_web_names (a b : Option Addr) (c d : Nat) (w : World) (R : Value → WP) : Prop :=  ∃ (x1 : lP [(8, shI)]), ∃ (x2 : lN [(8, shI)]), x1 0 w ∧ ∀ (I1 : Nat → Value) (n1 : Int) (w1 : World), x1 n1 w1 → br (decide (n1 < (↑c : Int))) (∀ w2, drawn w1 w2 → ∃ (I2 : World → Prop), I2 w2 ∧ idx b c n1 1 fun a1 => ∃ n2, (∀ w3, I2 w3 → World.cell? w3 a1 = some (iI n2)) ∧ nn a fun a2 => ∃ n3, (∀ w4, I2 w4 → World.cell? w4 (Addr.add a2 1) = some (iI n3)) ∧ inI (n2 + n3) ∧ idx b c n1 1 fun a3 => st1 w2 a3 (iI (n2 + n3)) fun w5 => inI (n1 + 1) ∧ x1 (n1 + 1) w5 ∧ x2 (n1 + 1) w5 < x2 n1 w1) (R (vS b c d) w1)
set_option maxRecDepth 100000 in
theorem run_cycle_web_names (a b : Option Addr) (c d : Nat) (w : World) (R : Value → WP) (h : vc_cycle_web_names a b c d w R) : Run Tryd.prog 34 [(.pointer a), (.slice b c d)] w R := rv Tryd.func34 ann_cycle_web_names (by kernel_rfl) h

abbrev n_cycle_web_on : FuncId := 36
def ann_cycle_web_on : Ann := { rngs := [], loops := [(3, [(3, (.one .slice)), (10, (.one (.int .i64)))])], joins := [], blocks := [] }
set_option maxRecDepth 100000 in
def vc_cycle_web_on (a : Option Addr) (w : World) (R : Value → WP) : Prop :=  nn a fun a1 => ∃ o1 k1 k2, World.cell? w a1 = some (vS o1 k1 k2) ∧ ∃ (x1 : lP [(3, shS), (10, shI)]), ∃ (x2 : lN [(3, shS), (10, shI)]), x1 none 0 0 0 w ∧ ∀ (I1 : Nat → Value) (o2 : Option Addr) (k3 k4 : Nat) (n1 : Int) (w1 : World), x1 o2 k3 k4 n1 w1 → br (decide (n1 < (↑k1 : Int))) (rE 37 [vP a, iI n1] w1 fun v1 w2 => ∃ o3 k5 k6, v1 = vS o3 k5 k6 ∧ idx o3 k5 n1 1 fun a2 => ∃ n2, World.cell? w2 a2 = some (iI n2) ∧ br (decide (0 < n2)) (new w2 (oC [iI n1] 3) fun k7 w3 => rS (apB 24 (Array.mk [vS o2 k3 k4, vS (some (aM k7)) 1 1])) w3 fun v2 w4 => ∃ o4 k8 k9, v2 = vS o4 k8 k9 ∧ inI (n1 + 1) ∧ x1 o4 k8 k9 (n1 + 1) w4 ∧ x2 o4 k8 k9 (n1 + 1) w4 < x2 o2 k3 k4 n1 w1) (inI (n1 + 1) ∧ x1 o2 k3 k4 (n1 + 1) w2 ∧ x2 o2 k3 k4 (n1 + 1) w2 < x2 o2 k3 k4 n1 w1)) (R (vS o2 k3 k4) w1)
set_option maxRecDepth 100000 in
theorem run_cycle_web_on (a : Option Addr) (w : World) (R : Value → WP) (h : vc_cycle_web_on a w R) : Run Tryd.prog 36 [(.pointer a)] w R := rv Tryd.func36 ann_cycle_web_on (by kernel_rfl) h

abbrev n_cycle_web_waves : FuncId := 37
def ann_cycle_web_waves : Ann := { rngs := [], loops := [(4, [(6, (.one .slice)), (7, (.one (.int .i64)))]), (8, [(8, (.one .slice)), (30, (.one (.int .i64)))]), (11, [(8, (.one .slice)), (35, (.one (.int .i64)))])], joins := [], blocks := [] }
set_option maxRecDepth 100000 in
def vc_cycle_web_waves (a : Option Addr) (b : Int) (w : World) (R : Value → WP) : Prop :=  nn a fun a1 => ∃ o1 k1 k2, World.cell? w a1 = some (vS o1 k1 k2) ∧ mkOk (↑k1 : Int) (↑k1 : Int) 8 ∧ new w (Obj.cells (Array.mk (reps (Int.toNat (↑k1 : Int)) [iI 0])) 3) fun k3 w1 => new w1 (oC [iI b] 3) fun k4 w2 => ∃ (x1 : lP [(6, shS), (7, shI)]), ∃ (x2 : lN [(6, shS), (7, shI)]), x1 (some (aM k4)) 1 1 1 w2 ∧ ∀ (I1 : Nat → Value) (o2 : Option Addr) (k5 k6 : Nat) (n1 : Int) (w3 : World), x1 o2 k5 k6 n1 w3 → br (decide (0 < (↑k5 : Int))) (nn a fun a2 => ∃ o3 k7 k8, World.cell? w3 a2 = some (vS o3 k7 k8) ∧ ∃ (x3 : lP [(8, shS), (30, shI)]), ∃ (x4 : lN [(8, shS), (30, shI)]), x3 none 0 0 0 w3 ∧ ∀ (I2 : Nat → Value) (o4 : Option Addr) (k9 k10 : Nat) (n2 : Int) (w4 : World), x3 o4 k9 k10 n2 w4 → br (decide (n2 < (↑k7 : Int))) (∃ (x5 : lP [(8, shS), (35, shI)]), ∃ (x6 : lN [(8, shS), (35, shI)]), x5 o4 k9 k10 0 w4 ∧ ∀ (I3 : Nat → Value) (o5 : Option Addr) (k11 k12 : Nat) (n3 : Int) (w5 : World), x5 o5 k11 k12 n3 w5 → br (decide (n3 < (↑k5 : Int))) (idx o2 k5 n3 1 fun a3 => ∃ n4, World.cell? w5 a3 = some (iI n4) ∧ idx (some (aM k3)) (Int.toNat (↑k1 : Int)) n2 1 fun a4 => ∃ n5, World.cell? w5 a4 = some (iI n5) ∧ br (n5 == 0) (nn a fun a5 => ∃ o6 k13 k14, World.cell? w5 a5 = some (vS o6 k13 k14) ∧ idx o6 k13 n2 1 fun a6 => ∃ o7, World.cell? w5 a6 = some (vP o7) ∧ rE 61 [vP o7, iI n4] w5 fun v1 w6 => ∃ b1, v1 = vB b1 ∧ br b1 (idx (some (aM k3)) (Int.toNat (↑k1 : Int)) n2 1 fun a7 => st1 w6 a7 (iI n1) fun w7 => new w7 (oC [iI n2] 3) fun k15 w8 => rS (apB 24 (Array.mk [vS o5 k11 k12, vS (some (aM k15)) 1 1])) w8 fun v2 w9 => ∃ o8 k16 k17, v2 = vS o8 k16 k17 ∧ inI (n2 + 1) ∧ x3 o8 k16 k17 (n2 + 1) w9 ∧ x4 o8 k16 k17 (n2 + 1) w9 < x4 o4 k9 k10 n2 w4) (inI (n3 + 1) ∧ x5 o5 k11 k12 (n3 + 1) w6 ∧ x6 o5 k11 k12 (n3 + 1) w6 < x6 o5 k11 k12 n3 w5)) (inI (n3 + 1) ∧ x5 o5 k11 k12 (n3 + 1) w5 ∧ x6 o5 k11 k12 (n3 + 1) w5 < x6 o5 k11 k12 n3 w5)) (inI (n2 + 1) ∧ x3 o5 k11 k12 (n2 + 1) w5 ∧ x4 o5 k11 k12 (n2 + 1) w5 < x4 o4 k9 k10 n2 w4)) (inI (n1 + 1) ∧ x1 o4 k9 k10 (n1 + 1) w4 ∧ x2 o4 k9 k10 (n1 + 1) w4 < x2 o2 k5 k6 n1 w3)) (R (vS (some (aM k3)) (Int.toNat (↑k1 : Int)) (Int.toNat (↑k1 : Int))) w3)
set_option maxRecDepth 100000 in
theorem run_cycle_web_waves (a : Option Addr) (b : Int) (w : World) (R : Value → WP) (h : vc_cycle_web_waves a b w R) : Run Tryd.prog 37 [(.pointer a), (.int .i64 b)] w R := rv Tryd.func37 ann_cycle_web_waves (by kernel_rfl) h

abbrev n_cycle_Find_S1 : FuncId := 39
def ann_cycle_Find_S1 : Ann := { rngs := [], loops := [], joins := [], blocks := [] }
set_option maxRecDepth 100000 in
def vc_cycle_Find_S1 (a : Int) (b c : Addr) (w : World) (R : Value → WP) : Prop :=  ∀ w1, drawn w w1 → ∃ (I1 : World → Prop), I1 w1 ∧ ∃ o1 k1 k2, (∀ w2, I1 w2 → World.cell? w2 b = some (vS o1 k1 k2)) ∧ idx o1 k1 a 1 fun a1 => ∃ n1, (∀ w3, I1 w3 → World.cell? w3 a1 = some (iI n1)) ∧ ∃ n2, (∀ w4, I1 w4 → World.cell? w4 c = some (iI n2)) ∧ R (vB (n1 == n2)) w1
set_option maxRecDepth 100000 in
theorem run_cycle_Find_S1 (a : Int) (b c : Addr) (w : World) (R : Value → WP) (h : vc_cycle_Find_S1 a b c w R) : Run Tryd.prog 39 [(.int .i64 a), (.pointer (some b)), (.pointer (some c))] w R := rv Tryd.func39 ann_cycle_Find_S1 (by kernel_rfl) h

abbrev n_cycle_spin_S1 : FuncId := 58
def ann_cycle_spin_S1 : Ann := { rngs := [], loops := [], joins := [], blocks := [] }
set_option maxRecDepth 100000 in
def vc_cycle_spin_S1 (a : Int) (b c : Addr) (w : World) (R : Value → WP) : Prop :=  ∀ w1, drawn w w1 → ∃ (I1 : World → Prop), I1 w1 ∧ ∃ o1, (∀ w2, I1 w2 → World.cell? w2 b = some (vP o1)) ∧ nn o1 fun a1 => ∃ n1, (∀ w3, I1 w3 → World.cell? w3 (Addr.add a1 1) = some (iI n1)) ∧ br (decide (a < n1)) (R (vB true) w1) (∃ o2 k1 k2, (∀ w4, I1 w4 → World.cell? w4 c = some (vS o2 k1 k2)) ∧ ∃ o3, (∀ w5, I1 w5 → World.cell? w5 b = some (vP o3)) ∧ nn o3 fun a2 => ∃ n2, (∀ w6, I1 w6 → World.cell? w6 (Addr.add a2 1) = some (iI n2)) ∧ inI (a - n2) ∧ idx o2 k1 (a - n2) 1 fun a3 => ∃ b1, (∀ w7, I1 w7 → World.cell? w7 a3 = some (vB b1)) ∧ R (vB !b1) w1)
set_option maxRecDepth 100000 in
theorem run_cycle_spin_S1 (a : Int) (b c : Addr) (w : World) (R : Value → WP) (h : vc_cycle_spin_S1 a b c w R) : Run Tryd.prog 58 [(.int .i64 a), (.pointer (some b)), (.pointer (some c))] w R := rv Tryd.func58 ann_cycle_spin_S1 (by kernel_rfl) h

end Go.Proofs.YtcapljamcepmkaaDoor
set_option linter.unusedVariables false
namespace Go.V
theorem rdS.atv {α : Type} [Rep1 α] {w : World} {xs : List α} {a : Option Addr} {l i : Nat} {x : α} {ad : Addr} (r : rdS (hp w) xs a l) (ha : a = some ad) (hx : xs[i]? = some x) : w.cell? (ad.add i) = some (Rep1.val x) := by
  obtain ⟨ad', e, hh⟩ := r.at hx
  rw [ha] at e; cases e; exact hh w (sub.refl _)
inductive WayN (R : Nat → Nat → Prop) (to : Nat) : Nat → Nat → Prop
  | one (i : Nat) : R i to → WayN R to 1 i
  | more (n i k : Nat) : R i k → WayN R to n k → WayN R to (n + 1) i
section
variable {R : Nat → Nat → Prop} {N to n i j : Nat}
theorem WayN.pos (h : WayN R to n i) : 1 ≤ n := by cases h <;> omega
theorem WayN.trans {b m : Nat} (h : WayN R b n i) (k : WayN R to m b) : WayN R to (n + m) i := by
  induction h with
  | one i h => rw [Nat.add_comm]; exact .more m i b h k
  | more n i x h1 h2 ih => rw [show n + 1 + m = (n + m) + 1 from by omega]; exact .more _ i x h1 ih
theorem WayN.mono {R' : Nat → Nat → Prop} (hR : ∀ a b, R a b → R' a b) (h : WayN R to n i) : WayN R' to n i := by
  induction h with
  | one i h => exact .one i (hR _ _ h)
  | more n i k h1 h2 ih => exact .more n i k (hR _ _ h1) ih
structure FarF (R : Nat → Nat → Prop) (N to : Nat) (far : List Nat) : Prop where
  ln : far.length = N
  z : ∀ i, i < N → far.getD i 0 = 0 → ∀ m, ¬ WayN R to m i
  p : ∀ (i : Nat) d, far[i]? = some d → 0 < d → WayN R to d i ∧ ∀ m, WayN R to m i → d ≤ m
structure Bfs (R : Nat → Nat → Prop) (N to n : Nat) (cur far : List Nat) : Prop where
  one : 1 ≤ n
  ln : far.length = N
  z : ∀ i, i < N → far.getD i 0 = 0 → ∀ m, m < n → ¬ WayN R to m i
  p : ∀ (i : Nat) d, far[i]? = some d → 0 < d → d < n ∧ WayN R to d i ∧ ∀ m, WayN R to m i → d ≤ m
  c : ∀ k, k ∈ cur ↔ (n = 1 ∧ k = to) ∨ (1 < n ∧ k < N ∧ far.getD k 0 = n - 1)
theorem getD_some {far : List Nat} (h : i < far.length) : far[i]? = some (far.getD i 0) := by
  rw [List.getD_eq_getElem?_getD, List.getElem?_eq_getElem h]; rfl
theorem bfs_init : Bfs R N to 1 [to] (List.replicate N 0) := by
  refine ⟨Nat.le_refl _, by simp, fun i hi _ m hm hw => ?_, fun i d hd h0 => ?_, fun k => ?_⟩
  · have := hw.pos; omega
  · rw [List.getElem?_replicate] at hd
    split at hd
    · cases hd; omega
    · cases hd
  · simp
theorem Bfs.next {cur far cur' far' : List Nat} (b : Bfs R N to n cur far) (hR : ∀ a k, R a k → k < N) (hl : far'.length = N) (new : Nat → Prop) (hn : ∀ j, j < N → (new j ↔ far.getD j 0 = 0 ∧ ∃ k ∈ cur, R j k))
    (h1 : ∀ j, j < N → new j → far'.getD j 0 = n) (h2 : ∀ j, j < N → ¬ new j → far'.getD j 0 = far.getD j 0) (hc : ∀ k, k ∈ cur' ↔ k < N ∧ new k) : Bfs R N to (n + 1) cur' far' := by
  have hl0 := b.ln
  have newW : ∀ j, j < N → new j → WayN R to n j := fun j hj hj' => by
    obtain ⟨_, k, hk, hr⟩ := (hn j hj).1 hj'
    rcases (b.c k).1 hk with ⟨rfl, rfl⟩ | ⟨h1, h2, h3⟩
    · exact .one _ hr
    · obtain ⟨_, hw, _⟩ := b.p k _ (getD_some (by omega)) (by omega)
      rw [h3] at hw
      have := WayN.more (n - 1) j k hr hw
      rwa [show n - 1 + 1 = n from by omega] at this
  refine ⟨by omega, hl, fun i hi h0 m hm hw => ?_, fun i d hd hd0 => ?_, fun k => ?_⟩
  · have hnn : ¬ new i := fun h => by have := h1 i hi h; have := b.one; omega
    rw [h2 i hi hnn] at h0
    by_cases hmn : m < n
    · exact b.z i hi h0 m hmn hw
    · have : m = n := by omega
      subst this
      refine hnn ((hn i hi).2 ⟨h0, ?_⟩)
      cases hw with
      | one _ hr => exact ⟨to, (b.c to).2 (.inl ⟨rfl, rfl⟩), hr⟩
      | more q _ k hr hw =>
        have hkN := hR _ _ hr
        refine ⟨k, (b.c k).2 (.inr ⟨by have := hw.pos; omega, hkN, ?_⟩), hr⟩
        by_cases hz : far.getD k 0 = 0
        · exact absurd hw (b.z k hkN hz q (by omega))
        · obtain ⟨g1, g2, g3⟩ := b.p k _ (getD_some (by omega)) (by omega)
          have g4 := g3 q hw
          have g5 : ¬ far.getD k 0 + 1 < q + 1 := fun hh => b.z i hi h0 _ hh (.more _ i k hr g2)
          omega
  · have hi : i < N := by rw [← hl]; exact (List.getElem?_eq_some_iff.1 hd).1
    have hdd : far'.getD i 0 = d := by rw [List.getD_eq_getElem?_getD, hd]; rfl
    by_cases hne : new i
    · rw [h1 i hi hne] at hdd
      subst hdd
      refine ⟨by omega, newW i hi hne, fun m hw => ?_⟩
      have := b.z i hi ((hn i hi).1 hne).1 m
      exact Nat.le_of_not_lt fun hh => this hh hw
    · rw [h2 i hi hne] at hdd
      have := b.p i d (by rw [← hdd]; exact getD_some (by omega)) hd0
      exact ⟨by omega, this.2⟩
  · rw [hc]
    constructor
    · rintro ⟨hk, hnk⟩
      exact .inr ⟨by have := b.one; omega, hk, by rw [h1 k hk hnk]; omega⟩
    · rintro (⟨h, _⟩ | ⟨_, hk, h⟩)
      · have := b.one; omega
      · refine ⟨hk, Classical.byContradiction fun hnk => ?_⟩
        rw [h2 k hk hnk] at h
        have := b.p k _ (getD_some (by omega)) (by have := b.one; omega)
        omega
theorem Bfs.done {far : List Nat} (b : Bfs R N to n [] far) (hR : ∀ a k, R a k → k < N) : FarF R N to far := by
  have hl0 := b.ln
  refine ⟨b.ln, fun i hi h0 m hw => ?_, fun i d hd h0 => (b.p i d hd h0).2⟩
  have key : ∀ {m i}, WayN R to m i → i < N → far.getD i 0 ≠ 0 := by
    intro m i hw
    induction hw with
    | one i h =>
      intro hi h0
      by_cases h1 : n = 1
      · have := (b.c to).2 (.inl ⟨h1, rfl⟩); simp at this
      · exact b.z i hi h0 1 (by have := b.one; omega) (.one i h)
    | more q i k h1 h2 ih =>
      intro hi h0
      have hkN := hR _ _ h1
      have hk := ih hkN
      obtain ⟨g1, g2, g3⟩ := b.p k _ (getD_some (by omega)) (by omega)
      have g4 : ¬ far.getD k 0 + 1 < n := fun hh => b.z i hi h0 _ hh (.more _ i k h1 g2)
      have := (b.c k).2 (.inr ⟨by omega, hkN, by omega⟩)
      simp at this
  exact key hw hi h0
def zer (far : List Nat) : Nat := (far.filter (· == 0)).length
theorem zer_le {far far' : List Nat} (hl : far'.length = far.length) (h : ∀ j, j < far.length → far'.getD j 0 = 0 → far.getD j 0 = 0) : zer far' ≤ zer far ∧ (∀ j, j < far.length → far.getD j 0 = 0 → far'.getD j 0 ≠ 0 → zer far' < zer far) := by
  induction far generalizing far' with
  | nil => cases far' with
    | nil => exact ⟨Nat.le_refl _, fun j hj => absurd hj (Nat.not_lt_zero _)⟩
    | cons _ _ => simp at hl
  | cons x far ih => cases far' with
    | nil => simp at hl
    | cons y far' =>
      obtain ⟨i1, i2⟩ := ih (by simpa using hl) fun j hj hz => by
        have := h (j + 1) (by simpa using hj) (by simpa using hz)
        simpa using this
      have h0 : y = 0 → x = 0 := fun hy => by
        have := h 0 (by simp) (by simpa using hy)
        simpa using this
      have ez : ∀ (a : Nat) l, zer (a :: l) = (if a = 0 then 1 else 0) + zer l := fun a l => by
        unfold zer; by_cases ha : a = 0 <;> simp [ha, Nat.add_comm]
      rw [ez, ez]
      refine ⟨by split <;> split <;> omega, fun j hj hz hn => ?_⟩
      cases j with
      | zero =>
        have hz : x = 0 := by simpa using hz
        have hn : y ≠ 0 := by simpa using hn
        rw [if_pos hz, if_neg hn]; omega
      | succ j =>
        have := i2 j (by simpa using hj) (by simpa using hz) (by simpa using hn)
        split <;> split <;> omega
def OnP (R : Nat → Nat → Prop) (i : Nat) : Prop := ∃ m, WayN R i m i
structure CirP (R : Nat → Nat → Prop) (N : Nat) (l : List Nat) : Prop where
  lt : ∀ x ∈ l, x < N
  nd : l.Nodup
  st : ∀ (i : Nat) a b, l[i]? = some a → l[(i + 1) % l.length]? = some b → R a b
  on : ∀ x ∈ l, OnP R x
end
end Go.V
set_option linter.unusedVariables false
namespace Go.V
def stayB (T : Nat) (nn : List Bool) (s : Int) : Bool := decide (s < (T : Int)) || !fnB nn (s.toNat - T)
def stayN (T : Nat) (nn : List Bool) (row : List Int) : Nat := (row.filter (stayB T nn)).length
def CondP (g : GramT) (nn : List Bool) (p : ProdT) (b : Nat) : Prop := stayN g.T nn p.right = 0 ∨ (stayN g.T nn p.right = 1 ∧ stayB g.T nn ((g.T + b : Nat) : Int) = true)
def StpI (g : GramT) (nn : List Bool) (p : ProdT) (i a b : Nat) : Prop := p.left = ((g.T + a : Nat) : Int) ∧ ((g.T + b : Nat) : Int) ∈ p.right.take i ∧ CondP g nn p b
def StpOf (g : GramT) (nn : List Bool) (p : ProdT) (a b : Nat) : Prop := p.left = ((g.T + a : Nat) : Int) ∧ ((g.T + b : Nat) : Int) ∈ p.right ∧ CondP g nn p b
def Stp (g : GramT) (a b : Nat) : Prop := ∃ nn, NnP g nn ∧ ∃ p ∈ g.prods, StpOf g nn p a b
theorem stp_iff {g : GramT} {nn : List Bool} (h : NnP g nn) {a b : Nat} : Stp g a b ↔ ∃ p ∈ g.prods, StpOf g nn p a b :=
  ⟨fun ⟨nn', h', hp⟩ => (h'.inj h) ▸ hp, fun hp => ⟨nn, h, hp⟩⟩
structure VsP (N : Nat) (vs : List (List Bool)) (Q : Nat → Nat → Prop) : Prop where
  ln : vs.length = N
  le : ∀ v ∈ vs, v.length = N
  st : ∀ (a : Nat) v, vs[a]? = some v → ∀ b, fnB v b = true ↔ Q a b
theorem VsP.congr {N : Nat} {vs : List (List Bool)} {Q Q' : Nat → Nat → Prop} (h : VsP N vs Q) (hq : ∀ a b, a < N → (Q a b ↔ Q' a b)) : VsP N vs Q' :=
  ⟨h.ln, h.le, fun a v hv b => (h.st a v hv b).trans (hq a b (by rw [← h.ln]; exact (List.getElem?_eq_some_iff.1 hv).1))⟩
theorem addB1 {v : List Bool} {b0 b : Nat} (h : b0 < v.length) : fnB (addB v [(b0 : Int)]) b = true ↔ fnB v b = true ∨ b = b0 := by
  rw [fnB_add]; unfold addS
  simp
  refine or_congr_right ⟨fun e => by omega, fun e => by omega⟩
theorem VsP.add {N : Nat} {vs : List (List Bool)} {Q : Nat → Nat → Prop} (h : VsP N vs Q) {a b : Nat} {v : List Bool} (hv : vs[a]? = some v) (hb : b < N) : VsP N (vs.set a (addB v [(b : Int)])) fun x y => Q x y ∨ (x = a ∧ y = b) := by
  have hvl := h.le v (List.mem_of_getElem? hv)
  refine ⟨by rw [List.length_set]; exact h.ln, fun u hu => ?_, fun x u hu y => ?_⟩
  · rcases List.mem_or_eq_of_mem_set hu with hu | rfl
    · exact h.le u hu
    · rw [addB_len]; exact hvl
  · rw [List.getElem?_set] at hu
    split at hu
    · rename_i e
      subst e
      rw [if_pos (List.getElem?_eq_some_iff.1 hv).1] at hu
      cases hu
      rw [addB1 (by omega), h.st _ v hv]
      simp
    · rename_i e
      rw [h.st x u hu]
      constructor
      · exact .inl
      · rintro (h | ⟨h, _⟩)
        · exact h
        · exact absurd h.symm e
theorem stayN_snoc (T : Nat) (nn : List Bool) (row : List Int) (s : Int) : stayN T nn (row ++ [s]) = stayN T nn row + (if stayB T nn s then 1 else 0) := by
  unfold stayN; rw [List.filter_append, List.length_append]
  congr 1
  cases h : stayB T nn s <;> simp [h]
theorem stayN_le (T : Nat) (nn : List Bool) (row : List Int) : stayN T nn row ≤ row.length := List.length_filter_le _ _
theorem ofB_nil {N : Nat} (h : N ≤ 65) : (ofB (N : Int) []).length = N ∧ ∀ k, fnB (ofB (N : Int) []) k = false := by
  have e : ofN (N : Int) = N := by
    unfold ofN
    rw [if_neg (by omega : ¬ (N : Int) < 0), if_neg (by omega)]; simp
  refine ⟨by rw [ofB_len, e], fun k => ?_⟩
  unfold ofB
  rw [fnB_add]; unfold addS
  rw [fnB_rep]; simp
end Go.V
namespace Go.Proofs.YtcapljamcepmkaaDoor
open Go.V
section
variable {w : World} {L : List Asn} {g : GramT} {x : GA}
theorem y_stays {T k20 k23 k24 n c l : Nat} {nn : List Bool} {o o2 : Option Addr} {c2 : Nat} {s : Int} (h24 : rowH (hp w) ⟨k24, 0, none⟩ [.pointer (some ⟨k23, 0, none⟩)]) (h23 : rowH (hp w) ⟨k23, 0, none⟩ [.slice o2 l c2, .int .i64 (T : Int)]) (h20 : rowH (hp w) ⟨k20, 0, none⟩ [.slice o n c]) (hn : rdS (hp w) nn o n) (hs : 0 ≤ s ∧ s < (T : Int) + n) (hT : T ≤ 65) (hN : n ≤ 65) :
    Run Tryd.prog n_cycle_spin_S1 [.int .i64 s, .pointer (some ⟨k24, 0, none⟩), .pointer (some ⟨k20, 0, none⟩)] w fun v w' => v = .bool (stayB T nn s) ∧ hp w' = hp w := by
  refine run_cycle_spin_S1 _ _ _ w _ fun w1 hd => ?_
  have e := hp_drawn hd
  have hnl := hn.1
  have r24 : ∀ w', hp w' = hp w → rowH (hp w') ⟨k24, 0, none⟩ [.pointer (some ⟨k23, 0, none⟩)] := fun w' e => by rw [e]; exact h24
  have r23 : ∀ w', hp w' = hp w → rowH (hp w') ⟨k23, 0, none⟩ [.slice o2 l c2, .int .i64 (T : Int)] := fun w' e => by rw [e]; exact h23
  have r20 : ∀ w', hp w' = hp w → rowH (hp w') ⟨k20, 0, none⟩ [.slice o n c] := fun w' e => by rw [e]; exact h20
  refine ⟨fun w' => hp w' = hp w, e, some ⟨k23, 0, none⟩, fun w' q => (r24 w' q).cell0 (sub.refl _), (T : Int), fun w' q => (r23 w' q).cell (sub.refl _) (j := 1) rfl, br_intro (fun hlt => ?_) fun hlt => ?_⟩
  · have hlt : s < (T : Int) := of_decide_eq_true hlt
    exact ⟨by unfold stayB; simp [hlt], e⟩
  have hlt : ¬ s < (T : Int) := of_decide_eq_false hlt
  have e2 : s - (T : Int) = ((s.toNat - T : Nat) : Int) := by omega
  obtain ⟨b, ad, hb1, hba, hb2⟩ := hn.get1 (i := s.toNat - T) (by omega)
  refine ⟨_, _, _, fun w' q => (r20 w' q).cell0 (sub.refl _), some ⟨k23, 0, none⟩, fun w' q => (r24 w' q).cell0 (sub.refl _), (T : Int), fun w' q => (r23 w' q).cell (sub.refl _) (j := 1) rfl, ⟨by omega, by omega⟩, ?_⟩
  rw [e2]
  refine idx_i hba (by omega) ⟨_, fun w' q => hb2 w' (Gr.of_eq q), ?_, e⟩
  unfold stayB
  rw [fnB_get hb1]
  simp [hlt, Rep1.val]
set_option maxHeartbeats 8000000 in
theorem y_spin (hg : gR (hp w) g x) (hb : okG g) (ht : tabA (hp w)) : Run Tryd.prog n_cycle_spin [.agg ⟨x.cells⟩] w fun v w' =>
    (¬ ClosedP g ∧ v = .tuple #[.pointer none, .int .i64 1] ∧ Gr w w') ∨
    (ClosedP g ∧ ∃ (b : Nat) (o : Option Addr) (c : Nat) (ps : List Nat) (vs : List (List Bool)), v = .tuple #[.pointer (some ⟨b, 0, none⟩), .int .i64 0] ∧ VsP g.N vs (Stp g) ∧ ps.length = g.N ∧
      St w' (cel b [.slice o g.N c, .int .i64 (g.T : Int)] :: own 1 o g.N c (pv (ps.map bk)) :: sta (setsA ps vs) :: all w)) := by
  refine run_cycle_spin _ _ _ _ _ _ _ _ _ _ _ _ _ w _ ?_
  refine gbox hg fun k1 w1 gw hg B => ?_
  have tl : g.T = x.tl := hg.t.1
  have nl : g.N = x.nl := hg.n.1
  have pl := hg.p.1
  have gs : sub (hp w) (hp w1) := gw
  refine ⟨_, _, _, _, _, _, _, _, _, _, _, _, _, B.row (sub.refl _), (g_Closed (x := x) hg hb).mono ?_⟩
  rintro _ w2 ⟨⟨r, rfl, hr⟩, g2⟩
  refine ⟨_, rfl, br_intro (fun hb1 => ?_) fun hb1 => ?_⟩
  · exact .inl ⟨fun h => (by rw [hr.2 h] at hb1; cases hb1), rfl, sub.trans gs g2⟩
  have hcl : ClosedP g := hr.1 (by simpa using hb1)
  have he : EitherP g := .inr hcl
  obtain ⟨iG, bT, bN, pN, pT, bP⟩ := inG he
  refine ⟨_, _, _, _, _, _, _, _, _, _, _, _, _, B.row g2, (f_Nullable1 (x := x) (hg.mono g2) hb (rdV.mono (sub.trans gs g2) ht)).mono ?_⟩
  rintro _ w3 ⟨o9, n9, c9, e9, rfl, g3, hN⟩
  rcases hN with ⟨h1, _⟩ | ⟨_, rfl, rfl, nn, hnn, rnn⟩
  · exact absurd he h1
  refine ⟨_, _, _, _, rfl, newC_i (St.all w3) fun k20 w4 h => st1_i h (by simp) fun w5 h => ?_⟩
  have h : St w5 [cel k20 [.slice o9 g.N c9], has (hp w3)] := h
  have r20 : rowH (hp w5) ⟨k20, 0, none⟩ [.slice o9 g.N c9] := rdCel 0 h.l
  have s35 : sub (hp w3) (hp w5) := rdH 1 h.l
  have rnn := rnn.mono s35
  have s15 : sub (hp w1) (hp w5) := sub.trans g2 (sub.trans g3 s35)
  have gs : sub (hp w) (hp w5) := sub.trans gs s15
  have hg := hg.mono s15
  have B : GB (hp w5) k1 x := ⟨fun s => B.c0 (sub.trans s15 s), fun s => B.c1 (sub.trans s15 s), fun s => B.c2 (sub.trans s15 s), fun s => B.c3 (sub.trans s15 s), fun s => B.c4 (sub.trans s15 s), fun s => B.row (sub.trans s15 s)⟩
  clear h
  have h := St.all w5
  unfold V.all at h
  generalize hH : hp w5 = H at *
  have hnl := hnn.1
  refine br_intro (fun h => by cases h) fun _ => ⟨_, _, _, B.c0 (rdH 0 h.l), newC_i h fun k23 w6 h => newC_i h fun k24 w7 h => st1_i h (by simp) fun w8 h => ?_⟩
  have h : St w8 [cel k24 [.pointer (some ⟨k23, 0, none⟩)], cel k23 [.slice none 0 0, .int .i64 (x.tl : Int)], has H] := h
  rw [← tl] at h
  have h := (own_nil 1 h)
  have h : St w8 (sta (setsA [] (List.replicate 0 (ofB (g.N : Int) []))) :: _) := St.flat.2 (show St w8 ([] ++ _) from h)
  refine ⟨_, _, _, B.c1 (rdH 4 h.l), ?_⟩
  refine ⟨fun n w' => ∃ (j : Nat) (o : Option Addr) (c : Nat) (ps : List Nat), n = j ∧ j ≤ g.N ∧ ps.length = j ∧ St w' [sta (setsA ps (List.replicate j (ofB (g.N : Int) []))), own 1 o j c (pv (ps.map bk)), cel k24 [.pointer (some ⟨k23, 0, none⟩)], cel k23 [.slice o j c, .int .i64 (g.T : Int)], has H], fun n _ => g.N - n.toNat, ⟨0, none, 0, [], rfl, Nat.zero_le _, rfl, h⟩, ?_⟩
  clear h
  rintro _ n4 w9 ⟨j, o, c, ps, rfl, hj, hps, h⟩
  refine br_intro (fun hlt => ?_) fun hlt => ?_
  · have hlt : j < g.N := by have := of_decide_eq_true hlt; omega
    intro w10 hd
    have h := h.drawn hd
    have I : ∀ {w : World}, rowH (hp w) ⟨k24, 0, none⟩ [.pointer (some ⟨k23, 0, none⟩)] → rowH (hp w) ⟨k23, 0, none⟩ [.slice o j c, .int .i64 (g.T : Int)] → sub H (hp w) → rowH (hp w) ⟨k24, 0, none⟩ [.pointer (some ⟨k23, 0, none⟩)] ∧ rowH (hp w) ⟨k23, 0, none⟩ [.slice o j c, .int .i64 (g.T : Int)] ∧ sub H (hp w) := fun a b c => ⟨a, b, c⟩
    refine ⟨fun w => rowH (hp w) ⟨k24, 0, none⟩ [.pointer (some ⟨k23, 0, none⟩)] ∧ rowH (hp w) ⟨k23, 0, none⟩ [.slice o j c, .int .i64 (g.T : Int)] ∧ sub H (hp w), I (rdCel 2 h.l) (rdCel 3 h.l) (rdH 4 h.l), some ⟨k23, 0, none⟩, fun w q => q.1.cell0 (sub.refl _), some ⟨k23, 0, none⟩, fun w q => q.1.cell0 (sub.refl _), _, _, _, fun w q => q.2.1.cell0 (sub.refl _), _, _, _, fun w q => B.c1 q.2.2, ?_⟩
    rw [← nl]
    refine (s_Of (xs := []) (l := 0) (a := none) (g.N : Int) rdS.nil (by omega)).mono ?_
    rintro _ w15 ⟨px, rfl, h1⟩
    have h := h1.on1 h
    refine ⟨_, rfl, I (rdCel 3 h.l) (rdCel 4 h.l) (rdH 5 h.l), newC_i h fun k31 w16 h => ⟨I (rdCel 4 h.l) (rdCel 5 h.l) (rdH 6 h.l), ?_⟩⟩
    refine (app_one tyOk (rfl : kdOfT Ty _ = .slice _) (rfl : kdOfT Ty _ = .slice _) rfl rfl rfl (h.pick 7 [0, 3, 1, 2, 4, 5, 6]) rfl (by simp [oneC]) (by show (j + 1) * 8 ≤ _; omega) (by omega)).mono ?_
    rintro _ w17 ⟨o', c', rfl, h⟩
    refine ⟨_, _, _, rfl, I (rdCel 4 h.l) (rdCel 5 h.l) (rdH 6 h.l), ?_⟩
    refine st1_i (h.pick 7 [5, 0, 2, 3, 4, 6]) (by simp) fun w18 h => ?_
    have h := St.snoc (A := setO (bk px) (ofB (g.N : Int) [])) (M := setsA ps (List.replicate j (ofB (g.N : Int) []))) (h.pick 6 [2, 3, 0, 1, 4, 5])
    have e1 : setsA ps (List.replicate j (ofB (g.N : Int) [])) ++ [setO (bk px) (ofB (g.N : Int) [])] = setsA (ps ++ [px]) (List.replicate (j + 1) (ofB (g.N : Int) [])) := by
      unfold setsA; rw [List.replicate_succ', List.zipWith_append (by simp [hps])]; rfl
    have e2 : pv (ps.map bk) ++ [Value.pointer (bk px)] = pv ((ps ++ [px]).map bk) := by simp [pv]
    rw [e1] at h
    refine ⟨⟨by omega, by omega⟩, ⟨j + 1, o', c', ps ++ [px], by simp, by omega, by simp [hps], ?_⟩, msr hlt⟩
    rw [← e2]
    exact h.pick 5 [0, 2, 3, 1, 4]
  have hlt : j = g.N := by have := of_decide_eq_false hlt; omega
  rw [hlt] at h hps
  clear hj hlt
  have V0 : VsP g.N (List.replicate g.N (ofB (g.N : Int) [])) fun a b => ∃ q ∈ g.prods.take 0, StpOf g nn q a b := by
    obtain ⟨q1, q2⟩ := ofB_nil bN
    refine ⟨by simp, fun v hv => by rw [(List.mem_replicate.1 hv).2]; exact q1, fun a v hv b => ?_⟩
    rw [List.getElem?_replicate] at hv
    split at hv
    · cases hv; rw [q2]; simp
    · cases hv
  refine ⟨_, _, _, B.c4 (rdH 4 h.l), ?_⟩
  refine ⟨fun n w' => ∃ (j : Nat) (vs : List (List Bool)), n = j ∧ j ≤ g.prods.length ∧ VsP g.N vs (fun a b => ∃ q ∈ g.prods.take j, StpOf g nn q a b) ∧ St w' [sta (setsA ps vs), own 1 o g.N c (pv (ps.map bk)), cel k24 [.pointer (some ⟨k23, 0, none⟩)], cel k23 [.slice o g.N c, .int .i64 (g.T : Int)], has H], fun n _ => g.prods.length - n.toNat, ⟨0, _, rfl, Nat.zero_le _, V0, h⟩, ?_⟩
  clear h V0
  rintro _ n5 w19 ⟨j, vs, rfl, hj, hV, h⟩
  refine br_intro (fun hlt => ?_) fun hlt => ?_
  rotate_left
  · have hlt : j = g.prods.length := by have := of_decide_eq_false hlt; omega
    subst hlt
    rw [List.take_length] at hV
    refine ⟨_, (rdCel 2 h.l).cell0 (sub.refl _), .inr ⟨hcl, k23, o, c, ps, vs, rfl, hV.congr fun a b _ => (stp_iff hnn).symm, hps, ?_⟩⟩
    exact St.on (N := [_, _, _]) (h.pick 5 [3, 1, 0, 4]) (has_i gs)
  have hlt : j < g.prods.length := by have := of_decide_eq_true hlt; omega
  obtain ⟨p, ad, pvs, hp1, hpa, hp2, ra, rl, rc, rfl, hrc, hp3⟩ := hg.p.get (i := j) (by omega)
  have hpm := List.mem_of_getElem? hp1
  obtain ⟨hpl, hpr⟩ := iG p hpm
  have rl1 := hp3.1
  have b7' := hb.2.2.2.2.2.2 p hpm
  have et : g.prods.take (j + 1) = g.prods.take j ++ [p] := by rw [List.take_add_one, hp1]; rfl
  refine idx_n hpa (by omega) ⟨_, _, _, _, _, hp2.at (rdH 4 h.l) rfl, newC_i h fun k38 w20 h => stR_i h rfl (by simp [oneC]) fun w21 h => ?_⟩
  have h : St w21 [cel k38 [.int .i64 p.left, .slice ra rl rc, .int .i64 p.level], sta (setsA ps vs), own 1 o g.N c (pv (ps.map bk)), cel k24 [.pointer (some ⟨k23, 0, none⟩)], cel k23 [.slice o g.N c, .int .i64 (g.T : Int)], has H] := h
  refine ⟨_, _, _, (rdCel 0 h.l).cell (sub.refl _) (j := 1) rfl, ?_⟩
  have yst : ∀ {w' : World} {vs' : List (List Bool)} {s : Int}, s ∈ p.right → St w' [cel k38 [.int .i64 p.left, .slice ra rl rc, .int .i64 p.level], sta (setsA ps vs'), own 1 o g.N c (pv (ps.map bk)), cel k24 [.pointer (some ⟨k23, 0, none⟩)], cel k23 [.slice o g.N c, .int .i64 (g.T : Int)], has H] → Run Tryd.prog n_cycle_spin_S1 [.int .i64 s, .pointer (some ⟨k24, 0, none⟩), .pointer (some ⟨k20, 0, none⟩)] w' fun v w'' => v = .bool (stayB g.T nn s) ∧ hp w'' = hp w' := fun {w' vs' s} hs h =>
    y_stays (rdCel 3 h.l) (rdCel 4 h.l) (r20.mono (rdH 5 h.l)) (rnn.mono (rdH 5 h.l)) (hpr s hs) bT bN
  refine ⟨fun n m w' => ∃ i : Nat, n = (stayN g.T nn (p.right.take i) : Int) ∧ m = i ∧ i ≤ rl ∧ St w' [cel k38 [.int .i64 p.left, .slice ra rl rc, .int .i64 p.level], sta (setsA ps vs), own 1 o g.N c (pv (ps.map bk)), cel k24 [.pointer (some ⟨k23, 0, none⟩)], cel k23 [.slice o g.N c, .int .i64 (g.T : Int)], has H], fun _ m _ => rl - m.toNat, ⟨0, by simp [stayN], rfl, Nat.zero_le _, h⟩, ?_⟩
  clear h
  rintro _ n8 n9 w22 ⟨i, rfl, rfl, hi, h⟩
  refine br_intro (fun hlt2 => ?_) fun hlt2 => ?_
  · have hlt2 : i < rl := by have := of_decide_eq_true hlt2; omega
    obtain ⟨s, sad, hs1, hsa, hs2⟩ := hp3.get1 hlt2
    have hsm := List.mem_of_getElem? hs1
    have ets : p.right.take (i + 1) = p.right.take i ++ [s] := by rw [List.take_add_one, hs1]; rfl
    have hle := stayN_le g.T nn (p.right.take i)
    rw [List.length_take] at hle
    refine idx_i hsa hlt2 ⟨_, hs2 _ (rdH 5 h.l), (yst hsm h).mono ?_⟩
    rintro _ w23 ⟨rfl, e23⟩
    have h := h.eq e23
    refine ⟨_, rfl, br_intro (fun hb2 => ?_) fun hb2 => ?_⟩
    · exact ⟨⟨by omega, by omega⟩, ⟨by omega, by omega⟩, ⟨i + 1, by rw [ets, stayN_snoc, if_pos hb2]; simp, by simp, by omega, h⟩, msr hlt2⟩
    · exact ⟨⟨by omega, by omega⟩, ⟨i + 1, by rw [ets, stayN_snoc, if_neg (by rw [hb2]; simp)]; simp, by simp, by omega, h⟩, msr hlt2⟩
  have hlt2 : i = rl := by have := of_decide_eq_false hlt2; omega
  subst hlt2
  rw [List.take_of_length_le (by omega)]
  have hleA := stayN_le g.T nn p.right
  refine ⟨_, _, _, (rdCel 0 h.l).cell (sub.refl _) (j := 1) rfl, ?_⟩
  obtain ⟨a, ha⟩ : ∃ a : Nat, p.left = ((g.T + a : Nat) : Int) := ⟨p.left.toNat - g.T, by omega⟩
  have haN : a < g.N := by omega
  obtain ⟨px, hpx⟩ : ∃ px, ps[a]? = some px := ⟨ps[a]'(by omega), List.getElem?_eq_getElem _⟩
  have V1 : VsP g.N vs (fun a b => (∃ q ∈ g.prods.take j, StpOf g nn q a b) ∨ StpI g nn p 0 a b) := hV.congr fun a b _ => by simp [StpI]
  refine ⟨fun n w' => ∃ (m : Nat) (vs : List (List Bool)), n = m ∧ m ≤ i ∧ VsP g.N vs (fun a b => (∃ q ∈ g.prods.take j, StpOf g nn q a b) ∨ StpI g nn p m a b) ∧ St w' [cel k38 [.int .i64 p.left, .slice ra i rc, .int .i64 p.level], sta (setsA ps vs), own 1 o g.N c (pv (ps.map bk)), cel k24 [.pointer (some ⟨k23, 0, none⟩)], cel k23 [.slice o g.N c, .int .i64 (g.T : Int)], has H], fun n _ => i - n.toNat, ⟨0, vs, rfl, Nat.zero_le _, V1, h⟩, ?_⟩
  clear h V1
  rintro _ n11 w24 ⟨m, vs1, rfl, hm, hV1, h⟩
  refine br_intro (fun hlt3 => ?_) fun hlt3 => ?_
  rotate_left
  · have hlt3 : m = i := by have := of_decide_eq_false hlt3; omega
    subst hlt3
    refine ⟨⟨by omega, by omega⟩, ⟨j + 1, vs1, by simp, by omega, hV1.congr fun a b _ => ?_, h.pick 6 [1, 2, 3, 4, 5]⟩, msr hlt⟩
    rw [et]
    unfold StpI StpOf
    have ep : p.right.take m = p.right := List.take_of_length_le (by omega)
    rw [ep]
    constructor
    · rintro (⟨q, hq, hh⟩ | hh)
      · exact ⟨q, List.mem_append_left _ hq, hh⟩
      · exact ⟨p, by simp, hh⟩
    · rintro ⟨q, hq, hh⟩
      rcases List.mem_append.1 hq with hq | hq
      · exact .inl ⟨q, hq, hh⟩
      · rw [List.mem_singleton] at hq; subst hq; exact .inr hh
  have hlt3 : m < i := by have := of_decide_eq_true hlt3; omega
  obtain ⟨s, sad, hs1, hsa, hs2⟩ := hp3.get1 hlt3
  have hsm := List.mem_of_getElem? hs1
  have hsr := hpr s hsm
  have ets : p.right.take (m + 1) = p.right.take m ++ [s] := by rw [List.take_add_one, hs1]; rfl
  have nx : ∀ {w' : World} {vs' : List (List Bool)}, VsP g.N vs' (fun a b => (∃ q ∈ g.prods.take j, StpOf g nn q a b) ∨ StpI g nn p (m + 1) a b) → St w' [cel k38 [.int .i64 p.left, .slice ra i rc, .int .i64 p.level], sta (setsA ps vs'), own 1 o g.N c (pv (ps.map bk)), cel k24 [.pointer (some ⟨k23, 0, none⟩)], cel k23 [.slice o g.N c, .int .i64 (g.T : Int)], has H] →
      inI ((m : Int) + 1) ∧ (∃ (m' : Nat) (vs : List (List Bool)), (m : Int) + 1 = m' ∧ m' ≤ i ∧ VsP g.N vs (fun a b => (∃ q ∈ g.prods.take j, StpOf g nn q a b) ∨ StpI g nn p m' a b) ∧ St w' [cel k38 [.int .i64 p.left, .slice ra i rc, .int .i64 p.level], sta (setsA ps vs), own 1 o g.N c (pv (ps.map bk)), cel k24 [.pointer (some ⟨k23, 0, none⟩)], cel k23 [.slice o g.N c, .int .i64 (g.T : Int)], has H]) ∧ i - ((m : Int) + 1).toNat < i - (m : Int).toNat :=
    fun {w' vs'} hv h' => ⟨⟨by omega, by omega⟩, ⟨m + 1, vs', by simp, by omega, hv, h'⟩, msr hlt3⟩
  refine idx_i hsa hlt3 ⟨_, hs2 _ (rdH 5 h.l), ?_⟩
  obtain ⟨P, hP⟩ : ∃ P : Prop, P = ((g.T : Int) ≤ s ∧ CondP g nn p (s.toNat - g.T)) := ⟨_, rfl⟩
  refine ⟨fun b w' => (b = true ↔ P) ∧ St w' [cel k38 [.int .i64 p.left, .slice ra i rc, .int .i64 p.level], sta (setsA ps vs1), own 1 o g.N c (pv (ps.map bk)), cel k24 [.pointer (some ⟨k23, 0, none⟩)], cel k23 [.slice o g.N c, .int .i64 (g.T : Int)], has H], ?_, ?_⟩
  · refine ⟨some ⟨k23, 0, none⟩, (rdCel 3 h.l).cell0 (sub.refl _), (g.T : Int), (rdCel 4 h.l).cell (sub.refl _) (j := 1) rfl, br_intro (fun h1 => ?_) fun h1 => ⟨?_, h⟩⟩
    rotate_left
    · have h1 : ¬ (g.T : Int) ≤ s := of_decide_eq_false h1
      rw [hP]; simp [h1]
    have h1 : (g.T : Int) ≤ s := of_decide_eq_true h1
    have esb : ((g.T + (s.toNat - g.T) : Nat) : Int) = s := by omega
    refine br_intro (fun h2 => ⟨?_, h⟩) fun h2 => br_intro (fun h3 => (yst hsm h).mono ?_) fun h3 => ⟨?_, h⟩
    · have h2 : stayN g.T nn p.right = 0 := by have e : (stayN g.T nn p.right : Int) = 0 := (by simpa using h2); omega
      rw [hP]; exact ⟨fun _ => ⟨h1, .inl h2⟩, fun _ => rfl⟩
    · rintro _ w25 ⟨rfl, e25⟩
      have h2 : stayN g.T nn p.right ≠ 0 := fun e => by rw [e] at h2; simp at h2
      have h3 : stayN g.T nn p.right = 1 := by have e : (stayN g.T nn p.right : Int) = 1 := (by simpa using h3); omega
      refine ⟨_, rfl, ?_, h.eq e25⟩
      rw [hP]; unfold CondP; rw [esb]
      exact ⟨fun hh => ⟨h1, .inr ⟨h3, hh⟩⟩, fun hh => hh.2.elim (fun e => absurd e h2) fun e => e.2⟩
    · have h2 : stayN g.T nn p.right ≠ 0 := fun e => by rw [e] at h2; simp at h2
      have h3 : stayN g.T nn p.right ≠ 1 := fun e => by rw [e] at h3; simp at h3
      rw [hP]
      exact ⟨fun h => (by cases h), fun hh => hh.2.elim (fun e => absurd e h2) fun e => absurd e.1 h3⟩
  clear h
  rintro _ b4 w26 ⟨hbP, h⟩
  refine br_intro (fun hb4 => ?_) fun hb4 => ?_
  rotate_left
  · refine nx (hV1.congr fun a' b _ => or_congr_right ?_) h
    unfold StpI
    rw [ets]
    refine and_congr_right fun _ => ⟨fun hh => ⟨List.mem_append_left _ hh.1, hh.2⟩, fun hh => ⟨?_, hh.2⟩⟩
    rcases List.mem_append.1 hh.1 with h1 | h1
    · exact h1
    · rw [List.mem_singleton] at h1
      have : P := by rw [hP]; exact ⟨by omega, by rw [← h1]; rw [show ((g.T + b : Nat) : Int).toNat - g.T = b from by omega]; exact hh.2⟩
      rw [hbP.2 this] at hb4; cases hb4
  have hPt : (g.T : Int) ≤ s ∧ CondP g nn p (s.toNat - g.T) := hP ▸ hbP.1 hb4
  obtain ⟨b0, hb0⟩ : ∃ b0, b0 = s.toNat - g.T := ⟨_, rfl⟩
  have esb : s = ((g.T + b0 : Nat) : Int) := by omega
  have hb0N : b0 < g.N := by omega
  rw [← hb0] at hPt
  intro w27 hd
  have h := h.drawn hd
  have I : ∀ {w : World}, rowH (hp w) ⟨k38, 0, none⟩ [.int .i64 p.left, .slice ra i rc, .int .i64 p.level] → rowH (hp w) ⟨k24, 0, none⟩ [.pointer (some ⟨k23, 0, none⟩)] → rowH (hp w) ⟨k23, 0, none⟩ [.slice o g.N c, .int .i64 (g.T : Int)] → rdS (hp w) (ps.map bk) o g.N → rowH (hp w) ⟨k38, 0, none⟩ [.int .i64 p.left, .slice ra i rc, .int .i64 p.level] ∧ rowH (hp w) ⟨k24, 0, none⟩ [.pointer (some ⟨k23, 0, none⟩)] ∧ rowH (hp w) ⟨k23, 0, none⟩ [.slice o g.N c, .int .i64 (g.T : Int)] ∧ rdS (hp w) (ps.map bk) o g.N := fun a b c d => ⟨a, b, c, d⟩
  have hpsl : (ps.map bk).length = g.N := by simp [hps]
  have hpk : (ps.map bk)[a]? = some (bk px) := by rw [List.getElem?_map, hpx]; rfl
  have i7 := I (rdCel 0 h.l) (rdCel 3 h.l) (rdCel 4 h.l) (rdPt 2 h.l rfl rfl hpsl)
  obtain ⟨oad, hoa, _⟩ := i7.2.2.2.at hpk
  have ea : p.left - (g.T : Int) = (a : Int) := by omega
  have eb : s - (g.T : Int) = (b0 : Int) := by omega
  obtain ⟨v, hv⟩ : ∃ v, vs1[a]? = some v := ⟨vs1[a]'(by rw [hV1.ln]; exact haN), List.getElem?_eq_getElem _⟩
  refine ⟨fun w => rowH (hp w) ⟨k38, 0, none⟩ [.int .i64 p.left, .slice ra i rc, .int .i64 p.level] ∧ rowH (hp w) ⟨k24, 0, none⟩ [.pointer (some ⟨k23, 0, none⟩)] ∧ rowH (hp w) ⟨k23, 0, none⟩ [.slice o g.N c, .int .i64 (g.T : Int)] ∧ rdS (hp w) (ps.map bk) o g.N, i7, some ⟨k23, 0, none⟩, fun w q => q.2.1.cell0 (sub.refl _), _, _, _, fun w q => q.2.2.1.cell0 (sub.refl _), p.left, fun w q => q.1.cell0 (sub.refl _), some ⟨k23, 0, none⟩, fun w q => q.2.1.cell0 (sub.refl _), (g.T : Int), fun w q => q.2.2.1.cell (sub.refl _) (j := 1) rfl, ⟨by omega, by omega⟩, ?_⟩
  rw [ea]
  refine idx_i hoa haN ⟨bk px, fun w q => q.2.2.2.atv hoa hpk, some ⟨k23, 0, none⟩, fun w q => q.2.1.cell0 (sub.refl _), (g.T : Int), fun w q => q.2.2.1.cell (sub.refl _) (j := 1) rfl, ⟨by omega, by omega⟩, ?_⟩
  rw [eb]
  have gS : (setsA ps vs1)[a]? = some (setO (bk px) v) := by unfold setsA; rw [List.getElem?_zipWith, hpx, hv]
  refine newC_i h fun k45 w36 h => ⟨I (rdCel 1 h.l) (rdCel 4 h.l) (rdCel 5 h.l) (rdPt 3 h.l rfl rfl hpsl), ?_⟩
  refine (s_Add (xs := [(b0 : Int)]) (l := 1) (St.out (h.pick 7 [2, 0, 1, 3, 4, 5, 6]) gS) (fun h hh => rdI_of rfl (.inr ⟨_, rfl, rdCel 1 hh⟩)) (by omega)).mono ?_
  rintro _ w37 ⟨rfl, h⟩
  have h := St.back h gS
  have eS : (setsA ps vs1).set a (setO (bk px) (addB v [(b0 : Int)])) = setsA ps (vs1.set a (addB v [(b0 : Int)])) := zip_set (fun p v => setO (bk p) v) hpx
  rw [eS] at h
  refine ⟨_, rfl, nx ((hV1.add hv hb0N).congr fun a' b _ => ?_) (h.pick 7 [2, 0, 3, 4, 5, 6])⟩
  rw [or_assoc]
  refine or_congr_right ?_
  unfold StpI
  rw [ets]
  constructor
  · rintro (hh | ⟨rfl, rfl⟩)
    · exact ⟨hh.1, List.mem_append_left _ hh.2.1, hh.2.2⟩
    · exact ⟨ha, by rw [esb]; simp, hPt.2⟩
  · rintro ⟨h1, h2, h3⟩
    rcases List.mem_append.1 h2 with h2 | h2
    · exact .inl ⟨h1, h2, h3⟩
    · rw [List.mem_singleton, esb] at h2
      exact .inr ⟨by omega, by omega⟩
end
end Go.Proofs.YtcapljamcepmkaaDoor
set_option linter.unusedVariables false
namespace Go.V
structure WebR (h : Hp) (b T N : Nat) (os : List (Option Addr)) (vs : List (List Bool)) : Prop where
  row : ∃ o c, rowH h ⟨b, 0, none⟩ [.slice o N c, .int .i64 (T : Int)] ∧ rdS h os o N
  lv : vs.length = N
  set : ∀ (i : Nat) o v, os[i]? = some o → vs[i]? = some v → setR h o v
theorem WebR.mono {h h' : Hp} {b T N : Nat} {os : List (Option Addr)} {vs : List (List Bool)} (s : sub h h') (r : WebR h b T N os vs) : WebR h' b T N os vs := by
  obtain ⟨⟨o, c, r1, r2⟩, r3, r4⟩ := r
  exact ⟨⟨o, c, r1.mono s, r2.mono s⟩, r3, fun i o v h1 h2 => (r4 i o v h1 h2).mono s⟩
theorem web_of {w : World} {L : List Asn} {b T N c : Nat} {o : Option Addr} {ps : List Nat} {vs : List (List Bool)} (h : St w (cel b [.slice o N c, .int .i64 (T : Int)] :: own 1 o N c (pv (ps.map bk)) :: sta (setsA ps vs) :: L)) (hps : ps.length = N) (hv : vs.length = N) : WebR (hp w) b T N (ps.map bk) vs := by
  refine ⟨⟨o, c, rdCel 0 h.l, rdPt 1 h.l rfl rfl (by simp [hps])⟩, hv, fun i o v h1 h2 => ?_⟩
  rw [List.getElem?_map] at h1
  cases hp' : ps[i]? with
  | none => rw [hp'] at h1; cases h1
  | some p =>
    rw [hp'] at h1; cases h1
    obtain ⟨g1, s1, ha⟩ := sta_nth (h.pick 3 [2]) (A := setO (bk p) v) (List.mem_of_getElem? (i := i) (by unfold setsA; rw [List.getElem?_zipWith, hp', h2]))
    exact (setO_R ha).mono s1
def Rel (vs : List (List Bool)) (a b : Nat) : Prop := fnB (vs.getD a []) b = true
def ivn0 (l : List Nat) : List Int := l.map fun (k : Nat) => (k : Int)
theorem ivn0_get {l : List Nat} {i k : Nat} (h : l[i]? = some k) : (ivn0 l)[i]? = some (k : Int) := by unfold ivn0; rw [List.getElem?_map, h]; rfl
theorem ivn0_len (l : List Nat) : (ivn0 l).length = l.length := by simp [ivn0]
theorem iv_ivn0 (l : List Nat) : iv (ivn0 l) = ivn l := by rw [ivn_iv]; rfl
theorem ivn_set (l : List Nat) (i k : Nat) : (ivn l).set i (.int .i64 (k : Int)) = ivn (l.set i k) := by simp [ivn, List.map_set]
theorem ivn_rep (n : Nat) : List.replicate n (Value.int .i64 0) = ivn (List.replicate n 0) := by simp [ivn]
structure WvI (N n : Nat) (new : Nat → Bool) (far0 : List Nat) (i : Nat) (far : List Nat) : Prop where
  ln : far.length = N
  at_ : ∀ j, j < N → far.getD j 0 = if j < i ∧ new j = true then n else far0.getD j 0
theorem WvI.skip {N n i : Nat} {new : Nat → Bool} {far0 far : List Nat} (h : WvI N n new far0 i far) (hn : new i = false) : WvI N n new far0 (i + 1) far :=
  ⟨h.ln, fun j hj => by
    rw [h.at_ j hj]
    by_cases e : j = i
    · subst e; simp [hn]
    · have : (j < i ∧ new j = true) ↔ (j < i + 1 ∧ new j = true) := by constructor <;> (rintro ⟨h1, h2⟩; exact ⟨by omega, h2⟩)
      simp only [this]⟩
theorem WvI.hit {N n i : Nat} {new : Nat → Bool} {far0 far : List Nat} (h : WvI N n new far0 i far) (hi : i < N) (hn : new i = true) : WvI N n new far0 (i + 1) (far.set i n) := by
  have hl := h.ln
  refine ⟨by rw [List.length_set]; exact hl, fun j hj => ?_⟩
  rw [List.getD_eq_getElem?_getD, List.getElem?_set]
  by_cases e : i = j
  · subst e; simp [hn, hl, hi]
  · rw [if_neg e, ← List.getD_eq_getElem?_getD, h.at_ j hj]
    have : (j < i ∧ new j = true) ↔ (j < i + 1 ∧ new j = true) := by constructor <;> (rintro ⟨h1, h2⟩; exact ⟨by omega, h2⟩)
    simp only [this]
end Go.V
namespace Go.Proofs.YtcapljamcepmkaaDoor
open Go.V
section
variable {w : World} {L : List Asn} {b T N to : Nat} {os : List (Option Addr)} {vs : List (List Bool)}
set_option maxHeartbeats 4000000 in
theorem y_waves (hw : WebR (hp w) b T N os vs) (hN : N ≤ 65) (hR : ∀ a k, Rel vs a k → k < N) (hto : to < N) : Run Tryd.prog n_cycle_web_waves [.pointer (some ⟨b, 0, none⟩), .int .i64 (to : Int)] w fun v w' => ∃ (k : Nat) (far : List Nat), v = .slice (some ⟨k, 0, none⟩) N N ∧ FarF (Rel vs) N to far ∧ (∀ i, far.getD i 0 ≤ N + 2) ∧ St w' (cel k (ivn far) :: all w) := by
  refine run_cycle_web_waves _ _ w _ ?_
  obtain ⟨⟨o, c, r1, r2⟩, r3, r4⟩ := hw
  have hos := r2.1
  refine ⟨_, _, _, r1.cell0 (sub.refl _), ⟨by omega, rfl, by omega⟩, ?_⟩
  rw [Int.toNat_natCast, reps_one, ivn_rep]
  refine newC_i (St.all w) fun k3 w1 h => newC_i h fun k4 w2 h => ?_
  have h : St w2 (cel k4 (ivn [to]) :: cel k3 (ivn (List.replicate N 0)) :: all w) := h
  have h : St w2 (own 1 (some ⟨k4, 0, none⟩) 1 1 (ivn [to]) :: _) := own_some (cs := []) (by simpa using h) rfl rfl (Nat.le_refl _)
  obtain ⟨Q, hQ⟩ := name_it (fun (o : Option Addr) (l c : Nat) (z : Int) (w' : World) (m : Nat) => ∃ (n : Nat) (cur far : List Nat), z = n ∧ l = cur.length ∧ cur.length ≤ N + 1 ∧ Bfs (Rel vs) N to n cur far ∧ m = zer far + (if cur = [] then 0 else 1) ∧ zer far + n ≤ N + 1 + (if cur = [] then 1 else 0) ∧ (∀ k ∈ cur, k < N) ∧ St w' [own 1 o l c (ivn cur), cel k3 (ivn far), has (hp w)])
  obtain ⟨μ, mu1, mu2⟩ := least_fn (fun (y : Option Addr × Nat × Nat × Int × World) m => Q y.1 y.2.1 y.2.2.1 y.2.2.2.1 y.2.2.2.2 m)
  have hzr : zer (List.replicate N 0) = N := by unfold zer; rw [List.filter_eq_self.2 (by simp)]; simp
  refine ⟨fun o l c z w' => ∃ m, Q o l c z w' m, fun o l c z w => μ (o, l, c, z, w), ⟨N + 1, ?_⟩, ?_⟩
  · rw [hQ]
    exact ⟨1, [to], _, rfl, rfl, by simp, bfs_init, by rw [hzr]; simp, by rw [hzr]; simp, by simpa using hto, h⟩
  clear h
  intro _ o2 l2 c2 z2 w3 hP
  have hP := mu2 (o2, l2, c2, z2, w3) hP
  dsimp only at hP
  generalize hμ : μ (o2, l2, c2, z2, w3) = μ0 at *
  rw [hQ] at hP
  obtain ⟨n, cur, far, rfl, rfl, hcl, hB, hm, hnz, hcN, h⟩ := hP
  refine br_intro (fun hlt => ?_) fun hlt => ?_
  rotate_left
  · have hc0 : cur = [] := List.eq_nil_of_length_eq_zero (by have := of_decide_eq_false hlt; omega)
    subst hc0
    refine ⟨k3, far, rfl, hB.done hR, fun i => ?_, St.on1 (A := cel k3 (ivn far)) (h.pick 3 [1, 2]) (has_i (sub.refl _))⟩
    rw [if_pos rfl] at hnz
    by_cases hi : i < far.length
    · by_cases h0 : far.getD i 0 = 0
      · omega
      · have := (hB.p i _ (getD_some hi) (by omega)).1
        omega
    · rw [List.getD_eq_getElem?_getD, List.getElem?_eq_none (by omega)]; exact Nat.zero_le _
  have hc0 : cur ≠ [] := fun e => by rw [e] at hlt; simp at hlt
  rw [if_neg hc0] at hm hnz
  have hlF := hB.ln
  obtain ⟨new, hnew⟩ : ∃ new : Nat → Bool, new = fun i => decide (far.getD i 0 = 0) && cur.any fun k => fnB (vs.getD i []) k := ⟨_, rfl⟩
  have rW : ∀ {w' : World}, sub (hp w) (hp w') → rowH (hp w') ⟨b, 0, none⟩ [.slice o N c, .int .i64 (T : Int)] := fun s => r1.mono s
  refine ⟨_, _, _, (rW (rdH 2 h.l)).cell0 (sub.refl _), ?_⟩
  refine ⟨fun o4 l4 c4 z w' => ∃ (i : Nat) (far' nxt : List Nat), z = i ∧ i ≤ N ∧ nxt = (List.range i).filter new ∧ l4 = nxt.length ∧ WvI N n new far i far' ∧ St w' [own 1 o2 cur.length c2 (ivn cur), own 1 o4 l4 c4 (ivn nxt), cel k3 (ivn far'), has (hp w)], fun _ _ _ z _ => N - z.toNat, ⟨0, far, [], rfl, Nat.zero_le _, rfl, rfl, ⟨hlF, fun j _ => by simp⟩, (own_nil 1 h).swap⟩, ?_⟩
  clear h
  rintro _ o4 l4 c4 z w4 ⟨i, far', nxt, rfl, hi, hnx, rfl, hW, h⟩
  have hnl : nxt.length ≤ i := by rw [hnx]; have := List.length_filter_le new (List.range i); simpa using this
  refine br_intro (fun hlt2 => ?_) fun hlt2 => ?_
  rotate_left
  · have hlt2 : i = N := by have := of_decide_eq_false hlt2; omega
    have h4 := h
    subst hlt2
    have hnp : ∀ j, new j = true ↔ far.getD j 0 = 0 ∧ ∃ k ∈ cur, Rel vs j k := fun j => by
      rw [hnew]; simp [Rel]
    have hB' := hB.next hR hW.ln (fun j => new j = true) (fun j _ => hnp j) (fun j hj hn => by rw [hW.at_ j hj, if_pos ⟨hj, hn⟩]) (fun j hj hn => by rw [hW.at_ j hj, if_neg (fun h => hn h.2)]) (cur' := nxt) (fun k => by rw [hnx]; simp)
    obtain ⟨z1, z2⟩ := zer_le (far := far) (far' := far') (by rw [hW.ln, hlF]) fun j hj h0 => by
      rw [hW.at_ j (by omega)] at h0
      split at h0
      · have := hB.one; omega
      · exact h0
    have key : Q o4 nxt.length c4 (((n + 1 : Nat) : Int)) w4 (zer far' + (if nxt = [] then 0 else 1)) := by
      rw [hQ]
      refine ⟨n + 1, nxt, far', rfl, rfl, by omega, hB', rfl, ?_, fun k hk => by rw [hnx] at hk; simp at hk; exact hk.1, h4.pick 4 [1, 2, 3]⟩
      by_cases e : nxt = []
      · rw [if_pos e]; omega
      · rw [if_neg e]
        obtain ⟨k, hk⟩ := List.exists_mem_of_ne_nil _ e
        have hk' : k < i ∧ new k = true := by rw [hnx] at hk; simpa using hk
        have := z2 k (by omega) ((hnp k).1 hk'.2).1 (by rw [hW.at_ k hk'.1, if_pos hk']; have := hB.one; omega)
        omega
    have e1 : (n : Int) + 1 = ((n + 1 : Nat) : Int) := by simp
    rw [e1]
    refine ⟨⟨by omega, by omega⟩, ⟨_, key⟩, ?_⟩
    have := mu1 (o4, nxt.length, c4, ((n + 1 : Nat) : Int), w4) _ key
    dsimp only at this ⊢
    rw [hμ]
    refine Nat.lt_of_le_of_lt this ?_
    rw [hm]
    by_cases e : nxt = []
    · rw [if_pos e]; omega
    · rw [if_neg e]
      obtain ⟨k, hk⟩ := List.exists_mem_of_ne_nil _ e
      have hk' : k < i ∧ new k = true := by rw [hnx] at hk; simpa using hk
      have := z2 k (by omega) ((hnp k).1 hk'.2).1 (by rw [hW.at_ k hk'.1, if_pos hk']; have := hB.one; omega)
      omega
  have hlt2 : i < N := by have := of_decide_eq_true hlt2; omega
  have er : List.range (i + 1) = List.range i ++ [i] := List.range_succ
  have hWl := hW.ln
  have hfi : far'.getD i 0 = far.getD i 0 := by rw [hW.at_ i hlt2, if_neg (by omega)]
  obtain ⟨v, hv⟩ : ∃ v, vs[i]? = some v := ⟨vs[i]'(by omega), List.getElem?_eq_getElem _⟩
  obtain ⟨oi, hoi⟩ : ∃ oi, os[i]? = some oi := ⟨os[i]'(by omega), List.getElem?_eq_getElem _⟩
  have hvd : vs.getD i [] = v := by rw [List.getD_eq_getElem?_getD, hv]; rfl
  refine ⟨fun o5 l5 c5 z w' => ∃ m : Nat, z = m ∧ m ≤ cur.length ∧ l5 = nxt.length ∧ (far.getD i 0 = 0 → ∀ k ∈ cur.take m, fnB v k = false) ∧ St w' [own 1 o2 cur.length c2 (ivn cur), own 1 o5 l5 c5 (ivn nxt), cel k3 (ivn far'), has (hp w)], fun _ _ _ z _ => cur.length - z.toNat, ⟨0, rfl, Nat.zero_le _, rfl, fun _ k hk => by simp at hk, h⟩, ?_⟩
  clear h
  rintro _ o5 l5 c5 z w5 ⟨m, rfl, hmc, rfl, hno, h⟩
  refine br_intro (fun hlt3 => ?_) fun hlt3 => ?_
  rotate_left
  · have hlt3 : m = cur.length := by have := of_decide_eq_false hlt3; omega
    subst hlt3
    rw [List.take_length] at hno
    have hn0 : new i = false := by
      rw [hnew]
      show (decide (far.getD i 0 = 0) && cur.any fun k => fnB (vs.getD i []) k) = false
      rw [hvd]
      cases hz : decide (far.getD i 0 = 0)
      · rfl
      · have := hno (of_decide_eq_true hz)
        rw [Bool.true_and, List.any_eq_false]
        intro k hk; rw [this k hk]; simp
    exact ⟨⟨by omega, by omega⟩, ⟨i + 1, far', nxt, by simp, by omega, by rw [er, List.filter_append, List.filter_cons_of_neg (by rw [hn0]; simp)]; simpa using hnx, rfl, hW.skip hn0, h⟩, msr hlt2⟩
  have hlt3 : m < cur.length := by have := of_decide_eq_true hlt3; omega
  obtain ⟨k, hk⟩ : ∃ k, cur[m]? = some k := ⟨cur[m], List.getElem?_eq_getElem hlt3⟩
  have hkm := List.mem_of_getElem? hk
  have nx : (far.getD i 0 = 0 → fnB v k = false) → St w5 [own 1 o2 cur.length c2 (ivn cur), own 1 o5 nxt.length c5 (ivn nxt), cel k3 (ivn far'), has (hp w)] →
      inI ((m : Int) + 1) ∧ (∃ m' : Nat, (m : Int) + 1 = m' ∧ m' ≤ cur.length ∧ nxt.length = nxt.length ∧ (far.getD i 0 = 0 → ∀ k ∈ cur.take m', fnB v k = false) ∧ St w5 [own 1 o2 cur.length c2 (ivn cur), own 1 o5 nxt.length c5 (ivn nxt), cel k3 (ivn far'), has (hp w)]) ∧ cur.length - ((m : Int) + 1).toNat < cur.length - (m : Int).toNat := fun hh h' => by
    refine ⟨⟨by omega, by omega⟩, ⟨m + 1, by simp, by omega, rfl, fun h0 y hy => ?_, h'⟩, msr hlt3⟩
    rw [List.take_add_one, hk] at hy
    rcases List.mem_append.1 hy with hy | hy
    · exact hno h0 y hy
    · simp at hy; subst hy; exact hh h0
  obtain ⟨cad, hca, hcc⟩ := own_cell h (j := m) (v := .int .i64 (k : Int)) (ivn_get hk)
  refine idx_i hca hlt3 ⟨_, hcc, idx_i rfl hlt2 ⟨((far.getD i 0 : Nat) : Int), (rdCel 2 h.l).cell (sub.refl _) (j := i) (by rw [← hfi]; exact ivn_get (getD_some (by omega))), br_intro (fun h0 => ?_) fun h0 => nx (fun e => by rw [e] at h0; simp at h0) h⟩⟩
  have h0 : far.getD i 0 = 0 := by
    have e : ((far.getD i 0 : Nat) : Int) = 0 := (by simpa using h0)
    omega
  have r2' : rdS (hp w5) os o N := r2.mono (rdH 3 h.l)
  obtain ⟨oad, hoa, _⟩ := r2'.at hoi
  refine ⟨_, _, _, (rW (rdH 3 h.l)).cell0 (sub.refl _), idx_i hoa hlt2 ⟨oi, r2'.atv hoa hoi, (s_Has ((r4 i oi v hoi hv).mono (rdH 3 h.l)) (k : Int)).mono ?_⟩⟩
  rintro _ w6 ⟨rfl, rfl⟩
  have ehb : hasB v (k : Int) = fnB v k := by unfold hasB; simp
  refine ⟨_, rfl, br_intro (fun hb1 => ?_) fun hb1 => nx (fun _ => by rw [← ehb]; exact hb1) h⟩
  rw [ehb] at hb1
  have hn1 : new i = true := by
    rw [hnew]
    show (decide (far.getD i 0 = 0) && cur.any fun k => fnB (vs.getD i []) k) = true
    rw [hvd, h0, decide_eq_true rfl, Bool.true_and, List.any_eq_true]; exact ⟨k, hkm, hb1⟩
  refine idx_i rfl hlt2 ?_
  rw [add_lit0]
  refine st1_i (h.pick 4 [2, 0, 1, 3]) (by simp [ivn]; omega) fun w7 h => newC_i h fun k15 w8 h => ?_
  rw [ivn_set] at h
  refine (app_one tyOk (rfl : kdOfT Ty _ = .slice _) (rfl : kdOfT Ty _ = .slice _) rfl rfl rfl (h.pick 5 [0, 3, 1, 2, 4]) rfl (by simp [oneC]) (by show (nxt.length + 1) * 8 ≤ _; omega) (by omega)).mono ?_
  rintro _ w9 ⟨o', c', rfl, h⟩
  have e5 : ivn nxt ++ [Value.int .i64 (i : Int)] = ivn (nxt ++ [i]) := by simp [ivn]
  rw [e5] at h
  refine ⟨_, _, _, rfl, ⟨by omega, by omega⟩, ⟨i + 1, far'.set i n, nxt ++ [i], by simp, by omega, by rw [er, List.filter_append, List.filter_cons_of_pos hn1, hnx]; simp, by simp, hW.hit hlt2 hn1, h.pick 5 [3, 0, 2, 4]⟩, msr hlt2⟩
end
end Go.Proofs.YtcapljamcepmkaaDoor
set_option linter.unusedVariables false
namespace Go.V
theorem rdOv {L : List Asn} {h : Hp} {a : Option Addr} {sz l c : Nat} {vs : List Value} (i : Nat) (hl : starL L h) (e : nthA L i = own sz a l c vs := by rfl) (hi : Nat.blt i (lenA L) = true := by rfl) : rdV a vs h := by
  obtain ⟨h1, s, ha⟩ := starL_nth i (by simpa [lenA_eq] using hi) hl
  rw [e] at ha
  exact rdV.mono s (own_rdVh ha)
theorem iv_setL (xs : List Int) (i : Nat) (v : Int) : (iv xs).set i (.int .i64 v) = iv (xs.set i v) := by simp [iv, List.map_set]
def addT (T : Nat) (xs : List Int) : List Int := xs.map fun x => x + (T : Int)
theorem addT_len (T : Nat) (xs : List Int) : (addT T xs).length = xs.length := by simp [addT]
def slI (os : List (Option Addr × Nat)) (xss : List (List Int)) : List Value := List.zipWith (fun o xs => .slice o.1 xs.length o.2) os xss
def owI (os : List (Option Addr × Nat)) (xss : List (List Int)) : List Asn := List.zipWith (fun o xs => own 1 o.1 xs.length o.2 (iv xs)) os xss
theorem rdLs {w : World} {L : List Asn} {a : Option Addr} {n c : Nat} {os : List (Option Addr × Nat)} {xss : List (List Int)} (h : St w (own 1 a n c (slI os xss) :: sta (owI os xss) :: L)) (hl : os.length = n) (hn : xss.length = n) : rdS (hp w) xss a n := by
  refine ⟨hn, fun i x hx => ?_⟩
  have hi := (List.getElem?_eq_some_iff.1 hx).1
  obtain ⟨o, ho⟩ : ∃ o, os[i]? = some o := ⟨os[i]'(by omega), List.getElem?_eq_getElem _⟩
  have hv : (slI os xss)[i]? = some (.slice o.1 x.length o.2) := by unfold slI; rw [List.getElem?_zipWith, ho, hx]
  obtain ⟨g1, s1, ha⟩ := sta_nth (h.pick 2 [1]) (A := own 1 o.1 x.length o.2 (iv x)) (List.mem_of_getElem? (i := i) (by unfold owI; rw [List.getElem?_zipWith, ho, hx]))
  rcases rdOv 0 h.l with e | ⟨ad, e, hc⟩
  · rw [e] at hv; simp at hv
  · refine ⟨ad, [.slice o.1 x.length o.2], e, fun j v hj => ?_, o.1, x.length, o.2, rfl, ownH_le ha, (rdI_of rfl (own_rdVh ha)).mono s1⟩
    cases j with
    | zero =>
      simp at hj; subst hj
      rw [add_add, mulS_eq]
      have := hc i _ hv
      rw [show i * Rep.n (List Int) + 0 = i from by show i * 1 + 0 = i; omega]
      exact this
    | succ j => simp at hj
theorem rel_eq {g : GramT} {vs : List (List Bool)} (hV : VsP g.N vs (Stp g)) (iG : InG g) : Rel vs = Stp g := by
  funext a b
  refine propext ?_
  unfold Rel
  by_cases ha : a < g.N
  · obtain ⟨v, hv⟩ : ∃ v, vs[a]? = some v := ⟨vs[a]'(by rw [hV.ln]; exact ha), List.getElem?_eq_getElem _⟩
    rw [List.getD_eq_getElem?_getD, hv]
    exact hV.st a v hv b
  · rw [List.getD_eq_getElem?_getD, List.getElem?_eq_none (by rw [hV.ln]; omega)]
    refine ⟨fun h => by simp [fnB] at h, fun ⟨nn, _, p, hp, h1, _⟩ => ?_⟩
    have := (iG p hp).1
    omega
theorem stp_lt {g : GramT} (iG : InG g) {a b : Nat} (h : Stp g a b) : a < g.N ∧ b < g.N := by
  obtain ⟨nn, _, p, hp, h1, h2, _⟩ := h
  have e1 := (iG p hp).1
  have e2 := (iG p hp).2 _ h2
  omega
structure OnL (R : Nat → Nat → Prop) (N : Nat) (ol : List Nat) : Prop where
  ex : ∃ p : Nat → Bool, (∀ i, p i = true ↔ OnP R i) ∧ ol = (List.range N).filter p
theorem OnL.mem {R : Nat → Nat → Prop} {N : Nat} {ol : List Nat} (h : OnL R N ol) {x : Nat} : x ∈ ol ↔ x < N ∧ OnP R x := by
  obtain ⟨p, hp, rfl⟩ := h.ex
  rw [List.mem_filter, List.mem_range, hp]
theorem OnL.le {R : Nat → Nat → Prop} {N : Nat} {ol : List Nat} (h : OnL R N ol) : ol.length ≤ N := by
  obtain ⟨p, hp, rfl⟩ := h.ex
  have := List.length_filter_le p (List.range N); simpa using this
theorem path_way {R : Nat → Nat → Prop} {out : List Nat} {l0 : Nat} (h0 : out[0]? = some l0) (hs : ∀ (i : Nat) a b, out[i]? = some a → out[i + 1]? = some b → R a b) : ∀ (i : Nat) x, out[i + 1]? = some x → WayN R x (i + 1) l0
  | 0, x, hx => .one _ (hs 0 l0 x h0 hx)
  | i + 1, x, hx => by
    have hl := (List.getElem?_eq_some_iff.1 hx).1
    obtain ⟨y, hy⟩ : ∃ y, out[i + 1]? = some y := ⟨out[i + 1]'(by omega), List.getElem?_eq_getElem _⟩
    exact (path_way h0 hs i y hy).trans (.one y (hs (i + 1) y x hy hx))
structure PthP (R : Nat → Nat → Prop) (N F l0 : Nat) (far out : List Nat) : Prop where
  z : out[0]? = some l0
  st : ∀ (i : Nat) a b, out[i]? = some a → out[i + 1]? = some b → R a b
  lt : ∀ x ∈ out, x < N
  fa : ∀ (i : Nat) x, out[i]? = some x → far.getD x 0 + i = F
theorem PthP.snoc {R : Nat → Nat → Prop} {N F l0 k last : Nat} {far out : List Nat} (h : PthP R N F l0 far out) (hl : out[out.length - 1]? = some last) (hr : R last k) (hk : k < N) (hf : far.getD k 0 + out.length = F) : PthP R N F l0 far (out ++ [k]) := by
  have h0 := (List.getElem?_eq_some_iff.1 h.z).1
  refine ⟨by rw [List.getElem?_append_left h0]; exact h.z, fun i a b ha hb => ?_, fun x hx => ?_, fun i x hx => ?_⟩
  · have hi := (List.getElem?_eq_some_iff.1 hb).1
    rw [List.length_append, List.length_singleton] at hi
    rw [List.getElem?_append_left (by omega)] at ha
    by_cases hi2 : i + 1 < out.length
    · rw [List.getElem?_append_left hi2] at hb
      exact h.st i a b ha hb
    · have e : i = out.length - 1 := by omega
      rw [e, hl] at ha; cases ha
      rw [List.getElem?_append_right (by omega)] at hb
      have : i + 1 - out.length = 0 := by omega
      rw [this] at hb; cases hb; exact hr
  · rcases List.mem_append.1 hx with hx | hx
    · exact h.lt x hx
    · rw [List.mem_singleton.1 hx]; exact hk
  · have hi := (List.getElem?_eq_some_iff.1 hx).1
    rw [List.length_append, List.length_singleton] at hi
    by_cases hi2 : i < out.length
    · rw [List.getElem?_append_left hi2] at hx; exact h.fa i x hx
    · have e : i = out.length := by omega
      subst e
      rw [List.getElem?_append_right (Nat.le_refl _), Nat.sub_self] at hx
      cases hx; exact hf
theorem PthP.cir {R : Nat → Nat → Prop} {N F l0 : Nat} {far out : List Nat} (h : PthP R N F l0 far out) (hF : FarF R N l0 far) (hl : out.length = F) : CirP R N out := by
  have h0 := (List.getElem?_eq_some_iff.1 h.z).1
  have fw : ∀ (i : Nat) x, out[i]? = some x → WayN R l0 (far.getD x 0) x := fun i x hx => by
    have hi := (List.getElem?_eq_some_iff.1 hx).1
    have := h.fa i x hx
    have hxN := h.lt x (List.mem_of_getElem? hx)
    exact (hF.p x _ (getD_some (by rw [hF.ln]; exact hxN)) (by omega)).1
  refine ⟨h.lt, ?_, fun i a b ha hb => ?_, fun x hx => ?_⟩
  · rw [List.nodup_iff_pairwise_ne, List.pairwise_iff_getElem]
    intro i j hi hj hij e
    have e1 := h.fa i _ (List.getElem?_eq_getElem hi)
    have e2 := h.fa j _ (List.getElem?_eq_getElem hj)
    rw [e] at e1; omega
  · have hi := (List.getElem?_eq_some_iff.1 ha).1
    by_cases hi2 : i + 1 < out.length
    · rw [Nat.mod_eq_of_lt hi2] at hb; exact h.st i a b ha hb
    · have e : i + 1 = out.length := by omega
      rw [e, Nat.mod_self, h.z] at hb; cases hb
      have := fw i a ha
      have hf := h.fa i a ha
      rw [show far.getD a 0 = 1 from by omega] at this
      cases this with
      | one _ hr => exact hr
      | more n _ k _ hw => exact absurd hw.pos (by omega)
  · obtain ⟨i, hi⟩ := List.getElem?_of_mem hx
    have hw := fw i x hi
    cases i with
    | zero => rw [h.z] at hi; cases hi; exact ⟨_, hw⟩
    | succ i => exact ⟨_, hw.trans (path_way h.z h.st i x hi)⟩
end Go.V
namespace Go.Proofs.YtcapljamcepmkaaDoor
open Go.V
section
variable {w : World} {L : List Asn} {b T N l c : Nat} {os : List (Option Addr)} {vs : List (List Bool)} {a : Option Addr} {xs : List Int} {v0 : Value}
set_option maxHeartbeats 1000000 in
theorem y_names (h : St w (own 1 a l c (iv xs) :: L)) (hb : ∀ h, starL L h → rowH h ⟨b, 0, none⟩ [v0, .int .i64 (T : Int)]) (hx : ∀ x ∈ xs, 0 ≤ x ∧ x ≤ 1000000) (hT : T ≤ 65) (hl : l ≤ 4611686018427387904) : Run Tryd.prog n_cycle_web_names [.pointer (some ⟨b, 0, none⟩), .slice a l c] w fun v w' => v = .slice a l c ∧ St w' (own 1 a l c (iv (addT T xs)) :: L) := by
  refine run_cycle_web_names _ _ _ _ w _ ?_
  have hxl : xs.length = l := by have := own_len h; rw [iv_len] at this; omega
  refine ⟨fun z w' => ∃ i : Nat, z = i ∧ i ≤ l ∧ St w' (own 1 a l c (iv (addT T (xs.take i) ++ xs.drop i)) :: L), fun z _ => l - z.toNat, ⟨0, rfl, Nat.zero_le _, by simpa [addT] using h⟩, ?_⟩
  clear h
  rintro _ z w1 ⟨i, rfl, hi, h⟩
  refine br_intro (fun hlt => ?_) fun hlt => ?_
  rotate_left
  · have hlt : i = l := by have := of_decide_eq_false hlt; omega
    subst hlt
    rw [List.take_of_length_le (by omega), List.drop_of_length_le (by omega), List.append_nil] at h
    exact ⟨rfl, h⟩
  have hlt : i < l := by have := of_decide_eq_true hlt; omega
  obtain ⟨x, hx1⟩ : ∃ x, xs[i]? = some x := ⟨xs[i], List.getElem?_eq_getElem (by omega)⟩
  have hxb := hx x (List.mem_of_getElem? hx1)
  have hlen : (addT T (xs.take i)).length = i := by rw [addT_len, List.length_take]; omega
  have hxi : (addT T (xs.take i) ++ xs.drop i)[i]? = some x := by
    rw [List.getElem?_append_right (by omega), hlen, Nat.sub_self, List.getElem?_drop, Nat.add_zero, hx1]
  intro w2 hd
  have h := h.drawn hd
  obtain ⟨ad, ha, _⟩ := own_cell h (iv_get hxi)
  have r0 : rowH (hp w2) ⟨b, 0, none⟩ [v0, .int .i64 (T : Int)] := hb _ h.tail
  refine ⟨fun w' => hp w' = hp w2, rfl, idx_i ha hlt ⟨x, fun w' q => ?_, (T : Int), fun w' q => ?_, ⟨by omega, by omega⟩, idx_i ha hlt ?_⟩⟩
  · obtain ⟨ad', e, hc⟩ := own_cell (h.eq q) (iv_get hxi)
    rw [ha] at e; cases e; exact hc
  · rw [cell_hp q]; exact r0.cell (sub.refl _) (j := 1) rfl
  · refine own_st1 h ha (by rw [iv_len, List.length_append, hlen, List.length_drop]; omega) fun w5 h => ⟨⟨by omega, by omega⟩, ⟨i + 1, by simp, by omega, ?_⟩, msr hlt⟩
    have e : (iv (addT T (xs.take i) ++ xs.drop i)).set i (.int .i64 (x + (T : Int))) = iv (addT T (xs.take (i + 1)) ++ xs.drop (i + 1)) := by
      have e1 : xs.drop i = x :: xs.drop (i + 1) := by rw [List.drop_eq_getElem_cons (by omega)]; congr 1; exact (List.getElem?_eq_some_iff.1 hx1).2
      have e2 : xs.take (i + 1) = xs.take i ++ [x] := by rw [List.take_add_one, hx1]; rfl
      rw [iv_setL, e1, e2]
      have : (addT T (xs.take i) ++ x :: xs.drop (i + 1)).set i (x + (T : Int)) = addT T (xs.take i) ++ ((x + (T : Int)) :: xs.drop (i + 1)) := by
        rw [List.set_append_right _ _ (by omega), hlen, Nat.sub_self]; rfl
      rw [this]; simp [addT]
    rw [e] at h; exact h
set_option maxHeartbeats 2000000 in
theorem y_on (hw : WebR (hp w) b T N os vs) (hN : N ≤ 65) (hR : ∀ a k, Rel vs a k → k < N) : Run Tryd.prog n_cycle_web_on [.pointer (some ⟨b, 0, none⟩)] w fun v w' => ∃ (a : Option Addr) (c : Nat) (ol : List Nat), v = .slice a ol.length c ∧ OnL (Rel vs) N ol ∧ St w' (own 1 a ol.length c (ivn ol) :: all w) := by
  refine run_cycle_web_on _ w _ ?_
  obtain ⟨⟨o, c, r1, r2⟩, r3, r4⟩ := id hw
  obtain ⟨p, hp'⟩ : ∃ p : Nat → Bool, ∀ i, p i = true ↔ OnP (Rel vs) i := ⟨fun i => @decide (OnP (Rel vs) i) (Classical.propDecidable _), fun i => by simp⟩
  refine ⟨_, _, _, r1.cell0 (sub.refl _), ?_⟩
  refine ⟨fun o4 l4 c4 z w' => ∃ (i : Nat) (nxt : List Nat), z = i ∧ i ≤ N ∧ nxt = (List.range i).filter p ∧ l4 = nxt.length ∧ St w' [own 1 o4 l4 c4 (ivn nxt), has (hp w)], fun _ _ _ z _ => N - z.toNat, ⟨0, [], rfl, Nat.zero_le _, rfl, rfl, own_nil 1 (St.all w)⟩, ?_⟩
  rintro _ o4 l4 c4 z w1 ⟨i, nxt, rfl, hi, hnx, rfl, h⟩
  have hnl : nxt.length ≤ i := by rw [hnx]; have := List.length_filter_le p (List.range i); simpa using this
  refine br_intro (fun hlt => ?_) fun hlt => ?_
  rotate_left
  · have hlt : i = N := by have := of_decide_eq_false hlt; omega
    exact ⟨o4, c4, nxt, rfl, ⟨p, hp', by rw [hnx, hlt]⟩, h⟩
  have hlt : i < N := by have := of_decide_eq_true hlt; omega
  have er : List.range (i + 1) = List.range i ++ [i] := List.range_succ
  refine (y_waves (hw.mono (rdH 1 h.l)) hN hR hlt).mono ?_
  rintro _ w2 ⟨kf, far, rfl, hF, _, h2⟩
  have h := h2.on1 h
  have hfl := hF.ln
  have hon : p i = true ↔ 0 < far.getD i 0 := by
    rw [hp']
    constructor
    · rintro ⟨m, hm⟩
      exact Nat.pos_of_ne_zero fun e => hF.z i hlt e m hm
    · intro h0
      exact ⟨_, (hF.p i _ (getD_some (by omega)) h0).1⟩
  refine ⟨_, _, _, rfl, idx_i rfl hlt ⟨((far.getD i 0 : Nat) : Int), (rdCel 0 h.l).cell (sub.refl _) (j := i) (ivn_get (getD_some (by omega))), br_intro (fun h0 => ?_) fun h0 => ?_⟩⟩
  · have h0 : p i = true := hon.2 (by have := of_decide_eq_true h0; omega)
    refine newC_i h fun k7 w3 h => ?_
    refine (app_one tyOk (rfl : kdOfT Ty _ = .slice _) (rfl : kdOfT Ty _ = .slice _) rfl rfl rfl (h.pick 4 [0, 2, 1, 3]) rfl (by simp [oneC]) (by show (nxt.length + 1) * 8 ≤ _; omega) (by omega)).mono ?_
    rintro _ w4 ⟨o', c', rfl, h⟩
    have e5 : ivn nxt ++ [Value.int .i64 (i : Int)] = ivn (nxt ++ [i]) := by simp [ivn]
    rw [e5] at h
    exact ⟨_, _, _, rfl, ⟨by omega, by omega⟩, ⟨i + 1, nxt ++ [i], by simp, by omega, by rw [er, List.filter_append, List.filter_cons_of_pos h0, hnx]; simp, by simp, h.pick 4 [0, 3]⟩, msr hlt⟩
  · have h0 : ¬ p i = true := fun e => by
      have := hon.1 e
      have := of_decide_eq_false h0
      omega
    exact ⟨⟨by omega, by omega⟩, ⟨i + 1, nxt, by simp, by omega, by rw [er, List.filter_append, List.filter_cons_of_neg h0, hnx]; simp, rfl, h.pick 2 [1]⟩, msr hlt⟩
end
end Go.Proofs.YtcapljamcepmkaaDoor
set_option linter.unusedVariables false
namespace Go.Proofs.YtcapljamcepmkaaDoor
open Go.V
section
variable {w : World} {L : List Asn} {g : GramT} {x : GA}
theorem mbI_small {v : List Bool} {y : Int} (hv : v.length ≤ 65) (h : y ∈ mbI v) : 0 ≤ y ∧ y ≤ 1000000 := by
  unfold mbI at h
  obtain ⟨k, hk, rfl⟩ := List.mem_map.1 h
  have := (mem_mb.1 hk)
  have hk : k < v.length := Classical.byContradiction fun e => by rw [fnB_out (by omega)] at this; cases this
  omega
set_option maxHeartbeats 4000000 in
theorem y_Steps (hg : gR (hp w) g x) (hb : okG g) (ht : tabA (hp w)) : Run Tryd.prog n_cycle_Steps [.agg ⟨x.cells⟩] w fun v w' =>
    (¬ ClosedP g ∧ v = .tuple #[.slice none 0 0, .int .i64 1] ∧ Gr w w') ∨
    (ClosedP g ∧ ∃ (a : Option Addr) (c : Nat) (vs : List (List Bool)), v = .tuple #[.slice a g.N c, .int .i64 0] ∧ VsP g.N vs (Stp g) ∧ rdS (hp w') (vs.map fun v => addT g.T (mbI v)) a g.N ∧ Gr w w') := by
  refine run_cycle_Steps _ _ _ _ _ _ _ _ _ _ _ _ _ w _ ?_
  refine gbox hg fun k1 w1 gw hg B => ⟨_, _, _, _, _, _, _, _, _, _, _, _, _, B.row (sub.refl _), (y_spin (x := x) hg hb (rdV.mono gw ht)).mono ?_⟩
  rintro _ w2 (⟨hn, rfl, g2⟩ | ⟨hcl, b, o, c, ps, vs, rfl, hV, hps, h2⟩)
  · exact ⟨_, _, rfl, br_intro (fun _ => .inl ⟨hn, rfl, sub.trans gw g2⟩) fun h => by cases h⟩
  obtain ⟨iG, bT, bN, pN, pT, bP⟩ := inG (.inr hcl : EitherP g)
  have hW := web_of h2 hps hV.ln
  have g2 : sub (hp w1) (hp w2) := rdH 3 h2.l
  have ht2 := rdV.mono (sub.trans gw g2) ht
  have gs : sub (hp w) (hp w2) := sub.trans gw g2
  clear h2
  obtain ⟨⟨o, c, r1, r2⟩, r3, r4⟩ := id hW
  refine ⟨_, _, rfl, br_intro (fun h => by cases h) fun _ => ⟨_, _, _, r1.cell0 (sub.refl _), ?_⟩⟩
  obtain ⟨f, hf⟩ : ∃ f : List Bool → List Int, f = fun v => addT g.T (mbI v) := ⟨_, rfl⟩
  have h0 : St w2 (sta (owI [] []) :: _) := St.flat.2 (show St w2 ([] ++ _) from own_nil 1 (St.all w2))
  refine ⟨fun o4 l4 c4 z w' => ∃ (i : Nat) (os : List (Option Addr × Nat)), z = i ∧ i ≤ g.N ∧ l4 = i ∧ os.length = i ∧ St w' [own 1 o4 i c4 (slI os ((vs.take i).map f)), sta (owI os ((vs.take i).map f)), has (hp w2)], fun _ _ _ z _ => g.N - z.toNat, ⟨0, [], rfl, Nat.zero_le _, rfl, rfl, h0.swap⟩, ?_⟩
  clear h0
  rintro _ o4 l4 c4 z w3 ⟨i, os, rfl, hi, rfl, hos, h⟩
  have hvl := hV.ln
  refine br_intro (fun hlt => ?_) fun hlt => ?_
  rotate_left
  · have hlt : l4 = g.N := by have := of_decide_eq_false hlt; omega
    rw [hlt] at h ⊢
    refine .inr ⟨hcl, o4, c4, vs, rfl, hV, ?_, sub.trans gs (rdH 2 h.l)⟩
    rw [List.take_of_length_le (by omega)] at h
    rw [hlt] at hos
    exact hf ▸ rdLs h hos (by simp [hvl])
  have hlt : l4 < g.N := by have := of_decide_eq_true hlt; omega
  obtain ⟨v, hv⟩ : ∃ v, vs[l4]? = some v := ⟨vs[l4]'(by omega), List.getElem?_eq_getElem _⟩
  have hvN := hV.le v (List.mem_of_getElem? hv)
  obtain ⟨p, hp'⟩ : ∃ p, ps[l4]? = some p := ⟨ps[l4]'(by omega), List.getElem?_eq_getElem _⟩
  have hpk : (ps.map bk)[l4]? = some (bk p) := by rw [List.getElem?_map, hp']; rfl
  have r2' := r2.mono (rdH 2 h.l)
  obtain ⟨oad, hoa, _⟩ := r2'.at hpk
  refine idx_i hoa hlt ⟨bk p, r2'.atv hoa hpk, (s_Members ((r4 l4 _ v hpk hv).mono (rdH 2 h.l)) (rdV.mono (rdH 2 h.l) ht2)).mono ?_⟩
  rintro _ w4 ⟨a', c', rfl, h4⟩
  have h := h4.on1 h
  have hcl' := cntB_le v
  refine ⟨_, _, _, rfl, (y_names (b := b) (v0 := .slice o g.N c) h (fun h hh => r1.mono (rdH 2 hh)) (fun y hy => mbI_small (by omega) hy) bT (by omega)).mono ?_⟩
  rintro _ w5 ⟨rfl, h⟩
  refine ⟨_, _, _, rfl, newC_i h fun k18 w6 h => ?_⟩
  refine (app_one tyOk (rfl : kdOfT Ty _ = .slice _) (rfl : kdOfT Ty _ = .slice _) rfl rfl rfl (h.pick 5 [0, 2, 1, 3, 4]) rfl (by simp [oneC]) (by show (l4 + 1) * 24 ≤ _; omega) (by omega)).mono ?_
  rintro _ w7 ⟨o', c'', rfl, h⟩
  have h := St.snoc (h.pick 5 [2, 3, 0, 4])
  have ef : f v = addT g.T (mbI v) := by rw [hf]
  have el : (f v).length = cntB v := by rw [ef, addT_len, mbI_len]
  have et : (vs.take (l4 + 1)).map f = (vs.take l4).map f ++ [f v] := by rw [List.take_add_one, hv]; simp
  have hlm : os.length = ((vs.take l4).map f).length := by rw [List.length_map, List.length_take]; omega
  have e1 : slI os ((vs.take l4).map f) ++ [Value.slice a' (cntB v) c'] = slI (os ++ [(a', c')]) ((vs.take (l4 + 1)).map f) := by
    rw [et]; unfold slI; rw [List.zipWith_append hlm]; simp [el]
  have e2 : owI os ((vs.take l4).map f) ++ [own 1 a' (cntB v) c' (iv (addT g.T (mbI v)))] = owI (os ++ [(a', c')]) ((vs.take (l4 + 1)).map f) := by
    rw [et]; unfold owI; rw [List.zipWith_append hlm, ← el, ← ef]; rfl
  refine ⟨_, _, _, rfl, ⟨by omega, by omega⟩, ⟨l4 + 1, os ++ [(a', c')], by simp, by omega, rfl, by simp [hos], ?_⟩, msr hlt⟩
  rw [← e1, ← e2]
  exact h.pick 3 [1, 0, 2]
set_option maxHeartbeats 2000000 in
theorem y_On (hg : gR (hp w) g x) (hb : okG g) (ht : tabA (hp w)) : Run Tryd.prog n_cycle_On [.agg ⟨x.cells⟩] w fun v w' =>
    (¬ ClosedP g ∧ v = .tuple #[.slice none 0 0, .int .i64 1] ∧ Gr w w') ∨
    (ClosedP g ∧ ∃ (a : Option Addr) (c : Nat) (ol : List Nat), v = .tuple #[.slice a ol.length c, .int .i64 0] ∧ OnL (Stp g) g.N ol ∧ rdS (hp w') (addT g.T (ivn0 ol)) a ol.length ∧ Gr w w') := by
  refine run_cycle_On _ _ _ _ _ _ _ _ _ _ _ _ _ w _ ?_
  refine gbox hg fun k1 w1 gw hg B => ⟨_, _, _, _, _, _, _, _, _, _, _, _, _, B.row (sub.refl _), (y_spin (x := x) hg hb (rdV.mono gw ht)).mono ?_⟩
  rintro _ w2 (⟨hn, rfl, g2⟩ | ⟨hcl, b, o, c, ps, vs, rfl, hV, hps, h2⟩)
  · exact ⟨_, _, rfl, br_intro (fun _ => .inl ⟨hn, rfl, sub.trans gw g2⟩) fun h => by cases h⟩
  obtain ⟨iG, bT, bN, pN, pT, bP⟩ := inG (.inr hcl : EitherP g)
  have hW := web_of h2 hps hV.ln
  have hRe := rel_eq hV iG
  have gs : sub (hp w) (hp w2) := sub.trans gw (rdH 3 h2.l)
  clear h2
  obtain ⟨⟨o, c, r1, r2⟩, r3, r4⟩ := id hW
  refine ⟨_, _, rfl, br_intro (fun h => by cases h) fun _ => (y_on hW bN (fun a k h => (stp_lt iG (hRe ▸ h)).2)).mono ?_⟩
  rintro _ w3 ⟨a3, c3, ol, rfl, hol, h⟩
  rw [hRe] at hol
  rw [← iv_ivn0] at h
  have hle := hol.le
  refine ⟨_, _, _, rfl, (y_names (b := b) (v0 := .slice o g.N c) h (fun h hh => r1.mono (rdH 0 hh)) (fun y hy => ?_) bT (by omega)).mono ?_⟩
  · obtain ⟨k, hk, rfl⟩ := List.mem_map.1 hy
    have := (hol.mem.1 hk).1
    omega
  rintro _ w4 ⟨rfl, h⟩
  exact ⟨_, _, _, rfl, .inr ⟨hcl, a3, c3, ol, rfl, hol, rdI_of (by rw [addT_len, ivn0_len]) (rdOv 0 h.l), sub.trans gs (rdH 1 h.l)⟩⟩
theorem y_idxF {kf kn l c n N : Nat} {a fa : Option Addr} {fc : Nat} {xs far : List Nat} (hf : rowH (hp w) ⟨kf, 0, none⟩ [.slice fa N fc]) (hfr : rdV fa (ivn far) (hp w)) (hfl : far.length = N) (hn : rowH (hp w) ⟨kn, 0, none⟩ [.int .i64 (n : Int)]) (hr : rdS (hp w) (ivn0 xs) a l) (hlt : ∀ k ∈ xs, k < N) (hl : l ≤ 4611686018427387904) (hex : ∃ k ∈ xs, far.getD k 0 = n) :
    Run Tryd.prog n_slices_IndexFunc_int_int_ [.slice a l c, .func (.func n_cycle_Find_S1) #[] #[.pointer (some ⟨kf, 0, none⟩), .pointer (some ⟨kn, 0, none⟩)]] w fun v w' => (∃ (i : Nat) (k : Nat), v = .int .i64 (i : Int) ∧ i < l ∧ xs[i]? = some k ∧ far.getD k 0 = n) ∧ hp w' = hp w := by
  refine run_slices_IndexFunc_int_int_ _ _ _ _ _ w _ ?_
  have hxl : xs.length = l := by have := hr.1; rwa [ivn0_len] at this
  refine ⟨fun z w' => ∃ j : Nat, z = j ∧ j ≤ l ∧ (∀ k ∈ xs.take j, far.getD k 0 ≠ n) ∧ hp w' = hp w, fun z _ => l - z.toNat, ⟨0, rfl, Nat.zero_le _, fun k hk => by simp at hk, rfl⟩, ?_⟩
  rintro _ z w1 ⟨j, rfl, hj, hno, e1⟩
  refine br_intro (fun h1 => ?_) fun h1 => ?_
  rotate_left
  · have h1 : j = l := by have := of_decide_eq_false h1; omega
    rw [List.take_of_length_le (by omega)] at hno
    obtain ⟨k, hk, hf⟩ := hex
    exact absurd hf (hno k hk)
  have h1 : j < l := by have := of_decide_eq_true h1; omega
  obtain ⟨k, hk⟩ : ∃ k, xs[j]? = some k := ⟨xs[j]'(by omega), List.getElem?_eq_getElem _⟩
  have hkN := hlt k (List.mem_of_getElem? hk)
  obtain ⟨ad, had, hc⟩ := hr.at (ivn0_get hk)
  refine idx_i had h1 ⟨(k : Int), hc w1 (Gr.of_eq e1), ifT_iff.2 ⟨rfl, ?_⟩⟩
  refine run_cycle_Find_S1 _ _ _ w1 _ fun w2 hd => ?_
  have e2 : hp w2 = hp w := (hp_drawn hd).trans e1
  obtain ⟨fad, hfa, hfc⟩ : ∃ fad, fa = some fad ∧ ∀ w', hp w' = hp w → w'.cell? (fad.add k) = some (.int .i64 ((far.getD k 0 : Nat) : Int)) := by
    rcases hfr with e | ⟨fad, e, hc⟩
    · have := congrArg List.length e
      rw [show (ivn far).length = far.length from by simp [ivn], List.length_nil] at this; omega
    · refine ⟨fad, e, fun w' q => cellH_w (by rw [q]; exact hc k _ (ivn_get (getD_some (by omega))))⟩
  refine ⟨fun w' => hp w' = hp w, e2, fa, N, fc, fun w' q => hf.cell0 (Gr.of_eq q), idx_i hfa hkN ⟨_, fun w' q => hfc w' q, (n : Int), fun w' q => hn.cell0 (Gr.of_eq q), _, rfl, br_intro (fun hb => ?_) fun hb => ?_⟩⟩
  · exact ⟨⟨j, k, rfl, h1, hk, natEq hb⟩, e2⟩
  · refine ⟨⟨by omega, by omega⟩, ⟨j + 1, by simp, by omega, fun y hy => ?_, e2⟩, msr h1⟩
    rw [List.take_add_one, hk] at hy
    rcases List.mem_append.1 hy with hy | hy
    · exact hno y hy
    · simp at hy; subst hy; intro e; rw [e] at hb; simp at hb
set_option maxHeartbeats 4000000 in
theorem y_Find (hg : gR (hp w) g x) (hb : okG g) (ht : tabA (hp w)) : Run Tryd.prog n_cycle_Find [.agg ⟨x.cells⟩] w fun v w' =>
    (¬ ClosedP g ∧ v = .tuple #[.slice none 0 0, .int .i64 1] ∧ Gr w w') ∨
    (ClosedP g ∧ ∃ (a : Option Addr) (c : Nat) (ol cl : List Nat), v = .tuple #[.slice a cl.length c, .int .i64 0] ∧ OnL (Stp g) g.N ol ∧ (ol = [] → cl = []) ∧ (∀ l0, ol[0]? = some l0 → cl[0]? = some l0 ∧ CirP (Stp g) g.N cl) ∧ cl.length ≤ 67 ∧ cl.length ≤ c ∧ rdS (hp w') (addT g.T (ivn0 cl)) a cl.length ∧ Gr w w') := by
  refine run_cycle_Find _ _ _ _ _ _ _ _ _ _ _ _ _ w _ ?_
  refine gbox hg fun k1 w1 gw hg B => ⟨_, _, _, _, _, _, _, _, _, _, _, _, _, B.row (sub.refl _), (y_spin (x := x) hg hb (rdV.mono gw ht)).mono ?_⟩
  rintro _ w2 (⟨hn, rfl, g2⟩ | ⟨hcl, b, o, c, ps, vs, rfl, hV, hps, h2⟩)
  · exact ⟨_, _, rfl, br_intro (fun _ => .inl ⟨hn, rfl, sub.trans gw g2⟩) fun h => by cases h⟩
  obtain ⟨iG, bT, bN, pN, pT, bP⟩ := inG (.inr hcl : EitherP g)
  have hW := web_of h2 hps hV.ln
  have hRe := rel_eq hV iG
  have hRl : ∀ a k, Rel vs a k → k < g.N := fun a k h => (stp_lt iG (hRe ▸ h)).2
  have gs : sub (hp w) (hp w2) := sub.trans gw (rdH 3 h2.l)
  have ht2 : tabA (hp w2) := rdV.mono gs ht
  clear h2
  obtain ⟨⟨o, c, r1, r2⟩, r3, r4⟩ := id hW
  refine ⟨_, _, rfl, br_intro (fun h => by cases h) fun _ => (y_on hW bN hRl).mono ?_⟩
  rintro _ w3 ⟨a3, c3, ol, rfl, hol, h⟩
  have hle := hol.le
  refine ⟨_, _, _, rfl, br_intro (fun h0 => ?_) fun h0 => ?_⟩
  · have h0 : ol = [] := List.eq_nil_of_length_eq_zero (natEq (b := 0) h0)
    subst h0
    exact .inr ⟨hcl, none, 0, [], [], rfl, hRe ▸ hol, fun _ => rfl, fun l0 h => by simp at h, by simp, Nat.le_refl _, rdS.nil, sub.trans gs (rdH 1 h.l)⟩
  have hpos : 0 < ol.length := Nat.pos_of_ne_zero (natNe' (b := 0) h0)
  obtain ⟨l0, hl0⟩ : ∃ l0, ol[0]? = some l0 := ⟨ol[0], List.getElem?_eq_getElem hpos⟩
  obtain ⟨hl0N, hl0P⟩ := hol.mem.1 (List.mem_of_getElem? hl0)
  have s23 : sub (hp w2) (hp w3) := rdH 1 h.l
  have r3S : rdV a3 (ivn ol) (hp w3) := rdOv 0 h.l
  obtain ⟨ad3, ha3, hc3⟩ : ∃ ad, a3 = some ad ∧ ∀ {w' : World}, sub (hp w3) (hp w') → w'.cell? (ad.add 0) = some (.int .i64 (l0 : Int)) := by
    rcases r3S with e | ⟨ad, e, hc⟩
    · have := congrArg List.length e
      rw [show (ivn ol).length = ol.length from by simp [ivn], List.length_nil] at this; omega
    · exact ⟨ad, e, fun s => cellH_w (cellH_sub s (hc 0 _ (ivn_get hl0)))⟩
  have idx0 : ∀ {k : Addr → Prop}, k (ad3.add 0) → idx a3 ol.length 0 1 k := fun {k} hk => idx_i (i := 0) ha3 hpos hk
  clear h
  refine idx0 ⟨_, hc3 (sub.refl _), (y_waves (hW.mono s23) bN hRl hl0N).mono ?_⟩
  rintro _ w4 ⟨kf, far, rfl, hF, hFb, h4⟩
  have hfl := hF.ln
  have s34 : sub (hp w3) (hp w4) := rdH 1 h4.l
  refine ⟨_, _, _, rfl, newC_i h4 fun k14 w5 h => st1_i h (by simp) fun w6 h => ?_⟩
  have h : St w6 [cel k14 [.slice (some ⟨kf, 0, none⟩) g.N g.N], cel kf (ivn far), has (hp w3)] := h
  obtain ⟨F, hFd⟩ : ∃ F, F = far.getD l0 0 := ⟨_, rfl⟩
  have hFpos : 0 < F := by
    obtain ⟨m, hm⟩ := hl0P
    exact hFd ▸ Nat.pos_of_ne_zero fun e => hF.z l0 hl0N e m hm
  have hFN : F ≤ g.N + 2 := hFd ▸ hFb l0
  refine idx0 ⟨_, hc3 (rdH 2 h.l), newC_i h fun k15 w7 h => fun w8 hd => ?_⟩
  have h : St w8 [cel k15 (ivn [l0]), cel k14 [.slice (some ⟨kf, 0, none⟩) g.N g.N], cel kf (ivn far), has (hp w3)] := h.drawn hd
  have gfl : (ivn far)[l0]? = some (.int .i64 (F : Int)) := by rw [hFd]; exact ivn_get (getD_some (by omega))
  refine ⟨fun w => rowH (hp w) ⟨k14, 0, none⟩ [.slice (some ⟨kf, 0, none⟩) g.N g.N] ∧ rowH (hp w) ⟨kf, 0, none⟩ (ivn far) ∧ sub (hp w3) (hp w), ⟨rdCel 1 h.l, rdCel 2 h.l, rdH 3 h.l⟩, _, _, _, fun w q => q.1.cell0 (sub.refl _), idx0 ⟨(l0 : Int), fun w q => hc3 q.2.2, idx_i rfl hl0N ⟨(F : Int), fun w q => q.2.1.cell (sub.refl _) (j := l0) gfl, ⟨by omega, by omega⟩, newC_i h fun k18 w12 h => ⟨⟨rdCel 2 h.l, rdCel 3 h.l, rdH 4 h.l⟩, st1_i h (by simp) fun w13 h => ?_⟩⟩⟩⟩
  have e1 : (F : Int) - 1 = ((F - 1 : Nat) : Int) := by omega
  rw [e1] at h
  have h : St w13 [cel k15 (ivn [l0]), cel k18 [.int .i64 ((F - 1 : Nat) : Int)], cel k14 [.slice (some ⟨kf, 0, none⟩) g.N g.N], cel kf (ivn far), has (hp w3)] := h.swap
  have h : St w13 (own 1 (some ⟨k15, 0, none⟩) 1 1 (ivn [l0]) :: _) := own_some (cs := []) (by simpa using h) rfl rfl (Nat.le_refl _)
  refine ⟨fun o9 l9 c9 o10 w' => ∃ (kn n : Nat) (out : List Nat), o10 = some ⟨kn, 0, none⟩ ∧ l9 = out.length ∧ out.length + n = F ∧ PthP (Rel vs) g.N F l0 far out ∧ St w' [own 1 o9 l9 c9 (ivn out), cel kn [.int .i64 (n : Int)], cel k14 [.slice (some ⟨kf, 0, none⟩) g.N g.N], cel kf (ivn far), has (hp w3)], fun _ l9 _ _ _ => F - l9, ⟨k18, F - 1, [l0], rfl, rfl, by simp; omega, ⟨rfl, fun i a b _ hb => by simp at hb, fun y hy => by rw [List.mem_singleton.1 hy]; exact hl0N, fun i y hy => ?_⟩, h⟩, ?_⟩
  · cases i with
    | zero => simp at hy; subst hy; omega
    | succ i => simp at hy
  clear h
  rintro _ o9 l9 c9 o10 w14 ⟨kn, n, out, rfl, rfl, hFn, hPt, h⟩
  have hout := (List.getElem?_eq_some_iff.1 hPt.z).1
  refine ⟨_, (rdCel 1 h.l).cell0 (sub.refl _), br_intro (fun hn0 => ?_) fun hn0 => ?_⟩
  rotate_left
  · have hn0 : n = 0 := by have := of_decide_eq_false hn0; omega
    have hcir := hPt.cir hF (by omega)
    rw [← iv_ivn0] at h
    refine (y_names (b := b) (v0 := .slice o g.N c) h (fun h hh => r1.mono (sub.trans s23 (rdH 3 hh))) (fun y hy => ?_) bT (by omega)).mono ?_
    · obtain ⟨k, hk, rfl⟩ := List.mem_map.1 hy
      have := hPt.lt k hk
      omega
    rintro _ w26 ⟨rfl, h⟩
    refine ⟨_, _, _, rfl, .inr ⟨hcl, o9, c9, ol, out, rfl, hRe ▸ hol, fun e => by rw [e] at hpos; simp at hpos, fun l hl => ?_, by omega, own_le h, rdI_of (by rw [addT_len, ivn0_len]) (rdOv 0 h.l), sub.trans gs (sub.trans s23 (rdH 4 h.l))⟩⟩
    rw [hl0] at hl; cases hl
    exact ⟨hPt.z, hRe ▸ hcir⟩
  have hn0 : 0 < n := by have := of_decide_eq_true hn0; omega
  obtain ⟨last, hlast⟩ : ∃ last, out[out.length - 1]? = some last := ⟨out[out.length - 1]'(by omega), List.getElem?_eq_getElem _⟩
  have hlN := hPt.lt last (List.mem_of_getElem? hlast)
  have hlf : far.getD last 0 = n + 1 := by have := hPt.fa _ last hlast; omega
  obtain ⟨v, hv⟩ : ∃ v, vs[last]? = some v := ⟨vs[last]'(by omega), List.getElem?_eq_getElem _⟩
  obtain ⟨p, hpp⟩ : ∃ p, ps[last]? = some p := ⟨ps[last]'(by omega), List.getElem?_eq_getElem _⟩
  have hpk : (ps.map bk)[last]? = some (bk p) := by rw [List.getElem?_map, hpp]; rfl
  have hvN := hV.le v (List.mem_of_getElem? hv)
  intro w15 hd15
  have h := h.drawn hd15
  have e2 : (out.length : Int) - 1 = ((out.length - 1 : Nat) : Int) := by omega
  obtain ⟨oad9, ho9, _⟩ := own_cell h (ivn_get hlast)
  have c9r : ∀ {w' : World}, rdV o9 (ivn out) (hp w') → w'.cell? (oad9.add (out.length - 1)) = some (.int .i64 (last : Int)) := fun {w'} r => by
    rcases r with e | ⟨ad, e, hc⟩
    · have := congrArg List.length e
      rw [show (ivn out).length = out.length from by simp [ivn], List.length_nil] at this; omega
    · rw [ho9] at e; cases e; exact cellH_w (hc _ _ (ivn_get hlast))
  have s2w : sub (hp w2) (hp w15) := sub.trans s23 (rdH 4 h.l)
  obtain ⟨oad, hoa, _⟩ := (r2.mono s2w).at hpk
  refine ⟨fun w' => rdV o9 (ivn out) (hp w') ∧ sub (hp w2) (hp w'), ⟨rdOv 0 h.l, s2w⟩, _, _, _, fun w' q => r1.cell0 q.2, ⟨by omega, by omega⟩, ?_⟩
  rw [e2]
  refine idx_i ho9 (by omega) ⟨(last : Int), fun w' q => c9r q.1, idx_i hoa hlN ⟨bk p, fun w' q => (r2.mono q.2).atv hoa hpk, (s_Members ((r4 last _ v hpk hv).mono s2w) (rdV.mono s2w ht2)).mono ?_⟩⟩
  rintro _ w19 ⟨a13, c13, rfl, h19⟩
  have h := h19.on1 h
  have hcv := cntB_le v
  -- one behind
  have hexk : ∃ k ∈ mb v, far.getD k 0 = n := by
    obtain ⟨hw, hmin⟩ := hF.p last _ (getD_some (by omega)) (by omega)
    rw [hlf] at hw hmin
    cases hw with
    | one _ _ => omega
    | more q _ k hr hw =>
      have hkN := hRl _ _ hr
      have hkv : fnB v k = true := by
        have : Rel vs last k := hr
        unfold Rel at this
        rwa [List.getD_eq_getElem?_getD, hv] at this
      refine ⟨k, mem_mb.2 hkv, ?_⟩
      have h1 : far.getD k 0 ≠ 0 := fun e => hF.z k hkN e _ hw
      obtain ⟨g1, g2⟩ := hF.p k _ (getD_some (by omega)) (by omega)
      have g3 := g2 _ hw
      have g4 := hmin _ (.more _ last k hr g1)
      omega
  have emb : ivn0 (mb v) = mbI v := rfl
  refine ⟨_, _, _, rfl, ⟨rdOv 1 h.l, sub.trans s23 (rdH 5 h.l)⟩, (y_idxF (xs := mb v) (N := g.N) (rdCel 3 h.l) (.inr ⟨_, rfl, rdCel 4 h.l⟩) hfl (rdCel 2 h.l) (emb ▸ rdI_of (by rw [mbI_len]) (rdOv 0 h.l)) (fun k hk => ?_) (by omega) hexk).mono ?_⟩
  · have := mem_mb.1 hk
    exact Classical.byContradiction fun e => by rw [fnB_out (by omega)] at this; cases this
  rintro _ w20 ⟨⟨i, k, rfl, hil, hik, hkf⟩, e20⟩
  have h := h.eq e20
  have hkv := mem_mb.1 (List.mem_of_getElem? hik)
  have hkR : Rel vs last k := by unfold Rel; rw [List.getD_eq_getElem?_getD, hv]; exact hkv
  obtain ⟨ad13, ha13, hc13⟩ := own_cell h (iv_get (mbI_get hik))
  refine ⟨_, rfl, idx_i ha13 hil ⟨_, hc13, newC_i h fun k25 w21 h => ?_⟩⟩
  refine (app_one tyOk (rfl : kdOfT Ty _ = .slice _) (rfl : kdOfT Ty _ = .slice _) rfl rfl rfl (h.pick 7 [0, 2, 1, 3, 4, 5, 6]) rfl (by simp [oneC]) (by show (out.length + 1) * 8 ≤ _; omega) (by omega)).mono ?_
  rintro _ w22 ⟨o', c', rfl, h⟩
  have e5 : ivn out ++ [Value.int .i64 (k : Int)] = ivn (out ++ [k]) := by simp [ivn]
  rw [e5] at h
  have h := h.pick 7 [0, 3, 4, 5, 6]
  refine ⟨_, _, _, rfl, _, (rdCel 1 h.l).cell0 (sub.refl _), newC_i h fun k28 w23 h => st1_i h (by simp) fun w24 h => ?_⟩
  refine ⟨(n : Int), (rdCel 0 h.l).cell0 (sub.refl _), ⟨by omega, by omega⟩, st1_i h (by simp) fun w25 h => ⟨⟨k28, n - 1, out ++ [k], rfl, by simp, by simp; omega, hPt.snoc hlast hkR (hRl _ _ hkR) (by omega), ?_⟩, by dsimp only; omega⟩⟩
  have e6 : (n : Int) - 1 = ((n - 1 : Nat) : Int) := by omega
  rw [e6] at h
  exact h.pick 6 [1, 0, 3, 4, 5]
end
end Go.Proofs.YtcapljamcepmkaaDoor
set_option linter.unusedVariables false
namespace Go.Proofs.YtcapljamcepmkaaDoor
open Go.V
abbrev n_presagelaw08_CycleMore : FuncId := 4
def ann_presagelaw08_CycleMore : Ann := { rngs := [], loops := [(7, [(10, (.one (.int .i64)))]), (18, [(16, (.one (.int .i64)))])], joins := [(2, [(29, (.one .bool))]), (12, []), (16, [(103, (.one .bool))])], blocks := [] }
set_option maxRecDepth 100000 in
def vc_presagelaw08_CycleMore (a : Option Addr) (b c : Nat) (d : Option Addr) (e f : Nat) (g : Option Addr) (i j : Nat) (k : Int) (l : Option Addr) (m n : Nat) (o : Int) (p : Option Addr) (q s : Nat) (w : World) (R : Value → WP) : Prop :=  new w (oC [vS a b c, vS d e f, vS g i j, iI k, vS l m n] 27) fun k1 w1 => ∃ (x1 : lP [(29, shB)]), (∃ o1 k2 k3 o2 k4 k5 o3 k6 k7 n1 o4 k8 k9, V.rowAt w1 (aM k1) 0 5 = some [vS o1 k2 k3, vS o2 k4 k5, vS o3 k6 k7, iI n1, vS o4 k8 k9] ∧ rE 16 [vA (Array.mk [vS o1 k2 k3, vS o2 k4 k5, vS o3 k6 k7, iI n1, vS o4 k8 k9])] w1 fun v1 w2 => ∃ b1, v1 = vB b1 ∧ br (!b1) (x1 true w2) (∃ o5 k10 k11, World.cell? w2 (Addr.add (aM k1) 4) = some (vS o5 k10 k11) ∧ x1 (decide (96 < (↑k10 : Int))) w2)) ∧ ∀ (I1 : Nat → Value) (b2 : Bool) (w3 : World), x1 b2 w3 → br b2 (rE 14 [] w3 fun v2 w4 => ∃ b3, v2 = vB b3 ∧ R (vB b3) w4) (∃ o6 k12 k13 o7 k14 k15 o8 k16 k17 n2 o9 k18 k19, V.rowAt w3 (aM k1) 0 5 = some [vS o6 k12 k13, vS o7 k14 k15, vS o8 k16 k17, iI n2, vS o9 k18 k19] ∧ rE 11 [vA (Array.mk [vS o6 k12 k13, vS o7 k14 k15, vS o8 k16 k17, iI n2, vS o9 k18 k19])] w3 fun v3 w5 => ∃ o10 k20 k21 o11 k22 k23 o12 k24 k25 n3 o13 k26 k27, v3 = vA (Array.mk [vS o10 k20 k21, vS o11 k22 k23, vS o12 k24 k25, iI n3, vS o13 k26 k27]) ∧ new w5 (oC [vS none 0 0, vS none 0 0, vS none 0 0, iI 0, vS none 0 0] 27) fun k28 w6 => stR w6 (aM k28) [vS o10 k20 k21, vS o11 k22 k23, vS o12 k24 k25, iI n3, vS o13 k26 k27] fun w7 => ∀ w8, drawn w7 w8 → ∃ (I2 : World → Prop), I2 w8 ∧ ∃ o14 k29 k30, (∀ w9, I2 w9 → World.cell? w9 (aM k1) = some (vS o14 k29 k30)) ∧ inI ((↑k29 : Int) + 1) ∧ ∃ o15 k31 k32, (∀ w10, I2 w10 → World.cell? w10 (Addr.add (aM k1) 1) = some (vS o15 k31 k32)) ∧ inI ((↑k31 : Int) - 1) ∧ rE 17 [iI o, iI ((↑k31 : Int) - 1)] w8 fun v4 w11 => ∃ n4, v4 = iI n4 ∧ I2 w11 ∧ inI ((↑k29 : Int) + 1 + n4) ∧ new w11 (oC [iI 0, vS none 0 0, iI 0] 41) fun k33 w12 => stR w12 (aM k33) [iI ((↑k29 : Int) + 1 + n4), vS none 0 0, iI 0] fun w13 => ∃ (x2 : lP []), (∃ (x3 : lP [(10, shI)]), ∃ (x4 : lN [(10, shI)]), x3 0 w13 ∧ ∀ (I3 : Nat → Value) (n5 : Int) (w14 : World), x3 n5 w14 → br (decide (n5 < (↑q : Int))) (br (decide (n5 < 5)) (∀ w15, drawn w14 w15 → ∃ (I4 : World → Prop), I4 w15 ∧ idx p q n5 1 fun a1 => ∃ n6, (∀ w16, I4 w16 → World.cell? w16 a1 = some (iI n6)) ∧ ∃ o16 k34 k35, (∀ w17, I4 w17 → World.cell? w17 (aM k1) = some (vS o16 k34 k35)) ∧ ∃ o17 k36 k37, (∀ w18, I4 w18 → World.cell? w18 (Addr.add (aM k1) 1) = some (vS o17 k36 k37)) ∧ inI ((↑k34 : Int) + (↑k36 : Int)) ∧ inI ((↑k34 : Int) + (↑k36 : Int) - 1) ∧ rE 17 [iI n6, iI ((↑k34 : Int) + (↑k36 : Int) - 1)] w15 fun v5 w19 => ∃ n7, v5 = iI n7 ∧ I4 w19 ∧ inI (1 + n7) ∧ ∃ o18 k38 k39, World.cell? w19 (aM k1) = some (vS o18 k38 k39) ∧ br (1 + n7 != (↑k38 : Int)) (∃ o19 k40 k41, World.cell? w19 (Addr.add (aM k33) 1) = some (vS o19 k40 k41) ∧ new w19 (oC [iI (1 + n7)] 3) fun k42 w20 => rS (apB 24 (Array.mk [vS o19 k40 k41, vS (some (aM k42)) 1 1])) w20 fun v6 w21 => ∃ o20 k43 k44, v6 = vS o20 k43 k44 ∧ st1 w21 (Addr.add (aM k33) 1) (vS o20 k43 k44) fun w22 => inI (n5 + 1) ∧ x3 (n5 + 1) w22 ∧ x4 (n5 + 1) w22 < x4 n5 w14) (inI (n5 + 1) ∧ x3 (n5 + 1) w19 ∧ x4 (n5 + 1) w19 < x4 n5 w14)) (x2 w14)) (x2 w14)) ∧ ∀ (I5 : Nat → Value) (w23 : World), x2 w23 → ∃ o21 k45 k46, World.cell? w23 (Addr.add (aM k28) 4) = some (vS o21 k45 k46) ∧ ∃ n8 o22 k47 k48 n9, V.rowAt w23 (aM k33) 0 3 = some [iI n8, vS o22 k47 k48, iI n9] ∧ new w23 (oC [iI n8, vS o22 k47 k48, iI n9] 41) fun k49 w24 => rS (apB 25 (Array.mk [vS o21 k45 k46, vS (some (aM k49)) 1 1])) w24 fun v7 w25 => ∃ o23 k50 k51, v7 = vS o23 k50 k51 ∧ st1 w25 (Addr.add (aM k28) 4) (vS o23 k50 k51) fun w26 => ∃ o24 k52 k53 o25 k54 k55 o26 k56 k57 n10 o27 k58 k59, V.rowAt w26 (aM k1) 0 5 = some [vS o24 k52 k53, vS o25 k54 k55, vS o26 k56 k57, iI n10, vS o27 k58 k59] ∧ rE 11 [vA (Array.mk [vS o24 k52 k53, vS o25 k54 k55, vS o26 k56 k57, iI n10, vS o27 k58 k59])] w26 fun v8 w27 => ∃ o28 k60 k61 o29 k62 k63 o30 k64 k65 n11 o31 k66 k67, v8 = vA (Array.mk [vS o28 k60 k61, vS o29 k62 k63, vS o30 k64 k65, iI n11, vS o31 k66 k67]) ∧ rE 12 [vA (Array.mk [vS o28 k60 k61, vS o29 k62 k63, vS o30 k64 k65, iI n11, vS o31 k66 k67])] w27 fun v9 w28 => ∃ o32 k68 k69 n12, v9 = vT (Array.mk [vS o32 k68 k69, iI n12]) ∧ ∃ o33 k70 k71 o34 k72 k73 o35 k74 k75 n13 o36 k76 k77, V.rowAt w28 (aM k28) 0 5 = some [vS o33 k70 k71, vS o34 k72 k73, vS o35 k74 k75, iI n13, vS o36 k76 k77] ∧ rE 12 [vA (Array.mk [vS o33 k70 k71, vS o34 k72 k73, vS o35 k74 k75, iI n13, vS o36 k76 k77])] w28 fun v10 w29 => ∃ o37 k78 k79 n14, v10 = vT (Array.mk [vS o37 k78 k79, iI n14]) ∧ ∃ (x5 : lP [(103, shB)]), br (n12 != 0) (x5 true w29) (x5 (n14 != 0) w29) ∧ ∀ (I6 : Nat → Value) (b4 : Bool) (w30 : World), x5 b4 w30 → br b4 (R (vB false) w30) (∃ (x6 : lP [(16, shI)]), ∃ (x7 : lN [(16, shI)]), x6 0 w30 ∧ ∀ (I7 : Nat → Value) (n15 : Int) (w31 : World), x6 n15 w31 → br (decide (n15 < (↑k68 : Int))) (idx o32 k68 n15 1 fun a2 => ∃ n16, World.cell? w31 a2 = some (iI n16) ∧ rE 15 [vS o37 k78 k79, iI n16] w31 fun v11 w32 => ∃ b5, v11 = vB b5 ∧ br (!b5) (R (vB false) w32) (inI (n15 + 1) ∧ x6 (n15 + 1) w32 ∧ x7 (n15 + 1) w32 < x7 n15 w31)) (∃ o38 k80 k81, World.cell? w31 (Addr.add (aM k28) 4) = some (vS o38 k80 k81) ∧ ∃ o39 k82 k83, World.cell? w31 (Addr.add (aM k28) 4) = some (vS o39 k82 k83) ∧ inI ((↑k82 : Int) - 1) ∧ new w31 (oC [iI ((↑k29 : Int) + 1 + n4)] 3) fun k84 w33 => idx o38 k80 ((↑k82 : Int) - 1) 3 fun a3 => st1 w33 (Addr.add a3 1) (vS (some (aM k84)) 1 1) fun w34 => ∃ o40 k85 k86 o41 k87 k88 o42 k89 k90 n17 o43 k91 k92, V.rowAt w34 (aM k28) 0 5 = some [vS o40 k85 k86, vS o41 k87 k88, vS o42 k89 k90, iI n17, vS o43 k91 k92] ∧ rE 12 [vA (Array.mk [vS o40 k85 k86, vS o41 k87 k88, vS o42 k89 k90, iI n17, vS o43 k91 k92])] w34 fun v12 w35 => ∃ o44 k93 k94 n18, v12 = vT (Array.mk [vS o44 k93 k94, iI n18]) ∧ ∃ o45 k95 k96 o46 k97 k98 o47 k99 k100 n19 o48 k101 k102, V.rowAt w35 (aM k28) 0 5 = some [vS o45 k95 k96, vS o46 k97 k98, vS o47 k99 k100, iI n19, vS o48 k101 k102] ∧ rE 13 [vA (Array.mk [vS o45 k95 k96, vS o46 k97 k98, vS o47 k99 k100, iI n19, vS o48 k101 k102])] w35 fun v13 w36 => ∃ o49 k103 k104 n20, v13 = vT (Array.mk [vS o49 k103 k104, iI n20]) ∧ br (n18 == 0) (br (n20 == 0) (rE 15 [vS o44 k93 k94, iI ((↑k29 : Int) + 1 + n4)] w36 fun v14 w37 => ∃ b6, v14 = vB b6 ∧ br b6 (br (decide (0 < (↑k103 : Int))) (rE 14 [] w37 fun v15 w38 => ∃ b7, v15 = vB b7 ∧ R (vB b7) w38) (R (vB false) w37)) (R (vB false) w37)) (R (vB false) w36)) (R (vB false) w36))))
set_option maxRecDepth 100000 in
theorem run_presagelaw08_CycleMore (a : Option Addr) (b c : Nat) (d : Option Addr) (e f : Nat) (g : Option Addr) (i j : Nat) (k : Int) (l : Option Addr) (m n : Nat) (o : Int) (p : Option Addr) (q s : Nat) (w : World) (R : Value → WP) (h : vc_presagelaw08_CycleMore a b c d e f g i j k l m n o p q s w R) : Run Tryd.prog 4 [(.agg #[(.slice a b c), (.slice d e f), (.slice g i j), (.int .i64 k), (.slice l m n)]), (.int .i64 o), (.slice p q s)] w R := rv Tryd.func4 ann_presagelaw08_CycleMore (by kernel_rfl) h

abbrev n_presagelaw08_awake : FuncId := 14
def ann_presagelaw08_awake : Ann := { rngs := [], loops := [], joins := [], blocks := [] }
set_option maxRecDepth 100000 in
def vc_presagelaw08_awake  (w : World) (R : Value → WP) : Prop :=  new w (oC [Value.string (ByteArray.mk (Array.mk [])), iI 0, Value.string (ByteArray.mk (Array.mk [120])), iI 0] 73) fun k1 w1 => new w1 (oC [Value.string (ByteArray.mk (Array.mk [])), Value.string (ByteArray.mk (Array.mk [65])), Value.string (ByteArray.mk (Array.mk [66]))] 9) fun k2 w2 => new w2 (oC [iI 3] 3) fun k3 w3 => new w3 (oC [iI 4] 3) fun k4 w4 => new w4 (oC [iI 3] 3) fun k5 w5 => new w5 (oC [iI 1] 3) fun k6 w6 => new w6 (oC [iI 2, vS (some (aM k3)) 1 1, iI 0, iI 3, vS (some (aM k4)) 1 1, iI 0, iI 4, vS (some (aM k5)) 1 1, iI 0, iI 4, vS (some (aM k6)) 1 1, iI 0] 41) fun k7 w7 => new w7 (oC [vS none 0 0, vS none 0 0, vS none 0 0, iI 0, vS none 0 0] 27) fun k8 w8 => stR w8 (aM k8) [vS (some (aM k1)) 2 2, vS (some (aM k2)) 3 3, vS none 0 0, iI 3, vS (some (aM k7)) 4 4] fun w9 => ∃ o1 k9 k10 o2 k11 k12 o3 k13 k14 n1 o4 k15 k16, V.rowAt w9 (aM k8) 0 5 = some [vS o1 k9 k10, vS o2 k11 k12, vS o3 k13 k14, iI n1, vS o4 k15 k16] ∧ rE 10 [vA (Array.mk [vS o1 k9 k10, vS o2 k11 k12, vS o3 k13 k14, iI n1, vS o4 k15 k16])] w9 fun v1 w10 => ∃ o5 k17 k18 n2, v1 = vT (Array.mk [vS o5 k17 k18, iI n2]) ∧ ∃ o6 k19 k20 o7 k21 k22 o8 k23 k24 n3 o9 k25 k26, V.rowAt w10 (aM k8) 0 5 = some [vS o6 k19 k20, vS o7 k21 k22, vS o8 k23 k24, iI n3, vS o9 k25 k26] ∧ rE 13 [vA (Array.mk [vS o6 k19 k20, vS o7 k21 k22, vS o8 k23 k24, iI n3, vS o9 k25 k26])] w10 fun v2 w11 => ∃ o10 k27 k28 n4, v2 = vT (Array.mk [vS o10 k27 k28, iI n4]) ∧ ∃ o11 k29 k30 o12 k31 k32 o13 k33 k34 n5 o14 k35 k36, V.rowAt w11 (aM k8) 0 5 = some [vS o11 k29 k30, vS o12 k31 k32, vS o13 k33 k34, iI n5, vS o14 k35 k36] ∧ rE 12 [vA (Array.mk [vS o11 k29 k30, vS o12 k31 k32, vS o13 k33 k34, iI n5, vS o14 k35 k36])] w11 fun v3 w12 => ∃ o15 k37 k38 n6, v3 = vT (Array.mk [vS o15 k37 k38, iI n6]) ∧ br (n2 == 0) (br (n4 == 0) (br (n6 == 0) (br ((↑k17 : Int) == 3) (idx o5 k17 0 1 fun a1 => ∃ o16 k39 k40, World.cell? w12 a1 = some (vS o16 k39 k40) ∧ new w12 (oC [iI 3] 3) fun k41 w13 => rE 26 [vS o16 k39 k40, vS (some (aM k41)) 1 1] w13 fun v4 w14 => ∃ b1, v4 = vB b1 ∧ br b1 (new w14 (oC [iI 3, iI 4] 3) fun k42 w15 => rE 26 [vS o10 k27 k28, vS (some (aM k42)) 2 2] w15 fun v5 w16 => ∃ b2, v5 = vB b2 ∧ br b2 (new w16 (oC [iI 3, iI 4] 3) fun k43 w17 => rE 26 [vS o15 k37 k38, vS (some (aM k43)) 2 2] w17 fun v6 w18 => ∃ b3, v6 = vB b3 ∧ R (vB b3) w18) (R (vB false) w16)) (R (vB false) w14)) (R (vB false) w12)) (R (vB false) w12)) (R (vB false) w12)) (R (vB false) w12)
set_option maxRecDepth 100000 in
theorem run_presagelaw08_awake  (w : World) (R : Value → WP) (h : vc_presagelaw08_awake  w R) : Run Tryd.prog 14 [] w R := rv Tryd.func14 ann_presagelaw08_awake (by kernel_rfl) h

abbrev n_presagelaw08_in : FuncId := 15
def ann_presagelaw08_in : Ann := { rngs := [], loops := [(2, [(5, (.one (.int .i64)))])], joins := [], blocks := [] }
set_option maxRecDepth 100000 in
def vc_presagelaw08_in (a : Option Addr) (b c : Nat) (d : Int) (w : World) (R : Value → WP) : Prop :=  ∃ (x1 : lP [(5, shI)]), ∃ (x2 : lN [(5, shI)]), x1 0 w ∧ ∀ (I1 : Nat → Value) (n1 : Int) (w1 : World), x1 n1 w1 → br (decide (n1 < (↑b : Int))) (idx a b n1 1 fun a1 => ∃ n2, World.cell? w1 a1 = some (iI n2) ∧ br (n2 == d) (R (vB true) w1) (inI (n1 + 1) ∧ x1 (n1 + 1) w1 ∧ x2 (n1 + 1) w1 < x2 n1 w1)) (R (vB false) w1)
set_option maxRecDepth 100000 in
theorem run_presagelaw08_in (a : Option Addr) (b c : Nat) (d : Int) (w : World) (R : Value → WP) (h : vc_presagelaw08_in a b c d w R) : Run Tryd.prog 15 [(.slice a b c), (.int .i64 d)] w R := rv Tryd.func15 ann_presagelaw08_in (by kernel_rfl) h

abbrev n_presagelaw08_pick : FuncId := 17
def ann_presagelaw08_pick : Ann := { rngs := [], loops := [], joins := [], blocks := [] }
set_option maxRecDepth 100000 in
def vc_presagelaw08_pick (a b : Int) (w : World) (R : Value → WP) : Prop :=  br (decide (a < 0)) (inI (a + 1) ∧ inI (0 - (a + 1)) ∧ nz b ∧ R (iI (Int.tmod (0 - (a + 1)) b)) w) (nz b ∧ R (iI (Int.tmod a b)) w)
set_option maxRecDepth 100000 in
theorem run_presagelaw08_pick (a b : Int) (w : World) (R : Value → WP) (h : vc_presagelaw08_pick a b w R) : Run Tryd.prog 17 [(.int .i64 a), (.int .i64 b)] w R := rv Tryd.func17 ann_presagelaw08_pick (by kernel_rfl) h

end Go.Proofs.YtcapljamcepmkaaDoor
set_option linter.unusedVariables false
namespace Go.V
inductive Dead (R : Nat → Nat → Prop) : Nat → Prop
  | mk (i : Nat) : (∀ k, R i k → Dead R k) → Dead R i
section
variable {R : Nat → Nat → Prop} {N : Nat}
theorem Dead.off {i : Nat} (h : Dead R i) : ¬ OnP R i := by
  induction h with
  | mk i h ih =>
    rintro ⟨m, hm⟩
    cases hm with
    | one _ hr => exact ih i hr ⟨1, .one _ hr⟩
    | more n _ k hr hw => exact ih k hr ⟨n + 1, hw.trans (.one _ hr)⟩
theorem OnP.succ {i : Nat} (h : OnP R i) : ∃ k, R i k ∧ OnP R k := by
  obtain ⟨m, hm⟩ := h
  cases hm with
  | one _ hr => exact ⟨i, hr, 1, .one _ hr⟩
  | more n _ k hr hw => exact ⟨k, hr, n + 1, hw.trans (.one _ hr)⟩
theorem WayN.last {x m i : Nat} (h : WayN R x m i) : ∃ k, R k x ∧ (k = i ∨ ∃ n, WayN R k n i) := by
  induction h with
  | one i h => exact ⟨i, h, .inl rfl⟩
  | more n i k h1 h2 ih =>
    obtain ⟨y, hy, hh⟩ := ih
    refine ⟨y, hy, .inr ?_⟩
    rcases hh with rfl | ⟨q, hq⟩
    · exact ⟨1, .one _ h1⟩
    · exact ⟨q + 1, .more _ i k h1 hq⟩
theorem OnP.pred {i : Nat} (h : OnP R i) : ∃ k, R k i ∧ OnP R k := by
  obtain ⟨m, hm⟩ := h
  obtain ⟨k, hk, hh⟩ := hm.last
  refine ⟨k, hk, ?_⟩
  rcases hh with rfl | ⟨n, hn⟩
  · exact ⟨1, .one _ hk⟩
  · exact ⟨1 + n, (WayN.one (R := R) (to := i) k hk).trans hn⟩
end
theorem mem_addT {T : Nat} {ol : List Nat} {x : Nat} : ((T + x : Nat) : Int) ∈ addT T (ivn0 ol) ↔ x ∈ ol := by
  unfold addT ivn0
  rw [List.map_map, List.mem_map]
  constructor
  · rintro ⟨y, hy, e⟩
    have e : (y : Int) + (T : Int) = ((T + x : Nat) : Int) := e
    have : y = x := by omega
    rwa [← this]
  · intro h
    refine ⟨x, h, ?_⟩
    show (x : Int) + (T : Int) = _
    omega
theorem addT_get {T : Nat} {ol : List Nat} {i x : Nat} (h : ol[i]? = some x) : (addT T (ivn0 ol))[i]? = some ((T + x : Nat) : Int) := by
  unfold addT ivn0
  rw [List.map_map, List.getElem?_map, h]
  show some ((x : Int) + (T : Int)) = _
  congr 1; omega
def cycG : GramT := ⟨[⟨.empty, 0⟩, ⟨⟨#[120]⟩, 0⟩], [.empty, ⟨#[65]⟩, ⟨#[66]⟩], [], 3, [⟨2, [3], 0⟩, ⟨3, [4], 0⟩, ⟨4, [3], 0⟩, ⟨4, [1], 0⟩]⟩
theorem cyc_closed : ClosedP cycG := by
  refine ⟨rfl, ⟨rfl, by decide, by decide, by decide, by decide, ?_, ?_, ?_, ?_, ?_⟩, ⟨by decide, by decide, ?_, by decide, by decide, by decide⟩, ⟨2, [3], 0⟩, rfl, rfl, rfl, rfl⟩
  · decide
  · intro i v h; simp [cycG] at h
  · decide
  · decide
  · decide
  · intro p hp
    simp only [List.drop_succ_cons, List.drop_zero, cycG, List.mem_cons, List.not_mem_nil, or_false] at hp
    unfold prodOk symOk
    rcases hp with rfl | rfl | rfl <;> refine ⟨by decide, ?_⟩ <;> intro s hs <;> simp at hs <;> subst hs <;> decide
theorem cyc_ok : okG cycG := by
  refine ⟨by decide, by decide, by decide, by decide, ?_, by decide, by decide⟩
  intro t ht
  simp only [cycG, List.mem_cons, List.not_mem_nil, or_false] at ht
  unfold anyI
  rcases ht with rfl | rfl <;> decide
theorem cyc_nn : NnP cycG [false, false, false] := by
  refine ⟨rfl, fun i => ⟨fun h => ?_, fun h => ?_⟩⟩
  · match i with
    | 0 => cases h
    | 1 => cases h
    | 2 => cases h
    | i + 3 => cases h
  · exfalso
    have key : ∀ s, Nul cycG s → False := fun s h => by
      induction h with
      | mk p hp h1 ih =>
        simp only [cycG, List.mem_cons, List.not_mem_nil, or_false] at hp
        rcases hp with rfl | rfl | rfl | rfl
        · exact ih 3 (by simp)
        · exact ih 4 (by simp)
        · exact ih 3 (by simp)
        · exact ih 1 (by simp)
    exact key _ h
theorem cyc_stp {a b : Nat} : Stp cycG a b ↔ (a = 0 ∧ b = 1) ∨ (a = 1 ∧ b = 2) ∨ (a = 2 ∧ b = 1) := by
  rw [stp_iff cyc_nn]
  have hT : cycG.T = 2 := rfl
  constructor
  · rintro ⟨p, hp, h1, h2, _⟩
    rw [hT] at h1 h2
    simp only [cycG, List.mem_cons, List.not_mem_nil, or_false] at hp
    rcases hp with rfl | rfl | rfl | rfl <;> simp at h1 h2 <;> omega
  · have st : ∀ (p : ProdT) (s : Int), p.right = [s] → stayB cycG.T [false, false, false] s = true → stayN cycG.T [false, false, false] p.right = 1 := fun p s e h => by
      rw [e]; unfold stayN; simp [h]
    rintro (⟨rfl, rfl⟩ | ⟨rfl, rfl⟩ | ⟨rfl, rfl⟩)
    · exact ⟨⟨2, [3], 0⟩, by simp [cycG], rfl, by simp [hT], .inr ⟨st _ 3 rfl (by decide), by decide⟩⟩
    · exact ⟨⟨3, [4], 0⟩, by simp [cycG], rfl, by simp [hT], .inr ⟨st _ 4 rfl (by decide), by decide⟩⟩
    · exact ⟨⟨4, [3], 0⟩, by simp [cycG], rfl, by simp [hT], .inr ⟨st _ 3 rfl (by decide), by decide⟩⟩
theorem cyc_vs {vs : List (List Bool)} (h : VsP cycG.N vs (Stp cycG)) : ∃ v0 vs', vs = v0 :: vs' ∧ mbI v0 = [1] := by
  match vs, h with
  | [], h => have := h.ln; simp [cycG, GramT.N] at this
  | v0 :: vs', h =>
    refine ⟨v0, vs', rfl, ?_⟩
    have e : v0 = [false, true, false] := by
      refine fnB_inj (by rw [h.le v0 (by simp)]; rfl) fun k => ?_
      rw [Bool.eq_iff_iff, h.st 0 v0 rfl k, cyc_stp]
      match k with
      | 0 => simp [fnB]
      | 1 => simp [fnB]
      | 2 => simp [fnB]
      | k + 3 => simp [fnB]
    rw [e]; rfl
theorem cyc_on {ol : List Nat} (h : OnL (Stp cycG) cycG.N ol) : ol = [1, 2] := by
  obtain ⟨p, hp, rfl⟩ := h.ex
  have p0 : p 0 = false := by
    cases e : p 0
    · rfl
    · obtain ⟨k, hk, _⟩ := ((hp 0).1 e).pred
      rw [cyc_stp] at hk; omega
  have w12 : WayN (Stp cycG) 2 1 1 := .one _ (cyc_stp.2 (.inr (.inl ⟨rfl, rfl⟩)))
  have w21 : WayN (Stp cycG) 1 1 2 := .one _ (cyc_stp.2 (.inr (.inr ⟨rfl, rfl⟩)))
  have p1 : p 1 = true := (hp 1).2 ⟨_, w12.trans w21⟩
  have p2 : p 2 = true := (hp 2).2 ⟨_, w21.trans w12⟩
  show (List.range 3).filter p = _
  simp [List.range_succ, p0, p1, p2]
theorem cyc_find {cl : List Nat} (h0 : cl[0]? = some 1) (h : CirP (Stp cycG) cycG.N cl) : cl = [1, 2] := by
  match cl, h0, h with
  | [a], h0, h =>
    cases h0
    have := h.st 0 1 1 rfl rfl
    rw [cyc_stp] at this; omega
  | [a, b], h0, h =>
    cases h0
    have := h.st 0 1 b rfl rfl
    rw [cyc_stp] at this
    have : b = 2 := by omega
    rw [this]
  | a :: b :: c :: l, h0, h =>
    cases h0
    have h1 := h.st 0 1 b rfl (by rw [Nat.mod_eq_of_lt (by simp)]; rfl)
    rw [cyc_stp] at h1
    have h2 := h.st 1 b c rfl (by rw [Nat.mod_eq_of_lt (by simp)]; rfl)
    rw [cyc_stp] at h2
    have : c = 1 := by omega
    subst this
    have := h.nd
    simp at this
end Go.V
namespace Go.Proofs.YtcapljamcepmkaaDoor
open Go.V
section
variable {w : World} {L : List Asn} {a : Option Addr} {l c : Nat} {xs : List Int} {d : Int}
theorem l_in (hr : rdS (hp w) xs a l) (hl : l ≤ 4611686018427387904) : Run Tryd.prog n_presagelaw08_in [.slice a l c, .int .i64 d] w fun v w' => v = .bool (decide (d ∈ xs)) ∧ hp w' = hp w := by
  refine run_presagelaw08_in _ _ _ _ w _ ?_
  refine ⟨fun z w' => ∃ j : Nat, z = j ∧ j ≤ l ∧ d ∉ xs.take j ∧ hp w' = hp w, fun z _ => l - z.toNat, ⟨0, rfl, Nat.zero_le _, by simp, rfl⟩, ?_⟩
  rintro _ z w1 ⟨j, rfl, hj, hno, e1⟩
  refine br_intro (fun h1 => ?_) fun h1 => ?_
  rotate_left
  · have h1 : j = l := by have := of_decide_eq_false h1; omega
    rw [List.take_of_length_le (by have := hr.1; omega)] at hno
    exact ⟨by rw [decide_eq_false hno], e1⟩
  have h1 : j < l := by have := of_decide_eq_true h1; omega
  obtain ⟨y, ad, hy1, hya, hy2⟩ := hr.get1 h1
  refine idx_i hya h1 ⟨y, hy2 _ (Gr.of_eq e1), br_intro (fun h2 => ?_) fun h2 => ?_⟩
  · have h2 : y = d := by simpa using h2
    exact ⟨by rw [decide_eq_true (h2 ▸ List.mem_of_getElem? hy1)], e1⟩
  · have h2 : y ≠ d := by simpa using h2
    refine ⟨⟨by omega, by omega⟩, ⟨j + 1, by simp, by omega, fun hm => ?_, e1⟩, msr h1⟩
    rw [List.take_add_one, hy1] at hm
    rcases List.mem_append.1 hm with hm | hm
    · exact hno hm
    · simp at hm; exact h2 hm.symm
set_option maxHeartbeats 2000000 in
theorem l_awake8 (ht : tabA (hp w)) : Run Tryd.prog n_presagelaw08_awake [] w fun v w' => v = .bool true ∧ Gr w w' := by
  refine run_presagelaw08_awake w _ ?_
  refine newC_i (St.all w) fun k1 w1 h => newC_i h fun k2 w2 h => newC_i h fun k3 w3 h => newC_i h fun k4 w4 h => newC_i h fun k5 w5 h => newC_i h fun k6 w6 h => newC_i h fun k7 w7 h => newC_i h fun k8 w8 h => stR_i h rfl (by intro v hv; simp at hv; rcases hv with rfl | rfl | rfl | rfl | rfl <;> rfl) fun w9 h => ?_
  have r8 : rowH (hp w9) ⟨k8, 0, none⟩ _ := rdCel 0 h.l
  have r7 : rowH (hp w9) ⟨k7, 0, none⟩ _ := rdCel 1 h.l
  have r6 : rowH (hp w9) ⟨k6, 0, none⟩ _ := rdCel 2 h.l
  have r5 : rowH (hp w9) ⟨k5, 0, none⟩ _ := rdCel 3 h.l
  have r4 : rowH (hp w9) ⟨k4, 0, none⟩ _ := rdCel 4 h.l
  have r3 : rowH (hp w9) ⟨k3, 0, none⟩ _ := rdCel 5 h.l
  have r2 : rowH (hp w9) ⟨k2, 0, none⟩ _ := rdCel 6 h.l
  have r1 : rowH (hp w9) ⟨k1, 0, none⟩ _ := rdCel 7 h.l
  have g9 : sub (hp w) (hp w9) := rdH 8 h.l
  have p3 : rdS (hp w9) ([3] : List Int) (some ⟨k3, 0, none⟩) 1 := rdI_of rfl (.inr ⟨_, rfl, r3⟩)
  have p4 : rdS (hp w9) ([4] : List Int) (some ⟨k4, 0, none⟩) 1 := rdI_of rfl (.inr ⟨_, rfl, r4⟩)
  have p5 : rdS (hp w9) ([3] : List Int) (some ⟨k5, 0, none⟩) 1 := rdI_of rfl (.inr ⟨_, rfl, r5⟩)
  have p6 : rdS (hp w9) ([1] : List Int) (some ⟨k6, 0, none⟩) 1 := rdI_of rfl (.inr ⟨_, rfl, r6⟩)
  have p0 : rdS (hp w9) ([] : List Int) none 0 := rdI_of rfl (.inl rfl)
  obtain ⟨x, hx⟩ : ∃ x : GA, x = ⟨some ⟨k1, 0, none⟩, 2, 2, some ⟨k2, 0, none⟩, 3, 3, none, 0, 0, 3, some ⟨k7, 0, none⟩, 4, 4⟩ := ⟨_, rfl⟩
  have hg : gR (hp w9) cycG x := by
    rw [hx]
    refine ⟨?_, ?_, p0, rfl, ?_, Nat.le_refl _, Nat.le_refl _, Nat.le_refl _, Nat.le_refl _⟩
    · refine rdS_lit (xs := cycG.terms) r1 fun i t hi => ?_
      match i, hi with
      | 0, hi => cases hi; rfl
      | 1, hi => cases hi; rfl
      | i + 2, hi => cases hi
    · exact rdS_of_row (xs := cycG.nons) rfl (.inr ⟨_, rfl, r2⟩)
    · refine rdS_lit (xs := cycG.prods) r7 fun i t hi => ?_
      match i, hi with
      | 0, hi => cases hi; exact ⟨_, _, _, rfl, by decide, p3⟩
      | 1, hi => cases hi; exact ⟨_, _, _, rfl, by decide, p4⟩
      | 2, hi => cases hi; exact ⟨_, _, _, rfl, by decide, p5⟩
      | 3, hi => cases hi; exact ⟨_, _, _, rfl, by decide, p6⟩
      | i + 4, hi => cases hi
  have B : GB (hp w9) k8 x := gb_of (hx ▸ r8)
  have ht9 := rdV.mono g9 ht
  clear h
  refine ⟨_, _, _, _, _, _, _, _, _, _, _, _, _, B.row (sub.refl _), (y_Steps (x := x) hg cyc_ok ht9).mono ?_⟩
  rintro _ w10 (⟨hn, _⟩ | ⟨_, a1, c1, vs, rfl, hV, rS, g10⟩)
  · exact absurd cyc_closed hn
  refine ⟨_, _, _, _, rfl, _, _, _, _, _, _, _, _, _, _, _, _, _, B.row g10, (y_Find (x := x) (hg.mono g10) cyc_ok (rdV.mono g10 ht9)).mono ?_⟩
  rintro _ w11 (⟨hn, _⟩ | ⟨_, a2, c2, ol2, cl, rfl, hol2, _, hcl, _, _, rF, g11⟩)
  · exact absurd cyc_closed hn
  have s11 := sub.trans g10 g11
  refine ⟨_, _, _, _, rfl, _, _, _, _, _, _, _, _, _, _, _, _, _, B.row s11, (y_On (x := x) (hg.mono s11) cyc_ok (rdV.mono s11 ht9)).mono ?_⟩
  rintro _ w12 (⟨hn, _⟩ | ⟨_, a3, c3, ol3, rfl, hol3, rO, g12⟩)
  · exact absurd cyc_closed hn
  have e2 := cyc_on hol2
  have e3 := cyc_on hol3
  subst e2; subst e3
  obtain ⟨f1, f2⟩ := hcl 1 rfl
  have e4 := cyc_find f1 f2
  subst e4
  obtain ⟨v0, vs', rfl, hm0⟩ := cyc_vs hV
  have rS := rS.mono (sub.trans g11 g12)
  have rF := rF.mono g12
  obtain ⟨y, ad, yvs, hy1, hya, hy2, ra, rl, rc, rfl, hrc, hy3⟩ := rS.get (i := 0) (by decide)
  have ey : y = [3] := by
    have : some (addT cycG.T (mbI v0)) = some y := hy1
    rw [hm0] at this
    exact (Option.some.inj this).symm
  subst ey
  have e1 := hy3.1
  have al : ∀ {w'}, Gr w12 w' → Gr w w' := fun g => sub.trans g9 (sub.trans s11 (sub.trans g12 g))
  refine ⟨_, _, _, _, rfl, br_intro (fun _ => br_intro (fun _ => br_intro (fun _ => br_intro (fun _ => ?_) fun h => absurd h (by decide)) fun h => absurd h (by decide)) fun h => absurd h (by decide)) fun h => absurd h (by decide)⟩
  refine idx_0 hya (by decide) ⟨ra, rl, rc, ?_, newC_i (St.all w12) fun k41 w13 h => ?_⟩
  · have := hy2.cell0 (sub.refl _)
    rwa [add0] at this
  have g13 : Gr w12 w13 := h.gone1
  refine (r_Ints (xs := [3]) (ys := [3]) (hy3.mono g13) (rdI_of rfl (.inr ⟨_, rfl, h.row⟩)) (by rw [← e1]; decide)).mono ?_
  rintro _ w14 ⟨rfl, e14⟩
  have g14 : Gr w12 w14 := g13.trans (Gr.of_eq e14)
  refine ⟨_, rfl, br_intro (fun _ => newC_i (St.all w14) fun k42 w15 h => ?_) fun h => absurd h (by decide)⟩
  have g15 : Gr w12 w15 := g14.trans h.gone1
  refine (r_Ints (xs := [3, 4]) (ys := [3, 4]) (rF.mono g15) (rdI_of rfl (.inr ⟨_, rfl, h.row⟩)) (by decide)).mono ?_
  rintro _ w16 ⟨rfl, e16⟩
  have g16 : Gr w12 w16 := g15.trans (Gr.of_eq e16)
  refine ⟨_, rfl, br_intro (fun _ => newC_i (St.all w16) fun k43 w17 h => ?_) fun h => absurd h (by decide)⟩
  have g17 : Gr w12 w17 := g16.trans h.gone1
  refine (r_Ints (xs := [3, 4]) (ys := [3, 4]) (rO.mono g17) (rdI_of rfl (.inr ⟨_, rfl, h.row⟩)) (by decide)).mono ?_
  rintro _ w18 ⟨rfl, e18⟩
  exact ⟨_, rfl, rfl, al (g17.trans (Gr.of_eq e18))⟩
end
end Go.Proofs.YtcapljamcepmkaaDoor
set_option linter.unusedVariables false
namespace Go.V
structure MkD (R : Nat → Nat → Prop) (N : Nat) (M : List Bool) : Prop where
  ln : M.length = N
  dd : ∀ i, fnB M i = true → Dead R i
theorem MkD.set {R : Nat → Nat → Prop} {N i : Nat} {M : List Bool} (h : MkD R N M) (hi : i < N) (hd : ∀ k, R i k → fnB M k = true) : MkD R N (M.set i true) := by
  refine ⟨by rw [List.length_set]; exact h.ln, fun j hj => ?_⟩
  rw [fnB_setT (by rw [h.ln]; exact hi), Bool.or_eq_true, beq_iff_eq] at hj
  rcases hj with hj | rfl
  · exact h.dd j hj
  · exact .mk _ fun k hk => h.dd k (hd k hk)
end Go.V
namespace Go.Proofs.YtcapljamcepmkaaDoor
open Go.V
section
variable {w : World} {L : List Asn} {g : GramT} {x : GA}
end
end Go.Proofs.YtcapljamcepmkaaDoor
set_option linter.unusedVariables false
namespace Go.V
theorem nnP_ex {g : GramT} (iG : InG g) : ∃ nn, NnP g nn := by
  obtain ⟨f, hf⟩ : ∃ f : Nat → Bool, ∀ i, f i = true ↔ Nul g ((g.T + i : Nat) : Int) := ⟨fun i => @decide (Nul g ((g.T + i : Nat) : Int)) (Classical.propDecidable _), fun i => by simp⟩
  refine ⟨tabB g.N f, tabB_len _ _, fun i => ?_⟩
  rw [fnB_tab fun k hk => ?_, hf]
  cases e : f k
  · rfl
  · have := ((hf k).1 e).left iG
    omega
theorem lefts_in {g : GramT} (h : ClosedP g) {y : Int} (h1 : (g.T : Int) + 1 ≤ y) (h2 : y < g.T + g.N) : y ∈ leftsG g 1 := by
  obtain ⟨_, _, ⟨_, _, hpr, hll, _⟩, _⟩ := h
  refine Classical.byContradiction fun hn => ?_
  have nd : (y :: leftsG g 1).Nodup := List.nodup_cons.2 ⟨hn, leftsL_nodup _⟩
  have mm : ∀ z ∈ y :: leftsG g 1, z ∈ (List.range (g.N - 1)).map fun (i : Nat) => (g.T : Int) + 1 + (i : Int) := fun z hz => by
    have hb : (g.T : Int) + 1 ≤ z ∧ z < g.T + g.N := by
      rcases List.mem_cons.1 hz with rfl | hz
      · exact ⟨h1, h2⟩
      · obtain ⟨p, hp, rfl⟩ := List.mem_map.1 (mem_leftsL.1 hz)
        obtain ⟨⟨a1, a2, _⟩, _⟩ := hpr p hp
        exact ⟨a1, a2⟩
    exact List.mem_map.2 ⟨(z - g.T - 1).toNat, List.mem_range.2 (by omega), by omega⟩
  have := nodup_le nd mm
  simp at this
  omega
theorem closed_more {g : GramT} {q : ProdT} (h : ClosedP g) (hq : prodOk g 1 q) (hp : g.prods.length < 97) : ClosedP (g.more q) := by
  obtain ⟨c1, c2, c3, p, d1, d2, d3, d4⟩ := id h
  obtain ⟨⟨a1, a2, _⟩, _⟩ := id hq
  have hm := lefts_in h a1 a2
  have hl0 := (List.getElem?_eq_some_iff.1 d1).1
  have e : leftsG (g.more q) 1 = leftsG g 1 := by
    have e : leftsG (g.more q) 1 = addL (leftsG g 1) q.left := by
      unfold leftsG leftsL GramT.more
      rw [List.drop_append_of_le_length (by omega)]
      simp only [List.map_append, List.map_cons, List.map_nil, List.foldl_append, List.foldl_cons, List.foldl_nil]
    rw [e]; unfold addL; rw [if_pos hm]
  obtain ⟨f1, f2, f3, f4, f5⟩ := c3
  refine ⟨c1, c2, ⟨?_, ?_, ?_, by rw [e]; exact f4, f5⟩, p, ?_, d2, d3, d4⟩
  · show 1 < (g.prods ++ [q]).length; simp; omega
  · show (g.prods ++ [q]).length ≤ 96 + 1; simp; omega
  · intro p' hp'
    have hp' : p' ∈ (g.prods ++ [q]).drop 1 := hp'
    rw [List.drop_append_of_le_length (by omega)] at hp'
    rcases List.mem_append.1 hp' with hp' | hp'
    · exact f3 p' hp'
    · simp at hp'; subst hp'; exact hq
  · show (g.prods ++ [q])[0]? = _
    rw [List.getElem?_append_left hl0]; exact d1
theorem stay_sub {T : Nat} {nn nn' : List Bool} (h : ∀ s, stayB T nn' s = true → stayB T nn s = true) (row : List Int) : row.filter (stayB T nn') = (row.filter (stayB T nn)).filter (stayB T nn') := by
  rw [List.filter_filter]
  congr 1
  funext s
  cases e : stayB T nn' s
  · rfl
  · rw [h s e]; rfl
theorem Stp.more {g : GramT} {q : ProdT} {a b : Nat} (iG : InG (g.more q)) (h : Stp g a b) : Stp (g.more q) a b := by
  obtain ⟨nn, hnn, p, hp, h1, h2, h3⟩ := h
  obtain ⟨nn', hnn'⟩ := nnP_ex iG
  refine ⟨nn', hnn', p, List.mem_append.2 (.inl hp), h1, h2, ?_⟩
  have hs : ∀ s, stayB g.T nn' s = true → stayB g.T nn s = true := fun s hs => by
    unfold stayB at hs ⊢
    rw [Bool.or_eq_true] at hs ⊢
    rcases hs with hs | hs
    · exact .inl hs
    · right
      cases e : fnB nn (s.toNat - g.T)
      · rfl
      · have : fnB nn' (s.toNat - g.T) = true := (hnn'.2 _).2 ((hnn.2 _).1 e).more
        rw [this] at hs; cases hs
  have hsub := stay_sub hs p.right
  unfold CondP stayN at h3 ⊢
  show ((p.right.filter (stayB g.T nn')).length = 0) ∨ ((p.right.filter (stayB g.T nn')).length = 1 ∧ stayB g.T nn' ((g.T + b : Nat) : Int) = true)
  have hle : (p.right.filter (stayB g.T nn')).length ≤ (p.right.filter (stayB g.T nn)).length := by rw [hsub]; exact List.length_filter_le _ _
  rcases h3 with h3 | ⟨h3, h4⟩
  · exact .inl (by omega)
  · by_cases h0 : (p.right.filter (stayB g.T nn')).length = 0
    · exact .inl h0
    · refine .inr ⟨by omega, ?_⟩
      have hl : ((p.right.filter (stayB g.T nn)).filter (stayB g.T nn')).length = (p.right.filter (stayB g.T nn)).length := by rw [← hsub]; omega
      exact List.length_filter_eq_length_iff.1 hl _ (List.mem_filter.2 ⟨h2, h4⟩)
theorem stp_self {g : GramT} {k : Nat} {p : ProdT} (iG : InG g) (hp : p ∈ g.prods) (h1 : p.left = ((g.T + k : Nat) : Int)) (h2 : p.right = [((g.T + k : Nat) : Int)]) : Stp g k k := by
  obtain ⟨nn, hnn⟩ := nnP_ex iG
  refine ⟨nn, hnn, p, hp, h1, by rw [h2]; simp, ?_⟩
  unfold CondP stayN
  rw [h2]
  generalize ((g.T + k : Nat) : Int) = z
  cases e : stayB g.T nn z
  · left; simp [e]
  · right; simp [e]
theorem OnP.mono {R R' : Nat → Nat → Prop} (h : ∀ a b, R a b → R' a b) {i : Nat} (hi : OnP R i) : OnP R' i := by
  obtain ⟨m, hm⟩ := hi; exact ⟨m, hm.mono h⟩
theorem rec_set {os : List (Option Addr × Nat)} {ps : List ProdT} (hos : os.length = ps.length) {o o' : Option Addr × Nat} {p p' : ProdT} (h1 : p'.left = p.left) (h2 : p'.level = p.level) : (prodsV (os ++ [o]) (ps ++ [p])).set (mulS ps.length 3 + 1) (.slice o'.1 p'.right.length o'.2) = prodsV (os ++ [o']) (ps ++ [p']) := by
  rw [prodsV_snoc hos, prodsV_snoc hos]
  have hl : ∀ (os : List (Option Addr × Nat)) (ps : List ProdT), os.length = ps.length → (prodsV os ps).length = ps.length * 3 := fun os => by
    induction os with
    | nil => intro ps h; have : ps = [] := List.eq_nil_of_length_eq_zero h.symm; subst this; rfl
    | cons x os ih => intro ps h; cases ps with
      | nil => simp at h
      | cons y ps =>
        have := ih ps (by simpa using h)
        show (prodV (x, y) ++ prodsV os ps).length = _
        rw [List.length_append, this]; simp [prodV]; omega
  have hl := hl os ps hos
  rw [mulS_eq, List.set_append_right _ _ (by omega), show ps.length * 3 + 1 - (prodsV os ps).length = 1 from by omega]
  unfold prodV
  rw [h1, h2]; rfl
end Go.V
namespace Go.Proofs.YtcapljamcepmkaaDoor
open Go.V
section
variable {w : World} {L : List Asn} {g : GramT} {x : GA}
theorem gR_more {ta na la pa qa : Option Addr} {tc nc lc pc qc : Nat} {q : ProdT} {os : List (Option Addr × Nat)} (hos : os.length = g.prods.length)
    (h : St w (own 3 pa (g.prods.length + 1) pc (prodsV (os ++ [(qa, qc)]) (g.prods ++ [q])) :: sta (rightsA os g.prods) :: own 2 ta g.terms.length tc (termsV g.terms) :: own 1 na g.nons.length nc (g.nons.map fun s => Value.string s) :: own 1 la g.levels.length lc (iv g.levels) :: L))
    (hq : rdS (hp w) q.right qa q.right.length) (hqc : q.right.length ≤ qc) : gR (hp w) (g.more q) ⟨ta, g.terms.length, tc, na, g.nons.length, nc, la, g.levels.length, lc, g.start, pa, g.prods.length + 1, pc⟩ := by
  obtain ⟨h2, s2, a2⟩ := rdA (A := own 2 ta g.terms.length tc (termsV g.terms)) 2 h.l
  obtain ⟨h3, s3, a3⟩ := rdA (A := own 1 na g.nons.length nc (g.nons.map fun s => Value.string s)) 3 h.l
  obtain ⟨h4, s4, a4⟩ := rdA (A := own 1 la g.levels.length lc (iv g.levels)) 4 h.l
  have a1 := rdA (A := own 3 pa (g.prods.length + 1) pc (prodsV (os ++ [(qa, qc)]) (g.prods ++ [q]))) 0 h.l
  refine ⟨(rdT_own rfl a2).mono s2, (rdS_of_row rfl (own_rdVh a3)).mono s3, (rdI_of rfl (own_rdVh a4)).mono s4, rfl, rdP_of (by show (g.prods ++ [q]).length = g.prods.length + 1; simp) (by show (os ++ [(qa, qc)]).length = (g.prods ++ [q]).length; simp [hos]) a1 fun i o p hoi hpi => ?_, ownH_le' a2, ownH_le' a3, ownH_le' a4, ?_⟩
  · have hpi : (g.prods ++ [q])[i]? = some p := hpi
    by_cases hi : i < g.prods.length
    · rw [List.getElem?_append_left (by omega)] at hoi hpi
      exact rdRight (k := i) (o := o) (p := p) 1 h.l hoi hpi
    · have hl := (List.getElem?_eq_some_iff.1 hpi).1
      simp at hl
      have e : i = g.prods.length := by omega
      subst e
      rw [List.getElem?_append_right (by omega)] at hoi hpi
      rw [Nat.sub_self] at hpi
      rw [hos, Nat.sub_self] at hoi
      cases hoi; cases hpi
      exact ⟨hq, hqc⟩
  · obtain ⟨h1, _, a1⟩ := a1
    exact ownH_le' a1
theorem okG_more {q : ProdT} (hb : okG g) (hp : g.prods.length ≤ 97) (hq : q.right.length ≤ 6) : okG (g.more q) := by
  obtain ⟨b1, b2, b3, b4, b5, b6, b7⟩ := hb
  refine ⟨b1, b2, b3, by show (g.prods ++ [q]).length * 40 ≤ _; simp; omega, b5, b6, fun p hp => ?_⟩
  rcases List.mem_append.1 hp with hp | hp
  · exact b7 p hp
  · simp at hp; subst hp; omega
theorem l_pick8 (c : Int) (n : Nat) (hc : anyI c) (hn : 0 < n) : Run Tryd.prog n_presagelaw08_pick [.int .i64 c, .int .i64 (n : Int)] w fun v w' => (∃ r : Nat, v = .int .i64 (r : Int) ∧ r < n) ∧ w' = w := by
  refine run_presagelaw08_pick _ _ w _ ?_
  obtain ⟨c1, c2⟩ := hc
  have nz' : nz (n : Int) := by unfold nz; simp; omega
  have fin : ∀ d : Int, 0 ≤ d → (∃ r : Nat, Value.int .i64 (d.tmod (n : Int)) = .int .i64 (r : Int) ∧ r < n) ∧ w = w := fun d hd => by
    have e : d.tmod (n : Int) = d % (n : Int) := Int.tmod_eq_emod_of_nonneg hd
    have m1 := Int.emod_nonneg d (show (n : Int) ≠ 0 by omega)
    have m2 := Int.emod_lt_of_pos d (show 0 < (n : Int) by omega)
    rw [e]
    exact ⟨⟨(d % (n : Int)).toNat, by congr 1; omega, by omega⟩, rfl⟩
  refine br_intro (fun h => ?_) fun h => ⟨nz', fin c (by have := of_decide_eq_false h; omega)⟩
  have h := of_decide_eq_true h
  exact ⟨⟨by omega, by omega⟩, ⟨by omega, by omega⟩, nz', fin _ (by omega)⟩
end
end Go.Proofs.YtcapljamcepmkaaDoor
set_option linter.unusedVariables false
namespace Go.Proofs.YtcapljamcepmkaaDoor
open Go.V
section
variable {w : World} {L : List Asn} {g : GramT} {x : GA}
set_option maxHeartbeats 8000000 in
theorem l_CycleMore {left : Int} {row : List Int} {ra : Option Addr} {rl rc : Nat} (hg : gR (hp w) g x) (hb : okG g) (hbT : g.terms.length * 24 ≤ 140737488355328) (hbN : g.nons.length * 16 ≤ 140737488355328) (ht : tabA (hp w)) (hL : anyI left) (hr : rdS (hp w) row ra rl) (hrI : ∀ y ∈ row, anyI y) (hrl : rl ≤ 4611686018427387904) : Run Tryd.prog n_presagelaw08_CycleMore [.agg ⟨x.cells⟩, .int .i64 left, .slice ra rl rc] w fun v w' => v = .bool true ∧ Gr w w' := by
  refine run_presagelaw08_CycleMore _ _ _ _ _ _ _ _ _ _ _ _ _ _ _ _ _ w _ ?_
  refine gbox hg fun k1 w1 gw hg B => ?_
  have tl : g.T = x.tl := hg.t.1
  have nl : g.N = x.nl := hg.n.1
  have pl := hg.p.1
  have ht1 : tabA (hp w1) := rdV.mono gw ht
  have hr := hr.mono gw
  refine ⟨fun b w' => (b = false → ClosedP g ∧ g.prods.length ≤ 96) ∧ sub (hp w1) (hp w'), ?_, ?_⟩
  · refine ⟨_, _, _, _, _, _, _, _, _, _, _, _, _, B.row (sub.refl _), (d_Closed (x := x) hg hb).mono ?_⟩
    rintro _ w2 ⟨⟨r, rfl, e⟩, g2⟩
    refine ⟨_, rfl, br_intro (fun h => ⟨fun h => (by cases h), g2⟩) fun h => ⟨_, _, _, B.c4 g2, fun h96 => ⟨e.1 (by simpa using h), ?_⟩, g2⟩⟩
    have := of_decide_eq_false h96
    omega
  rintro _ b2 w3 ⟨hJ, s13⟩
  refine br_intro (fun _ => (l_awake8 (rdV.mono s13 ht1)).mono ?_) fun hb2 => ?_
  · rintro _ w4 ⟨rfl, g4⟩
    exact ⟨_, rfl, rfl, sub.trans gw (sub.trans s13 g4)⟩
  obtain ⟨hcl, h96⟩ := hJ hb2
  obtain ⟨iG, bT, bN, pN, pT, bP⟩ := inG (.inr hcl : EitherP g)
  have hN2 : 1 < g.N := hcl.2.1.2.1
  refine ⟨_, _, _, _, _, _, _, _, _, _, _, _, _, B.row s13, (d_Copy (x := x) (hg.mono s13) hb hbT hbN).mono ?_⟩
  rintro _ w7 ⟨y, os, rfl, hy, hos, h⟩
  obtain ⟨ta, tl', tc, na, nl', nc, la, ll', lc, st', pa, pl', pc⟩ := y
  obtain ⟨q1, q2, q3, q4, q5⟩ := hy
  dsimp only at q1 q2 q3 q4 q5
  subst q1; subst q2; subst q3; subst q4; subst q5
  unfold V.all at h
  refine ⟨_, _, _, _, _, _, _, _, _, _, _, _, _, rfl, newC_i h fun k28 w8 h => stR_i h rfl (by intro v hv; simp at hv; rcases hv with rfl | rfl | rfl | rfl | rfl <;> rfl) fun w9 h => fun w10 hd => ?_⟩
  have h := h.drawn hd
  have gw3 : sub (hp w) (hp w3) := gw.trans s13
  have ht3 : tabA (hp w3) := rdV.mono s13 ht1
  have hg := hg.mono s13
  have hr := hr.mono s13
  have B : GB (hp w3) k1 x := ⟨fun s => B.c0 (sub.trans s13 s), fun s => B.c1 (sub.trans s13 s), fun s => B.c2 (sub.trans s13 s), fun s => B.c3 (sub.trans s13 s), fun s => B.c4 (sub.trans s13 s), fun s => B.row (sub.trans s13 s)⟩
  clear s13 ht1 hJ
  obtain ⟨H, hH⟩ := name_it (hp w3)
  rw [← hH] at hg hr ht3 gw3 h B
  have h : St w10 [cel k28 [.slice ta g.terms.length tc, .slice na g.nons.length nc, .slice la g.levels.length lc, .int .i64 g.start, .slice pa g.prods.length pc], own 3 pa g.prods.length pc (prodsV os g.prods), sta (rightsA os g.prods), own 2 ta g.terms.length tc (termsV g.terms), own 1 na g.nons.length nc (g.nons.map fun s => Value.string s), own 1 la g.levels.length lc (iv g.levels), has H] := h
  refine ⟨fun w => sub H (hp w), rdH 6 h.l, _, _, _, fun w s => B.c0 s, ⟨by omega, by omega⟩, _, _, _, fun w s => B.c1 s, ⟨by omega, by omega⟩, ?_⟩
  have eN1 : (x.nl : Int) - 1 = ((g.N - 1 : Nat) : Int) := by omega
  rw [eN1]
  refine (l_pick8 left (g.N - 1) hL (by omega)).mono ?_
  rintro _ w13 ⟨⟨rp, rfl, hrp⟩, rfl⟩
  refine ⟨_, rfl, rdH 6 h.l, ⟨by omega, by omega⟩, newC_i h fun k33 w14 h => stR_i h rfl (by simp [oneC]) fun w15 h => ?_⟩
  obtain ⟨kk, hkk⟩ : ∃ kk, kk = 1 + rp := ⟨_, rfl⟩
  obtain ⟨Lf, hLf⟩ : ∃ Lf : Int, Lf = (x.tl : Int) + 1 + (rp : Int) := ⟨_, rfl⟩
  have hLk : Lf = ((g.T + kk : Nat) : Int) := by omega
  rw [← hLf] at h ⊢
  have hL1 : (g.T : Int) + 1 ≤ Lf := by omega
  have hL2 : Lf < (g.T : Int) + g.N := by omega
  refine ⟨fun w' => ∃ (qa : Option Addr) (qc : Nat) (rs : List Int), rs.length ≤ 5 ∧ (∀ s ∈ rs, 1 ≤ s ∧ s < (g.T : Int) + g.N ∧ s ≠ (g.T : Int)) ∧ St w' [cel k33 [.int .i64 Lf, .slice qa rs.length qc, .int .i64 0], own 1 qa rs.length qc (iv rs), cel k28 [.slice ta g.terms.length tc, .slice na g.nons.length nc, .slice la g.levels.length lc, .int .i64 g.start, .slice pa g.prods.length pc], own 3 pa g.prods.length pc (prodsV os g.prods), sta (rightsA os g.prods), own 2 ta g.terms.length tc (termsV g.terms), own 1 na g.nons.length nc (g.nons.map fun s => Value.string s), own 1 la g.levels.length lc (iv g.levels), has H], ?_, ?_⟩
  · refine ⟨fun n w' => ∃ (j : Nat) (qa : Option Addr) (qc : Nat) (rs : List Int), n = j ∧ j ≤ rl ∧ j ≤ 5 ∧ rs.length ≤ j ∧ (∀ s ∈ rs, 1 ≤ s ∧ s < (g.T : Int) + g.N ∧ s ≠ (g.T : Int)) ∧ St w' [cel k33 [.int .i64 Lf, .slice qa rs.length qc, .int .i64 0], own 1 qa rs.length qc (iv rs), cel k28 [.slice ta g.terms.length tc, .slice na g.nons.length nc, .slice la g.levels.length lc, .int .i64 g.start, .slice pa g.prods.length pc], own 3 pa g.prods.length pc (prodsV os g.prods), sta (rightsA os g.prods), own 2 ta g.terms.length tc (termsV g.terms), own 1 na g.nons.length nc (g.nons.map fun s => Value.string s), own 1 la g.levels.length lc (iv g.levels), has H], fun n _ => rl - n.toNat, ⟨0, none, 0, [], rfl, by omega, by omega, by simp, by simp, (own_nil 1 h).swap⟩, ?_⟩
    clear h
    rintro _ n9 w16 ⟨j, qa, qc, rs, rfl, hj, hj6, hrs, hrr, h⟩
    refine br_intro (fun hj1 => br_intro (fun hj2 => ?_) fun _ => ⟨qa, qc, rs, by omega, hrr, h⟩) fun _ => ⟨qa, qc, rs, by omega, hrr, h⟩
    have hj1 : j < rl := by have := of_decide_eq_true hj1; omega
    have hj2 : j < 5 := by have := of_decide_eq_true hj2; omega
    intro w17 hd
    have h := h.drawn hd
    obtain ⟨u, ad, hu, hua, hu2⟩ := hr.get1 hj1
    have eTN : (x.tl : Int) + (x.nl : Int) - 1 = ((g.T + g.N - 1 : Nat) : Int) := by omega
    refine ⟨fun w => sub H (hp w), rdH 8 h.l, idx_i hua hj1 ⟨_, fun w s => hu2 _ s, _, _, _, fun w s => B.c0 s, _, _, _, fun w s => B.c1 s, ⟨by omega, by omega⟩, ⟨by omega, by omega⟩, ?_⟩⟩
    rw [eTN]
    refine (l_pick8 u (g.T + g.N - 1) (hrI u (List.mem_of_getElem? hu)) (by omega)).mono ?_
    rintro _ w21 ⟨⟨s, rfl, hs⟩, rfl⟩
    refine ⟨_, rfl, rdH 8 h.l, ⟨by omega, by omega⟩, _, _, _, B.c0 (rdH 8 h.l), br_intro (fun h0 => ?_) fun h0 => ⟨⟨by omega, by omega⟩, ⟨j + 1, qa, qc, rs, by simp, by omega, by omega, by omega, hrr, h⟩, msr hj1⟩⟩
    have h0 : (1 : Int) + (s : Int) ≠ (x.tl : Int) := by simpa using h0
    refine ⟨_, _, _, h.cell 1, newC_i h fun k64 w22 h => ?_⟩
    refine (app_one tyOk (rfl : kdOfT Ty _ = .slice _) (rfl : kdOfT Ty _ = .slice _) rfl rfl rfl (h.pick 10 [0, 2, 1, 3, 4, 5, 6, 7, 8, 9]) rfl (by simp [oneC]) (by show (rs.length + 1) * 8 ≤ _; omega) (by omega)).mono ?_
    rintro _ w23 ⟨o', c', rfl, h⟩
    refine ⟨_, _, _, rfl, ?_⟩
    rw [add_lit0]
    refine st1_i (h.pick 10 [2, 0, 3, 4, 5, 6, 7, 8, 9]) (by simp) fun w24 h => ⟨⟨by omega, by omega⟩, ⟨j + 1, o', c', rs ++ [1 + (s : Int)], by simp, by omega, by omega, by simp; omega, fun y hy => ?_, ?_⟩, msr hj1⟩
    · rcases List.mem_append.1 hy with hy | hy
      · exact hrr y hy
      · rw [List.mem_singleton.1 hy]; exact ⟨by omega, by omega, by omega⟩
    · have e : iv rs ++ [Value.int .i64 (1 + (s : Int))] = iv (rs ++ [1 + (s : Int)]) := by simp [iv]
      have el : (rs ++ [1 + (s : Int)]).length = rs.length + 1 := by simp
      rw [el, ← e]; exact h
  clear h
  rintro _ w25 ⟨qa, qc, rs, hrs, hrr, h⟩
  obtain ⟨q, hq⟩ : ∃ q : ProdT, q = ⟨Lf, rs, 0⟩ := ⟨_, rfl⟩
  have h : St w25 [cel k33 (prodV ((qa, qc), q)), own 1 qa rs.length qc (iv rs), cel k28 [.slice ta g.terms.length tc, .slice na g.nons.length nc, .slice la g.levels.length lc, .int .i64 g.start, .slice pa g.prods.length pc], own 3 pa g.prods.length pc (prodsV os g.prods), sta (rightsA os g.prods), own 2 ta g.terms.length tc (termsV g.terms), own 1 na g.nons.length nc (g.nons.map fun s => Value.string s), own 1 la g.levels.length lc (iv g.levels), has H] := by rw [hq]; exact h
  have r28 : rowH (hp w25) ⟨k28, 0, none⟩ [.slice ta g.terms.length tc, .slice na g.nons.length nc, .slice la g.levels.length lc, .int .i64 g.start, .slice pa g.prods.length pc] := rdCel 2 h.l
  refine ⟨_, _, _, r28.cell (sub.refl _) (j := 4) rfl, _, _, _, _, _, h.row.at (sub.refl _) rfl, newC_i h fun k49 w26 h => ?_⟩
  have h : St w26 [cel k49 (prodV ((qa, qc), q)), cel k33 (prodV ((qa, qc), q)), own 1 qa rs.length qc (iv rs), cel k28 [.slice ta g.terms.length tc, .slice na g.nons.length nc, .slice la g.levels.length lc, .int .i64 g.start, .slice pa g.prods.length pc], own 3 pa g.prods.length pc (prodsV os g.prods), sta (rightsA os g.prods), own 2 ta g.terms.length tc (termsV g.terms), own 1 na g.nons.length nc (g.nons.map fun s => Value.string s), own 1 la g.levels.length lc (iv g.levels), has H] := h
  refine (app_one tyOk (rfl : kdOfT Ty _ = .slice _) (rfl : kdOfT Ty _ = .slice _) rfl rfl rfl (h.pick 10 [0, 4, 3, 2, 5, 6, 7, 8, 9]) rfl (by simp [oneC, prodV]) (by show (g.prods.length + 1) * 40 ≤ _; omega) (by show g.prods.length < _; omega)).mono ?_
  rintro _ w27 ⟨pa', pc', rfl, h⟩
  refine ⟨_, _, _, rfl, ?_⟩
  rw [add_lit0]
  refine st1_i (h.pick 9 [2, 0, 3, 4, 5, 6, 7, 8]) (by simp) fun w28 h => ?_
  rw [← prodsV_snoc hos] at h
  have h : St w28 [cel k28 (GA.cells ⟨ta, g.terms.length, tc, na, g.nons.length, nc, la, g.levels.length, lc, g.start, pa', g.prods.length + 1, pc'⟩), own 3 pa' (g.prods.length + 1) pc' (prodsV (os ++ [(qa, qc)]) (g.prods ++ [q])), own 1 qa rs.length qc (iv rs), sta (rightsA os g.prods), own 2 ta g.terms.length tc (termsV g.terms), own 1 na g.nons.length nc (g.nons.map fun s => Value.string s), own 1 la g.levels.length lc (iv g.levels), has H] := h
  have hqr : q.right = rs := by rw [hq]
  have hg2 : gR (hp w28) (g.more q) ⟨ta, g.terms.length, tc, na, g.nons.length, nc, la, g.levels.length, lc, g.start, pa', g.prods.length + 1, pc'⟩ :=
    gR_more hos (h.pick 8 [1, 3, 4, 5, 6, 7]) (by rw [hqr]; exact rdI_of rfl (rdOv 2 h.l)) (by rw [hqr]; exact own_le (h.pick 3 [2]))
  obtain ⟨x2, hx2⟩ : ∃ x2 : GA, x2 = ⟨ta, g.terms.length, tc, na, g.nons.length, nc, la, g.levels.length, lc, g.start, pa', g.prods.length + 1, pc'⟩ := ⟨_, rfl⟩
  rw [← hx2] at h hg2
  have sH : sub H (hp w28) := rdH 7 h.l
  have C : GB (hp w28) k28 x2 := gb_of h.row
  have hb2' : okG (g.more q) := okG_more hb (by omega) (by rw [hqr]; omega)
  have hqok : prodOk g 1 q := by
    rw [hq]
    refine ⟨⟨by show (g.T : Int) + (1 : Nat) ≤ Lf; omega, hL2, by show (0 : Int) ≤ 0; omega, by show (0 : Int) ≤ _; omega⟩, fun s hs => ?_⟩
    have := hrr s hs
    exact ⟨this.1, this.2.1, fun h => by have h2 : s < (g.T : Int) + (1 : Nat) := h.2; omega⟩
  have hcl2 := closed_more hcl hqok (by omega)
  obtain ⟨iG2, _⟩ := inG (.inr hcl2 : EitherP (g.more q))
  have gw28 : sub (hp w) (hp w28) := sub.trans gw3 sH
  have ht28 : tabA (hp w28) := rdV.mono sH ht3
  have aw : ∀ {w' : World}, Gr w28 w' → Run Tryd.prog n_presagelaw08_awake [] w' fun v w'' => v = .bool true ∧ Gr w w'' := fun {w'} gg => by
    refine (l_awake8 (rdV.mono gg ht28)).mono ?_
    rintro _ w'' ⟨rfl, g6⟩
    exact ⟨rfl, sub.trans gw28 (sub.trans gg g6)⟩
  refine ⟨_, _, _, _, _, _, _, _, _, _, _, _, _, B.row sH, (d_Copy (x := x) (hg.mono sH) hb hbT hbN).mono ?_⟩
  rintro _ w29 ⟨y, os3, rfl, hy, hos3, h29⟩
  have hk29 : gR (hp w29) g y := ownG_gR hy hos3 h29
  have g29 : Gr w28 w29 := rdH 5 h29.l
  clear h29
  refine ⟨_, _, _, _, _, _, _, _, _, _, _, _, _, rfl, (y_On (x := y) hk29 hb (rdV.mono g29 ht28)).mono ?_⟩
  rintro _ w30 (⟨hn, _⟩ | ⟨_, oA, cA, olA, rfl, hoA, rA, g30⟩)
  · exact absurd hcl hn
  have s30 : Gr w28 w30 := g29.trans g30
  refine ⟨_, _, _, _, rfl, _, _, _, _, _, _, _, _, _, _, _, _, _, C.row s30, (y_On (x := x2) (hg2.mono s30) hb2' (rdV.mono s30 ht28)).mono ?_⟩
  rintro _ w31 (⟨hn, _⟩ | ⟨_, oB, cB, olB, rfl, hoB, rB, g31⟩)
  · exact absurd hcl2 hn
  have s31 : Gr w28 w31 := s30.trans g31
  have h := h.gr s31
  have rA := rA.mono g31
  have hAl := hoA.le
  have hBl : olB.length ≤ g.N := hoB.le
  refine ⟨_, _, _, _, rfl, fun b w' => b = false ∧ Gr w31 w', br_intro (fun h => absurd h (by decide)) fun _ => ⟨rfl, Gr.refl _⟩, ?_⟩
  rintro _ _ w33 ⟨rfl, g33⟩
  refine br_intro (fun h => absurd h (by decide)) fun _ => ?_
  have h := h.gr g33
  refine ⟨fun n w' => ∃ j : Nat, n = j ∧ j ≤ olA.length ∧ Gr w31 w' ∧ St w' [cel k28 x2.cells, own 3 pa' (g.prods.length + 1) pc' (prodsV (os ++ [(qa, qc)]) (g.prods ++ [q])), own 1 qa rs.length qc (iv rs), sta (rightsA os g.prods), own 2 ta g.terms.length tc (termsV g.terms), own 1 na g.nons.length nc (g.nons.map fun s => Value.string s), own 1 la g.levels.length lc (iv g.levels), has H], fun n _ => olA.length - n.toNat, ⟨0, rfl, by omega, g33, h⟩, ?_⟩
  clear h
  rintro _ n w34 ⟨j, rfl, hj, g34, h⟩
  refine br_intro (fun hj1 => ?_) fun _ => ?_
  · have hj1 : j < olA.length := by have := of_decide_eq_true hj1; omega
    obtain ⟨z, hz⟩ : ∃ z, olA[j]? = some z := ⟨olA[j], List.getElem?_eq_getElem hj1⟩
    obtain ⟨hzN, hzO⟩ := hoA.mem.1 (List.mem_of_getElem? hz)
    obtain ⟨zad, hza, hzc⟩ := rA.at (addT_get hz)
    refine idx_i hza hj1 ⟨_, hzc _ g34, (l_in (rB.mono g34) (by omega)).mono ?_⟩
    rintro _ w35 ⟨rfl, e35⟩
    refine ⟨_, rfl, br_intro (fun hh => ?_) fun _ => ⟨⟨by omega, by omega⟩, ⟨j + 1, by simp, by omega, g34.trans (Gr.of_eq e35), h.eq e35⟩, msr hj1⟩⟩
    have hm : z ∈ olB := hoB.mem.2 ⟨hzN, hzO.mono fun a b hab => hab.more iG2⟩
    have : ((g.T + z : Nat) : Int) ∈ addT (g.more q).T (ivn0 olB) := mem_addT.2 hm
    rw [decide_eq_true this] at hh; cases hh
  -- a production that makes it step to itself
  have c4 : w34.cell? ((⟨k28, 0, none⟩ : Addr).add 4) = some (.slice pa' (g.prods.length + 1) pc') := by
    have := (rdCel 0 h.l).cell (sub.refl _) (j := 4) (v := .slice x2.pa x2.pl x2.pc) rfl
    rw [hx2] at this; exact this
  refine ⟨_, _, _, c4, _, _, _, c4, ⟨by omega, by omega⟩, newC_i h fun k84 w35 h => ?_⟩
  have eP : ((g.prods.length + 1 : Nat) : Int) - 1 = (g.prods.length : Int) := by omega
  rw [eP]
  have h := h.pick 9 [2, 0, 1, 4, 5, 6, 7, 8]
  have pvl : (prodsV (os ++ [(qa, qc)]) (g.prods ++ [q])).length = (g.prods.length + 1) * 3 := own_len h
  obtain ⟨pad, hpad⟩ := own_addr h (by omega)
  refine idx_n hpad (by omega) ?_
  rw [add_add]
  refine own_st1 h hpad (by rw [pvl, mulS_eq]; omega) fun w36 h => ?_
  obtain ⟨q', hq'⟩ : ∃ q' : ProdT, q' = ⟨Lf, [Lf], 0⟩ := ⟨_, rfl⟩
  have eset := rec_set (os := os) (ps := g.prods) hos (o := (qa, qc)) (o' := (some ⟨k84, 0, none⟩, 1)) (p := q) (p' := q') (by rw [hq', hq]) (by rw [hq', hq])
  have h : St w36 (own 3 pa' (g.prods.length + 1) pc' ((prodsV (os ++ [(qa, qc)]) (g.prods ++ [q])).set (mulS g.prods.length 3 + 1) (.slice (some ⟨k84, 0, none⟩) q'.right.length 1)) :: cel k84 [.int .i64 Lf] :: cel k28 x2.cells :: sta (rightsA os g.prods) :: own 2 ta g.terms.length tc (termsV g.terms) :: own 1 na g.nons.length nc (g.nons.map fun s => Value.string s) :: own 1 la g.levels.length lc (iv g.levels) :: [has H]) := by rw [hq']; exact h
  dsimp only at eset
  rw [eset] at h
  have hqr' : q'.right = [Lf] := by rw [hq']
  have hg3 : gR (hp w36) (g.more q') x2 := hx2 ▸ gR_more hos (h.pick 8 [0, 3, 4, 5, 6, 7]) (by rw [hqr']; exact rdI_of rfl (.inr ⟨_, rfl, rdCel 1 h.l⟩)) (by rw [hqr']; exact Nat.le_refl _)
  have C : GB (hp w36) k28 x2 := gb_of (rdCel 2 h.l)
  have sH3 : sub H (hp w36) := rdH 7 h.l
  have hb3 : okG (g.more q') := okG_more hb (by omega) (by rw [hqr']; show 1 ≤ 6; omega)
  have hqok3 : prodOk g 1 q' := by
    rw [hq']
    refine ⟨⟨by show (g.T : Int) + (1 : Nat) ≤ Lf; omega, hL2, by show (0 : Int) ≤ 0; omega, by show (0 : Int) ≤ _; omega⟩, fun s hs => ?_⟩
    have hs : s ∈ [Lf] := hs
    rw [List.mem_singleton] at hs
    rw [hs]
    exact ⟨by omega, hL2, fun h => by have h2 : Lf < (g.T : Int) + (1 : Nat) := h.2; omega⟩
  have hcl3 := closed_more hcl hqok3 (by omega)
  obtain ⟨iG3, _⟩ := inG (.inr hcl3 : EitherP (g.more q'))
  have ht36 : tabA (hp w36) := rdV.mono sH3 ht3
  have hself : Stp (g.more q') kk kk := stp_self iG3 (p := q') (List.mem_append.2 (.inr (by simp))) (by rw [hq']; exact hLk) (by rw [hqr', hLk]; rfl)
  have hkN : kk < (g.more q').N := (stp_lt iG3 hself).1
  have hon : OnP (Stp (g.more q')) kk := ⟨1, .one _ hself⟩
  clear h
  refine ⟨_, _, _, _, _, _, _, _, _, _, _, _, _, C.row (sub.refl _), (y_On (x := x2) hg3 hb3 ht36).mono ?_⟩
  rintro _ w37 (⟨hn, _⟩ | ⟨_, oC, cC, olC, rfl, hoC, rC, g37⟩)
  · exact absurd hcl3 hn
  have hCl : olC.length ≤ g.N := hoC.le
  refine ⟨_, _, _, _, rfl, _, _, _, _, _, _, _, _, _, _, _, _, _, C.row g37, (y_Find (x := x2) (hg3.mono g37) hb3 (rdV.mono g37 ht36)).mono ?_⟩
  rintro _ w38 (⟨hn, _⟩ | ⟨_, oD, cD, olD, clD, rfl, hoD, _, hD1, _, _, rD, g38⟩)
  · exact absurd hcl3 hn
  have hkC : kk ∈ olC := hoC.mem.2 ⟨hkN, hon⟩
  have hkD : kk ∈ olD := hoD.mem.2 ⟨hkN, hon⟩
  refine ⟨_, _, _, _, rfl, br_intro (fun _ => br_intro (fun _ => (l_in (rC.mono g38) (by omega)).mono ?_) fun h => absurd h (by decide)) fun h => absurd h (by decide)⟩
  rintro _ w39 ⟨rfl, e39⟩
  refine ⟨_, rfl, br_intro (fun _ => br_intro (fun _ => (l_awake8 (rdV.mono (sub.trans g37 (sub.trans g38 (Gr.of_eq e39))) ht36)).mono ?_) fun hh => ?_) fun hh => ?_⟩
  · rintro _ w40 ⟨rfl, g40⟩
    exact ⟨_, rfl, rfl, sub.trans gw3 (sub.trans sH3 (sub.trans g37 (sub.trans g38 (sub.trans (Gr.of_eq e39) g40))))⟩
  · exfalso
    have := of_decide_eq_false hh
    cases e : olD with
    | nil => rw [e] at hkD; cases hkD
    | cons l0 r =>
      have := (List.getElem?_eq_some_iff.1 (hD1 l0 (by rw [e]; rfl)).1).1
      omega
  · exfalso
    have : Lf ∈ addT (g.more q').T (ivn0 olC) := by rw [hLk]; exact mem_addT.2 hkC
    rw [decide_eq_true this] at hh; cases hh
end
end Go.Proofs.YtcapljamcepmkaaDoor
set_option linter.unusedVariables false
namespace Go.V
open Go.RowKit Go.WideShapes Go.ChangeShapes
theorem cellH_of {w : World} {a : Addr} {v : Value} (h : w.cell? a = some v) : cellH (hp w) a = some v := by
  unfold World.cell? at h
  unfold cellH hp
  cases ho : w.heap[a.block]? with
  | none => rw [ho] at h; cases h
  | some o => rw [ho] at h; cases o <;> first | exact h | cases h
theorem mapM_get' {α β : Type} {f : α → Option β} : ∀ {l : List α} {r : List β}, l.mapM f = some r → r.length = l.length ∧ ∀ (i : Nat) (a : α) (b : β), l[i]? = some a → r[i]? = some b → f a = some b
  | [], r, h => by
    simp at h; subst h; exact ⟨rfl, fun i a b ha => by simp at ha⟩
  | x :: l, r, h => by
    simp only [List.mapM_cons, Option.bind_eq_bind, Option.bind_eq_some_iff, Option.pure_def, Option.some.injEq] at h
    obtain ⟨b, hb, r', hr', rfl⟩ := h
    obtain ⟨h1, h2⟩ := mapM_get' hr'
    refine ⟨by simp [h1], fun i a b' ha hb' => ?_⟩
    cases i with
    | zero => simp at ha hb'; subst ha; subst hb'; exact hb
    | succ i => exact h2 i a b' (by simpa using ha) (by simpa using hb')
theorem cells_row {w : World} {base n : Nat} {a : Addr} {vs : List Value} (h : w.cells? base a n = some vs) : rowH (hp w) a vs := by
  unfold World.cells? at h
  split at h
  · obtain ⟨h1, h2⟩ := mapM_get' h
    intro j v hj
    have hlt := (List.getElem?_eq_some_iff.1 hj).1
    rw [h1, List.length_range] at hlt
    exact cellH_of (h2 j j v (by simp [hlt]) hj)
  · cases h
theorem weightsAll_get {H : Type} {P : Program} {e : TypeId} {N : Nat} : ∀ {l : List (DataW H)}, (DataW.weightsAll P e l).all (· ≤ N) = true → ∀ d ∈ l, (d.weights P e).all (· ≤ N) = true
  | [], _, d, hd => by simp at hd
  | x :: l, h, d, hd => by
    rw [DataW.weightsAll, List.all_append, Bool.and_eq_true] at h
    rcases List.mem_cons.1 hd with rfl | hd
    · exact h.1
    · exact weightsAll_get h.2 d hd
theorem weightsEach_get {H : Type} {P : Program} {N : Nat} : ∀ {ts : List TypeId} {l : List (DataW H)}, (DataW.weightsEach P ts l).all (· ≤ N) = true → ∀ (i : Nat) t d, ts[i]? = some t → l[i]? = some d → (d.weights P t).all (· ≤ N) = true
  | [], l, _, i, t, d, ht, _ => by simp at ht
  | _ :: _, [], _, i, t, d, _, hd => by simp at hd
  | t0 :: ts, x :: l, h, i, t, d, ht, hd => by
    rw [DataW.weightsEach, List.all_append, Bool.and_eq_true] at h
    cases i with
    | zero => simp at ht hd; subst ht; subst hd; exact h.1
    | succ i => exact weightsEach_get h.2 i t d (by simpa using ht) (by simpa using hd)
def Opn (P : Program) (α : Type) [Rep α] (bd : α → Prop) (t : TypeId) : Prop :=
  ∀ {H : Type} (enc : TypeId × Value → H) (W : World) (n : Nat) (cs : List Value) (x : DataW H × List MemPlace), DataW.trod enc P W 0 (fun _ => true) true n t cs = some x → (x.1.weights P t).all (· ≤ reachBytes) = true → ∃ y : α, rd (hp W) y cs ∧ bd y
def anyS : ByteArray → Prop := fun s => s.size ≤ reachBytes
def anyL {α : Type} (bytes : Nat) (bd : α → Prop) : List α → Prop := fun xs => xs.length * bytes ≤ reachBytes ∧ ∀ x ∈ xs, bd x
section
variable {P : Program} {t e : TypeId}
theorem opn_int (ht : P.underlying t = some (.int .i64)) : Opn P Int anyI t := by
  intro H enc W n cs x h hw
  obtain ⟨z, rfl, _, hwf⟩ := DataW.trod_int ht h
  refine ⟨z, rfl, ?_⟩
  have : IntKind.i64.min ≤ z ∧ z ≤ IntKind.i64.max := by simpa [Lit.wf] using hwf
  exact this
theorem opn_str (ht : P.underlying t = some .string) : Opn P ByteArray anyS t := by
  intro H enc W n cs x h hw
  obtain ⟨z, rfl, rfl, _⟩ := DataW.trod_string ht h
  refine ⟨z, rfl, ?_⟩
  simpa [DataW.weights, anyS] using hw
theorem opn_slice {α : Type} [Rep α] {bd : α → Prop} {bb : Nat} (ht : P.underlying t = some (.slice e)) (hc : P.cellsOf e = Rep.n α) (hb : P.bytesOf e = bb) (he : Opn P α bd e) : Opn P (List α) (anyL bb bd) t := by
  intro H enc W n cs x h hw
  rcases DataW.trod_slice ht h with ⟨rfl, rfl⟩ | ⟨a, len, cap, elems, rest, m, rfl, rfl, rfl, _, hlc, hcm, hel, hg, _, _⟩
  · exact ⟨[], ⟨none, 0, 0, rfl, Nat.le_refl _, rdS.nil⟩, by simp [reachBytes], fun x hx => by simp at hx⟩
  · simp only [DataW.weights, ht, List.all_cons, List.all_append, Bool.and_eq_true, decide_eq_true_eq, List.length_map] at hw
    obtain ⟨hw1, hw2, _⟩ := hw
    have key : ∀ k, k ≤ len → ∃ ys : List α, ys.length = k ∧ (∀ i y, ys[i]? = some y → ∃ vs, rowH (hp W) (a.add (mulS i (Rep.n α))) vs ∧ rd (hp W) y vs) ∧ ∀ y ∈ ys, bd y := by
      intro k
      induction k with
      | zero => exact fun _ => ⟨[], rfl, fun i y hy => by simp at hy, fun y hy => by simp at hy⟩
      | succ k ih =>
        intro hk
        obtain ⟨ys, h1, h2, h3⟩ := ih (by omega)
        have hgk := hg k (by omega)
        obtain ⟨d, hd⟩ : ∃ d, elems[k]? = some d := ⟨elems[k]'(by omega), List.getElem?_eq_getElem _⟩
        rw [hd, Option.bind_eq_some_iff] at hgk
        obtain ⟨vs, hv1, hv2⟩ := hgk
        obtain ⟨y, hy1, hy2⟩ := he enc W m vs d hv2 (weightsAll_get hw2 _ (by
          have := List.mem_of_getElem? hd
          exact List.mem_map_of_mem this))
        refine ⟨ys ++ [y], by simp [h1], fun i z hz => ?_, fun z hz => ?_⟩
        · by_cases hi : i < k
          · rw [List.getElem?_append_left (by omega)] at hz
            exact h2 i z hz
          · have : i = k := by
              have := (List.getElem?_eq_some_iff.1 hz).1
              simp at this; omega
            subst this
            rw [List.getElem?_append_right (by omega), h1, Nat.sub_self] at hz
            cases hz
            refine ⟨vs, ?_, hy1⟩
            rw [mulS_eq, ← hc]
            exact cells_row hv1
        · rcases List.mem_append.1 hz with hz | hz
          · exact h3 z hz
          · simp at hz; subst hz; exact hy2
    obtain ⟨ys, h1, h2, h3⟩ := key len (Nat.le_refl _)
    refine ⟨ys, ⟨some a, len, cap, rfl, hlc, h1, fun i y hy => ?_⟩, ?_, h3⟩
    · obtain ⟨vs, h4, h5⟩ := h2 i y hy
      exact ⟨a, vs, rfl, h4, h5⟩
    · rw [h1, ← hb, ← hel]
      exact Nat.le_trans (Nat.mul_le_mul_right _ (Nat.le_add_right _ _)) hw1
theorem opn_struct {fs : Array Field} (ht : P.underlying t = some (.struct fs)) {H : Type} {enc : TypeId × Value → H} {W : World} {n : Nat} {cs : List Value} {x : DataW H × List MemPlace} (h : DataW.trod enc P W 0 (fun _ => true) true n t cs = some x) (hw : (x.1.weights P t).all (· ≤ reachBytes) = true) :
    cs.length = P.cellsOf t ∧ ∀ (i : Nat) (f : Field) (ty k o : Nat), fs[i]? = some f → P.cellsOf ty = k → f.type = ty → f.offset = o → ∃ (m : Nat) (d : DataW H × List MemPlace), DataW.trod enc P W 0 (fun _ => true) true m ty ((cs.drop o).take k) = some d ∧ (d.1.weights P ty).all (· ≤ reachBytes) = true := by
  obtain ⟨xs, m, rfl, rfl, hl, hxs, hf⟩ := DataW.trod_struct ht h
  refine ⟨hl, ?_⟩
  rintro i f _ _ _ hi rfl rfl rfl
  have hlt := (Array.getElem?_eq_some_iff.1 hi).1
  obtain ⟨d, hd⟩ : ∃ d, xs[i]? = some d := ⟨xs[i]'(by omega), List.getElem?_eq_getElem _⟩
  refine ⟨m, d, by rw [hf i f hi, hd], ?_⟩
  simp only [DataW.weights, ht] at hw
  exact weightsEach_get hw i f.type d.1 (by simp [hi]) (by simp [hd])
theorem opn_arg {α : Type} [Rep α] {bd : α → Prop} (ho : Opn P α bd t) {H : Type} {enc : TypeId × Value → H} {W : World} {v : Value} {d : DataW H} {ps : List MemPlace} (h : DataW.Trod enc P W 0 (fun _ => true) true t v d ps)
    (hw : (d.weights P t).all (· ≤ reachBytes) = true) : ∃ y : α, rd (hp W) y v.cells.toList ∧ bd y := by
  obtain ⟨n, h⟩ := h
  exact ho enc W n _ _ h hw
theorem arg_int {H : Type} {enc : TypeId × Value → H} {W : World} {b : Nat} {v : Value} {d : DataW H} {ps : List MemPlace} (ht : P.underlying t = some (.int .i64)) (hval : Value.okWide P W .any b t v) (h : DataW.Trod enc P W 0 (fun _ => true) true t v d ps) : ∃ x : Int, v = .int .i64 x ∧ anyI x := by
  obtain ⟨n, rfl, _, _, hwf⟩ := open_int ht hval h
  refine ⟨n, rfl, ?_⟩
  have : IntKind.i64.min ≤ n ∧ n ≤ IntKind.i64.max := by simpa [Lit.wf] using hwf
  exact this
theorem arg_slice {α : Type} [Rep α] {bd : α → Prop} {bb : Nat} (ho : Opn P (List α) (anyL bb bd) t) (ht : P.underlying t = some (.slice e)) {H : Type} {enc : TypeId × Value → H} {W : World} {b : Nat} {v : Value} {d : DataW H} {ps : List MemPlace}
    (hval : Value.okWide P W .any b t v) (h : DataW.Trod enc P W 0 (fun _ => true) true t v d ps) (hw : (d.weights P t).all (· ≤ reachBytes) = true) : ∃ (xs : List α) (a : Option Addr) (l c : Nat), v = .slice a l c ∧ l ≤ c ∧ rdS (hp W) xs a l ∧ anyL bb bd xs := by
  obtain ⟨xs, ⟨a, l, c, hv, hlc, hr⟩, hb⟩ := opn_arg ho h hw
  refine ⟨xs, a, l, c, ?_, hlc, hr, hb⟩
  cases v <;> first | (simp [Value.okWide, ht, Cell.okWide, Cell.ok] at hval; done) | simpa [Value.cells] using hv
theorem arg_struct {α : Type} [Rep α] {bd : α → Prop} {fs : Array Field} (ho : Opn P α bd t) (ht : P.underlying t = some (.struct fs)) {H : Type} {enc : TypeId × Value → H} {W : World} {b : Nat} {v : Value} {d : DataW H} {ps : List MemPlace}
    (hval : Value.okWide P W .any b t v) (h : DataW.Trod enc P W 0 (fun _ => true) true t v d ps) (hw : (d.weights P t).all (· ≤ reachBytes) = true) : ∃ (x : α) (cs : List Value), v = .agg ⟨cs⟩ ∧ rd (hp W) x cs ∧ bd x := by
  obtain ⟨x, hr, hb⟩ := opn_arg ho h hw
  simp only [Value.okWide, ht] at hval
  obtain ⟨cs, rfl, _⟩ := hval
  exact ⟨x, cs.toList, rfl, hr, hb⟩
theorem below_of {w w' : World} (h : Ev w w') (g : Gr w w') : Below w.heap.size w w' := by
  refine ⟨h.os, h.tape, h.output, h.size, fun k hk => ?_⟩
  cases ho : w.heap[k]? with
  | none => rw [Array.getElem?_eq_none_iff] at ho; omega
  | some o =>
    by_cases hd : notD o = true
    · have : hp w k = some o := by unfold hp; rw [ho, hidD_not hd]
      exact hidD_some (g k o this)
    · cases o <;> first | exact absurd rfl hd | exact h.dfr _ _ ho
theorem trodAll_below (hl : laidOutB P = true) {H : Type} {enc : TypeId × Value → H} {W W' : World} (hb : Below W.heap.size W W') {sp : Nat → Bool} : ∀ {ts : List TypeId} {vs : List Value} {ds : List (DataW H)} {ps : List MemPlace},
    (ts.all fun t => P.readableRec t && decide (t < P.types.size)) = true → DataW.TrodAll enc P W 0 (fun _ => true) true ts vs ds ps → (∀ x ∈ ps, x.block < W.heap.size) → (∀ x ∈ ps, sp x.block = true) →
    DataW.TrodAll enc P W' 0 sp true ts vs ds ps
  | [], [], [], ps, _, h, _, _ => h
  | [], _ :: _, _, _, _, h, _, _ => h.elim
  | [], [], _ :: _, _, _, h, _, _ => h.elim
  | _ :: _, [], _, _, _, h, _, _ => h.elim
  | _ :: _, _ :: _, [], _, _, h, _, _ => h.elim
  | t :: ts, v :: vs, d :: ds, ps, ht, h, hlt, hsp => by
    obtain ⟨p, q, h1, h2, rfl⟩ := h
    rw [List.all_cons, Bool.and_eq_true, Bool.and_eq_true, decide_eq_true_eq] at ht
    exact ⟨p, q, WideElems.Trod_stays hl ht.1.1 ht.1.2 h1 (fun x hx => hb.same (hlt x (by simp [hx]))) (fun x hx => hsp x (by simp [hx])), trodAll_below hl hb ht.2 h2 (fun x hx => hlt x (by simp [hx])) (fun x hx => hsp x (by simp [hx])), rfl⟩
theorem law_post {H : Type} {enc : TypeId × Value → H} {s : ChangeSpec} {f : Func} {W W' : World} {args : Array Value} {ds gs : List (DataW H)} {before : List MemPlace} {tb : TypeId} (hv : s.vars = []) (hrt : f.resultTypes = #[tb]) (htb : P.underlying tb = some .bool)
    (hsp : s.fn H (ds ++ gs) = { results := [.lit (.bool true)], args := ds }) (hl : laidOutB P = true) (hrd : (f.params.toList.all fun t => P.readableRec t && decide (t < P.types.size)) = true)
    (hW : DataW.Whole enc P f.params.toList s.vars false W args.toList ds gs before) (hE : Ev W W') (hg : Gr W W') : s.post enc P f false true false false W args (.bool true) W' := by
  have hb := below_of hE hg
  have hlt : ∀ p ∈ before, p.block < W.heap.size := fun p hp => hW.lt p hp
  have hold : ∀ p ∈ before, (fun b => decide (b < W.heap.size)) p.block = true := fun p hp => by simpa using hlt p hp
  have hW' := hW
  obtain ⟨p, q, h1, h2, rfl, h3, h4⟩ := hW
  have hq : q = [] := by
    rw [hv] at h2
    cases gs with
    | nil => exact h2
    | cons _ _ => exact h2.elim
  subst hq
  rw [List.append_nil] at *
  have hargs : ∀ sp : Nat → Bool, (∀ x ∈ p, sp x.block = true) → DataW.TrodAll enc P W' 0 sp true f.params.toList args.toList (s.fn H (ds ++ gs)).args p := fun sp hs => by
    rw [hsp]; exact trodAll_below hl hb hrd h1 hlt hs
  have hvars : ∀ sp : Nat → Bool, DataW.TrodVars enc P W' sp s.vars (s.fn H (ds ++ gs)).vars [] := fun sp => by
    rw [hsp, hv]; exact rfl
  have hres : ∀ (b : Nat) (sp : Nat → Bool) (hd : Bool), DataW.TrodAll enc P W' b sp hd f.resultTypes.toList ((Value.bool true).resultList f.resultTypes.size) (s.fn H (ds ++ gs)).results [] := fun b sp hd => by
    rw [hsp, hrt]; exact trodAll_cons_mk (shut_bool htb _) trodAll_mk0
  have hok : ∀ (j : Nat) (t : TypeId) (r : Value), f.resultTypes[j]? = some t → ((Value.bool true).resultList f.resultTypes.size)[j]? = some r → Value.okWide P W' .any 0 t r := ok_one hrt rfl (okWide_bool_mk htb _)
  refine ⟨ds, gs, p, [], p, [], hW', hres _ _ _, hargs _ hold, hvars _, World.keptBut_mono (fun x hx => ⟨hx, ?_⟩) (hb.frame (· ∈ p)), fun _ => ?_⟩
  · exact Or.inr (by simpa using hx)
  · refine ⟨hok, _, _, ([] ++ p) ++ [], ⟨[] ++ p, [], trodAll_append (hargs _ (fun _ _ => rfl)) (hres _ _ _), hvars _, rfl, ?_, ?_⟩, ?_⟩
    · intro b off hp
      have hin : MemPlace.cell b off ∈ p := by simpa using hp
      rw [hb.frozen (hlt _ hin)]
      exact h3 b off hin
    · intro ha; cases ha
    · intro x hx _
      simpa using hx
end
end Go.V
set_option linter.unusedVariables false
namespace Go.Proofs.YtcapljamcepmkaaDoor
open Go.V Go.RowKit Go.WideShapes Go.ChangeShapes Go.ChangeAt
theorem ownK : ownKnob Tryd.prog.godebug = none := by kernel_rfl
theorem laidO : laidOutB Tryd.prog = true := by kernel_rfl
theorem cellsI : Tryd.prog.cellsOf 3 = 1 := by kernel_rfl
theorem bytesI : Tryd.prog.bytesOf 3 = 8 := by kernel_rfl
theorem cellsStr : Tryd.prog.cellsOf 9 = 1 := by kernel_rfl
theorem bytesStr : Tryd.prog.bytesOf 9 = 16 := by kernel_rfl
theorem cellsS24 : Tryd.prog.cellsOf 24 = 1 := by kernel_rfl
theorem cellsS22 : Tryd.prog.cellsOf 22 = 1 := by kernel_rfl
theorem cellsS23 : Tryd.prog.cellsOf 23 = 1 := by kernel_rfl
theorem cellsS25 : Tryd.prog.cellsOf 25 = 1 := by kernel_rfl
theorem cellsT : Tryd.prog.cellsOf 73 = 2 := by kernel_rfl
theorem bytesT : Tryd.prog.bytesOf 73 = 24 := by kernel_rfl
theorem cellsP : Tryd.prog.cellsOf 41 = 3 := by kernel_rfl
theorem bytesP : Tryd.prog.bytesOf 41 = 40 := by kernel_rfl
theorem cellsG : Tryd.prog.cellsOf 27 = 5 := by kernel_rfl
theorem oInt : Opn Tryd.prog Int anyI 3 := opn_int Tryd.underlying3
theorem oInts : Opn Tryd.prog (List Int) (anyL 8 anyI) 24 := opn_slice Tryd.underlying24 cellsI bytesI oInt
theorem oStr : Opn Tryd.prog ByteArray anyS 9 := opn_str Tryd.underlying9
theorem oStrs : Opn Tryd.prog (List ByteArray) (anyL 16 anyS) 23 := opn_slice Tryd.underlying23 cellsStr bytesStr oStr
theorem oTerm : Opn Tryd.prog TermT (fun t => anyS t.name ∧ anyI t.level) 73 := by
  intro H enc W n cs x h hw
  obtain ⟨hl, hf⟩ := opn_struct Tryd.underlying73 h hw
  rw [cellsT] at hl
  obtain ⟨_, _, t0, w0⟩ := hf 0 _ 9 1 0 rfl cellsStr rfl rfl
  obtain ⟨_, _, t1, w1⟩ := hf 1 _ 3 1 1 rfl cellsI rfl rfl
  obtain ⟨y0, r0, b0⟩ := oStr enc W _ _ _ t0 w0
  obtain ⟨y1, r1, b1⟩ := oInt enc W _ _ _ t1 w1
  match cs, hl with
  | [c0, c1], _ =>
    have e0 : [c0] = [.string y0] := r0
    have e1 : [c1] = [.int .i64 y1] := r1
    cases e0; cases e1
    exact ⟨⟨y0, y1⟩, rfl, b0, b1⟩
theorem oTerms : Opn Tryd.prog (List TermT) (anyL 24 fun t => anyS t.name ∧ anyI t.level) 22 := opn_slice Tryd.underlying22 cellsT bytesT oTerm
theorem oProd : Opn Tryd.prog ProdT (fun p => anyI p.left ∧ anyL 8 anyI p.right ∧ anyI p.level) 41 := by
  intro H enc W n cs x h hw
  obtain ⟨hl, hf⟩ := opn_struct Tryd.underlying41 h hw
  rw [cellsP] at hl
  obtain ⟨_, _, t0, w0⟩ := hf 0 _ 3 1 0 rfl cellsI rfl rfl
  obtain ⟨_, _, t1, w1⟩ := hf 1 _ 24 1 1 rfl cellsS24 rfl rfl
  obtain ⟨_, _, t2, w2⟩ := hf 2 _ 3 1 2 rfl cellsI rfl rfl
  obtain ⟨y0, r0, b0⟩ := oInt enc W _ _ _ t0 w0
  obtain ⟨y1, ⟨a, l, c, r1, hlc, r1'⟩, b1⟩ := oInts enc W _ _ _ t1 w1
  obtain ⟨y2, r2, b2⟩ := oInt enc W _ _ _ t2 w2
  match cs, hl with
  | [c0, c1, c2], _ =>
    have e0 : [c0] = [.int .i64 y0] := r0
    have e1 : [c1] = [.slice a l c] := r1
    have e2 : [c2] = [.int .i64 y2] := r2
    cases e0; cases e1; cases e2
    exact ⟨⟨y0, y1, y2⟩, ⟨a, l, c, rfl, hlc, r1'⟩, b0, b1, b2⟩
theorem oProds : Opn Tryd.prog (List ProdT) (anyL 40 fun p => anyI p.left ∧ anyL 8 anyI p.right ∧ anyI p.level) 25 := opn_slice Tryd.underlying25 cellsP bytesP oProd
def okG2 (g : GramT) : Prop := okG g ∧ g.terms.length * 24 ≤ 140737488355328 ∧ g.nons.length * 16 ≤ 140737488355328
theorem oGram : Opn Tryd.prog GramT okG2 27 := by
  intro H enc W n cs x h hw
  obtain ⟨hl, hf⟩ := opn_struct Tryd.underlying27 h hw
  rw [cellsG] at hl
  obtain ⟨_, _, t0, w0⟩ := hf 0 _ 22 1 0 rfl cellsS22 rfl rfl
  obtain ⟨_, _, t1, w1⟩ := hf 1 _ 23 1 1 rfl cellsS23 rfl rfl
  obtain ⟨_, _, t2, w2⟩ := hf 2 _ 24 1 2 rfl cellsS24 rfl rfl
  obtain ⟨_, _, t3, w3⟩ := hf 3 _ 3 1 3 rfl cellsI rfl rfl
  obtain ⟨_, _, t4, w4⟩ := hf 4 _ 25 1 4 rfl cellsS25 rfl rfl
  obtain ⟨y0, ⟨a0, l0, c0', r0, k0, q0⟩, b0⟩ := oTerms enc W _ _ _ t0 w0
  obtain ⟨y1, ⟨a1, l1, c1', r1, k1, q1⟩, b1⟩ := oStrs enc W _ _ _ t1 w1
  obtain ⟨y2, ⟨a2, l2, c2', r2, k2, q2⟩, b2⟩ := oInts enc W _ _ _ t2 w2
  obtain ⟨y3, r3, b3⟩ := oInt enc W _ _ _ t3 w3
  obtain ⟨y4, ⟨a4, l4, c4', r4, k4, q4⟩, b4⟩ := oProds enc W _ _ _ t4 w4
  match cs, hl with
  | [c0, c1, c2, c3, c4], _ =>
    have e0 : [c0] = [.slice a0 l0 c0'] := r0
    have e1 : [c1] = [.slice a1 l1 c1'] := r1
    have e2 : [c2] = [.slice a2 l2 c2'] := r2
    have e3 : [c3] = [.int .i64 y3] := r3
    have e4 : [c4] = [.slice a4 l4 c4'] := r4
    cases e0; cases e1; cases e2; cases e3; cases e4
    refine ⟨⟨y0, y1, y2, y3, y4⟩, ⟨⟨a0, l0, c0', a1, l1, c1', a2, l2, c2', y3, a4, l4, c4'⟩, rfl, q0, q1, q2, rfl, q4, k0, k1, k2, k4⟩, ?_⟩
    have z0 := b0.1
    have z1 := b1.1
    have z2 := b2.1
    have z4 := b4.1
    unfold reachBytes at z0 z1 z2 z4
    refine ⟨⟨by show y0.length ≤ _; omega, by show y1.length ≤ _; omega, by show y2.length ≤ _; omega, by show y4.length * 40 ≤ _; omega, fun t ht => ⟨?_, (b0.2 t ht).2⟩, fun s hs => ?_, fun p hp => ?_⟩, by show y0.length * 24 ≤ _; omega, by show y1.length * 16 ≤ _; omega⟩
    · have := (b0.2 t ht).1; unfold anyS reachBytes at this; omega
    · have := b1.2 s hs; unfold anyS reachBytes at this; omega
    · have := (b4.2 p hp).2.1.1; unfold reachBytes at this; omega
theorem gTab : Tryd.prog.globalNamed "math/bits.deBruijn64tab" = some 0 := by kernel_rfl
theorem gTabType : (Tryd.prog.globals[0]?).map (·.type) = some 148 := by kernel_rfl
theorem cellsTab : Tryd.prog.cellsOf 148 = 64 := by kernel_rfl
theorem cellsTabE : Tryd.prog.cellsOf 5 = 1 := by kernel_rfl
theorem table {W : World} (h : laidMetH Tryd.prog [("math/bits.deBruijn64tab", Rows.laid_math_bits_deBruijn64tab)] W) : tabA (hp W) := by
  have ht : Lib.TabIs Tryd.prog W "math/bits.deBruijn64tab" .u8 (Lib.deBruijn64tab.map fun (k : Nat) => (k : Int)) :=
    Lib.tabIs_of_head (rest := []) gTab gTabType Tryd.underlying148 Tryd.underlying5 cellsTabE cellsTab h
  refine .inr ⟨_, rfl, fun j v hj => ?_⟩
  have hlt := (List.getElem?_eq_some_iff.1 hj).1
  have hc := ht.cell gTab j (by simpa [tabV] using hlt)
  rw [add_lit0]
  refine cellH_of (hc.trans ?_)
  rw [← hj]
  simp only [tabV, List.getElem?_map, List.length_map] at hj hlt ⊢
  rw [List.getElem?_eq_getElem hlt]
  simp [hlt]
noncomputable def laidWorld (os : Os) : World :=
  { World.holding Tryd.prog os ⟨#[], #[], []⟩ with heap := (World.holding Tryd.prog os ⟨#[], #[], []⟩).heap.modify 0 fun
      | .cells _ t frozen => .cells ⟨tabV⟩ t frozen
      | o => o }
end Go.Proofs.YtcapljamcepmkaaDoor
