/- Texts of this claim, one behind the other. -/
import Derived.Test.YtglamnhmjikhkaaG2
import Derived.Test.YtglamnhmjikhkaaG1
import Derived.Test.YtglamnhmjikhkaaRows
import Derived.WalkKit
import Derived.ProofKit
import Derived.OpenShut
import Derived.Carry
import Derived.OpenVars
import Derived.Deep.DeepHandedRow
import Derived.Lib.LaidTab
set_option linter.unusedVariables false
namespace Go.V
theorem szA {l p : Nat} (h : (l + 98) * 16 ≤ 140737488355328) (hp : p ≤ 97) : (l + p + 1) * 16 ≤ 140737488355328 := Nat.le_trans (Nat.mul_le_mul_right 16 (Nat.add_le_add_left (show p + 1 ≤ 98 by omega) l)) h
theorem szB {l : Nat} (h : (l + 98) * 16 ≤ 140737488355328) : l ≤ 8796093022110 := by
  have := (Nat.le_div_iff_mul_le (by decide : 0 < 16)).2 h
  have h2 : 140737488355328 / 16 = 8796093022208 := by decide
  rw [h2] at this
  omega
end Go.V
namespace Go.Proofs.Ytglamnhmjikhkaa
open Go.V
variable {w : World} {L : List Asn} {g : GramT} {x : GA} {a : Option Addr} {l c : Nat} {I : List ItemT}
theorem y_Closure (hg : gR (hp w) g x) (hb : okG g) (hr : rdS (hp w) I a l) (hl : (l + 98) * 16 ≤ 140737488355328) : Run Try.prog n_lr0_Closure [.agg ⟨x.cells⟩, .slice a l c] w fun v w' =>
    (¬(ClosedP g ∧ fitsB g I) ∧ v = .tuple #[.slice none 0 0, .int .i64 1] ∧ Gr w w') ∨
    (ClosedP g ∧ fitsB g I ∧ ∃ o, v = .tuple #[.slice o (cls g I).length (cls g I).length, .int .i64 0] ∧ St w' (own 2 o (cls g I).length (cls g I).length (tv (cls g I)) :: all w)) := by
  refine run_lr0_Closure _ _ _ _ _ _ _ _ _ _ _ _ _ _ _ _ w _ (gbox hg fun k1 w1 gw hg B => ?_)
  refine ⟨_, _, _, _, _, _, _, _, _, _, _, _, _, B.row (sub.refl _), (y_of hg hb).mono ?_⟩
  rintro _ w2 ⟨km, rfl, hm, g2⟩
  refine ⟨_, rfl, _, _, _, _, _, _, _, _, _, _, _, _, _, B.row g2, (g_Closed (hg.mono g2) hb).mono ?_⟩
  rintro _ w3 ⟨⟨rb, rfl, hrb⟩, g3⟩
  have gw3 : Gr w w3 := gw.trans (g2.trans g3)
  refine ⟨_, rfl, br_intro (fun h1 => ?_) fun h1 => ?_⟩
  · exact .inl ⟨fun ⟨hc, _⟩ => by rw [hrb.2 hc] at h1; simp at h1, rfl, gw3⟩
  have hc : ClosedP g := hrb.1 (by simpa using h1)
  obtain ⟨_, _, hP, _⟩ := hc.sizes
  obtain ⟨_, _, _, _, _, _, hbr⟩ := id hb
  refine (y_fits (hm.mono g3) (hr.mono gw3) (Nat.le_trans (szB hl) (by decide)) hbr).mono ?_
  rintro _ w4 ⟨⟨rb2, rfl, hrb2⟩, g4⟩
  refine ⟨_, rfl, br_intro (fun h2 => ?_) fun h2 => ?_⟩
  · exact .inl ⟨fun ⟨_, hf⟩ => by rw [hrb2.2 hf] at h2; simp at h2, rfl, gw3.trans g4⟩
  have hf : fitsB g I := hrb2.1 (by simpa using h2)
  refine (y_closure ((hm.mono g3).mono g4) (hr.mono (gw3.trans g4)) hf (szA hl hP)).mono ?_
  rintro _ w5 ⟨o, rfl, h⟩
  exact ⟨_, _, _, rfl, .inr ⟨hc, hf, o, rfl, h.on1 (has_i (gw3.trans g4))⟩⟩
theorem y_Goto {s : Int} (hg : gR (hp w) g x) (hb : okG g) (hr : rdS (hp w) I a l) (hl : (l + 98) * 16 ≤ 140737488355328) : Run Try.prog n_lr0_Goto [.agg ⟨x.cells⟩, .int .i64 s, .slice a l c] w fun v w' =>
    (¬(ClosedP g ∧ fitsB g I ∧ 0 ≤ s ∧ s < g.T + g.N) ∧ v = .tuple #[.slice none 0 0, .int .i64 1] ∧ Gr w w') ∨
    (ClosedP g ∧ fitsB g I ∧ 0 ≤ s ∧ s < g.T + g.N ∧ ∃ o, v = .tuple #[.slice o (kern g I s).length (kern g I s).length, .int .i64 0] ∧ St w' (own 2 o (kern g I s).length (kern g I s).length (tv (kern g I s)) :: all w)) := by
  refine run_lr0_Goto _ _ _ _ _ _ _ _ _ _ _ _ _ _ _ _ _ w _ (gbox hg fun k1 w1 gw hg B => ?_)
  refine ⟨_, _, _, _, _, _, _, _, _, _, _, _, _, B.row (sub.refl _), (y_of hg hb).mono ?_⟩
  rintro _ w2 ⟨km, rfl, hm, g2⟩
  refine ⟨_, rfl, fun b w' => (b = false ↔ ClosedP g ∧ fitsB g I ∧ 0 ≤ s ∧ s < g.T + g.N) ∧ Gr w2 w', ?_, ?_⟩
  · refine ⟨_, _, _, _, _, _, _, _, _, _, _, _, _, B.row g2, (g_Closed (hg.mono g2) hb).mono ?_⟩
    rintro _ w3 ⟨⟨rb, rfl, hrb⟩, g3⟩
    refine ⟨_, rfl, br_intro (fun h1 => ?_) fun h1 => ?_⟩
    · exact ⟨⟨fun h => (by cases h), fun ⟨hc, _⟩ => by rw [hrb.2 hc] at h1; simp at h1⟩, g3⟩
    have hc : ClosedP g := hrb.1 (by simpa using h1)
    obtain ⟨_, _, hP, _⟩ := hc.sizes
    obtain ⟨_, _, _, _, _, _, hbr⟩ := id hb
    refine (y_fits (hm.mono g3) (hr.mono (gw.trans (g2.trans g3))) (Nat.le_trans (szB hl) (by decide)) hbr).mono ?_
    rintro _ w4 ⟨⟨rb2, rfl, hrb2⟩, g4⟩
    refine ⟨_, rfl, br_intro (fun h2 => ?_) fun h2 => br_intro (fun h3 => ?_) fun h3 => ?_⟩
    · exact ⟨⟨fun h => (by cases h), fun ⟨_, hf, _⟩ => by rw [hrb2.2 hf] at h2; simp at h2⟩, g3.trans g4⟩
    · exact ⟨⟨fun h => (by cases h), fun ⟨_, _, h0, _⟩ => by have := of_decide_eq_true h3; omega⟩, g3.trans g4⟩
    have hf : fitsB g I := hrb2.1 (by simpa using h2)
    have h3 := of_decide_eq_false h3
    have hT : g.T = x.tl := hg.t.1
    have hN : g.N = x.nl := hg.n.1
    obtain ⟨hT2, hN2, _⟩ := hc.sizes
    refine ⟨_, _, _, B.c0 (g2.trans (g3.trans g4)), _, _, _, B.c1 (g2.trans (g3.trans g4)), ⟨by omega, by omega⟩, ?_, g3.trans g4⟩
    rw [decide_eq_false_iff_not, hT, hN]
    exact ⟨fun h => ⟨hc, hf, by omega, by omega⟩, fun ⟨_, _, _, h⟩ => by omega⟩
  rintro _ b w5 ⟨hbb, g5⟩
  have gw5 : Gr w w5 := gw.trans (g2.trans g5)
  refine br_intro (fun h1 => ?_) fun h1 => ?_
  · exact .inl ⟨fun h => (by have := hbb.2 h; rw [this] at h1; cases h1), rfl, gw5⟩
  obtain ⟨hc, hf, h0, h1⟩ := hbb.1 h1
  obtain ⟨_, _, hP, _⟩ := hc.sizes
  obtain ⟨_, _, _, _, _, _, hbr⟩ := id hb
  refine (y_kernels (hm.mono g5) (hr.mono gw5) hf (szA hl hP) hbr).mono ?_
  rintro _ w6 ⟨kk, ps, rfl, hps, hnd, hks, h⟩
  refine ⟨_, rfl, (map_lookup (κ := Int) tyOk (rfl : kdOfT Ty _ = .map _ _) und_int rfl rfl h s).mono ?_⟩
  rintro _ w7 ⟨rfl, e7⟩
  rw [e7]
  obtain ⟨q, M, e1, e2, hq, back⟩ := mS_take rfl (h.pick 2 [1, 0]) s
  rw [hps s h0] at e2
  have hql : q.2.length ≤ l + g.prods.length := by
    have h1 := cls_len g I
    have h2 : (kern g I s).length ≤ (cls g I).length := kernN_len g _ _
    rw [e2, ← hr.1]; exact Nat.le_trans h2 h1
  refine ⟨_, _, _, e1, (y_laid hq (Nat.lt_of_le_of_lt hql (by have := szB hl; omega))).mono ?_⟩
  rintro _ w8 ⟨o, rfl, h⟩
  rw [e2, lay_same kern_srt] at h ⊢
  exact ⟨_, _, _, rfl, .inr ⟨hc, hf, h0, by omega, o, rfl, (h.pick 4 [0, 3]).on1 (has_i gw5)⟩⟩
end Go.Proofs.Ytglamnhmjikhkaa
set_option linter.unusedVariables false
namespace Go.Proofs.Ytglamnhmjikhkaa
open Go.V
abbrev n_presageref09_SameItems : FuncId := 21
def ann_presageref09_SameItems : Ann := { rngs := [], loops := [(4, [(5, (.one (.int .i64)))])], joins := [], blocks := [] }
set_option maxRecDepth 100000 in
def vc_presageref09_SameItems (a : Option Addr) (b c : Nat) (d : Option Addr) (e f : Nat) (w : World) (R : Value → WP) : Prop :=  br ((↑b : Int) != (↑e : Int)) (R (vB false) w) (∃ (x1 : lP [(5, shI)]), ∃ (x2 : lN [(5, shI)]), x1 0 w ∧ ∀ (I1 : Nat → Value) (n1 : Int) (w1 : World), x1 n1 w1 → br (decide (n1 < (↑b : Int))) (∀ w2, drawn w1 w2 → ∃ (I2 : World → Prop), I2 w2 ∧ idx a b n1 2 fun a1 => ∃ n2 n3, (∀ w3, I2 w3 → V.rowAt w3 a1 0 2 = some [iI n2, iI n3]) ∧ idx d e n1 2 fun a2 => ∃ n4 n5, (∀ w4, I2 w4 → V.rowAt w4 a2 0 2 = some [iI n4, iI n5]) ∧ ∃ v1, (∀ w5, I2 w5 → Sem.run Proofs.Try.prog (cmpS BinOp.neq 49 (Operand.tmp 20) (Operand.tmp 24) (vG [iI n2, iI n3]) (vG [iI n4, iI n5])) w5 = Result.ok v1 w5) ∧ ∃ b1, v1 = vB b1 ∧ br b1 (R (vB false) w2) (inI (n1 + 1) ∧ x1 (n1 + 1) w2 ∧ x2 (n1 + 1) w2 < x2 n1 w1)) (R (vB true) w1))
set_option maxRecDepth 100000 in
theorem run_presageref09_SameItems (a : Option Addr) (b c : Nat) (d : Option Addr) (e f : Nat) (w : World) (R : Value → WP) (h : vc_presageref09_SameItems a b c d e f w R) : Run Try.prog 21 [(.slice a b c), (.slice d e f)] w R := rv Try.func21 ann_presageref09_SameItems (by kernel_rfl) h

abbrev n_presageref09_Laid : FuncId := 25
def ann_presageref09_Laid : Ann := { rngs := [], loops := [(3, [(3, (.one .slice)), (4, (.one (.int .i64)))]), (6, [(5, (.one (.int .i64)))])], joins := [(8, [(5, (.one (.int .i64)))])], blocks := [] }
set_option maxRecDepth 100000 in
def vc_presageref09_Laid (a : Option Addr) (b c : Nat) (w : World) (R : Value → WP) : Prop :=  ∃ (x1 : lP [(3, shS), (4, shI)]), ∃ (x2 : lN [(3, shS), (4, shI)]), x1 none 0 0 0 w ∧ ∀ (I1 : Nat → Value) (o1 : Option Addr) (k1 k2 : Nat) (n1 : Int) (w1 : World), x1 o1 k1 k2 n1 w1 → br (decide (n1 < (↑b : Int))) (∃ (x3 : lP [(5, shI)]), (∃ (x4 : lP [(5, shI)]), ∃ (x5 : lN [(5, shI)]), x4 0 w1 ∧ ∀ (I2 : Nat → Value) (n2 : Int) (w2 : World), x4 n2 w2 → ∀ w3, drawn w2 w3 → ∃ (I3 : World → Prop), I3 w3 ∧ br (decide (n2 < (↑k1 : Int))) (idx o1 k1 n2 2 fun a1 => ∃ n3, (∀ w4, I3 w4 → World.cell? w4 a1 = some (iI n3)) ∧ idx a b n1 2 fun a2 => ∃ n4, (∀ w5, I3 w5 → World.cell? w5 a2 = some (iI n4)) ∧ br (decide (n3 < n4)) (inI (n2 + 1) ∧ x4 (n2 + 1) w3 ∧ x5 (n2 + 1) w3 < x5 n2 w2) (idx o1 k1 n2 2 fun a3 => ∃ n5, (∀ w6, I3 w6 → World.cell? w6 a3 = some (iI n5)) ∧ idx a b n1 2 fun a4 => ∃ n6, (∀ w7, I3 w7 → World.cell? w7 a4 = some (iI n6)) ∧ br (n5 == n6) (idx o1 k1 n2 2 fun a5 => ∃ n7, (∀ w8, I3 w8 → World.cell? w8 (Addr.add a5 1) = some (iI n7)) ∧ idx a b n1 2 fun a6 => ∃ n8, (∀ w9, I3 w9 → World.cell? w9 (Addr.add a6 1) = some (iI n8)) ∧ br (decide (n7 < n8)) (inI (n2 + 1) ∧ x4 (n2 + 1) w3 ∧ x5 (n2 + 1) w3 < x5 n2 w2) (x3 n2 w3)) (x3 n2 w3))) (x3 n2 w3)) ∧ ∀ (I4 : Nat → Value) (n9 : Int) (w10 : World), x3 n9 w10 → ∀ w11, drawn w10 w11 → ∃ (I5 : World → Prop), I5 w11 ∧ br (decide (n9 < (↑k1 : Int))) (idx o1 k1 n9 2 fun a7 => ∃ n10 n11, (∀ w12, I5 w12 → V.rowAt w12 a7 0 2 = some [iI n10, iI n11]) ∧ idx a b n1 2 fun a8 => ∃ n12 n13, (∀ w13, I5 w13 → V.rowAt w13 a8 0 2 = some [iI n12, iI n13]) ∧ ∃ v1, (∀ w14, I5 w14 → Sem.run Proofs.Try.prog (cmpS BinOp.eql 49 (Operand.tmp 66) (Operand.tmp 70) (vG [iI n10, iI n11]) (vG [iI n12, iI n13])) w14 = Result.ok v1 w14) ∧ ∃ b1, v1 = vB b1 ∧ br b1 (inI (n1 + 1) ∧ x1 o1 k1 k2 (n1 + 1) w11 ∧ x2 o1 k1 k2 (n1 + 1) w11 < x2 o1 k1 k2 n1 w1) (slc o1 k1 k2 none (some n9) none 2 fun (o2 : Option Addr) (k3 k4 : Nat) => RunS Proofs.Try.prog (apB 40 (Array.mk [vS none 0 0, vS o2 k3 k4])) w11 fun v2 w15 => ∃ o3 k5 k6, v2 = vS o3 k5 k6 ∧ idx a b n1 2 fun a9 => ∃ n14 n15, V.rowAt w15 a9 0 2 = some [iI n14, iI n15] ∧ new w15 (oC [iI n14, iI n15] 49) fun k7 w16 => RunS Proofs.Try.prog (apB 40 (Array.mk [vS o3 k5 k6, vS (some (aM k7)) 1 1])) w16 fun v3 w17 => ∃ o4 k8 k9, v3 = vS o4 k8 k9 ∧ slc o1 k1 k2 (some n9) none none 2 fun (o5 : Option Addr) (k10 k11 : Nat) => RunS Proofs.Try.prog (apB 40 (Array.mk [vS o4 k8 k9, vS o5 k10 k11])) w17 fun v4 w18 => ∃ o6 k12 k13, v4 = vS o6 k12 k13 ∧ inI (n1 + 1) ∧ x1 o6 k12 k13 (n1 + 1) w18 ∧ x2 o6 k12 k13 (n1 + 1) w18 < x2 o1 k1 k2 n1 w1)) (slc o1 k1 k2 none (some n9) none 2 fun (o7 : Option Addr) (k14 k15 : Nat) => RunS Proofs.Try.prog (apB 40 (Array.mk [vS none 0 0, vS o7 k14 k15])) w11 fun v5 w19 => ∃ o8 k16 k17, v5 = vS o8 k16 k17 ∧ idx a b n1 2 fun a10 => ∃ n16 n17, V.rowAt w19 a10 0 2 = some [iI n16, iI n17] ∧ new w19 (oC [iI n16, iI n17] 49) fun k18 w20 => RunS Proofs.Try.prog (apB 40 (Array.mk [vS o8 k16 k17, vS (some (aM k18)) 1 1])) w20 fun v6 w21 => ∃ o9 k19 k20, v6 = vS o9 k19 k20 ∧ slc o1 k1 k2 (some n9) none none 2 fun (o10 : Option Addr) (k21 k22 : Nat) => RunS Proofs.Try.prog (apB 40 (Array.mk [vS o9 k19 k20, vS o10 k21 k22])) w21 fun v7 w22 => ∃ o11 k23 k24, v7 = vS o11 k23 k24 ∧ inI (n1 + 1) ∧ x1 o11 k23 k24 (n1 + 1) w22 ∧ x2 o11 k23 k24 (n1 + 1) w22 < x2 o1 k1 k2 n1 w1)) (R (vS o1 k1 k2) w1)
set_option maxRecDepth 100000 in
theorem run_presageref09_Laid (a : Option Addr) (b c : Nat) (w : World) (R : Value → WP) (h : vc_presageref09_Laid a b c w R) : Run Try.prog 25 [(.slice a b c)] w R := rv Try.func25 ann_presageref09_Laid (by kernel_rfl) h

end Go.Proofs.Ytglamnhmjikhkaa
set_option linter.unusedVariables false
namespace Go.V
structure StT where
  kern : List ItemT
  edges : List EdgeT
instance : Rep StT := { n := 2, rd := fun h q vs => ∃ a l c b n d, vs = [.slice a l c, .slice b n d] ∧ l ≤ c ∧ n ≤ d ∧ rdS h q.kern a l ∧ rdS h q.edges b n, mono := fun s ⟨a, l, c, b, n, d, h1, h2, h3, h4, h5⟩ => ⟨a, l, c, b, n, d, h1, h2, h3, h4.mono s, h5.mono s⟩, len := fun ⟨_, _, _, _, _, _, h, _⟩ => by rw [h]; rfl }
theorem ins_at {x : ItemT} {out : List ItemT} {n : Nat} (hs : SrtI out) (h1 : ∀ (j : Nat) y, j < n → out[j]? = some y → y.lt x) (h2 : ∀ y, out[n]? = some y → x.lt y) : insI x out = out.take n ++ x :: out.drop n := by
  refine (insI_srt hs).one ?_ fun y => ?_
  · have hs2 : SrtI (out.take n ++ out.drop n) := by rwa [List.take_append_drop]
    unfold SrtI at hs2 ⊢
    rw [List.pairwise_append] at hs2 ⊢
    obtain ⟨p1, p2, p3⟩ := hs2
    have hd : ∀ y ∈ out.drop n, x.lt y := fun y hy => by
      cases hc : out[n]? with
      | none => rw [List.drop_eq_nil_of_le (List.getElem?_eq_none_iff.1 hc)] at hy; simp at hy
      | some z =>
        have hz := h2 z hc
        obtain ⟨hlt, rfl⟩ := List.getElem?_eq_some_iff.1 hc
        rw [List.drop_eq_getElem_cons hlt] at hy p2
        rcases List.mem_cons.1 hy with rfl | hy
        · exact hz
        · exact ItemT.lt_trans hz ((List.pairwise_cons.1 p2).1 y hy)
    have ht : ∀ y ∈ out.take n, y.lt x := fun y hy => by
      obtain ⟨j, hj⟩ := List.getElem?_of_mem hy
      have hjn : j < n := by have := (List.getElem?_eq_some_iff.1 hj).1; rw [List.length_take] at this; omega
      rw [List.getElem?_take, if_pos hjn] at hj
      exact h1 j y hjn hj
    refine ⟨p1, List.pairwise_cons.2 ⟨hd, p2⟩, fun y hy z hz => ?_⟩
    rcases List.mem_cons.1 hz with rfl | hz
    · exact ht y hy
    · exact p3 y hy z hz
  · rw [insI_mem, List.mem_append, List.mem_cons]
    have : y ∈ out ↔ y ∈ out.take n ∨ y ∈ out.drop n := by rw [← List.mem_append, List.take_append_drop]
    rw [this]
    constructor
    · rintro (h | h | h)
      · exact .inr (.inl h)
      · exact .inl h
      · exact .inr (.inr h)
    · rintro (h | h | h)
      · exact .inr (.inl h)
      · exact .inl h
      · exact .inr (.inr h)
theorem ins_old {x : ItemT} {out : List ItemT} (hs : SrtI out) (h : x ∈ out) : insI x out = out := (insI_srt hs).one hs fun y => by
  rw [insI_mem]; exact ⟨fun e => e.elim (fun e => e ▸ h) id, .inr⟩
theorem lay_snoc (l : List ItemT) (x : ItemT) : lay (l ++ [x]) = insI x (lay l) := by unfold lay; rw [List.foldl_append]; rfl
theorem slP0 (a : Option Addr) (m sz : Nat) : slP a 0 m sz = a := by
  unfold slP; split
  · rfl
  · rw [mulS_eq, Nat.zero_mul]
    cases a <;> simp [Addr.add]
end Go.V
namespace Go.Proofs.Ytglamnhmjikhkaa
open Go.V
variable {w : World} {L : List Asn} {g : GramT} {x : GA} {a a2 : Option Addr} {l c l2 c2 : Nat} {I J : List ItemT}
theorem d_SameItems (hx : rdS (hp w) I a l) (hy : rdS (hp w) J a2 l2) (hb : l ≤ 4611686018427387904) : Run Try.prog n_presageref09_SameItems [.slice a l c, .slice a2 l2 c2] w fun v w' => v = .bool (decide (I = J)) ∧ hp w' = hp w := by
  have h1 := hx.1
  have h2 := hy.1
  refine run_presageref09_SameItems _ _ _ _ _ _ w _ (br_intro (fun h => ?_) fun h => ?_)
  · have h : l ≠ l2 := fun e => by subst e; simp at h
    have hne : I ≠ J := fun e => h (by rw [← h1, ← h2, e])
    exact ⟨by rw [decide_eq_false hne], rfl⟩
  have h : l = l2 := by have := bne_eq_false_iff_eq.1 h; omega
  subst h
  refine ⟨fun z w' => ∃ j : Nat, z = j ∧ j ≤ l ∧ I.take j = J.take j ∧ hp w' = hp w, fun z _ => l - z.toNat, ⟨0, rfl, Nat.zero_le _, rfl, rfl⟩, ?_⟩
  rintro _ _ w1 ⟨j, rfl, hj, he, e1⟩
  refine br_intro (fun h3 => ?_) fun h3 => ?_
  rotate_left
  · have h3 : j = l := by have := of_decide_eq_false h3; omega
    rw [h3, List.take_of_length_le (by omega), List.take_of_length_le (by omega)] at he
    exact ⟨by rw [decide_eq_true he], e1⟩
  have h3 : j < l := by have := of_decide_eq_true h3; omega
  intro w2 hd
  have e2 : hp w2 = hp w := (hp_drawn hd).trans e1
  obtain ⟨y, ad, hy1, rfl, cy⟩ := rdIt_get hx h3
  obtain ⟨z, ad2, hz1, rfl, cz⟩ := rdIt_get hy h3
  refine ⟨fun u => hp u = hp w, e2, idx_n rfl h3 ⟨_, _, fun u hu => cy u (hp_sub hu), idx_n rfl h3 ⟨_, _, fun u hu => cz u (hp_sub hu), _, fun u _ => neItem u _ _ y z, _, rfl, br_intro (fun h4 => ?_) fun h4 => ?_⟩⟩⟩
  · have h4 : y ≠ z := by simpa using h4
    have hne : I ≠ J := fun e => by subst e; rw [hy1] at hz1; cases hz1; exact h4 rfl
    exact ⟨by rw [decide_eq_false hne], e2⟩
  · have h4 : y = z := by simpa using h4
    subst h4
    exact ⟨⟨by omega, by omega⟩, ⟨j + 1, by simp, h3, by rw [List.take_add_one, List.take_add_one, hy1, hz1, he], e2⟩, msr h3⟩
end Go.Proofs.Ytglamnhmjikhkaa
set_option linter.unusedVariables false
namespace Go.Proofs.Ytglamnhmjikhkaa
open Go.V
variable {w : World} {L : List Asn} {g : GramT} {x : GA} {a a2 : Option Addr} {l c l2 c2 : Nat} {I J : List ItemT}
theorem lay_len (I : List ItemT) : (lay I).length ≤ I.length := nodup_len (lay_srt I).nodup fun x hx => lay_mem.1 hx
theorem d_Laid (hx : rdS (hp w) I a l) (hb : (l + 1) * 16 ≤ 140737488355328) : Run Try.prog n_presageref09_Laid [.slice a l c] w fun v w' => ∃ o c', v = .slice o (lay I).length c' ∧ St w' (own 2 o (lay I).length c' (tv (lay I)) :: all w) := by
  have hl := hx.1
  refine run_presageref09_Laid _ _ _ w _ ⟨fun o n c' z w' => ∃ j : Nat, z = j ∧ j ≤ l ∧ n = (lay (I.take j)).length ∧ St w' (own 2 o n c' (tv (lay (I.take j))) :: all w), fun _ _ _ z _ => l - z.toNat, ⟨0, rfl, Nat.zero_le _, rfl, own_nil 2 (St.all w)⟩, ?_⟩
  rintro _ o _ c1 _ w1 ⟨j, rfl, hj, rfl, h⟩
  refine br_intro (fun h1 => ?_) fun h1 => ?_
  rotate_left
  · have h1 : j = l := by have := of_decide_eq_false h1; omega
    rw [h1, List.take_of_length_le (by omega)] at h ⊢
    exact ⟨_, _, rfl, h⟩
  have h1 : j < l := by have := of_decide_eq_true h1; omega
  obtain ⟨y, ad, hy, rfl, cy⟩ := rdIt_get hx h1
  have hT : lay (I.take (j + 1)) = insI y (lay (I.take j)) := by rw [List.take_add_one, hy, Option.toList_some, lay_snoc]
  have hS := lay_srt (I.take j)
  have hn : (lay (I.take j)).length ≤ j := by have := lay_len (I.take j); rw [List.length_take] at this; omega
  generalize lay (I.take j) = out at h hT hS hn
  generalize hO2 : lay (I.take (j + 1)) = out2 at hT
  have row : rowH (hp w) (ad.add (mulS j 2)) (encT y) := by
    obtain ⟨ad', vs, e, r, e2⟩ := hx.2 j y hy
    cases e; rw [show vs = encT y from e2] at r; exact r
  refine ⟨fun z w' => ∃ t : Nat, z = t ∧ t ≤ out.length ∧ (∀ (k : Nat) u, k < t → out[k]? = some u → u.lt y) ∧ (∀ u, out[t]? = some u → ¬u.lt y) ∧ St w' (own 2 o out.length c1 (tv out) :: all w), ?_, ?_⟩
  · refine ⟨fun z w' => ∃ t : Nat, z = t ∧ t ≤ out.length ∧ (∀ (k : Nat) u, k < t → out[k]? = some u → u.lt y) ∧ St w' (own 2 o out.length c1 (tv out) :: all w), fun z _ => out.length - z.toNat, ⟨0, rfl, Nat.zero_le _, fun k u hk => by omega, h⟩, ?_⟩
    clear h
    rintro _ _ w2 ⟨t, rfl, ht, hlt, h⟩
    intro w3 hd
    have h := h.eq (drawn_hp hd)
    have s3 : sub (hp w) (hp w3) := rdH 1 h.l
    refine ⟨fun u => Gr w3 u, Gr.refl _, br_intro (fun h2 => ?_) fun h2 => ?_⟩
    rotate_left
    · have h2 : t = out.length := by have := of_decide_eq_false h2; omega
      exact ⟨t, rfl, ht, hlt, fun u hu => by rw [h2] at hu; simp at hu, h⟩
    have h2 : t < out.length := by have := of_decide_eq_true h2; omega
    obtain ⟨u, ad2, hu, rfl, cu⟩ := rdIt_get (own_rdI2 h) h2
    have rowu : rowH (hp w3) (ad2.add (mulS t 2)) (encT u) := by
      obtain ⟨ad', vs, e, r, e2⟩ := (own_rdI2 h).2 t u hu
      cases e; rw [show vs = encT u from e2] at r; exact r
    have nxt : u.lt y → inI ((t : Int) + 1) ∧ (∃ t' : Nat, (t : Int) + 1 = t' ∧ t' ≤ out.length ∧ (∀ (k : Nat) u, k < t' → out[k]? = some u → u.lt y) ∧ St w3 (own 2 (some ad2) out.length c1 (tv out) :: all w)) ∧ out.length - ((t : Int) + 1).toNat < out.length - (t : Int).toNat := fun hlu =>
      ⟨⟨by omega, by omega⟩, ⟨t + 1, by simp, h2, fun k v hk hv => by
        by_cases e : k = t
        · subst e; rw [hu] at hv; cases hv; exact hlu
        · exact hlt k v (by omega) hv, h⟩, msr h2⟩
    have stp : ¬u.lt y → ∃ t' : Nat, (t : Int) = t' ∧ t' ≤ out.length ∧ (∀ (k : Nat) u, k < t' → out[k]? = some u → u.lt y) ∧ (∀ u, out[t']? = some u → ¬u.lt y) ∧ St w3 (own 2 (some ad2) out.length c1 (tv out) :: all w) := fun hlu =>
      ⟨t, rfl, ht, hlt, fun v hv => by rw [hu] at hv; cases hv; exact hlu, h⟩
    have cA : ∀ v, Gr w3 v → v.cell? (ad2.add (mulS t 2)) = some (.int .i64 u.prod) := fun v s => rowu.cell0 s
    have cB : ∀ v, Gr w3 v → v.cell? (ad.add (mulS j 2)) = some (.int .i64 y.prod) := fun v s => row.cell0 (sub.trans s3 s)
    have cC : ∀ v, Gr w3 v → v.cell? ((ad2.add (mulS t 2)).add 1) = some (.int .i64 u.dot) := fun v s => rowu.cell s (j := 1) rfl
    have cD : ∀ v, Gr w3 v → v.cell? ((ad.add (mulS j 2)).add 1) = some (.int .i64 y.dot) := fun v s => row.cell (sub.trans s3 s) (j := 1) rfl
    refine idx_n rfl h2 ⟨_, cA, idx_n rfl h1 ⟨_, cB, br_intro (fun h3 => nxt (.inl (of_decide_eq_true h3))) fun h3 => idx_n rfl h2 ⟨_, cA, idx_n rfl h1 ⟨_, cB, br_intro (fun h4 => ?_) fun h4 => ?_⟩⟩⟩⟩
    · have h4 := beq_iff_eq.1 h4
      refine idx_n rfl h2 ⟨_, cC, idx_n rfl h1 ⟨_, cD, br_intro (fun h5 => nxt (.inr ⟨h4, of_decide_eq_true h5⟩)) fun h5 => stp ?_⟩⟩
      have h5 := of_decide_eq_false h5
      rintro (h | ⟨_, h⟩) <;> omega
    · have h3 := of_decide_eq_false h3
      have h4 := beq_eq_false_iff_ne.1 h4
      exact stp (by rintro (h | ⟨h, _⟩) <;> omega)
  clear h
  rintro _ _ w10 ⟨t, rfl, ht, hlt, hge, h⟩
  intro w11 hd
  have h := h.eq (drawn_hp hd)
  have s11 : sub (hp w) (hp w11) := rdH 1 h.l
  have hlc := own_le h
  have nxt : ∀ (o' : Option Addr) (c' : Nat) w', St w' (own 2 o' out2.length c' (tv out2) :: all w) →
      inI ((j : Int) + 1) ∧ (∃ j' : Nat, (j : Int) + 1 = j' ∧ j' ≤ l ∧ out2.length = (lay (I.take j')).length ∧ St w' (own 2 o' out2.length c' (tv (lay (I.take j'))) :: all w)) ∧ l - ((j : Int) + 1).toNat < l - (j : Int).toNat := fun o' c' w' h =>
    ⟨⟨by omega, by omega⟩, ⟨j + 1, by simp, h1, by rw [hO2], by rw [hO2]; exact h⟩, msr h1⟩
  have z1 : (0 + t) * 16 ≤ 140737488355328 ∧ 0 + t ≤ 9223372036854775807 := by omega
  have z2 : (0 + t + 1) * 16 ≤ 140737488355328 ∧ 0 + t < 9223372036854775807 := by omega
  have z3 : (0 + t + 1 + (out.length - t)) * 16 ≤ 140737488355328 ∧ 0 + t + 1 + (out.length - t) ≤ 9223372036854775807 := by omega
  have hins : (∀ u, out[t]? = some u → u ≠ y) → insI y out = out.take t ++ y :: out.drop t := fun hne => ins_at hS hlt fun u hu => (ItemT.lt_or (hne u hu)).resolve_left (hge u hu)
  refine ⟨fun u => Gr w11 u, Gr.refl _, br_intro (fun h2 => ?_) fun h2 => ?_⟩
  · have h2 : t < out.length := by have := of_decide_eq_true h2; omega
    obtain ⟨u, ad2, hu, rfl, cu⟩ := rdIt_get (own_rdI2 h) h2
    refine idx_n rfl h2 ⟨_, _, cu, idx_n rfl h1 ⟨_, _, fun u s => cy u (sub.trans s11 s), _, fun v _ => eqItem v _ _ u y, _, rfl, br_intro (fun h3 => ?_) fun h3 => ?_⟩⟩
    · have h3 : u = y := of_decide_eq_true h3
      subst h3
      rw [ins_old hS (List.mem_of_getElem? hu)] at hT
      have := nxt (some ad2) c1 w11 (by rw [hT]; exact h)
      rwa [hT] at this
    have h3 : u ≠ y := of_decide_eq_false h3
    have hT2 := hT.trans (hins fun v hv => by rw [hu] at hv; cases hv; exact h3)
    refine slc_hiN (by omega) ?_
    rw [slP0]
    refine (app_rdV (news := tv (out.take t)) tyOk (rfl : kdOfT Ty _ = .slice _) (rfl : kdOfT Ty _ = .slice _) rfl rfl rfl (own_nil 2 h) (by rw [tv_len, List.length_take, Nat.min_eq_left ht]) (by show 0 < 2; decide) (rdIt_rdV ((own_rdI2 h).take ht)) (tv_one _) z1.1 z1.2).mono ?_
    rintro _ w15 ⟨o3, c3, rfl, h⟩
    refine ⟨_, _, _, rfl, idx_n rfl h1 ⟨_, _, cy w15 (rdH 2 h.l), newC_i h fun k7 w16 h => ?_⟩⟩
    refine (app_one (us := tv (out.take t)) tyOk (rfl : kdOfT Ty _ = .slice _) (rfl : kdOfT Ty _ = .slice _) rfl rfl rfl h rfl (by simp [oneC]) z2.1 z2.2).mono ?_
    rintro _ w17 ⟨o4, c4, rfl, h⟩
    refine ⟨_, _, _, rfl, slc_from ht hlc ?_⟩
    refine (app_rdV (news := tv (out.drop t)) tyOk (rfl : kdOfT Ty _ = .slice _) (rfl : kdOfT Ty _ = .slice _) rfl rfl rfl h (by rw [tv_len, List.length_drop]) (by show 0 < 2; decide) (rdIt_rdV ((own_rdI2 (h.pick 3 [2])).drop ht hlc)) (tv_one _) z3.1 z3.2).mono ?_
    rintro _ w18 ⟨o5, c5, rfl, h⟩
    refine ⟨_, _, _, rfl, ?_⟩
    have el : 0 + t + 1 + (out.length - t) = out2.length := by rw [hT2, List.length_append, List.length_cons, List.length_take, List.length_drop, Nat.min_eq_left ht]; omega
    have ev : (tv (out.take t) ++ [.int .i64 y.prod, .int .i64 y.dot]) ++ tv (out.drop t) = tv out2 := by
      rw [hT2, tv_app, tv_cons, List.append_assoc]; rfl
    have h : St w18 (own 2 o5 (0 + t + 1 + (out.length - t)) c5 ((tv (out.take t) ++ [.int .i64 y.prod, .int .i64 y.dot]) ++ tv (out.drop t)) :: all w) := h.pick 4 [0, 3]
    rw [el, ev] at h
    rw [el]
    exact nxt o5 c5 w18 h
  · have h2 : t = out.length := by have := of_decide_eq_false h2; omega
    have hT2 := hT.trans (hins fun v hv => by rw [h2] at hv; simp at hv)
    refine slc_hiN (by omega) ?_
    rw [slP0]
    refine (app_rdV (news := tv (out.take t)) tyOk (rfl : kdOfT Ty _ = .slice _) (rfl : kdOfT Ty _ = .slice _) rfl rfl rfl (own_nil 2 h) (by rw [tv_len, List.length_take, Nat.min_eq_left ht]) (by show 0 < 2; decide) (rdIt_rdV ((own_rdI2 h).take ht)) (tv_one _) z1.1 z1.2).mono ?_
    rintro _ w15 ⟨o3, c3, rfl, h⟩
    refine ⟨_, _, _, rfl, idx_n rfl h1 ⟨_, _, cy w15 (rdH 2 h.l), newC_i h fun k7 w16 h => ?_⟩⟩
    refine (app_one (us := tv (out.take t)) tyOk (rfl : kdOfT Ty _ = .slice _) (rfl : kdOfT Ty _ = .slice _) rfl rfl rfl h rfl (by simp [oneC]) z2.1 z2.2).mono ?_
    rintro _ w17 ⟨o4, c4, rfl, h⟩
    refine ⟨_, _, _, rfl, slc_from ht hlc ?_⟩
    refine (app_rdV (news := tv (out.drop t)) tyOk (rfl : kdOfT Ty _ = .slice _) (rfl : kdOfT Ty _ = .slice _) rfl rfl rfl h (by rw [tv_len, List.length_drop]) (by show 0 < 2; decide) (rdIt_rdV ((own_rdI2 (h.pick 3 [2])).drop ht hlc)) (tv_one _) z3.1 z3.2).mono ?_
    rintro _ w18 ⟨o5, c5, rfl, h⟩
    refine ⟨_, _, _, rfl, ?_⟩
    have el : 0 + t + 1 + (out.length - t) = out2.length := by rw [hT2, List.length_append, List.length_cons, List.length_take, List.length_drop, Nat.min_eq_left ht]; omega
    have ev : (tv (out.take t) ++ [.int .i64 y.prod, .int .i64 y.dot]) ++ tv (out.drop t) = tv out2 := by
      rw [hT2, tv_app, tv_cons, List.append_assoc]; rfl
    have h : St w18 (own 2 o5 (0 + t + 1 + (out.length - t)) c5 ((tv (out.take t) ++ [.int .i64 y.prod, .int .i64 y.dot]) ++ tv (out.drop t)) :: all w) := h.pick 4 [0, 3]
    rw [el, ev] at h
    rw [el]
    exact nxt o5 c5 w18 h
end Go.Proofs.Ytglamnhmjikhkaa
set_option linter.unusedVariables false
namespace Go.V
section
variable {g : GramT} {I ls : List ItemT} {bs : List Bool} {i : Nat} {x y : ItemT}
theorem ClosedP.left (h : ClosedP g) {p : ProdT} (hp : p ∈ g.prods) : (g.T : Int) ≤ p.left := by
  obtain ⟨_, h1, h2, p0, hp0, hl, _⟩ := h
  obtain ⟨n, hn⟩ := List.getElem?_of_mem hp
  cases n with
  | zero => rw [hp0] at hn; cases hn; omega
  | succ n =>
    have hm : p ∈ g.prods.drop 1 := by
      refine List.mem_of_getElem? (i := n) ?_
      rw [List.getElem?_drop, Nat.add_comm]; exact hn
    have := ((h2.2.2.1 p hm).1).1
    omega
structure DclI (g : GramT) (I : List ItemT) (bs : List Bool) (i : Nat) (ls : List ItemT) : Prop where
  nd : ls.Nodup
  sb : ∀ x ∈ I, x ∈ ls
  ok : ∀ x ∈ ls, ClM g I x
  ln : bs.length = g.T + g.N
  bt : ∀ s : Nat, bs[s]? = some true → ∀ k ∈ byL g s, it0 k ∈ ls
  dn : ∀ (j : Nat) y, j < i → ls[j]? = some y → (g.T : Int) ≤ aft g y → bs[(aft g y).toNat]? = some true
theorem DclI.start : DclI g I (List.replicate (g.T + g.N) false) 0 (lay I) :=
  ⟨(lay_srt I).nodup, fun x hx => lay_mem.2 hx, fun x hx => .base (lay_mem.1 hx), by simp, fun s hs => by rw [List.getElem?_replicate] at hs; split at hs <;> simp at hs, fun j y hj => by omega⟩
theorem item_len (h1 : ls.Nodup) (h2 : ∀ x ∈ ls, ClM g I x) : ls.length ≤ I.length + g.prods.length := by
  have := nodup_len (m := I ++ (List.range g.prods.length).map it0) h1 fun x hx => by
    rw [List.mem_append]
    rcases (h2 x hx).or with h | ⟨i, hi, rfl⟩
    · exact .inl h
    · exact .inr (List.mem_map.2 ⟨i, List.mem_range.2 hi, rfl⟩)
  simpa using this
theorem DclI.len (h : DclI g I bs i ls) : ls.length ≤ I.length + g.prods.length := item_len h.nd h.ok
theorem DclI.skip (h : DclI g I bs i ls) (hy : ls[i]? = some y) (hs : aft g y < g.T ∨ bs[(aft g y).toNat]? = some true) : DclI g I bs (i + 1) ls :=
  ⟨h.nd, h.sb, h.ok, h.ln, h.bt, fun j z hj hz h0 => by
    by_cases e : j = i
    · subst e; rw [hy] at hz; cases hz
      rcases hs with hs | hs
      · omega
      · exact hs
    · exact h.dn j z (by omega) hz h0⟩
structure DclJ (g : GramT) (I : List ItemT) (s : Int) (ls : List ItemT) (j : Nat) (ms : List ItemT) : Prop where
  nd : ms.Nodup
  pre : ∃ ex, ms = ls ++ ex
  ok : ∀ x ∈ ms, ClM g I x
  al : ∀ k ∈ byN g j s, it0 k ∈ ms
theorem DclI.inner (h : DclI g I bs i ls) (s : Int) : DclJ g I s ls 0 ls := ⟨h.nd, ⟨[], by simp⟩, h.ok, fun k hk => by simp [byN] at hk⟩
theorem DclI.more {ms : List ItemT} (h : DclI g I bs i ls) (hy : ls[i]? = some y) (h0 : 0 ≤ aft g y) (hl : (aft g y).toNat < bs.length) (hJ : DclJ g I (aft g y) ls g.prods.length ms) : DclI g I (bs.set (aft g y).toNat true) (i + 1) ms := by
  obtain ⟨ex, rfl⟩ := hJ.pre
  refine ⟨hJ.nd, fun x hx => List.mem_append_left _ (h.sb x hx), hJ.ok, by rw [List.length_set]; exact h.ln, fun s hs k hk => ?_, fun j z hj hz h1 => ?_⟩
  · by_cases e : (aft g y).toNat = s
    · have e2 : (s : Int) = aft g y := by omega
      rw [e2] at hk
      exact hJ.al k hk
    · rw [List.getElem?_set_ne e] at hs
      exact List.mem_append_left _ (h.bt s hs k hk)
  · have hjl : j < ls.length := by have := (List.getElem?_eq_some_iff.1 hy).1; omega
    rw [List.getElem?_append_left hjl] at hz
    by_cases e : (aft g y).toNat = (aft g z).toNat
    · rw [← e, List.getElem?_set_self hl]
    · rw [List.getElem?_set_ne e]
      by_cases e2 : j = i
      · subst e2; rw [hy] at hz; cases hz; exact absurd rfl e
      · exact h.dn j z (by omega) hz h1
theorem DclI.fin (h : DclI g I bs i ls) (hc : ClosedP g) (hi : i = ls.length) : lay ls = cls g I := by
  refine cls_one (lay_srt _) fun x => ?_
  rw [lay_mem]
  refine ⟨h.ok x, fun hx => ?_⟩
  induction hx with
  | base hx => exact h.sb _ hx
  | @step y k p _ h1 h2 h3 ih =>
    obtain ⟨j, hj⟩ := List.getElem?_of_mem ih
    have hl := hc.left (List.mem_of_getElem? h2)
    have := h.dn j y (by have := (List.getElem?_eq_some_iff.1 hj).1; omega) hj (by omega)
    exact h.bt _ this k (byL_mem.2 ⟨p, h2, by rw [h3]; omega⟩)
theorem DclJ.skip {s : Int} {j : Nat} {ms : List ItemT} {p : ProdT} (h : DclJ g I s ls j ms) (hp : g.prods[j]? = some p) (hs : p.left ≠ s ∨ it0 j ∈ ms) : DclJ g I s ls (j + 1) ms :=
  ⟨h.nd, h.pre, h.ok, fun k hk => by
    rw [byN_succ hp, List.mem_append] at hk
    rcases hk with hk | hk
    · exact h.al k hk
    · split at hk
      · rename_i e
        simp at hk; subst hk
        rcases hs with hs | hs
        · exact absurd e.symm hs
        · exact hs
      · simp at hk⟩
theorem DclJ.put {s : Int} {j : Nat} {ms : List ItemT} {p : ProdT} (h : DclJ g I s ls j ms) (hp : g.prods[j]? = some p) (hs : p.left = s) (hn : it0 j ∉ ms) (hy : ClM g I y) (ha : aft g y = s) (h0 : 0 ≤ s) : DclJ g I s ls (j + 1) (ms ++ [it0 j]) := by
  obtain ⟨ex, rfl⟩ := h.pre
  refine ⟨?_, ⟨ex ++ [it0 j], by simp⟩, fun x hx => ?_, fun k hk => ?_⟩
  · rw [List.nodup_append]
    exact ⟨h.nd, by simp, fun a ha b hb e => by simp at hb; subst hb; subst e; exact hn (by simpa using ha)⟩
  · rw [List.mem_append, List.mem_singleton] at hx
    rcases hx with hx | rfl
    · exact h.ok x hx
    · exact .step hy (by omega) hp (by omega)
  · rw [byN_succ hp, List.mem_append] at hk
    rcases hk with hk | hk
    · exact List.mem_append_left _ (h.al k hk)
    · split at hk
      · simp at hk; subst hk; simp
      · simp at hk
end
end Go.V
namespace Go.Proofs.Ytglamnhmjikhkaa
open Go.V
variable {w : World} {L : List Asn} {g : GramT} {x : GA} {a a2 : Option Addr} {l c l2 c2 : Nat} {I J : List ItemT}
theorem cls_fit (hf : fitsB g I) : fitsB g (cls g I) := fun x hx => (cls_mem.1 hx).fit hf
end Go.Proofs.Ytglamnhmjikhkaa
set_option linter.unusedVariables false
namespace Go.V
def stRd (h : Hp) (ss : List SQ) (o : Option Addr) : Prop := ∀ (i : Nat) q, ss[i]? = some q → ∃ ad, o = some ad ∧ rowH h (ad.add (mulS i 2)) (stV q) ∧ rdS h q.1.2 q.1.1.1 q.1.2.length ∧ rdS h q.2.2 q.2.1.1 q.2.2.length
theorem stRd.mono {h h' : Hp} {ss : List SQ} {o : Option Addr} (s : sub h h') (r : stRd h ss o) : stRd h' ss o := fun i q hq => by
  obtain ⟨ad, h1, h2, h3, h4⟩ := r i q hq
  exact ⟨ad, h1, h2.mono s, h3.mono s, h4.mono s⟩
def symsTo (g : GramT) (K : Kern) (s : Nat) : List Nat := (List.range s).filter fun s => decide (kern g K s ≠ [])
section
variable {g : GramT} {K : Kern} {ss : List SQ} {asked : Int} {i s : Nat} {es : List EdgeT}
theorem symsTo_succ : symsTo g K (s + 1) = symsTo g K s ++ if kern g K (s : Int) ≠ [] then [s] else [] := by
  unfold symsTo
  rw [List.range_succ, List.filter_append]
  congr 1
  by_cases h : kern g K (s : Int) ≠ []
  · simp [h]
  · simp [h]
structure RldI (g : GramT) (ss : List SQ) (asked : Int) (i : Nat) : Prop where
  ks : ksOf ss = (bst g i).1
  es : esOf ss = (bst g i).2 ++ List.replicate (ss.length - i) []
  lt : ∀ j, j < i → j < (bst g j).1.length
  le : ss.length ≤ 256
  ask : asked = 1 + (totE (bst g i).2 : Int)
structure RltI (g : GramT) (K : Kern) (ss : List SQ) (asked : Int) (i s : Nat) (es : List EdgeT) : Prop where
  ks : ksOf ss = (bsy g K (symsTo g K s) ((bst g i).1, [])).1
  ed : es = (bsy g K (symsTo g K s) ((bst g i).1, [])).2
  eL : esOf ss = (bst g i).2 ++ es :: List.replicate (ss.length - i - 1) []
  le : ss.length ≤ 256
  ask : asked = 1 + (totE (bst g i).2 : Int) + es.length
theorem RldI.start {b : Option Addr} {d : Nat} : RldI g [(((b, d), [⟨0, 0⟩]), ((none, 0), []))] 1 0 := ⟨rfl, rfl, fun j hj => by omega, by simp, rfl⟩
theorem RldI.inner (h : RldI g ss asked i) (hi : i < ss.length) (h0 : kern g K 0 = []) : RltI g K ss asked i 1 [] := by
  have e : symsTo g K 1 = [] := by rw [show (1 : Nat) = 0 + 1 from rfl, symsTo_succ]; simp [h0, symsTo]
  refine ⟨by rw [e]; exact h.ks, by rw [e]; rfl, ?_, h.le, by rw [h.ask]; simp⟩
  rw [h.es, show ss.length - i = (ss.length - i - 1) + 1 by omega, List.replicate_succ]; simp
theorem RltI.skip (h : RltI g K ss asked i s es) (hk : kern g K (s : Int) = []) : RltI g K ss asked i (s + 1) es := by
  have e : symsTo g K (s + 1) = symsTo g K s := by rw [symsTo_succ]; simp [hk]
  exact ⟨by rw [e]; exact h.ks, by rw [e]; exact h.ed, h.eL, h.le, h.ask⟩
theorem newS_es (ss : List SQ) (b : Option Addr) (d : Nat) (K : Kern) : esOf (newS ss b d K) = esOf ss ++ List.replicate ((newS ss b d K).length - ss.length) [] := by
  unfold newS
  split
  · simp
  · simp [esOf]
theorem RltI.next (h : RltI g K ss asked i s es) (hk : kern g K (s : Int) ≠ []) (hi : i < ss.length) (hes : (bst g i).2.length = i) {b : Option Addr} {d : Nat} (hle : (newS ss b d (kern g K s)).length ≤ 256) {q : SQ} (hq : (newS ss b d (kern g K s))[i]? = some q) (E : Lq EdgeT)
    (hE : E.2 = es ++ [⟨(s : Int), (((ksOf ss).idxOf (kern g K s) : Nat) : Int)⟩]) : RltI g K ((newS ss b d (kern g K s)).set i (q.1, E)) (asked + 1) i (s + 1) E.2 := by
  have e : symsTo g K (s + 1) = symsTo g K s ++ [s] := by rw [symsTo_succ, if_pos hk]
  have hs := ks_set hq E
  have hnl := newS_len ss b d (kern g K s)
  refine ⟨?_, ?_, ?_, by rw [List.length_set]; exact hle, by rw [h.ask, hE]; simp; omega⟩
  · rw [hs.1, newS_ks, e, bsy_snoc, h.ks]
  · rw [hE, e, bsy_snoc, h.ed, h.ks]
  · rw [hs.2.2.1, newS_es, h.eL, List.length_set, List.append_assoc, List.set_append_right _ _ (by omega), hes, Nat.sub_self, List.cons_append, List.set_cons_zero, List.replicate_append_replicate]
    congr 3
    omega
theorem RltI.done (h : RltI g K ss asked i (g.T + g.N) es) (hb : ∀ j, j < i → j < (bst g j).1.length) (hK : (bst g i).1[i]? = some K) : RldI g ss asked (i + 1) := by
  have hb1 := bst_succ hK
  refine ⟨by rw [hb1]; exact h.ks, ?_, fun j hj => ?_, h.le, ?_⟩
  · rw [hb1, h.eL, h.ed, List.append_assoc]; rfl
  · by_cases e2 : j = i
    · subst e2; exact (List.getElem?_eq_some_iff.1 hK).1
    · exact hb j (by omega)
  · rw [hb1, totE_snoc, h.ask, h.ed]
    show _ = 1 + ((totE (bst g i).2 + (bsy g K (symsOf g K) ((bst g i).1, [])).2.length : Nat) : Int)
    rw [show symsOf g K = symsTo g K (g.T + g.N) from rfl]
    omega
theorem RltI.len (h : RltI g K ss asked i s es) (hs : s ≤ g.T + g.N) : es.length ≤ s := by
  rw [h.ed, bsy_len2]
  have := List.length_filter_le (fun s => decide (kern g K (s : Nat) ≠ [])) (List.range s)
  rw [List.length_range] at this
  simpa [symsTo] using this
theorem RltI.get (h : RltI g K ss asked i s es) (hes : (bst g i).2.length = i) {q : SQ} (hq : ss[i]? = some q) : q.2.2 = es := by
  have h1 : (esOf ss)[i]? = some q.2.2 := by unfold esOf; rw [List.getElem?_map, hq]; rfl
  rw [h.eL, List.getElem?_append_right (by omega), hes, Nat.sub_self] at h1
  simpa using h1.symm
end
end Go.V
namespace Go.Proofs.Ytglamnhmjikhkaa
open Go.V
variable {w : World} {L : List Asn} {g : GramT} {x : GA} {a a2 : Option Addr} {l c l2 c2 : Nat} {I J : List ItemT}
end Go.Proofs.Ytglamnhmjikhkaa
set_option linter.unusedVariables false
namespace Go.Proofs.Ytglamnhmjikhkaa
open Go.V
variable {w : World} {L : List Asn} {g : GramT} {x : GA}
end Go.Proofs.Ytglamnhmjikhkaa
set_option linter.unusedVariables false
namespace Go.Proofs.Ytglamnhmjikhkaa
open Go.V
abbrev n_presagelaw09_awake : FuncId := 9
def ann_presagelaw09_awake : Ann := { rngs := [], loops := [], joins := [], blocks := [] }
set_option maxRecDepth 100000 in
def vc_presagelaw09_awake  (w : World) (R : Value → WP) : Prop :=  RunE Proofs.Try.prog Ev 26 [] w fun v1 w1 => ∃ o1 k1 k2 o2 k3 k4 o3 k5 k6 n1 o4 k7 k8, v1 = vA (Array.mk [vS o1 k1 k2, vS o2 k3 k4, vS o3 k5 k6, iI n1, vS o4 k7 k8]) ∧ new w1 (oC [vS none 0 0, vS none 0 0, vS none 0 0, iI 0, vS none 0 0] 27) fun k9 w2 => stR w2 (aM k9) [vS o1 k1 k2, vS o2 k3 k4, vS o3 k5 k6, iI n1, vS o4 k7 k8] fun w3 => ∃ o5 k10 k11 o6 k12 k13 o7 k14 k15 n2 o8 k16 k17, V.rowAt w3 (aM k9) 0 5 = some [vS o5 k10 k11, vS o6 k12 k13, vS o7 k14 k15, iI n2, vS o8 k16 k17] ∧ RunE Proofs.Try.prog Ev 12 [vA (Array.mk [vS o5 k10 k11, vS o6 k12 k13, vS o7 k14 k15, iI n2, vS o8 k16 k17])] w3 fun v2 w4 => ∃ o9 k18 k19 n3 n4 n5, v2 = vT (Array.mk [vA (Array.mk [vS o9 k18 k19, iI n3, iI n4]), iI n5]) ∧ new w4 (oC [vS none 0 0, iI 0, iI 0] 32) fun k20 w5 => stR w5 (aM k20) [vS o9 k18 k19, iI n3, iI n4] fun w6 => ∃ o10 k21 k22 o11 k23 k24 o12 k25 k26 n6 o13 k27 k28, V.rowAt w6 (aM k9) 0 5 = some [vS o10 k21 k22, vS o11 k23 k24, vS o12 k25 k26, iI n6, vS o13 k27 k28] ∧ new w6 (oC [iI 0, iI 0] 49) fun k29 w7 => RunE Proofs.Try.prog Ev 17 [vA (Array.mk [vS o10 k21 k22, vS o11 k23 k24, vS o12 k25 k26, iI n6, vS o13 k27 k28]), vS (some (aM k29)) 1 1] w7 fun v3 w8 => ∃ o14 k30 k31 n7, v3 = vT (Array.mk [vS o14 k30 k31, iI n7]) ∧ ∃ o15 k32 k33 o16 k34 k35 o17 k36 k37 n8 o18 k38 k39, V.rowAt w8 (aM k9) 0 5 = some [vS o15 k32 k33, vS o16 k34 k35, vS o17 k36 k37, iI n8, vS o18 k38 k39] ∧ new w8 (oC [iI 0, iI 0] 49) fun k40 w9 => RunE Proofs.Try.prog Ev 19 [vA (Array.mk [vS o15 k32 k33, vS o16 k34 k35, vS o17 k36 k37, iI n8, vS o18 k38 k39]), iI 4, vS (some (aM k40)) 1 1] w9 fun v4 w10 => ∃ o19 k41 k42 n9, v4 = vT (Array.mk [vS o19 k41 k42, iI n9]) ∧ br (n5 == 0) (br (n7 == 0) (br (n9 == 0) (∃ o20 k43 k44, World.cell? w10 (aM k20) = some (vS o20 k43 k44) ∧ br ((↑k43 : Int) == 5) (∃ n10, World.cell? w10 (Addr.add (aM k20) 1) = some (iI n10) ∧ br (n10 == 5) (∃ n11, World.cell? w10 (Addr.add (aM k20) 2) = some (iI n11) ∧ br (n11 == 5) (br ((↑k30 : Int) == 3) (br ((↑k41 : Int) == 2) (idx o19 k41 1 2 fun a1 => ∃ n12 n13, V.rowAt w10 a1 0 2 = some [iI n12, iI n13] ∧ ∃ v5, Sem.run Proofs.Try.prog (cmpS BinOp.eql 49 (Operand.tmp 67) (Operand.tmp 68) (vG [iI n12, iI n13]) (vG [iI 1, iI 1])) w10 = Result.ok v5 w10 ∧ ∃ b1, v5 = vB b1 ∧ R (vB b1) w10) (R (vB false) w10)) (R (vB false) w10)) (R (vB false) w10)) (R (vB false) w10)) (R (vB false) w10)) (R (vB false) w10)) (R (vB false) w10)) (R (vB false) w10)
set_option maxRecDepth 100000 in
theorem run_presagelaw09_awake  (w : World) (R : Value → WP) (h : vc_presagelaw09_awake  w R) : Run Try.prog 9 [] w R := rv Try.func9 ann_presagelaw09_awake (by kernel_rfl) h

abbrev n_presagelaw09_small : FuncId := 26
def ann_presagelaw09_small : Ann := { rngs := [], loops := [], joins := [], blocks := [] }
set_option maxRecDepth 100000 in
def vc_presagelaw09_small  (w : World) (R : Value → WP) : Prop :=  new w (oC [vS none 0 0, vS none 0 0, vS none 0 0, iI 0, vS none 0 0] 27) fun k1 w1 => new w1 (oC [Value.string (ByteArray.mk (Array.mk [])), iI 0, Value.string (ByteArray.mk (Array.mk [43])), iI 0, Value.string (ByteArray.mk (Array.mk [110])), iI 0] 81) fun k2 w2 => new w2 (oC [Value.string (ByteArray.mk (Array.mk [])), Value.string (ByteArray.mk (Array.mk [101]))] 9) fun k3 w3 => new w3 (oC [iI 4] 3) fun k4 w4 => new w4 (oC [iI 4, iI 1, iI 2] 3) fun k5 w5 => new w5 (oC [iI 2] 3) fun k6 w6 => new w6 (oC [iI 3, vS (some (aM k4)) 1 1, iI 0, iI 4, vS (some (aM k5)) 3 3, iI 0, iI 4, vS (some (aM k6)) 1 1, iI 0] 63) fun k7 w7 => stR w7 (aM k1) [vS (some (aM k2)) 3 3, vS (some (aM k3)) 2 2, vS none 0 0, iI 4, vS (some (aM k7)) 3 3] fun w8 => ∃ o1 k8 k9 o2 k10 k11 o3 k12 k13 n1 o4 k14 k15, V.rowAt w8 (aM k1) 0 5 = some [vS o1 k8 k9, vS o2 k10 k11, vS o3 k12 k13, iI n1, vS o4 k14 k15] ∧ R (vG [vS o1 k8 k9, vS o2 k10 k11, vS o3 k12 k13, iI n1, vS o4 k14 k15]) w8
set_option maxRecDepth 100000 in
theorem run_presagelaw09_small  (w : World) (R : Value → WP) (h : vc_presagelaw09_small  w R) : Run Try.prog 26 [] w R := rv Try.func26 ann_presagelaw09_small (by kernel_rfl) h

abbrev n_presagelaw09_Lr0Again : FuncId := 7
def ann_presagelaw09_Lr0Again : Ann := { rngs := [], loops := [(11, [(18, (.one (.int .i64)))]), (15, [(19, (.one .bool)), (20, (.one (.int .i64)))]), (21, [(21, (.one (.int .i64)))])], joins := [], blocks := [] }
set_option maxRecDepth 100000 in
def vc_presagelaw09_Lr0Again (a : Option Addr) (b c : Nat) (d : Option Addr) (e f : Nat) (g : Option Addr) (i j : Nat) (k : Int) (l : Option Addr) (m n : Nat) (o : Int) (p : Option Addr) (q s : Nat) (w : World) (R : Value → WP) : Prop :=  new w (oC [vS a b c, vS d e f, vS g i j, iI k, vS l m n] 27) fun k1 w1 => RunE Proofs.Try.prog Ev 9 [] w1 fun v1 w2 => ∃ b1, v1 = vB b1 ∧ ∃ o1 k2 k3 o2 k4 k5 o3 k6 k7 n1 o4 k8 k9, V.rowAt w2 (aM k1) 0 5 = some [vS o1 k2 k3, vS o2 k4 k5, vS o3 k6 k7, iI n1, vS o4 k8 k9] ∧ RunE Proofs.Try.prog Ev 17 [vA (Array.mk [vS o1 k2 k3, vS o2 k4 k5, vS o3 k6 k7, iI n1, vS o4 k8 k9]), vS p q s] w2 fun v2 w3 => ∃ o5 k10 k11 n2, v2 = vT (Array.mk [vS o5 k10 k11, iI n2]) ∧ ∃ o6 k12 k13 o7 k14 k15 o8 k16 k17 n3 o9 k18 k19, V.rowAt w3 (aM k1) 0 5 = some [vS o6 k12 k13, vS o7 k14 k15, vS o8 k16 k17, iI n3, vS o9 k18 k19] ∧ RunE Proofs.Try.prog Ev 19 [vA (Array.mk [vS o6 k12 k13, vS o7 k14 k15, vS o8 k16 k17, iI n3, vS o9 k18 k19]), iI o, vS p q s] w3 fun v3 w4 => ∃ o10 k20 k21 n4, v3 = vT (Array.mk [vS o10 k20 k21, iI n4]) ∧ br (n2 != 0) (br b1 (br (n4 == 1) (br ((↑k10 : Int) == 0) (R (vB ((↑k20 : Int) == 0)) w4) (R (vB false) w4)) (R (vB false) w4)) (R (vB false) w4)) (∃ o11 k22 k23 o12 k24 k25 o13 k26 k27 n5 o14 k28 k29, V.rowAt w4 (aM k1) 0 5 = some [vS o11 k22 k23, vS o12 k24 k25, vS o13 k26 k27, iI n5, vS o14 k28 k29] ∧ RunE Proofs.Try.prog Ev 17 [vA (Array.mk [vS o11 k22 k23, vS o12 k24 k25, vS o13 k26 k27, iI n5, vS o14 k28 k29]), vS o5 k10 k11] w4 fun v4 w5 => ∃ o15 k30 k31 n6, v4 = vT (Array.mk [vS o15 k30 k31, iI n6]) ∧ ∃ o16 k32 k33 o17 k34 k35 o18 k36 k37 n7 o19 k38 k39, V.rowAt w5 (aM k1) 0 5 = some [vS o16 k32 k33, vS o17 k34 k35, vS o18 k36 k37, iI n7, vS o19 k38 k39] ∧ RunE Proofs.Try.prog Ev 19 [vA (Array.mk [vS o16 k32 k33, vS o17 k34 k35, vS o18 k36 k37, iI n7, vS o19 k38 k39]), iI o, vS o5 k10 k11] w5 fun v5 w6 => ∃ o20 k40 k41 n8, v5 = vT (Array.mk [vS o20 k40 k41, iI n8]) ∧ RunE Proofs.Try.prog Ev 21 [vS o5 k10 k11, vS o15 k30 k31] w6 fun v6 w7 => ∃ b2, v6 = vB b2 ∧ RunE Proofs.Try.prog Ev 21 [vS o10 k20 k21, vS o20 k40 k41] w7 fun v7 w8 => ∃ b3, v7 = vB b3 ∧ ∃ (x1 : lP [(18, shI)]), ∃ (x2 : lN [(18, shI)]), x1 0 w8 ∧ ∀ (I1 : Nat → Value) (n9 : Int) (w9 : World), x1 n9 w9 → br (decide (n9 < (↑q : Int))) (∃ (x3 : lP [(19, shB), (20, shI)]), ∃ (x4 : lN [(19, shB), (20, shI)]), x3 false 0 w9 ∧ ∀ (I2 : Nat → Value) (b4 : Bool) (n10 : Int) (w10 : World), x3 b4 n10 w10 → br (decide (n10 < (↑k10 : Int))) (∀ w11, drawn w10 w11 → ∃ (I3 : World → Prop), I3 w11 ∧ br b4 (inI (n10 + 1) ∧ x3 true (n10 + 1) w11 ∧ x4 true (n10 + 1) w11 < x4 b4 n10 w10) (idx o5 k10 n10 2 fun a1 => ∃ n11 n12, (∀ w12, I3 w12 → V.rowAt w12 a1 0 2 = some [iI n11, iI n12]) ∧ idx p q n9 2 fun a2 => ∃ n13 n14, (∀ w13, I3 w13 → V.rowAt w13 a2 0 2 = some [iI n13, iI n14]) ∧ ∃ v8, (∀ w14, I3 w14 → Sem.run Proofs.Try.prog (cmpS BinOp.eql 49 (Operand.tmp 89) (Operand.tmp 93) (vG [iI n11, iI n12]) (vG [iI n13, iI n14])) w14 = Result.ok v8 w14) ∧ ∃ b5, v8 = vB b5 ∧ inI (n10 + 1) ∧ x3 b5 (n10 + 1) w11 ∧ x4 b5 (n10 + 1) w11 < x4 b4 n10 w10)) (br (!b4) (R (vB false) w10) (inI (n9 + 1) ∧ x1 (n9 + 1) w10 ∧ x2 (n9 + 1) w10 < x2 n9 w9))) (∃ (x5 : lP [(21, shI)]), ∃ (x6 : lN [(21, shI)]), x5 1 w9 ∧ ∀ (I4 : Nat → Value) (n15 : Int) (w15 : World), x5 n15 w15 → br (decide (n15 < (↑k10 : Int))) (∀ w16, drawn w15 w16 → ∃ (I5 : World → Prop), I5 w16 ∧ idx o5 k10 n15 2 fun a3 => ∃ n16, (∀ w17, I5 w17 → World.cell? w17 a3 = some (iI n16)) ∧ inI (n15 - 1) ∧ idx o5 k10 (n15 - 1) 2 fun a4 => ∃ n17, (∀ w18, I5 w18 → World.cell? w18 a4 = some (iI n17)) ∧ br (decide (n16 < n17)) (R (vB false) w16) (idx o5 k10 n15 2 fun a5 => ∃ n18, (∀ w19, I5 w19 → World.cell? w19 a5 = some (iI n18)) ∧ inI (n15 - 1) ∧ idx o5 k10 (n15 - 1) 2 fun a6 => ∃ n19, (∀ w20, I5 w20 → World.cell? w20 a6 = some (iI n19)) ∧ br (n18 == n19) (idx o5 k10 n15 2 fun a7 => ∃ n20, (∀ w21, I5 w21 → World.cell? w21 (Addr.add a7 1) = some (iI n20)) ∧ inI (n15 - 1) ∧ idx o5 k10 (n15 - 1) 2 fun a8 => ∃ n21, (∀ w22, I5 w22 → World.cell? w22 (Addr.add a8 1) = some (iI n21)) ∧ br (decide (n20 ≤ n21)) (R (vB false) w16) (inI (n15 + 1) ∧ x5 (n15 + 1) w16 ∧ x6 (n15 + 1) w16 < x6 n15 w15)) (inI (n15 + 1) ∧ x5 (n15 + 1) w16 ∧ x6 (n15 + 1) w16 < x6 n15 w15))) (br b1 (br b2 (br b3 (br (n6 == 0) (R (vB (n4 == n8)) w15) (R (vB false) w15)) (R (vB false) w15)) (R (vB false) w15)) (R (vB false) w15))))
set_option maxRecDepth 100000 in
theorem run_presagelaw09_Lr0Again (a : Option Addr) (b c : Nat) (d : Option Addr) (e f : Nat) (g : Option Addr) (i j : Nat) (k : Int) (l : Option Addr) (m n : Nat) (o : Int) (p : Option Addr) (q s : Nat) (w : World) (R : Value → WP) (h : vc_presagelaw09_Lr0Again a b c d e f g i j k l m n o p q s w R) : Run Try.prog 7 [(.agg #[(.slice a b c), (.slice d e f), (.slice g i j), (.int .i64 k), (.slice l m n)]), (.int .i64 o), (.slice p q s)] w R := rv Try.func7 ann_presagelaw09_Lr0Again (by kernel_rfl) h

abbrev n_presagelaw09_Lr0Sums : FuncId := 8
def ann_presagelaw09_Lr0Sums : Ann := { rngs := [], loops := [], joins := [], blocks := [] }
set_option maxRecDepth 100000 in
def vc_presagelaw09_Lr0Sums (a : Option Addr) (b c : Nat) (d : Option Addr) (e f : Nat) (g : Option Addr) (i j : Nat) (k : Int) (l : Option Addr) (m n : Nat) (o : Int) (p : Option Addr) (q s : Nat) (w : World) (R : Value → WP) : Prop :=  new w (oC [vS a b c, vS d e f, vS g i j, iI k, vS l m n] 27) fun k1 w1 => RunE Proofs.Try.prog Ev 9 [] w1 fun v1 w2 => ∃ b1, v1 = vB b1 ∧ nz 2 ∧ inI (Int.tdiv (↑q : Int) 2) ∧ ∀ w3, drawn w2 w3 → ∃ (I1 : World → Prop), I1 w3 ∧ ∃ o1 k2 k3 o2 k4 k5 o3 k6 k7 n1 o4 k8 k9, (∀ w4, I1 w4 → V.rowAt w4 (aM k1) 0 5 = some [vS o1 k2 k3, vS o2 k4 k5, vS o3 k6 k7, iI n1, vS o4 k8 k9]) ∧ slc p q s none (some (Int.tdiv (↑q : Int) 2)) none 2 fun (o5 : Option Addr) (k10 k11 : Nat) => RunE Proofs.Try.prog Ev 17 [vA (Array.mk [vS o1 k2 k3, vS o2 k4 k5, vS o3 k6 k7, iI n1, vS o4 k8 k9]), vS o5 k10 k11] w3 fun v2 w5 => ∃ o6 k12 k13 n2, v2 = vT (Array.mk [vS o6 k12 k13, iI n2]) ∧ I1 w5 ∧ ∀ w6, drawn w5 w6 → ∃ (I2 : World → Prop), I2 w6 ∧ ∃ o7 k14 k15 o8 k16 k17 o9 k18 k19 n3 o10 k20 k21, (∀ w7, I2 w7 → V.rowAt w7 (aM k1) 0 5 = some [vS o7 k14 k15, vS o8 k16 k17, vS o9 k18 k19, iI n3, vS o10 k20 k21]) ∧ slc p q s (some (Int.tdiv (↑q : Int) 2)) none none 2 fun (o11 : Option Addr) (k22 k23 : Nat) => RunE Proofs.Try.prog Ev 17 [vA (Array.mk [vS o7 k14 k15, vS o8 k16 k17, vS o9 k18 k19, iI n3, vS o10 k20 k21]), vS o11 k22 k23] w6 fun v3 w8 => ∃ o12 k24 k25 n4, v3 = vT (Array.mk [vS o12 k24 k25, iI n4]) ∧ I2 w8 ∧ ∃ o13 k26 k27 o14 k28 k29 o15 k30 k31 n5 o16 k32 k33, V.rowAt w8 (aM k1) 0 5 = some [vS o13 k26 k27, vS o14 k28 k29, vS o15 k30 k31, iI n5, vS o16 k32 k33] ∧ RunE Proofs.Try.prog Ev 17 [vA (Array.mk [vS o13 k26 k27, vS o14 k28 k29, vS o15 k30 k31, iI n5, vS o16 k32 k33]), vS p q s] w8 fun v4 w9 => ∃ o17 k34 k35 n6, v4 = vT (Array.mk [vS o17 k34 k35, iI n6]) ∧ ∀ w10, drawn w9 w10 → ∃ (I3 : World → Prop), I3 w10 ∧ ∃ o18 k36 k37 o19 k38 k39 o20 k40 k41 n7 o21 k42 k43, (∀ w11, I3 w11 → V.rowAt w11 (aM k1) 0 5 = some [vS o18 k36 k37, vS o19 k38 k39, vS o20 k40 k41, iI n7, vS o21 k42 k43]) ∧ slc p q s none (some (Int.tdiv (↑q : Int) 2)) none 2 fun (o22 : Option Addr) (k44 k45 : Nat) => RunE Proofs.Try.prog Ev 19 [vA (Array.mk [vS o18 k36 k37, vS o19 k38 k39, vS o20 k40 k41, iI n7, vS o21 k42 k43]), iI o, vS o22 k44 k45] w10 fun v5 w12 => ∃ o23 k46 k47 n8, v5 = vT (Array.mk [vS o23 k46 k47, iI n8]) ∧ I3 w12 ∧ ∀ w13, drawn w12 w13 → ∃ (I4 : World → Prop), I4 w13 ∧ ∃ o24 k48 k49 o25 k50 k51 o26 k52 k53 n9 o27 k54 k55, (∀ w14, I4 w14 → V.rowAt w14 (aM k1) 0 5 = some [vS o24 k48 k49, vS o25 k50 k51, vS o26 k52 k53, iI n9, vS o27 k54 k55]) ∧ slc p q s (some (Int.tdiv (↑q : Int) 2)) none none 2 fun (o28 : Option Addr) (k56 k57 : Nat) => RunE Proofs.Try.prog Ev 19 [vA (Array.mk [vS o24 k48 k49, vS o25 k50 k51, vS o26 k52 k53, iI n9, vS o27 k54 k55]), iI o, vS o28 k56 k57] w13 fun v6 w15 => ∃ o29 k58 k59 n10, v6 = vT (Array.mk [vS o29 k58 k59, iI n10]) ∧ I4 w15 ∧ ∃ o30 k60 k61 o31 k62 k63 o32 k64 k65 n11 o33 k66 k67, V.rowAt w15 (aM k1) 0 5 = some [vS o30 k60 k61, vS o31 k62 k63, vS o32 k64 k65, iI n11, vS o33 k66 k67] ∧ RunE Proofs.Try.prog Ev 19 [vA (Array.mk [vS o30 k60 k61, vS o31 k62 k63, vS o32 k64 k65, iI n11, vS o33 k66 k67]), iI o, vS p q s] w15 fun v7 w16 => ∃ o34 k68 k69 n12, v7 = vT (Array.mk [vS o34 k68 k69, iI n12]) ∧ br (n6 != 0) (br b1 (br (n2 != 0) (R (vB (n12 == 1)) w16) (br (n4 != 0) (R (vB (n12 == 1)) w16) (R (vB false) w16))) (R (vB false) w16)) (RunS Proofs.Try.prog (apB 40 (Array.mk [vS none 0 0, vS o6 k12 k13])) w16 fun v8 w17 => ∃ o35 k70 k71, v8 = vS o35 k70 k71 ∧ RunS Proofs.Try.prog (apB 40 (Array.mk [vS o35 k70 k71, vS o12 k24 k25])) w17 fun v9 w18 => ∃ o36 k72 k73, v9 = vS o36 k72 k73 ∧ RunE Proofs.Try.prog Ev 25 [vS o36 k72 k73] w18 fun v10 w19 => ∃ o37 k74 k75, v10 = vS o37 k74 k75 ∧ RunE Proofs.Try.prog Ev 21 [vS o37 k74 k75, vS o17 k34 k35] w19 fun v11 w20 => ∃ b2, v11 = vB b2 ∧ br (n12 != 0) (br b1 (br b2 (br (n8 == n12) (br (n10 == n12) (br (n2 == 0) (R (vB (n4 == 0)) w20) (R (vB false) w20)) (R (vB false) w20)) (R (vB false) w20)) (R (vB false) w20)) (R (vB false) w20)) (RunS Proofs.Try.prog (apB 40 (Array.mk [vS none 0 0, vS o23 k46 k47])) w20 fun v12 w21 => ∃ o38 k76 k77, v12 = vS o38 k76 k77 ∧ RunS Proofs.Try.prog (apB 40 (Array.mk [vS o38 k76 k77, vS o29 k58 k59])) w21 fun v13 w22 => ∃ o39 k78 k79, v13 = vS o39 k78 k79 ∧ RunE Proofs.Try.prog Ev 25 [vS o39 k78 k79] w22 fun v14 w23 => ∃ o40 k80 k81, v14 = vS o40 k80 k81 ∧ RunE Proofs.Try.prog Ev 21 [vS o40 k80 k81, vS o34 k68 k69] w23 fun v15 w24 => ∃ b3, v15 = vB b3 ∧ br b1 (br b2 (br b3 (br (n2 == 0) (br (n4 == 0) (br (n8 == 0) (R (vB (n10 == 0)) w24) (R (vB false) w24)) (R (vB false) w24)) (R (vB false) w24)) (R (vB false) w24)) (R (vB false) w24)) (R (vB false) w24)))
set_option maxRecDepth 100000 in
theorem run_presagelaw09_Lr0Sums (a : Option Addr) (b c : Nat) (d : Option Addr) (e f : Nat) (g : Option Addr) (i j : Nat) (k : Int) (l : Option Addr) (m n : Nat) (o : Int) (p : Option Addr) (q s : Nat) (w : World) (R : Value → WP) (h : vc_presagelaw09_Lr0Sums a b c d e f g i j k l m n o p q s w R) : Run Try.prog 8 [(.agg #[(.slice a b c), (.slice d e f), (.slice g i j), (.int .i64 k), (.slice l m n)]), (.int .i64 o), (.slice p q s)] w R := rv Try.func8 ann_presagelaw09_Lr0Sums (by kernel_rfl) h

end Go.Proofs.Ytglamnhmjikhkaa
set_option linter.unusedVariables false
namespace Go.V
theorem rdS_lit9 {α : Type} [Rep α] {h : Hp} {xs : List α} {b : Nat} {vs : List Value} (r : rowH h ⟨b, 0, none⟩ vs) (hx : ∀ (i : Nat) x, xs[i]? = some x → rd h x ((vs.drop (i * Rep.n α)).take (Rep.n α))) : rdS h xs (some ⟨b, 0, none⟩) xs.length :=
  ⟨rfl, fun i x hi => by
    refine ⟨_, _, rfl, fun j v hj => ?_, hx i x hi⟩
    rw [List.getElem?_take] at hj
    split at hj
    · rw [List.getElem?_drop] at hj
      rw [add_add, mulS_eq]
      exact r _ v hj
    · cases hj⟩
def lrG : GramT := ⟨[⟨⟨⟨[]⟩⟩, 0⟩, ⟨⟨⟨[43]⟩⟩, 0⟩, ⟨⟨⟨[110]⟩⟩, 0⟩], [⟨⟨[]⟩⟩, ⟨⟨[101]⟩⟩], [], 4, [⟨3, [4], 0⟩, ⟨4, [4, 1, 2], 0⟩, ⟨4, [2], 0⟩]⟩
theorem lr_closed : ClosedP lrG := by
  refine ⟨rfl, ⟨rfl, by decide, by decide, by decide, by decide, ?_, ?_, ?_, ?_, ?_⟩, ⟨by decide, by decide, ?_, by decide, by decide, by decide⟩, ⟨3, [4], 0⟩, rfl, rfl, rfl, rfl⟩
  · decide
  · intro i v h; simp [lrG] at h
  · decide
  · decide
  · decide
  · intro p hp
    simp only [List.drop_succ_cons, List.drop_zero, lrG, List.mem_cons, List.not_mem_nil, or_false] at hp
    unfold prodOk symOk
    rcases hp with rfl | rfl
    · refine ⟨by decide, ?_⟩
      intro s hs; simp at hs
      rcases hs with rfl | rfl | rfl <;> decide
    · refine ⟨by decide, ?_⟩
      intro s hs; simp at hs; subst hs; decide
theorem lr_ok : okG lrG := by
  refine ⟨by decide, by decide, by decide, by decide, ?_, by decide, by decide⟩
  intro t ht
  simp only [lrG, List.mem_cons, List.not_mem_nil, or_false] at ht
  unfold anyI
  rcases ht with rfl | rfl | rfl <;> decide
set_option maxRecDepth 100000 in
theorem lr_bst : ((bst lrG 5).1.length = 5 ∧ totE (bst lrG 5).2 = 4) ∧ ∀ i, i < 5 → i < (bst lrG i).1.length := by decide +kernel
set_option maxRecDepth 100000 in
theorem lr_cls : (cls lrG [⟨0, 0⟩]).length = 3 ∧ kern lrG [⟨0, 0⟩] 4 = [⟨0, 1⟩, ⟨1, 1⟩] := by decide +kernel
theorem lr_done : DoneP lrG 5 := ⟨lr_bst.1.1, by decide, lr_bst.2⟩
theorem lr_aut {ss : List SQ} (h : AutI lrG ss) : ss.length = 5 ∧ totE (esOf ss) = 4 := by
  have e := done_one h.dn lr_done
  refine ⟨e, ?_⟩
  rw [h.es, e]; exact lr_bst.1.2
end Go.V
namespace Go.Proofs.Ytglamnhmjikhkaa
open Go.V
variable {w : World} {L : List Asn} {g : GramT} {x : GA} {a a2 : Option Addr} {l c l2 c2 : Nat} {I J : List ItemT}
theorem lr_fit : fitsB lrG [⟨0, 0⟩] := fun x hx => by
  rw [List.mem_singleton] at hx
  subst hx
  exact ⟨by decide, by decide, ⟨3, [4], 0⟩, rfl, by decide⟩
set_option maxHeartbeats 1000000 in
theorem l_small9 : Run Try.prog n_presagelaw09_small [] w fun v w' => ∃ x : GA, v = .agg ⟨x.cells⟩ ∧ gR (hp w') lrG x ∧ Gr w w' := by
  refine run_presagelaw09_small w _ ?_
  refine newC_i (St.all w) fun k1 w1 h => newC_i h fun k2 w2 h => newC_i h fun k3 w3 h => newC_i h fun k4 w4 h => newC_i h fun k5 w5 h => newC_i h fun k6 w6 h => newC_i h fun k7 w7 h => stR_i (h.pick 8 [6, 0, 1, 2, 3, 4, 5, 7]) rfl (by intro v hv; simp at hv; rcases hv with rfl | rfl | rfl | rfl | rfl <;> rfl) fun w8 h => ?_
  have r7 : rowH (hp w8) ⟨k7, 0, none⟩ _ := rdCel 1 h.l
  have r6 : rowH (hp w8) ⟨k6, 0, none⟩ _ := rdCel 2 h.l
  have r5 : rowH (hp w8) ⟨k5, 0, none⟩ _ := rdCel 3 h.l
  have r4 : rowH (hp w8) ⟨k4, 0, none⟩ _ := rdCel 4 h.l
  have r3 : rowH (hp w8) ⟨k3, 0, none⟩ _ := rdCel 5 h.l
  have r2 : rowH (hp w8) ⟨k2, 0, none⟩ _ := rdCel 6 h.l
  have r1 : rowH (hp w8) ⟨k1, 0, none⟩ _ := rdCel 0 h.l
  have g8 : sub (hp w) (hp w8) := rdH 7 h.l
  have p4 : rdS (hp w8) ([4] : List Int) (some ⟨k4, 0, none⟩) 1 := rdI_of rfl (.inr ⟨_, rfl, r4⟩)
  have p5 : rdS (hp w8) ([4, 1, 2] : List Int) (some ⟨k5, 0, none⟩) 3 := rdI_of rfl (.inr ⟨_, rfl, r5⟩)
  have p6 : rdS (hp w8) ([2] : List Int) (some ⟨k6, 0, none⟩) 1 := rdI_of rfl (.inr ⟨_, rfl, r6⟩)
  have p0 : rdS (hp w8) ([] : List Int) none 0 := rdI_of rfl (.inl rfl)
  refine ⟨_, _, _, _, _, _, _, _, _, _, _, _, _, r1.at (sub.refl _) rfl, ⟨some ⟨k2, 0, none⟩, 3, 3, some ⟨k3, 0, none⟩, 2, 2, none, 0, 0, 4, some ⟨k7, 0, none⟩, 3, 3⟩, rfl, ⟨?_, ?_, ?_, rfl, ?_, Nat.le_refl _, Nat.le_refl _, Nat.le_refl _, Nat.le_refl _⟩, g8⟩
  · refine rdS_lit9 (xs := lrG.terms) r2 fun i t hi => ?_
    match i, hi with
    | 0, hi => cases hi; rfl
    | 1, hi => cases hi; rfl
    | 2, hi => cases hi; rfl
    | i + 3, hi => cases hi
  · exact rdS_of_row (xs := lrG.nons) rfl (.inr ⟨_, rfl, r3⟩)
  · exact p0
  · refine rdS_lit9 (xs := lrG.prods) r7 fun i t hi => ?_
    match i, hi with
    | 0, hi => cases hi; exact ⟨_, _, _, rfl, by decide, p4⟩
    | 1, hi => cases hi; exact ⟨_, _, _, rfl, by decide, p5⟩
    | 2, hi => cases hi; exact ⟨_, _, _, rfl, by decide, p6⟩
    | i + 3, hi => cases hi
theorem rdT1 {h : Hp} {k : Nat} {y : ItemT} (r : rowH h (aM k) (encT y)) : rdS h [y] (some (aM k)) 1 := rdIt_of rfl (.inr ⟨_, rfl, by show rowH h (aM k) (tv [y]); rw [tv_cons]; exact r⟩)
set_option maxHeartbeats 1000000 in
theorem l_awake9 : Run Try.prog n_presagelaw09_awake [] w fun v w' => v = .bool true ∧ Gr w w' := by
  refine run_presagelaw09_awake w _ (l_small9.mono ?_)
  rintro _ w1 ⟨x, rfl, hg, g1⟩
  refine ⟨_, _, _, _, _, _, _, _, _, _, _, _, _, rfl, newC_i (St.all w1) fun k9 w2 h => stR_i h rfl (by intro v hv; simp at hv; rcases hv with rfl | rfl | rfl | rfl | rfl <;> rfl) fun w3 h => ?_⟩
  have s3 : sub (hp w1) (hp w3) := h.gone1
  have B : GB (hp w3) k9 x := gb_of (rdCel 0 h.l)
  have hg := hg.mono s3
  have g3 : Gr w w3 := sub.trans g1 s3
  clear h
  refine ⟨_, _, _, _, _, _, _, _, _, _, _, _, _, B.row (sub.refl _), (y_Build hg lr_ok).mono ?_⟩
  rintro _ w4 (⟨hn, _⟩ | ⟨_, hbig, _⟩ | ⟨_, o, ss, hA, rfl, h⟩)
  · exact absurd lr_closed hn
  · exact (done_big lr_done hbig).elim
  obtain ⟨hn5, ht4⟩ := lr_aut hA
  have g34 : Gr w3 w4 := rdH 3 h.l
  clear h
  refine ⟨_, _, _, _, _, _, rfl, newC_i (St.all w4) fun k20 w5 h => stR_i h rfl (by simp [oneC]) fun w6 h => ?_⟩
  have g46 : Gr w4 w6 := h.gone1
  have r20 : rowH (hp w6) (aM k20) [.slice o ss.length ss.length, .int .i64 (1 + (totE (esOf ss) : Int)), .int .i64 (ss.length : Int)] := rdCel 0 h.l
  clear h
  have g36 := g34.trans g46
  refine ⟨_, _, _, _, _, _, _, _, _, _, _, _, _, B.row g36, newC_i (St.all w6) fun k29 w7 h => ?_⟩
  have g67 : Gr w6 w7 := h.gone1
  have r29 : rowH (hp w7) (aM k29) (encT ⟨0, 0⟩) := rdCel 0 h.l
  have g37 := g36.trans g67
  refine (y_Closure (hg.mono g37) lr_ok (rdT1 r29) (by decide)).mono ?_
  rintro _ w8 (⟨hn, _⟩ | ⟨_, _, o2, rfl, h8⟩)
  · exact absurd ⟨lr_closed, lr_fit⟩ hn
  have g78 : Gr w7 w8 := h8.gone1
  have g38 := g37.trans g78
  refine ⟨_, _, _, _, rfl, _, _, _, _, _, _, _, _, _, _, _, _, _, B.row g38, newC_i (St.all w8) fun k40 w9 h => ?_⟩
  have g89 : Gr w8 w9 := h.gone1
  have g39 := g38.trans g89
  have r40 : rowH (hp w9) (aM k40) (encT ⟨0, 0⟩) := rdCel 0 h.l
  refine (y_Goto (s := 4) (hg.mono g39) lr_ok (rdT1 r40) (by decide)).mono ?_
  rintro _ w10 (⟨hn, _⟩ | ⟨_, _, _, _, o3, rfl, h10⟩)
  · exact absurd ⟨lr_closed, lr_fit, by decide, by decide⟩ hn
  have g910 : Gr w9 w10 := h10.gone1
  have g610 : Gr w6 w10 := g67.trans (g78.trans (g89.trans g910))
  have g310 : Gr w3 w10 := g39.trans g910
  have hk := lr_cls.2
  have hcl := lr_cls.1
  obtain ⟨y, ad, hy, rfl, cy⟩ := rdIt_get (own_rdI2 h10) (i := 1) (by rw [hk]; decide)
  have hyv : y = ⟨1, 1⟩ := by rw [hk] at hy; exact (Option.some.inj hy).symm
  subst hyv
  refine ⟨_, _, _, _, rfl, br_intro (fun _ => br_intro (fun _ => br_intro (fun _ => ?_) fun h => absurd h (by decide)) fun h => absurd h (by decide)) fun h => absurd h (by decide)⟩
  refine ⟨_, _, _, r20.cell0 g610, br_intro (fun _ => ?_) fun h => ?_⟩
  rotate_left
  · rw [hn5] at h; exact absurd h (by decide)
  refine ⟨_, r20.cell g610 (j := 1) rfl, br_intro (fun _ => ?_) fun h => ?_⟩
  rotate_left
  · rw [ht4] at h; exact absurd h (by decide)
  refine ⟨_, r20.cell g610 (j := 2) rfl, br_intro (fun _ => ?_) fun h => ?_⟩
  rotate_left
  · rw [hn5] at h; exact absurd h (by decide)
  refine br_intro (fun _ => ?_) fun h => ?_
  rotate_left
  · rw [hcl] at h; exact absurd h (by decide)
  refine br_intro (fun _ => ?_) fun h => ?_
  rotate_left
  · rw [hk] at h; exact absurd h (by decide)
  refine idx_n (i := 1) rfl (by rw [hk]; decide) ⟨_, _, cy _ (sub.refl _), _, eqItem _ _ _ ⟨1, 1⟩ ⟨1, 1⟩, _, rfl, by simp, g3.trans g310⟩
end Go.Proofs.Ytglamnhmjikhkaa
set_option linter.unusedVariables false
namespace Go.Proofs.Ytglamnhmjikhkaa
open Go.V
section
variable {g : GramT} {I J : List ItemT} {x : ItemT} {s : Int}
open Classical
noncomputable def clsR (g : GramT) (I : List ItemT) : List ItemT := if ClosedP g ∧ fitsB g I then cls g I else []
noncomputable def clsE (g : GramT) (I : List ItemT) : Int := if ClosedP g ∧ fitsB g I then 0 else 1
def gotoOk (g : GramT) (I : List ItemT) (s : Int) : Prop := ClosedP g ∧ fitsB g I ∧ 0 ≤ s ∧ s < g.T + g.N
noncomputable def gotoR (g : GramT) (I : List ItemT) (s : Int) : List ItemT := if gotoOk g I s then kern g I s else []
noncomputable def gotoE (g : GramT) (I : List ItemT) (s : Int) : Int := if gotoOk g I s then 0 else 1
theorem cls_idem : cls g (cls g I) = cls g I := by
  refine (cls_one cls_srt fun x => ?_).symm
  rw [cls_mem]
  refine ⟨fun h => .base (cls_mem.2 h), fun h => ?_⟩
  induction h with
  | base h => exact cls_mem.1 h
  | step _ h1 h2 h3 ih => exact .step ih h1 h2 h3
theorem kern_idem : kern g (cls g I) s = kern g I s := by unfold kern; rw [cls_idem]
theorem clM_app : ClM g (I ++ J) x ↔ ClM g I x ∨ ClM g J x := by
  constructor
  · intro h
    induction h with
    | base h => exact (List.mem_append.1 h).elim (fun h => .inl (.base h)) fun h => .inr (.base h)
    | step _ h1 h2 h3 ih => exact ih.elim (fun h => .inl (.step h h1 h2 h3)) fun h => .inr (.step h h1 h2 h3)
  · rintro (h | h)
    · induction h with
      | base h => exact .base (List.mem_append_left _ h)
      | step _ h1 h2 h3 ih => exact .step ih h1 h2 h3
    · induction h with
      | base h => exact .base (List.mem_append_right _ h)
      | step _ h1 h2 h3 ih => exact .step ih h1 h2 h3
theorem cls_app : lay (cls g I ++ cls g J) = cls g (I ++ J) := cls_one (lay_srt _) fun x => by rw [lay_mem, List.mem_append, cls_mem, cls_mem, clM_app]
theorem kern_app : lay (kern g I s ++ kern g J s) = kern g (I ++ J) s := lay_eq kern_srt fun x => by
  rw [List.mem_append, kern_mem, kern_mem, kern_mem]
  constructor
  · rintro ⟨y, h1, h2, h3⟩
    exact (clM_app.1 h1).elim (fun h => .inl ⟨y, h, h2, h3⟩) fun h => .inr ⟨y, h, h2, h3⟩
  · rintro (⟨y, h1, h2, h3⟩ | ⟨y, h1, h2, h3⟩)
    · exact ⟨y, clM_app.2 (.inl h1), h2, h3⟩
    · exact ⟨y, clM_app.2 (.inr h1), h2, h3⟩
theorem fits_app : fitsB g (I ++ J) ↔ fitsB g I ∧ fitsB g J := by
  unfold fitsB
  constructor
  · intro h; exact ⟨fun x hx => h x (by simp [hx]), fun x hx => h x (by simp [hx])⟩
  · rintro ⟨h1, h2⟩ x hx
    exact (List.mem_append.1 hx).elim (h1 x) (h2 x)
end
section
variable {w : World} {L : List Asn} {g : GramT} {x : GA} {a a2 : Option Addr} {l c l2 c2 : Nat} {I J : List ItemT} {s : Int}
theorem y_ClosureR (hg : gR (hp w) g x) (hb : okG g) (hr : rdS (hp w) I a l) (hl : (l + 98) * 16 ≤ 140737488355328) : Run Try.prog n_lr0_Closure [.agg ⟨x.cells⟩, .slice a l c] w fun v w' =>
    ∃ o c', v = .tuple #[.slice o (clsR g I).length c', .int .i64 (clsE g I)] ∧ St w' (own 2 o (clsR g I).length c' (tv (clsR g I)) :: all w) := by
  refine (y_Closure hg hb hr hl).mono ?_
  rintro _ w' (⟨hn, rfl, gr⟩ | ⟨hc, hf, o, rfl, h⟩)
  · unfold clsR clsE; rw [if_neg hn, if_neg hn]
    exact ⟨none, 0, rfl, own_nil 2 (St.here gr)⟩
  · unfold clsR clsE; rw [if_pos ⟨hc, hf⟩, if_pos ⟨hc, hf⟩]
    exact ⟨o, _, rfl, h⟩
theorem y_GotoR (hg : gR (hp w) g x) (hb : okG g) (hr : rdS (hp w) I a l) (hl : (l + 98) * 16 ≤ 140737488355328) : Run Try.prog n_lr0_Goto [.agg ⟨x.cells⟩, .int .i64 s, .slice a l c] w fun v w' =>
    ∃ o c', v = .tuple #[.slice o (gotoR g I s).length c', .int .i64 (gotoE g I s)] ∧ St w' (own 2 o (gotoR g I s).length c' (tv (gotoR g I s)) :: all w) := by
  refine (y_Goto hg hb hr hl).mono ?_
  rintro _ w' (⟨hn, rfl, gr⟩ | ⟨hc, hf, h0, h1, o, rfl, h⟩)
  · unfold gotoR gotoE; rw [if_neg (show ¬gotoOk g I s from hn), if_neg (show ¬gotoOk g I s from hn)]
    exact ⟨none, 0, rfl, own_nil 2 (St.here gr)⟩
  · unfold gotoR gotoE; rw [if_pos (show gotoOk g I s from ⟨hc, hf, h0, h1⟩), if_pos (show gotoOk g I s from ⟨hc, hf, h0, h1⟩)]
    exact ⟨o, _, rfl, h⟩
theorem clsR_len : (clsR g I).length ≤ I.length + 97 := by
  unfold clsR
  split
  · rename_i h
    have := cls_len g I
    have := h.1.sizes.2.2.1
    exact Nat.le_trans (cls_len g I) (Nat.add_le_add_left h.1.sizes.2.2.1 _)
  · exact Nat.zero_le _
theorem gotoR_len : (gotoR g I s).length ≤ I.length + 97 := by
  unfold gotoR
  split
  · rename_i h
    have h2 : (kern g I s).length ≤ (cls g I).length := kernN_len g _ _
    exact Nat.le_trans h2 (Nat.le_trans (cls_len g I) (Nat.add_le_add_left h.1.sizes.2.2.1 _))
  · exact Nat.zero_le _
theorem szC {l : Nat} (hl : l * 16 ≤ 140737488351232) : (l + 98) * 16 ≤ 140737488355328 ∧ (l + 1) * 16 ≤ 140737488355328 ∧ l ≤ 8796093021952 := by
  have := (Nat.le_div_iff_mul_le (by decide : 0 < 16)).2 hl
  have h2 : 140737488351232 / 16 = 8796093021952 := by decide
  rw [h2] at this
  refine ⟨?_, ?_, this⟩
  · rw [Nat.add_mul]; exact Nat.le_trans (Nat.add_le_add_right hl _) (by decide)
  · rw [Nat.add_mul]; exact Nat.le_trans (Nat.add_le_add_right hl _) (by decide)
end
end Go.Proofs.Ytglamnhmjikhkaa
set_option linter.unusedVariables false
namespace Go.Proofs.Ytglamnhmjikhkaa
open Go.V
section
variable {w : World} {L : List Asn} {g : GramT} {x : GA} {a a2 : Option Addr} {l c l2 c2 : Nat} {I J : List ItemT} {s : Int}
theorem szD {l : Nat} (hl : l * 16 ≤ 140737488351232) : ((l + 97) + 98) * 16 ≤ 140737488355328 := by
  rw [Nat.add_mul, Nat.add_mul]
  exact Nat.le_trans (Nat.add_le_add_right (Nat.add_le_add_right hl _) _) (by decide)
theorem szE {l n : Nat} (hl : l * 16 ≤ 140737488351232) (h : n ≤ l + 97) : (n + 98) * 16 ≤ 140737488355328 := Nat.le_trans (Nat.mul_le_mul_right 16 (Nat.add_le_add_right h 98)) (szD hl)
set_option maxHeartbeats 2000000 in
theorem l_Lr0Again (hg : gR (hp w) g x) (hb : okG g) (hx : rdS (hp w) I a l) (hl : l * 16 ≤ 140737488351232) : Run Try.prog n_presagelaw09_Lr0Again [.agg ⟨x.cells⟩, .int .i64 s, .slice a l c] w fun v w' => v = .bool true ∧ Gr w w' := by
  obtain ⟨z98, z1, zl⟩ := szC hl
  refine run_presagelaw09_Lr0Again _ _ _ _ _ _ _ _ _ _ _ _ _ _ _ _ _ w _ (gbox hg fun k1 w1 gw hg B => l_awake9.mono ?_)
  rintro _ w2 ⟨rfl, g2⟩
  refine ⟨_, rfl, _, _, _, _, _, _, _, _, _, _, _, _, _, B.row g2, (y_ClosureR (hg.mono g2) hb (hx.mono (gw.trans g2)) z98).mono ?_⟩
  rintro _ w3 ⟨o5, c5, rfl, h3⟩
  have g13 : Gr w1 w3 := g2.trans h3.gone1
  refine ⟨_, _, _, _, rfl, _, _, _, _, _, _, _, _, _, _, _, _, _, B.row g13, (y_GotoR (s := s) (hg.mono g13) hb (hx.mono (gw.trans g13)) z98).mono ?_⟩
  rintro _ w4 ⟨o10, c10, rfl, h4⟩
  have h4 := h4.on1 h3.l
  have g14 : Gr w1 w4 := sub.trans g2 (rdH 2 h4.l)
  clear h3
  have ll := hx.1
  refine ⟨_, _, _, _, rfl, br_intro (fun h1 => ?_) fun h1 => ?_⟩
  · have hn : ¬(ClosedP g ∧ fitsB g I) := fun h => by unfold clsE at h1; rw [if_pos h] at h1; simp at h1
    have hn2 : ¬gotoOk g I s := fun h => hn ⟨h.1, h.2.1⟩
    have e1 : clsR g I = [] := by unfold clsR; rw [if_neg hn]
    have e2 : gotoR g I s = [] := by unfold gotoR; rw [if_neg hn2]
    have e3 : gotoE g I s = 1 := by unfold gotoE; rw [if_neg hn2]
    rw [e1, e2, e3]
    exact br_t rfl (br_t rfl (br_t rfl ⟨rfl, gw.trans g14⟩))
  have hok : ClosedP g ∧ fitsB g I := Classical.byContradiction fun hn => by unfold clsE at h1; rw [if_neg hn] at h1; simp at h1
  have eR : clsR g I = cls g I := by unfold clsR; rw [if_pos hok]
  have eE : clsE g I = 0 := by unfold clsE; rw [if_pos hok]
  have hok2 : ClosedP g ∧ fitsB g (cls g I) := ⟨hok.1, cls_fit hok.2⟩
  have eR2 : clsR g (cls g I) = cls g I := by unfold clsR; rw [if_pos hok2, cls_idem]
  have eE2 : clsE g (cls g I) = 0 := by unfold clsE; rw [if_pos hok2]
  have hgo : gotoOk g (cls g I) s ↔ gotoOk g I s := ⟨fun h => ⟨h.1, hok.2, h.2.2⟩, fun h => ⟨h.1, cls_fit hok.2, h.2.2⟩⟩
  have eG : gotoR g (cls g I) s = gotoR g I s := by
    unfold gotoR
    by_cases h : gotoOk g I s
    · rw [if_pos h, if_pos (hgo.2 h), kern_idem]
    · rw [if_neg h, if_neg (fun h' => h (hgo.1 h'))]
  have eF : gotoE g (cls g I) s = gotoE g I s := by
    unfold gotoE
    by_cases h : gotoOk g I s
    · rw [if_pos h, if_pos (hgo.2 h)]
    · rw [if_neg h, if_neg (fun h' => h (hgo.1 h'))]
  have hcl : (cls g I).length ≤ l + 97 := by rw [← eR, ← ll]; exact clsR_len
  have hgl : (gotoR g I s).length ≤ l + 97 := by rw [← ll]; exact gotoR_len
  rw [eR] at h4 ⊢
  have ra : rdS (hp w4) (cls g I) o5 (cls g I).length := own_rdI2 (h4.pick 2 [1])
  have rk : rdS (hp w4) (gotoR g I s) o10 (gotoR g I s).length := own_rdI2 h4
  clear h4
  refine ⟨_, _, _, _, _, _, _, _, _, _, _, _, _, B.row g14, (y_ClosureR (c := c5) (hg.mono g14) hb ra (szE hl hcl)).mono ?_⟩
  rintro _ w5 ⟨o15, c15, rfl, h5⟩
  have g5 : Gr w4 w5 := h5.gone1
  have g15 := g14.trans g5
  rw [eR2] at h5 ⊢
  refine ⟨_, _, _, _, rfl, _, _, _, _, _, _, _, _, _, _, _, _, _, B.row g15, (y_GotoR (s := s) (c := c5) (hg.mono g15) hb (ra.mono g5) (szE hl hcl)).mono ?_⟩
  rintro _ w6 ⟨o20, c20, rfl, h6⟩
  have h6 := h6.on1 h5.l
  rw [eG] at h6 ⊢
  have g46 : Gr w4 w6 := rdH 2 h6.l
  clear h5
  refine ⟨_, _, _, _, rfl, (d_SameItems (c := c5) (ra.mono g46) (own_rdI2 (h6.pick 2 [1])) (by omega)).mono ?_⟩
  rintro _ w7 ⟨rfl, e7⟩
  refine ⟨_, rfl, (d_SameItems (c := c10) (c2 := c20) (rk.mono (g46.trans (Gr.of_eq e7))) (own_rdI2 (h6.eq e7)) (by omega)).mono ?_⟩
  rintro _ w8 ⟨rfl, e8⟩
  have g48 : Gr w4 w8 := g46.trans (Gr.of_eq (e8.trans e7))
  have gw8 : Gr w w8 := gw.trans (g14.trans g48)
  have ra := ra.mono g48
  clear h6
  refine ⟨_, rfl, fun z w' => ∃ n : Nat, z = n ∧ n ≤ l ∧ Gr w8 w', fun z _ => l - z.toNat, ⟨0, rfl, Nat.zero_le _, Gr.refl _⟩, ?_⟩
  rintro _ _ w9 ⟨n, rfl, hn, g9⟩
  refine br_intro (fun h2 => ?_) fun h2 => ?_
  · have h2 : n < l := by have := of_decide_eq_true h2; omega
    obtain ⟨y, ad, hy, rfl, cy⟩ := rdIt_get hx h2
    have hyc : y ∈ cls g I := cls_mem.2 (.base (List.mem_of_getElem? hy))
    refine ⟨fun b z w' => ∃ k : Nat, z = k ∧ k ≤ (cls g I).length ∧ (b = true ↔ y ∈ (cls g I).take k) ∧ Gr w8 w', fun _ z _ => (cls g I).length - z.toNat, ⟨0, rfl, Nat.zero_le _, by simp, g9⟩, ?_⟩
    generalize cls g I = A at *
    rintro _ b _ w10 ⟨k, rfl, hk, hbk, g10⟩
    have hk1 : inI ((k : Int) + 1) := ⟨by omega, by omega⟩
    refine br_intro (fun h3 => ?_) fun h3 => ?_
    rotate_left
    · have h3 : k = A.length := by have := of_decide_eq_false h3; omega
      rw [h3, List.take_length] at hbk
      rw [hbk.2 hyc]
      exact br_f rfl ⟨⟨by omega, by omega⟩, ⟨n + 1, by simp, h2, g10⟩, msr h2⟩
    have h3 : k < A.length := by have := of_decide_eq_true h3; omega
    intro w11 hd
    have g11 : Gr w8 w11 := g10.trans (Gr.drawn hd)
    obtain ⟨z, ad2, hz, rfl, cz⟩ := rdIt_get ra h3
    refine ⟨fun u => Gr w11 u, Gr.refl _, br_intro (fun h4 => ?_) fun h4 => ?_⟩
    · refine ⟨hk1, ⟨k + 1, by simp, h3, ?_, g11⟩, msr h3⟩
      rw [List.take_add_one, List.mem_append]
      exact ⟨fun _ => .inl (hbk.1 h4), fun _ => rfl⟩
    · refine idx_n rfl h3 ⟨_, _, fun u s => cz u (sub.trans g11 s), idx_n rfl h2 ⟨_, _, fun u s => cy u (sub.trans gw8 (sub.trans g11 s)), _, fun u _ => eqItem u _ _ z y, _, rfl, hk1, ⟨k + 1, by simp, h3, ?_, g11⟩, msr h3⟩⟩
      rw [List.take_add_one, hz, List.mem_append, decide_eq_true_eq]
      have hno : y ∉ A.take k := fun hm => by rw [hbk.2 hm] at h4; cases h4
      simp [hno, eq_comm]
  refine ⟨fun z w' => ∃ n : Nat, z = ((n + 1 : Nat) : Int) ∧ Gr w8 w', fun z _ => (cls g I).length - z.toNat, ⟨0, rfl, g9⟩, ?_⟩
  have hS : SrtI (cls g I) := cls_srt
  rintro _ _ w15 ⟨n, rfl, g15'⟩
  refine br_intro (fun h3 => ?_) fun h3 => ?_
  rotate_left
  · rw [decide_eq_true (rfl : cls g I = cls g I), decide_eq_true (rfl : gotoR g I s = gotoR g I s), eE2, eF]
    exact br_t rfl (br_t rfl (br_t rfl (br_t rfl ⟨by simp, gw8.trans g15'⟩)))
  generalize cls g I = A at *
  have h3 : n + 1 < A.length := by have := of_decide_eq_true h3; omega
  intro w16 hd
  have g16 : Gr w8 w16 := g15'.trans (Gr.drawn hd)
  obtain ⟨u, ad, hu, rfl, _⟩ := rdIt_get ra h3
  obtain ⟨v, ad2, hv, e2, _⟩ := rdIt_get ra (by omega : n < A.length)
  cases e2
  have hlt : v.lt u := by
    obtain ⟨q1, rfl⟩ := List.getElem?_eq_some_iff.1 hu
    obtain ⟨q2, rfl⟩ := List.getElem?_eq_some_iff.1 hv
    exact List.pairwise_iff_getElem.1 hS n (n + 1) q2 q1 (by omega)
  have rowu : rowH (hp w8) (ad.add (mulS (n + 1) 2)) (encT u) := by
    obtain ⟨ad', vs, e, r, e2⟩ := ra.2 (n + 1) u hu
    cases e; rw [show vs = encT u from e2] at r; exact r
  have rowv : rowH (hp w8) (ad.add (mulS n 2)) (encT v) := by
    obtain ⟨ad', vs, e, r, e2⟩ := ra.2 n v hv
    cases e; rw [show vs = encT v from e2] at r; exact r
  have e1 : ((n + 1 : Nat) : Int) - 1 = (n : Int) := by omega
  have i1 : inI (((n + 1 : Nat) : Int) - 1) := ⟨by omega, by omega⟩
  have nxt : inI (((n + 1 : Nat) : Int) + 1) ∧ (∃ n' : Nat, ((n + 1 : Nat) : Int) + 1 = ((n' + 1 : Nat) : Int) ∧ Gr w8 w16) ∧ A.length - (((n + 1 : Nat) : Int) + 1).toNat < A.length - ((n + 1 : Nat) : Int).toNat := ⟨⟨by omega, by omega⟩, ⟨n + 1, by simp, g16⟩, msr h3⟩
  unfold ItemT.lt at hlt
  refine ⟨fun u => Gr w16 u, Gr.refl _, idx_n rfl h3 ⟨_, fun z s => rowu.cell0 (sub.trans g16 s), i1, ?_⟩⟩
  rw [e1]
  refine idx_n rfl (by omega) ⟨_, fun z s => rowv.cell0 (sub.trans g16 s), br_intro (fun h4 => ?_) fun h4 => ?_⟩
  · have := of_decide_eq_true h4; omega
  refine idx_n rfl h3 ⟨_, fun z s => rowu.cell0 (sub.trans g16 s), by rw [← e1]; exact i1, idx_n rfl (by omega) ⟨_, fun z s => rowv.cell0 (sub.trans g16 s), br_intro (fun h5 => ?_) fun h5 => nxt⟩⟩
  have h5 := beq_iff_eq.1 h5
  refine idx_n rfl h3 ⟨_, fun z s => rowu.cell (sub.trans g16 s) (j := 1) rfl, by rw [← e1]; exact i1, idx_n rfl (by omega) ⟨_, fun z s => rowv.cell (sub.trans g16 s) (j := 1) rfl, br_intro (fun h6 => ?_) fun h6 => nxt⟩⟩
  have := of_decide_eq_true h6; omega
theorem app2_own {o1 o2 : Option Addr} {n1 n2 c1 c2 : Nat} {A C : List ItemT} (hA : rdS (hp w) A o1 n1) (hC : rdS (hp w) C o2 n2) (hz : (n1 + n2) * 16 ≤ 140737488355328) {K : Option Addr → Nat → Nat → World → Prop} (hK : ∀ o c w', St w' (own 2 o (n1 + n2) c (tv (A ++ C)) :: all w) → K o (n1 + n2) c w') :
    RunS Try.prog (apB ty_s_api_Item (Array.mk [vS none 0 0, vS o1 n1 c1])) w fun v w1 => ∃ o k k', v = vS o k k' ∧ RunS Try.prog (apB ty_s_api_Item (Array.mk [vS o k k', vS o2 n2 c2])) w1 fun v w2 => ∃ o k k', v = vS o k k' ∧ K o k k' w2 := by
  have z1 : (0 + n1) * 16 ≤ 140737488355328 := Nat.le_trans (Nat.mul_le_mul_right 16 (by omega)) hz
  have z2 : (0 + n1 + n2) * 16 ≤ 140737488355328 := Nat.le_trans (Nat.mul_le_mul_right 16 (by omega)) hz
  have z3 : ∀ {k : Nat}, k * 16 ≤ 140737488355328 → k ≤ 9223372036854775807 := fun {k} h => Nat.le_trans (Nat.le_mul_of_pos_right k (by decide : 0 < 16)) (Nat.le_trans h (by decide))
  refine (app_rdV (news := tv A) tyOk (rfl : kdOfT Ty _ = .slice _) (rfl : kdOfT Ty _ = .slice _) rfl rfl rfl (own_nil 2 (St.all w)) (by rw [tv_len, hA.1]) (by show 0 < 2; decide) (rdIt_rdV hA) (tv_one _) z1 (z3 z1)).mono ?_
  rintro _ w1 ⟨oa, ca, rfl, h⟩
  refine ⟨_, _, _, rfl, (app_rdV (us := tv A) (news := tv C) tyOk (rfl : kdOfT Ty _ = .slice _) (rfl : kdOfT Ty _ = .slice _) rfl rfl rfl h (by rw [tv_len, hC.1]) (by show 0 < 2; decide) (rdIt_rdV (hC.mono h.gone1)) (tv_one _) z2 (z3 z2)).mono ?_⟩
  rintro _ w2 ⟨ob, cb, rfl, h⟩
  have h : St w2 (own 2 ob (0 + n1 + n2) cb (tv A ++ tv C) :: all w) := h
  rw [← tv_app, Nat.zero_add] at h
  refine ⟨_, _, _, rfl, ?_⟩
  rw [Nat.zero_add]
  exact hK _ _ _ h
end
end Go.Proofs.Ytglamnhmjikhkaa
namespace Go.Proofs.Ytglamnhmjikhkaa
open Go.V
section
variable {w : World} {L : List Asn} {g : GramT} {x : GA} {a a2 : Option Addr} {l c l2 c2 : Nat} {I J : List ItemT} {s : Int}
theorem szF {l n1 n2 k : Nat} (hl : l * 16 ≤ 140737488351232) (hk : k ≤ l) (h1 : n1 ≤ k + 97) (h2 : n2 ≤ (l - k) + 97) : (n1 + n2) * 16 ≤ 140737488355328 ∧ (n1 + n2 + 1) * 16 ≤ 140737488355328 := by
  have h : n1 + n2 + 1 ≤ l + 195 := by omega
  have h3 : (l + 195) * 16 ≤ 140737488355328 := by
    rw [Nat.add_mul]; exact Nat.le_trans (Nat.add_le_add_right hl _) (by decide)
  exact ⟨Nat.le_trans (Nat.mul_le_mul_right 16 (by omega)) h3, Nat.le_trans (Nat.mul_le_mul_right 16 h) h3⟩
theorem sz98 {k l : Nat} (h : k ≤ l) (hl : (l + 98) * 16 ≤ 140737488355328) : (k + 98) * 16 ≤ 140737488355328 := Nat.le_trans (Nat.mul_le_mul_right 16 (Nat.add_le_add_right h 98)) hl
set_option maxHeartbeats 4000000 in
theorem l_Lr0Sums (hg : gR (hp w) g x) (hb : okG g) (hx : rdS (hp w) I a l) (hlc : l ≤ c) (hl : l * 16 ≤ 140737488351232) : Run Try.prog n_presagelaw09_Lr0Sums [.agg ⟨x.cells⟩, .int .i64 s, .slice a l c] w fun v w' => v = .bool true ∧ Gr w w' := by
  obtain ⟨z98, z1, zl⟩ := szC hl
  refine run_presagelaw09_Lr0Sums _ _ _ _ _ _ _ _ _ _ _ _ _ _ _ _ _ w _ (gbox hg fun k1 w1 gw hg B => l_awake9.mono ?_)
  rintro _ w2 ⟨rfl, g2⟩
  obtain ⟨k, hk⟩ : ∃ k, k = l / 2 := ⟨_, rfl⟩
  have hkl : k ≤ l := by omega
  have etd : Int.tdiv (l : Int) 2 = (k : Int) := by rw [Int.tdiv_eq_ediv_of_nonneg (by omega)]; omega
  rw [etd]
  clear hk etd
  have hI : I = I.take k ++ I.drop k := (List.take_append_drop _ _).symm
  have hK1 : (I.take k).length = k := by rw [List.length_take, hx.1]; omega
  have hK2 : (I.drop k).length = l - k := by rw [List.length_drop, hx.1]
  have r1 := hx.take hkl
  have r2 := hx.drop hkl hlc
  generalize I.take k = I1 at *
  generalize I.drop k = I2 at *
  subst hI
  have zk := sz98 hkl z98
  have zk2 := sz98 (Nat.sub_le l k) z98
  refine ⟨_, rfl, by show (2 : Int) ≠ 0; decide, ⟨by omega, by omega⟩, ?_⟩
  intro w3 hd
  have g3 : Gr w1 w3 := g2.trans (Gr.drawn hd)
  refine ⟨fun u => Gr w3 u, Gr.refl _, _, _, _, _, _, _, _, _, _, _, _, _, _, fun u s => B.row (g3.trans s), slc_hiN (by omega) ?_⟩
  rw [slP0]
  refine (y_ClosureR (hg.mono g3) hb (r1.mono (gw.trans g3)) zk).mono ?_
  rintro _ w5 ⟨o6, c6, rfl, h⟩
  have g35 : Gr w3 w5 := h.gone1
  have rA := own_rdI2 h
  clear h
  refine ⟨_, _, _, _, rfl, g35, ?_⟩
  intro w6 hd
  have g56 : Gr w5 w6 := Gr.drawn hd
  have g6 : Gr w1 w6 := g3.trans (g35.trans g56)
  refine ⟨fun u => Gr w6 u, Gr.refl _, _, _, _, _, _, _, _, _, _, _, _, _, _, fun u s => B.row (g6.trans s), slc_from hkl hlc ?_⟩
  refine (y_ClosureR (hg.mono g6) hb (r2.mono (gw.trans g6)) zk2).mono ?_
  rintro _ w8 ⟨o12, c12, rfl, h⟩
  have g68 : Gr w6 w8 := h.gone1
  have rB := own_rdI2 h
  clear h
  have g8 := g6.trans g68
  have rA := rA.mono (g56.trans g68)
  refine ⟨_, _, _, _, rfl, g68, _, _, _, _, _, _, _, _, _, _, _, _, _, B.row g8, (y_ClosureR (hg.mono g8) hb (hx.mono (gw.trans g8)) z98).mono ?_⟩
  rintro _ w9 ⟨o17, c17, rfl, h⟩
  have g89 : Gr w8 w9 := h.gone1
  have rC := own_rdI2 h
  clear h
  refine ⟨_, _, _, _, rfl, ?_⟩
  intro w10 hd
  have g9' : Gr w9 w10 := Gr.drawn hd
  have g10 : Gr w1 w10 := g8.trans (g89.trans g9')
  refine ⟨fun u => Gr w10 u, Gr.refl _, _, _, _, _, _, _, _, _, _, _, _, _, _, fun u s => B.row (g10.trans s), slc_hiN (by omega) ?_⟩
  rw [slP0]
  refine (y_GotoR (s := s) (hg.mono g10) hb (r1.mono (gw.trans g10)) zk).mono ?_
  rintro _ w12 ⟨o23, c23, rfl, h⟩
  have g12 : Gr w10 w12 := h.gone1
  have rX := own_rdI2 h
  clear h
  refine ⟨_, _, _, _, rfl, g12, ?_⟩
  intro w13 hd
  have g13' : Gr w12 w13 := Gr.drawn hd
  have g13 : Gr w1 w13 := g10.trans (g12.trans g13')
  refine ⟨fun u => Gr w13 u, Gr.refl _, _, _, _, _, _, _, _, _, _, _, _, _, _, fun u s => B.row (g13.trans s), slc_from hkl hlc ?_⟩
  refine (y_GotoR (s := s) (hg.mono g13) hb (r2.mono (gw.trans g13)) zk2).mono ?_
  rintro _ w15 ⟨o29, c29, rfl, h⟩
  have g15' : Gr w13 w15 := h.gone1
  have rY := own_rdI2 h
  clear h
  have g15 := g13.trans g15'
  refine ⟨_, _, _, _, rfl, g15', _, _, _, _, _, _, _, _, _, _, _, _, _, B.row g15, (y_GotoR (s := s) (hg.mono g15) hb (hx.mono (gw.trans g15)) z98).mono ?_⟩
  rintro _ w16 ⟨o34, c34, rfl, h⟩
  have g16' : Gr w15 w16 := h.gone1
  have rZ := own_rdI2 h
  clear h
  have g1516 : Gr w13 w16 := g15'.trans g16'
  have g1016 : Gr w10 w16 := g12.trans (g13'.trans g1516)
  have g816 : Gr w8 w16 := g89.trans (g9'.trans g1016)
  have rA := rA.mono g816
  have rB := rB.mono g816
  have rC := rC.mono (g9'.trans g1016)
  have rX := rX.mono (g13'.trans g1516)
  have rY := rY.mono g16'
  have gw16 : Gr w w16 := gw.trans (g15.trans g16')
  have lA := clsR_len (g := g) (I := I1)
  have lB := clsR_len (g := g) (I := I2)
  have lX := gotoR_len (g := g) (I := I1) (s := s)
  have lY := gotoR_len (g := g) (I := I2) (s := s)
  rw [hK1] at lA lX
  rw [hK2] at lB lY
  have zAB := szF hl hkl lA lB
  have zXY := szF hl hkl lX lY
  clear g35 g56 g68 g89 g9' g12 g13' g15' g16' g1516 g1016 g816 B zk zk2 r1 r2 lA lB lX lY
  have hfa := fits_app (g := g) (I := I1) (J := I2)
  refine ⟨_, _, _, _, rfl, br_intro (fun h1 => ?_) fun h1 => ?_⟩
  · have hn : ¬(ClosedP g ∧ fitsB g (I1 ++ I2)) := fun h => by unfold clsE at h1; rw [if_pos h] at h1; simp at h1
    have eG : gotoE g (I1 ++ I2) s = 1 := by unfold gotoE; rw [if_neg fun h : gotoOk g (I1 ++ I2) s => hn ⟨h.1, h.2.1⟩]
    rw [eG]
    refine br_t rfl (br_intro (fun _ => ⟨rfl, gw16⟩) fun h2 => br_intro (fun _ => ⟨rfl, gw16⟩) fun h3 => ?_)
    have p1 : ClosedP g ∧ fitsB g I1 := Classical.byContradiction fun hn => by unfold clsE at h2; rw [if_neg hn] at h2; simp at h2
    have p2 : ClosedP g ∧ fitsB g I2 := Classical.byContradiction fun hn => by unfold clsE at h3; rw [if_neg hn] at h3; simp at h3
    exact absurd ⟨p1.1, hfa.2 ⟨p1.2, p2.2⟩⟩ hn
  have hok : ClosedP g ∧ fitsB g (I1 ++ I2) := Classical.byContradiction fun hn => by unfold clsE at h1; rw [if_neg hn] at h1; simp at h1
  obtain ⟨f1, f2⟩ := hfa.1 hok.2
  have ok1 : ClosedP g ∧ fitsB g I1 := ⟨hok.1, f1⟩
  have ok2 : ClosedP g ∧ fitsB g I2 := ⟨hok.1, f2⟩
  have eL : lay (clsR g I1 ++ clsR g I2) = clsR g (I1 ++ I2) := by
    unfold clsR; rw [if_pos hok, if_pos ok1, if_pos ok2]; exact cls_app
  have e1 : clsE g I1 = 0 := by unfold clsE; rw [if_pos ok1]
  have e2 : clsE g I2 = 0 := by unfold clsE; rw [if_pos ok2]
  have lC : (clsR g (I1 ++ I2)).length ≤ 4611686018427387904 := Nat.le_trans (clsR_len (g := g) (I := I1 ++ I2)) (by rw [hx.1]; omega)
  have lZ : (gotoR g (I1 ++ I2) s).length ≤ 4611686018427387904 := Nat.le_trans (gotoR_len (g := g) (I := I1 ++ I2) (s := s)) (by rw [hx.1]; omega)
  rw [e1, e2]
  generalize clsR g I1 = A1 at *
  generalize clsR g I2 = A2 at *
  generalize clsR g (I1 ++ I2) = A3 at *
  refine app2_own rA rB zAB.1 fun o36 k73 w18 h => (d_Laid (own_rdI2 h) zAB.2).mono ?_
  have g18 : Gr w16 w18 := h.gone1
  rintro _ w19 ⟨o37, c37, rfl, h19⟩
  have g19 : Gr w16 w19 := g18.trans h19.gone1
  rw [eL] at h19 ⊢
  refine ⟨_, _, _, rfl, (d_SameItems (c := c37) (c2 := c17) (own_rdI2 h19) (rC.mono g19) lC).mono ?_⟩
  rintro _ w20 ⟨rfl, e20⟩
  have g20 : Gr w16 w20 := g19.trans (Gr.of_eq e20)
  rw [decide_eq_true (rfl : A3 = A3)]
  clear h h19 g18
  refine ⟨_, rfl, br_intro (fun h3 => ?_) fun h3 => ?_⟩
  · have hn : ¬gotoOk g (I1 ++ I2) s := fun h => by unfold gotoE at h3; rw [if_pos h] at h3; simp at h3
    have eG : gotoE g (I1 ++ I2) s = 1 := by unfold gotoE; rw [if_neg hn]
    have eG1 : gotoE g I1 s = 1 := by unfold gotoE; rw [if_neg fun h : gotoOk g I1 s => hn ⟨h.1, hok.2, h.2.2⟩]
    have eG2 : gotoE g I2 s = 1 := by unfold gotoE; rw [if_neg fun h : gotoOk g I2 s => hn ⟨h.1, hok.2, h.2.2⟩]
    rw [eG, eG1, eG2]
    exact br_t rfl (br_t rfl (br_t rfl (br_t rfl (br_t rfl ⟨rfl, gw16.trans g20⟩))))
  have hgo : gotoOk g (I1 ++ I2) s := Classical.byContradiction fun hn => by unfold gotoE at h3; rw [if_neg hn] at h3; simp at h3
  have go1 : gotoOk g I1 s := ⟨hok.1, f1, hgo.2.2⟩
  have go2 : gotoOk g I2 s := ⟨hok.1, f2, hgo.2.2⟩
  have eM : lay (gotoR g I1 s ++ gotoR g I2 s) = gotoR g (I1 ++ I2) s := by
    unfold gotoR; rw [if_pos hgo, if_pos go1, if_pos go2]; exact kern_app
  have eG1 : gotoE g I1 s = 0 := by unfold gotoE; rw [if_pos go1]
  have eG2 : gotoE g I2 s = 0 := by unfold gotoE; rw [if_pos go2]
  rw [eG1, eG2]
  generalize gotoR g I1 s = B1 at *
  generalize gotoR g I2 s = B2 at *
  generalize gotoR g (I1 ++ I2) s = B3 at *
  refine app2_own (rX.mono g20) (rY.mono g20) zXY.1 fun o39 k79 w22 h => (d_Laid (own_rdI2 h) zXY.2).mono ?_
  have g22 : Gr w20 w22 := h.gone1
  rintro _ w23 ⟨o40, c40, rfl, h23⟩
  have g23 : Gr w20 w23 := g22.trans h23.gone1
  rw [eM] at h23 ⊢
  refine ⟨_, _, _, rfl, (d_SameItems (c := c40) (c2 := c34) (own_rdI2 h23) (rZ.mono (g20.trans g23)) lZ).mono ?_⟩
  rintro _ w24 ⟨rfl, e24⟩
  rw [decide_eq_true (rfl : B3 = B3)]
  exact ⟨_, rfl, br_t rfl (br_t rfl (br_t rfl (br_t rfl (br_t rfl (br_t rfl ⟨rfl, gw16.trans (g20.trans (g23.trans (Gr.of_eq e24)))⟩)))))⟩
end
end Go.Proofs.Ytglamnhmjikhkaa
set_option linter.unusedVariables false
namespace Go.V
open Go.RowKit Go.WideShapes Go.ChangeShapes
theorem cellH_of {w : World} {a : Addr} {v : Value} (h : w.cell? a = some v) : cellH (hp w) a = some v := by
  unfold World.cell? at h
  unfold cellH hp
  cases ho : w.heap[a.block]? with
  | none => rw [ho] at h; cases h
  | some o => rw [ho] at h; cases o <;> first | exact h | cases h
theorem mapM_get' {α β : Type} {f : α → Option β} : ∀ {l : List α} {r : List β}, l.mapM f = some r → r.length = l.length ∧ ∀ (i : Nat) (a : α) (b : β), l[i]? = some a → r[i]? = some b → f a = some b
  | [], r, h => by
    simp at h; subst h; exact ⟨rfl, fun i a b ha => by simp at ha⟩
  | x :: l, r, h => by
    simp only [List.mapM_cons, Option.bind_eq_bind, Option.bind_eq_some_iff, Option.pure_def, Option.some.injEq] at h
    obtain ⟨b, hb, r', hr', rfl⟩ := h
    obtain ⟨h1, h2⟩ := mapM_get' hr'
    refine ⟨by simp [h1], fun i a b' ha hb' => ?_⟩
    cases i with
    | zero => simp at ha hb'; subst ha; subst hb'; exact hb
    | succ i => exact h2 i a b' (by simpa using ha) (by simpa using hb')
theorem cells_row {w : World} {base n : Nat} {a : Addr} {vs : List Value} (h : w.cells? base a n = some vs) : rowH (hp w) a vs := by
  unfold World.cells? at h
  split at h
  · obtain ⟨h1, h2⟩ := mapM_get' h
    intro j v hj
    have hlt := (List.getElem?_eq_some_iff.1 hj).1
    rw [h1, List.length_range] at hlt
    exact cellH_of (h2 j j v (by simp [hlt]) hj)
  · cases h
theorem weightsAll_get {H : Type} {P : Program} {e : TypeId} {N : Nat} : ∀ {l : List (DataW H)}, (DataW.weightsAll P e l).all (· ≤ N) = true → ∀ d ∈ l, (d.weights P e).all (· ≤ N) = true
  | [], _, d, hd => by simp at hd
  | x :: l, h, d, hd => by
    rw [DataW.weightsAll, List.all_append, Bool.and_eq_true] at h
    rcases List.mem_cons.1 hd with rfl | hd
    · exact h.1
    · exact weightsAll_get h.2 d hd
theorem weightsEach_get {H : Type} {P : Program} {N : Nat} : ∀ {ts : List TypeId} {l : List (DataW H)}, (DataW.weightsEach P ts l).all (· ≤ N) = true → ∀ (i : Nat) t d, ts[i]? = some t → l[i]? = some d → (d.weights P t).all (· ≤ N) = true
  | [], l, _, i, t, d, ht, _ => by simp at ht
  | _ :: _, [], _, i, t, d, _, hd => by simp at hd
  | t0 :: ts, x :: l, h, i, t, d, ht, hd => by
    rw [DataW.weightsEach, List.all_append, Bool.and_eq_true] at h
    cases i with
    | zero => simp at ht hd; subst ht; subst hd; exact h.1
    | succ i => exact weightsEach_get h.2 i t d (by simpa using ht) (by simpa using hd)
def Opn (P : Program) (α : Type) [Rep α] (bd : α → Prop) (t : TypeId) : Prop :=
  ∀ {H : Type} (enc : TypeId × Value → H) (W : World) (n : Nat) (cs : List Value) (x : DataW H × List MemPlace), DataW.trod enc P W 0 (fun _ => true) true n t cs = some x → (x.1.weights P t).all (· ≤ reachBytes) = true → ∃ y : α, rd (hp W) y cs ∧ bd y
def anyS : ByteArray → Prop := fun s => s.size ≤ reachBytes
def anyL {α : Type} (bytes : Nat) (bd : α → Prop) : List α → Prop := fun xs => xs.length * bytes ≤ reachBytes ∧ ∀ x ∈ xs, bd x
section
variable {P : Program} {t e : TypeId}
theorem opn_int (ht : P.underlying t = some (.int .i64)) : Opn P Int anyI t := by
  intro H enc W n cs x h hw
  obtain ⟨z, rfl, _, hwf⟩ := DataW.trod_int ht h
  refine ⟨z, rfl, ?_⟩
  have : IntKind.i64.min ≤ z ∧ z ≤ IntKind.i64.max := by simpa [Lit.wf] using hwf
  exact this
theorem opn_str (ht : P.underlying t = some .string) : Opn P ByteArray anyS t := by
  intro H enc W n cs x h hw
  obtain ⟨z, rfl, rfl, _⟩ := DataW.trod_string ht h
  refine ⟨z, rfl, ?_⟩
  simpa [DataW.weights, anyS] using hw
theorem opn_slice {α : Type} [Rep α] {bd : α → Prop} {bb : Nat} (ht : P.underlying t = some (.slice e)) (hc : P.cellsOf e = Rep.n α) (hb : P.bytesOf e = bb) (he : Opn P α bd e) : Opn P (List α) (anyL bb bd) t := by
  intro H enc W n cs x h hw
  rcases DataW.trod_slice ht h with ⟨rfl, rfl⟩ | ⟨a, len, cap, elems, rest, m, rfl, rfl, rfl, _, hlc, hcm, hel, hg, _, _⟩
  · exact ⟨[], ⟨none, 0, 0, rfl, Nat.le_refl _, rdS.nil⟩, by simp [reachBytes], fun x hx => by simp at hx⟩
  · simp only [DataW.weights, ht, List.all_cons, List.all_append, Bool.and_eq_true, decide_eq_true_eq, List.length_map] at hw
    obtain ⟨hw1, hw2, _⟩ := hw
    have key : ∀ k, k ≤ len → ∃ ys : List α, ys.length = k ∧ (∀ i y, ys[i]? = some y → ∃ vs, rowH (hp W) (a.add (mulS i (Rep.n α))) vs ∧ rd (hp W) y vs) ∧ ∀ y ∈ ys, bd y := by
      intro k
      induction k with
      | zero => exact fun _ => ⟨[], rfl, fun i y hy => by simp at hy, fun y hy => by simp at hy⟩
      | succ k ih =>
        intro hk
        obtain ⟨ys, h1, h2, h3⟩ := ih (by omega)
        have hgk := hg k (by omega)
        obtain ⟨d, hd⟩ : ∃ d, elems[k]? = some d := ⟨elems[k]'(by omega), List.getElem?_eq_getElem _⟩
        rw [hd, Option.bind_eq_some_iff] at hgk
        obtain ⟨vs, hv1, hv2⟩ := hgk
        obtain ⟨y, hy1, hy2⟩ := he enc W m vs d hv2 (weightsAll_get hw2 _ (by
          have := List.mem_of_getElem? hd
          exact List.mem_map_of_mem this))
        refine ⟨ys ++ [y], by simp [h1], fun i z hz => ?_, fun z hz => ?_⟩
        · by_cases hi : i < k
          · rw [List.getElem?_append_left (by omega)] at hz
            exact h2 i z hz
          · have : i = k := by
              have := (List.getElem?_eq_some_iff.1 hz).1
              simp at this; omega
            subst this
            rw [List.getElem?_append_right (by omega), h1, Nat.sub_self] at hz
            cases hz
            refine ⟨vs, ?_, hy1⟩
            rw [mulS_eq, ← hc]
            exact cells_row hv1
        · rcases List.mem_append.1 hz with hz | hz
          · exact h3 z hz
          · simp at hz; subst hz; exact hy2
    obtain ⟨ys, h1, h2, h3⟩ := key len (Nat.le_refl _)
    refine ⟨ys, ⟨some a, len, cap, rfl, hlc, h1, fun i y hy => ?_⟩, ?_, h3⟩
    · obtain ⟨vs, h4, h5⟩ := h2 i y hy
      exact ⟨a, vs, rfl, h4, h5⟩
    · rw [h1, ← hb, ← hel]
      exact Nat.le_trans (Nat.mul_le_mul_right _ (Nat.le_add_right _ _)) hw1
theorem opn_struct {fs : Array Field} (ht : P.underlying t = some (.struct fs)) {H : Type} {enc : TypeId × Value → H} {W : World} {n : Nat} {cs : List Value} {x : DataW H × List MemPlace} (h : DataW.trod enc P W 0 (fun _ => true) true n t cs = some x) (hw : (x.1.weights P t).all (· ≤ reachBytes) = true) :
    cs.length = P.cellsOf t ∧ ∀ (i : Nat) (f : Field) (ty k o : Nat), fs[i]? = some f → P.cellsOf ty = k → f.type = ty → f.offset = o → ∃ (m : Nat) (d : DataW H × List MemPlace), DataW.trod enc P W 0 (fun _ => true) true m ty ((cs.drop o).take k) = some d ∧ (d.1.weights P ty).all (· ≤ reachBytes) = true := by
  obtain ⟨xs, m, rfl, rfl, hl, hxs, hf⟩ := DataW.trod_struct ht h
  refine ⟨hl, ?_⟩
  rintro i f _ _ _ hi rfl rfl rfl
  have hlt := (Array.getElem?_eq_some_iff.1 hi).1
  obtain ⟨d, hd⟩ : ∃ d, xs[i]? = some d := ⟨xs[i]'(by omega), List.getElem?_eq_getElem _⟩
  refine ⟨m, d, by rw [hf i f hi, hd], ?_⟩
  simp only [DataW.weights, ht] at hw
  exact weightsEach_get hw i f.type d.1 (by simp [hi]) (by simp [hd])
theorem opn_arg {α : Type} [Rep α] {bd : α → Prop} (ho : Opn P α bd t) {H : Type} {enc : TypeId × Value → H} {W : World} {v : Value} {d : DataW H} {ps : List MemPlace} (h : DataW.Trod enc P W 0 (fun _ => true) true t v d ps)
    (hw : (d.weights P t).all (· ≤ reachBytes) = true) : ∃ y : α, rd (hp W) y v.cells.toList ∧ bd y := by
  obtain ⟨n, h⟩ := h
  exact ho enc W n _ _ h hw
theorem arg_int {H : Type} {enc : TypeId × Value → H} {W : World} {b : Nat} {v : Value} {d : DataW H} {ps : List MemPlace} (ht : P.underlying t = some (.int .i64)) (hval : Value.okWide P W .any b t v) (h : DataW.Trod enc P W 0 (fun _ => true) true t v d ps) : ∃ x : Int, v = .int .i64 x ∧ anyI x := by
  obtain ⟨n, rfl, _, _, hwf⟩ := open_int ht hval h
  refine ⟨n, rfl, ?_⟩
  have : IntKind.i64.min ≤ n ∧ n ≤ IntKind.i64.max := by simpa [Lit.wf] using hwf
  exact this
theorem arg_slice {α : Type} [Rep α] {bd : α → Prop} {bb : Nat} (ho : Opn P (List α) (anyL bb bd) t) (ht : P.underlying t = some (.slice e)) {H : Type} {enc : TypeId × Value → H} {W : World} {b : Nat} {v : Value} {d : DataW H} {ps : List MemPlace}
    (hval : Value.okWide P W .any b t v) (h : DataW.Trod enc P W 0 (fun _ => true) true t v d ps) (hw : (d.weights P t).all (· ≤ reachBytes) = true) : ∃ (xs : List α) (a : Option Addr) (l c : Nat), v = .slice a l c ∧ l ≤ c ∧ rdS (hp W) xs a l ∧ anyL bb bd xs := by
  obtain ⟨xs, ⟨a, l, c, hv, hlc, hr⟩, hb⟩ := opn_arg ho h hw
  refine ⟨xs, a, l, c, ?_, hlc, hr, hb⟩
  cases v <;> first | (simp [Value.okWide, ht, Cell.okWide, Cell.ok] at hval; done) | simpa [Value.cells] using hv
theorem arg_struct {α : Type} [Rep α] {bd : α → Prop} {fs : Array Field} (ho : Opn P α bd t) (ht : P.underlying t = some (.struct fs)) {H : Type} {enc : TypeId × Value → H} {W : World} {b : Nat} {v : Value} {d : DataW H} {ps : List MemPlace}
    (hval : Value.okWide P W .any b t v) (h : DataW.Trod enc P W 0 (fun _ => true) true t v d ps) (hw : (d.weights P t).all (· ≤ reachBytes) = true) : ∃ (x : α) (cs : List Value), v = .agg ⟨cs⟩ ∧ rd (hp W) x cs ∧ bd x := by
  obtain ⟨x, hr, hb⟩ := opn_arg ho h hw
  simp only [Value.okWide, ht] at hval
  obtain ⟨cs, rfl, _⟩ := hval
  exact ⟨x, cs.toList, rfl, hr, hb⟩
theorem below_of {w w' : World} (h : Ev w w') (g : Gr w w') : Below w.heap.size w w' := by
  refine ⟨h.os, h.tape, h.output, h.size, fun k hk => ?_⟩
  cases ho : w.heap[k]? with
  | none => rw [Array.getElem?_eq_none_iff] at ho; omega
  | some o =>
    by_cases hd : notD o = true
    · have : hp w k = some o := by unfold hp; rw [ho, hidD_not hd]
      exact hidD_some (g k o this)
    · cases o <;> first | exact absurd rfl hd | exact h.dfr _ _ ho
theorem trodAll_below (hl : laidOutB P = true) {H : Type} {enc : TypeId × Value → H} {W W' : World} (hb : Below W.heap.size W W') {sp : Nat → Bool} : ∀ {ts : List TypeId} {vs : List Value} {ds : List (DataW H)} {ps : List MemPlace},
    (ts.all fun t => P.readableRec t && decide (t < P.types.size)) = true → DataW.TrodAll enc P W 0 (fun _ => true) true ts vs ds ps → (∀ x ∈ ps, x.block < W.heap.size) → (∀ x ∈ ps, sp x.block = true) →
    DataW.TrodAll enc P W' 0 sp true ts vs ds ps
  | [], [], [], ps, _, h, _, _ => h
  | [], _ :: _, _, _, _, h, _, _ => h.elim
  | [], [], _ :: _, _, _, h, _, _ => h.elim
  | _ :: _, [], _, _, _, h, _, _ => h.elim
  | _ :: _, _ :: _, [], _, _, h, _, _ => h.elim
  | t :: ts, v :: vs, d :: ds, ps, ht, h, hlt, hsp => by
    obtain ⟨p, q, h1, h2, rfl⟩ := h
    rw [List.all_cons, Bool.and_eq_true, Bool.and_eq_true, decide_eq_true_eq] at ht
    exact ⟨p, q, WideElems.Trod_stays hl ht.1.1 ht.1.2 h1 (fun x hx => hb.same (hlt x (by simp [hx]))) (fun x hx => hsp x (by simp [hx])), trodAll_below hl hb ht.2 h2 (fun x hx => hlt x (by simp [hx])) (fun x hx => hsp x (by simp [hx])), rfl⟩
theorem law_post {H : Type} {enc : TypeId × Value → H} {s : ChangeSpec} {f : Func} {W W' : World} {args : Array Value} {ds gs : List (DataW H)} {before : List MemPlace} {tb : TypeId} (hv : s.vars = []) (hrt : f.resultTypes = #[tb]) (htb : P.underlying tb = some .bool)
    (hsp : s.fn H (ds ++ gs) = { results := [.lit (.bool true)], args := ds }) (hl : laidOutB P = true) (hrd : (f.params.toList.all fun t => P.readableRec t && decide (t < P.types.size)) = true)
    (hW : DataW.Whole enc P f.params.toList s.vars false W args.toList ds gs before) (hE : Ev W W') (hg : Gr W W') : s.post enc P f false true false false W args (.bool true) W' := by
  have hb := below_of hE hg
  have hlt : ∀ p ∈ before, p.block < W.heap.size := fun p hp => hW.lt p hp
  have hold : ∀ p ∈ before, (fun b => decide (b < W.heap.size)) p.block = true := fun p hp => by simpa using hlt p hp
  have hW' := hW
  obtain ⟨p, q, h1, h2, rfl, h3, h4⟩ := hW
  have hq : q = [] := by
    rw [hv] at h2
    cases gs with
    | nil => exact h2
    | cons _ _ => exact h2.elim
  subst hq
  rw [List.append_nil] at *
  have hargs : ∀ sp : Nat → Bool, (∀ x ∈ p, sp x.block = true) → DataW.TrodAll enc P W' 0 sp true f.params.toList args.toList (s.fn H (ds ++ gs)).args p := fun sp hs => by
    rw [hsp]; exact trodAll_below hl hb hrd h1 hlt hs
  have hvars : ∀ sp : Nat → Bool, DataW.TrodVars enc P W' sp s.vars (s.fn H (ds ++ gs)).vars [] := fun sp => by
    rw [hsp, hv]; exact rfl
  have hres : ∀ (b : Nat) (sp : Nat → Bool) (hd : Bool), DataW.TrodAll enc P W' b sp hd f.resultTypes.toList ((Value.bool true).resultList f.resultTypes.size) (s.fn H (ds ++ gs)).results [] := fun b sp hd => by
    rw [hsp, hrt]; exact trodAll_cons_mk (shut_bool htb _) trodAll_mk0
  have hok : ∀ (j : Nat) (t : TypeId) (r : Value), f.resultTypes[j]? = some t → ((Value.bool true).resultList f.resultTypes.size)[j]? = some r → Value.okWide P W' .any 0 t r := ok_one hrt rfl (okWide_bool_mk htb _)
  refine ⟨ds, gs, p, [], p, [], hW', hres _ _ _, hargs _ hold, hvars _, World.keptBut_mono (fun x hx => ⟨hx, ?_⟩) (hb.frame (· ∈ p)), fun _ => ?_⟩
  · exact Or.inr (by simpa using hx)
  · refine ⟨hok, _, _, ([] ++ p) ++ [], ⟨[] ++ p, [], trodAll_append (hargs _ (fun _ _ => rfl)) (hres _ _ _), hvars _, rfl, ?_, ?_⟩, ?_⟩
    · intro b off hp
      have hin : MemPlace.cell b off ∈ p := by simpa using hp
      rw [hb.frozen (hlt _ hin)]
      exact h3 b off hin
    · intro ha; cases ha
    · intro x hx _
      simpa using hx
end
end Go.V
set_option linter.unusedVariables false
namespace Go.Proofs.Ytglamnhmjikhkaa
open Go.V Go.RowKit Go.WideShapes Go.ChangeShapes Go.ChangeAt
theorem ownK : ownKnob Try.prog.godebug = none := by kernel_rfl
theorem laidO : laidOutB Try.prog = true := by kernel_rfl
theorem cellsI : Try.prog.cellsOf 3 = 1 := by kernel_rfl
theorem bytesI : Try.prog.bytesOf 3 = 8 := by kernel_rfl
theorem cellsStr : Try.prog.cellsOf 9 = 1 := by kernel_rfl
theorem bytesStr : Try.prog.bytesOf 9 = 16 := by kernel_rfl
theorem cellsS24 : Try.prog.cellsOf 24 = 1 := by kernel_rfl
theorem cellsS22 : Try.prog.cellsOf 22 = 1 := by kernel_rfl
theorem cellsS23 : Try.prog.cellsOf 23 = 1 := by kernel_rfl
theorem cellsS25 : Try.prog.cellsOf 25 = 1 := by kernel_rfl
theorem cellsT : Try.prog.cellsOf 81 = 2 := by kernel_rfl
theorem bytesT : Try.prog.bytesOf 81 = 24 := by kernel_rfl
theorem cellsP : Try.prog.cellsOf 63 = 3 := by kernel_rfl
theorem bytesP : Try.prog.bytesOf 63 = 40 := by kernel_rfl
theorem cellsG : Try.prog.cellsOf 27 = 5 := by kernel_rfl
theorem oInt : Opn Try.prog Int anyI 3 := opn_int Try.underlying3
theorem oInts : Opn Try.prog (List Int) (anyL 8 anyI) 24 := opn_slice Try.underlying24 cellsI bytesI oInt
theorem oStr : Opn Try.prog ByteArray anyS 9 := opn_str Try.underlying9
theorem oStrs : Opn Try.prog (List ByteArray) (anyL 16 anyS) 23 := opn_slice Try.underlying23 cellsStr bytesStr oStr
theorem oTerm : Opn Try.prog TermT (fun t => anyS t.name ∧ anyI t.level) 81 := by
  intro H enc W n cs x h hw
  obtain ⟨hl, hf⟩ := opn_struct Try.underlying81 h hw
  rw [cellsT] at hl
  obtain ⟨_, _, t0, w0⟩ := hf 0 _ 9 1 0 rfl cellsStr rfl rfl
  obtain ⟨_, _, t1, w1⟩ := hf 1 _ 3 1 1 rfl cellsI rfl rfl
  obtain ⟨y0, r0, b0⟩ := oStr enc W _ _ _ t0 w0
  obtain ⟨y1, r1, b1⟩ := oInt enc W _ _ _ t1 w1
  match cs, hl with
  | [c0, c1], _ =>
    have e0 : [c0] = [.string y0] := r0
    have e1 : [c1] = [.int .i64 y1] := r1
    cases e0; cases e1
    exact ⟨⟨y0, y1⟩, rfl, b0, b1⟩
theorem oTerms : Opn Try.prog (List TermT) (anyL 24 fun t => anyS t.name ∧ anyI t.level) 22 := opn_slice Try.underlying22 cellsT bytesT oTerm
theorem oProd : Opn Try.prog ProdT (fun p => anyI p.left ∧ anyL 8 anyI p.right ∧ anyI p.level) 63 := by
  intro H enc W n cs x h hw
  obtain ⟨hl, hf⟩ := opn_struct Try.underlying63 h hw
  rw [cellsP] at hl
  obtain ⟨_, _, t0, w0⟩ := hf 0 _ 3 1 0 rfl cellsI rfl rfl
  obtain ⟨_, _, t1, w1⟩ := hf 1 _ 24 1 1 rfl cellsS24 rfl rfl
  obtain ⟨_, _, t2, w2⟩ := hf 2 _ 3 1 2 rfl cellsI rfl rfl
  obtain ⟨y0, r0, b0⟩ := oInt enc W _ _ _ t0 w0
  obtain ⟨y1, ⟨a, l, c, r1, hlc, r1'⟩, b1⟩ := oInts enc W _ _ _ t1 w1
  obtain ⟨y2, r2, b2⟩ := oInt enc W _ _ _ t2 w2
  match cs, hl with
  | [c0, c1, c2], _ =>
    have e0 : [c0] = [.int .i64 y0] := r0
    have e1 : [c1] = [.slice a l c] := r1
    have e2 : [c2] = [.int .i64 y2] := r2
    cases e0; cases e1; cases e2
    exact ⟨⟨y0, y1, y2⟩, ⟨a, l, c, rfl, hlc, r1'⟩, b0, b1, b2⟩
theorem oProds : Opn Try.prog (List ProdT) (anyL 40 fun p => anyI p.left ∧ anyL 8 anyI p.right ∧ anyI p.level) 25 := opn_slice Try.underlying25 cellsP bytesP oProd
def okG2 (g : GramT) : Prop := okG g ∧ g.terms.length * 24 ≤ 140737488355328 ∧ g.nons.length * 16 ≤ 140737488355328
theorem oGram : Opn Try.prog GramT okG2 27 := by
  intro H enc W n cs x h hw
  obtain ⟨hl, hf⟩ := opn_struct Try.underlying27 h hw
  rw [cellsG] at hl
  obtain ⟨_, _, t0, w0⟩ := hf 0 _ 22 1 0 rfl cellsS22 rfl rfl
  obtain ⟨_, _, t1, w1⟩ := hf 1 _ 23 1 1 rfl cellsS23 rfl rfl
  obtain ⟨_, _, t2, w2⟩ := hf 2 _ 24 1 2 rfl cellsS24 rfl rfl
  obtain ⟨_, _, t3, w3⟩ := hf 3 _ 3 1 3 rfl cellsI rfl rfl
  obtain ⟨_, _, t4, w4⟩ := hf 4 _ 25 1 4 rfl cellsS25 rfl rfl
  obtain ⟨y0, ⟨a0, l0, c0', r0, k0, q0⟩, b0⟩ := oTerms enc W _ _ _ t0 w0
  obtain ⟨y1, ⟨a1, l1, c1', r1, k1, q1⟩, b1⟩ := oStrs enc W _ _ _ t1 w1
  obtain ⟨y2, ⟨a2, l2, c2', r2, k2, q2⟩, b2⟩ := oInts enc W _ _ _ t2 w2
  obtain ⟨y3, r3, b3⟩ := oInt enc W _ _ _ t3 w3
  obtain ⟨y4, ⟨a4, l4, c4', r4, k4, q4⟩, b4⟩ := oProds enc W _ _ _ t4 w4
  match cs, hl with
  | [c0, c1, c2, c3, c4], _ =>
    have e0 : [c0] = [.slice a0 l0 c0'] := r0
    have e1 : [c1] = [.slice a1 l1 c1'] := r1
    have e2 : [c2] = [.slice a2 l2 c2'] := r2
    have e3 : [c3] = [.int .i64 y3] := r3
    have e4 : [c4] = [.slice a4 l4 c4'] := r4
    cases e0; cases e1; cases e2; cases e3; cases e4
    refine ⟨⟨y0, y1, y2, y3, y4⟩, ⟨⟨a0, l0, c0', a1, l1, c1', a2, l2, c2', y3, a4, l4, c4'⟩, rfl, q0, q1, q2, rfl, q4, k0, k1, k2, k4⟩, ?_⟩
    have z0 := b0.1
    have z1 := b1.1
    have z2 := b2.1
    have z4 := b4.1
    unfold reachBytes at z0 z1 z2 z4
    refine ⟨⟨by show y0.length ≤ _; omega, by show y1.length ≤ _; omega, by show y2.length ≤ _; omega, by show y4.length * 40 ≤ _; omega, fun t ht => ⟨?_, (b0.2 t ht).2⟩, fun s hs => ?_, fun p hp => ?_⟩, by show y0.length * 24 ≤ _; omega, by show y1.length * 16 ≤ _; omega⟩
    · have := (b0.2 t ht).1; unfold anyS reachBytes at this; omega
    · have := b1.2 s hs; unfold anyS reachBytes at this; omega
    · have := (b4.2 p hp).2.1.1; unfold reachBytes at this; omega
theorem cellsIt : Try.prog.cellsOf 49 = 2 := by kernel_rfl
theorem bytesIt : Try.prog.bytesOf 49 = 16 := by kernel_rfl
theorem oItem : Opn Try.prog ItemT (fun t => anyI t.prod ∧ anyI t.dot) 49 := by
  intro H enc W n cs x h hw
  obtain ⟨hl, hf⟩ := opn_struct Try.underlying49 h hw
  rw [cellsIt] at hl
  obtain ⟨_, _, t0, w0⟩ := hf 0 _ 3 1 0 rfl cellsI rfl rfl
  obtain ⟨_, _, t1, w1⟩ := hf 1 _ 3 1 1 rfl cellsI rfl rfl
  obtain ⟨y0, r0, b0⟩ := oInt enc W _ _ _ t0 w0
  obtain ⟨y1, r1, b1⟩ := oInt enc W _ _ _ t1 w1
  match cs, hl with
  | [c0, c1], _ =>
    have e0 : [c0] = [.int .i64 y0] := r0
    have e1 : [c1] = [.int .i64 y1] := r1
    cases e0; cases e1
    exact ⟨⟨y0, y1⟩, rfl, b0, b1⟩
theorem oItems : Opn Try.prog (List ItemT) (anyL 16 fun t => anyI t.prod ∧ anyI t.dot) 40 := opn_slice Try.underlying40 cellsIt bytesIt oItem

noncomputable def laidWorld (os : Os) : World := World.holding Try.prog os ⟨#[], #[], []⟩
end Go.Proofs.Ytglamnhmjikhkaa
