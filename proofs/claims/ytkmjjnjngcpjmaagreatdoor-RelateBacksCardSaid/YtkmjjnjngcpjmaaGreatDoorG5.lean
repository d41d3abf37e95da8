/- Texts of this claim, one behind the other. -/
import Derived.Test.YtkmjjnjngcpjmaaGreatDoorG4
import Derived.Test.YtkmjjnjngcpjmaaGreatDoorG1
import Derived.Test.YtkmjjnjngcpjmaaGreatDoorG2
import Derived.Test.YtkmjjnjngcpjmaaGreatDoorCards
import Derived.Test.YtkmjjnjngcpjmaaGreatDoorTie
import Derived.WalkKit
import Derived.ProofKit
import Derived.OpenShut
import Derived.Carry
import Derived.OpenVars
import Derived.Deep.DeepHandedRow
import Derived.Lib.LaidTab
set_option linter.unusedVariables false
set_option maxRecDepth 4000
namespace Go.V
theorem rise_at {l : List Int} (h : Rise l) {i j : Nat} {a b : Int} (ha : l[i]? = some a) (hb : l[j]? = some b) (hij : i < j) : a < b := by
  obtain ⟨h1, rfl⟩ := List.getElem?_eq_some_iff.1 ha
  obtain ⟨h2, rfl⟩ := List.getElem?_eq_some_iff.1 hb
  exact List.pairwise_iff_getElem.1 h i j h1 h2 hij
theorem RdsL_at {g : GramT} {nn : List Bool} {ss : List SQ} {i : Nat} (hi : i < (TrL g ss).length) : (RdsL g nn ss)[i]? = some (rowF (TrL g ss).length (readB g nn ss i)) := by
  unfold RdsL; rw [List.getElem?_map, List.getElem?_range hi]; rfl
theorem IncL_at {g : GramT} {nn : List Bool} {ss : List SQ} {i : Nat} (hi : i < (TrL g ss).length) : (IncL g nn ss)[i]? = some (rowF (TrL g ss).length (incB g nn ss i)) := by
  unfold IncL; rw [List.getElem?_map, List.getElem?_range hi]; rfl
theorem rowF_dec {n k : Nat} {f : Nat → Bool} (hk : k < n) : decide (((k : Nat) : Int) ∈ rowF n f) = f k := by
  rw [Bool.eq_iff_iff, decide_eq_true_eq, rowF_mem]
  constructor
  · rintro ⟨k', e, _, h⟩
    have : k = k' := by omega
    subst this; exact h
  · intro h; exact ⟨k, rfl, hk, h⟩
end Go.V
namespace Go.Proofs.YtkmjjnjngcpjmaaGreatDoor
open Go.V
variable {w : World} {L : List Asn} {g : GramT} {x : GA}
set_option maxHeartbeats 4000000 in
theorem l_RelateReads (hg : gR (hp w) g x) (hb : okG g) (ht : tabA (hp w)) : Run Tryz.prog n_presagelaw11_RelateReads [.agg ⟨x.cells⟩] w fun v w' => v = .bool true ∧ Gr w w' := by
  refine run_presagelaw11_RelateReads _ _ _ _ _ _ _ _ _ _ _ _ _ w _ (gbox hg fun k1 w1 gw hg B => (l_awake11 (rdV.mono gw ht)).mono ?_)
  rintro _ w2 ⟨rfl, g12⟩
  refine ⟨_, rfl, _, _, _, _, _, _, _, _, _, _, _, _, _, B.row g12, (y_asked (hg.mono g12) hb (rdV.mono (gw.trans g12) ht)).mono ?_⟩
  rintro _ w3 ⟨ss, ask, int, f, p, rfl, hR, g23, hpn, hps⟩
  have g13 := g12.trans g23
  refine ⟨_, _, rfl, fun b w' => b = Option.isNone p ∧ w' = w3, br_f rfl (br_f rfl ⟨rfl, rfl⟩), ?_⟩
  rintro _ b3 w4 ⟨rfl, e4⟩
  rw [e4]
  by_cases hf : f = 0
  rotate_left
  · have := hpn hf
    subst this
    exact br_t rfl (br_t rfl ⟨rfl, gw.trans g13⟩)
  obtain ⟨k, nn, rfl, hnn, hAs⟩ := hps hf
  obtain ⟨hc, hA⟩ := hR.aut hf
  refine br_f rfl ⟨_, _, _, _, _, _, _, _, _, _, _, _, _, B.row g13, (y_Reads (hg.mono g13) hb (rdV.mono (gw.trans g13) ht)).mono ?_⟩
  rintro _ w5 ⟨ss2, ask2, int2, f2, nn2, o10, c10, ds, rfl, hR2, hnn2, hds, h⟩
  obtain ⟨_, hes, _, _, rfl, _⟩ := hR.one hR2
  have e := (hnn2 hf).inj hnn
  subst e
  rw [← RdsL_es hes] at hds
  have g35 : Gr w3 w5 := rdH 2 h.l
  have rA := rdLq h
  have hdl : ds.length = (TrL g ss).length := by have := congrArg List.length hds; rw [List.length_map] at this; rw [this]; unfold RdsL; simp
  rw [hds, hdl] at rA
  rw [hdl]
  clear h
  have hAs := hAs.mono g35
  have g15 := g13.trans g35
  have gw5 := gw.trans g15
  obtain ⟨x', ol, cl, on, cn, rk, hg', rT, rN⟩ := hAs.ex
  have hTl : g.T = x.tl := hg.t.1
  have hnl := trl_le hc hA
  obtain ⟨sT, sN, sP, _, _, _⟩ := hc.sizes
  generalize hTT : TrL g ss = T at *
  refine ⟨_, _, _, _, rfl, _, _, _, rk.cell (sub.refl _) (j := 5) rfl, br_f (by simp) ⟨fun z w' => ∃ i : Nat, z = i ∧ i ≤ T.length ∧ Gr w5 w', fun z _ => T.length - z.toNat, ⟨0, rfl, Nat.zero_le _, Gr.refl _⟩, ?_⟩⟩
  rintro _ _ w6 ⟨i, rfl, hi, g6⟩
  refine ⟨_, _, _, rk.cell g6 (j := 5) rfl, br_intro (fun h1 => ?_) fun h1 => ⟨rfl, gw5.trans g6⟩⟩
  have h1 : i < T.length := by have := of_decide_eq_true h1; omega
  obtain ⟨t, tad, ht', hta, rt⟩ := rdTr_get rT h1
  have ht2 : (TrL g ss)[i]? = some t := by rw [hTT]; exact ht'
  obtain ⟨i0, q0, k0, e0, hi0, hq0, he0, hge, hte⟩ := TrN_mem (show t ∈ TrN g ss ss.length from List.mem_of_getElem? ht2)
  have hnx : nxt ss t.st.toNat t.sym = some e0.to := by rw [hte]; exact nxt_edge hA hq0 he0
  obtain ⟨hto1, hto2⟩ := nxt_pos hc hA hnx
  obtain ⟨j0, hj0⟩ : ∃ j0 : Nat, e0.to = j0 := ⟨e0.to.toNat, by omega⟩
  rw [hj0] at hnx
  obtain ⟨hs1, hs2, _⟩ := aut_edge hc hA hq0 he0
  have hsym : t.sym = e0.sym := by rw [hte]
  have hst : t.st = (i0 : Int) := by rw [hte]
  intro w7 hd
  have g7 : Gr w5 w7 := g6.trans (Gr.drawn hd)
  have g17 := g15.trans g7
  refine ⟨fun u => Gr w7 u, Gr.refl _, _, _, _, _, _, _, _, _, _, _, _, _, _, fun u s => B.row (sub.trans g17 s), _, _, _, fun u s => rk.cell (sub.trans g7 s) (j := 5) rfl, idx_n hta h1 ⟨_, fun u s => rt.cell0 (sub.trans g7 s), _, _, _, fun u s => rk.cell (sub.trans g7 s) (j := 5) rfl, idx_n hta h1 ⟨_, fun u s => rt.cell (sub.trans g7 s) (j := 1) rfl, newC_i (St.all w7) fun k36 w13 h => ?_⟩⟩⟩
  have g713 : Gr w7 w13 := h.gone1
  have r36 : rdS (hp w13) ([t.sym] : List Int) (some (aM k36)) 1 := rdI_of rfl (.inr ⟨_, rfl, rdCel 0 h.l⟩)
  clear h
  refine ⟨g713, (y_trWalk (fr := t.st) (hg.mono (g17.trans g713)) hb r36 (by decide)).mono ?_⟩
  rintro _ w14 ⟨ss3, ask3, int3, f3, rfl, hR3, g1314⟩
  obtain ⟨_, hes3, _, _, rfl, _⟩ := hR.one hR3
  have hwk : wlk g ss3 f t.st [t.sym] = ((j0 : Int), 0) := by
    rw [← wlk_es hes3]
    subst hf
    rw [hst, wlk_ok0 hi0 (by simp [bS_no (g := g) (s := t.sym) (by omega) (by omega)]), wayN_cons, ← hst, hnx]
    rfl
  rw [hwk]
  have g514 := g7.trans (g713.trans g1314)
  refine ⟨_, _, rfl, g713.trans g1314, br_f rfl ⟨fun z w' => ∃ k : Nat, z = k ∧ k ≤ T.length ∧ Gr w5 w', fun z _ => T.length - z.toNat, ⟨0, rfl, Nat.zero_le _, g514⟩, ?_⟩⟩
  rintro _ _ w15 ⟨k, rfl, hk, g15'⟩
  obtain ⟨xr, ad1, a1, c1, hx1, rfl, cx1, rx1⟩ := rdLq_row rA h1
  have hx1' : xr = rowF T.length (readB g nn2 ss i) := by
    have := RdsL_at (nn := nn2) (show i < (TrL g ss).length by rw [hTT]; exact h1)
    rw [hx1, hTT] at this
    exact Option.some.inj this
  have hxl : xr.length ≤ T.length := by rw [hx1']; exact rowF_len _ _
  refine ⟨_, _, _, rk.cell g15' (j := 5) rfl, br_intro (fun h2 => ?_) fun h2 => ?_⟩
  · have h2 : k < T.length := by have := of_decide_eq_true h2; omega
    obtain ⟨u, uad, hu, hua, ru⟩ := rdTr_get rT h2
    rw [hta] at hua; cases hua
    have hu2 : (TrL g ss)[k]? = some u := by rw [hTT]; exact hu
    obtain ⟨i1, q1, k1', e1, hi1, hq1, he1, hge1, hue⟩ := TrN_mem (show u ∈ TrN g ss ss.length from List.mem_of_getElem? hu2)
    obtain ⟨hu1, hu2', _⟩ := aut_edge hc hA hq1 he1
    have husym : u.sym = e1.sym := by rw [hue]
    obtain ⟨m, hm⟩ : ∃ m : Nat, u.sym - (x.tl : Int) = m := ⟨(u.sym - (x.tl : Int)).toNat, by omega⟩
    have hmN : m < g.N := by omega
    have hvan : vanB g nn2 u.sym = fnB nn2 m := by
      unfold vanB
      rw [decide_eq_true (show (g.T : Int) ≤ u.sym by omega), Bool.true_and, show u.sym.toNat - g.T = m by omega]
    obtain ⟨bb, bad, hb1, hba, hb2⟩ := rN.get1 hmN
    have hfn : fnB nn2 m = bb := fnB_get hb1
    have hrd : readB g nn2 ss i k = (decide (u.st = (j0 : Int)) && bb) := by
      unfold readB
      rw [ht2, hu2]
      show (decide (nxt ss t.st.toNat t.sym = some u.st) && vanB g nn2 u.sym) = _
      rw [hnx, hvan, hfn]
      congr 1
      rw [decide_eq_decide]
      constructor
      · intro h; exact (Option.some.inj h).symm
      · intro h; rw [h]
    have hdec : decide (((k : Nat) : Int) ∈ xr) = readB g nn2 ss i k := by rw [hx1']; exact rowF_dec h2
    intro w16 hd2
    have g16 : Gr w5 w16 := g15'.trans (Gr.drawn hd2)
    refine ⟨fun u => Gr w16 u, Gr.refl _, _, _, _, fun u s => rk.cell (sub.trans g16 s) (j := 5) rfl, idx_n hta h2 ⟨_, fun u s => ru.cell (sub.trans g16 s) (j := 1) rfl, _, _, _, fun u s => B.c0 (sub.trans g15 (sub.trans g16 s)), ⟨by omega, by omega⟩, ?_⟩⟩
    rw [hm]
    refine ⟨fun b w' => b = false ∧ w' = w16, br_f (decide_eq_false (by omega)) ⟨_, _, _, rk.cell g16 (j := 6) rfl, decide_eq_false (by omega), rfl⟩, ?_⟩
    rintro _ b4 w20 ⟨rfl, e20⟩
    rw [e20]
    have next : ∀ {u : World}, u = w16 → inI ((k : Int) + 1) ∧ (∃ k' : Nat, (k : Int) + 1 = k' ∧ k' ≤ T.length ∧ Gr w5 u) ∧ T.length - ((k : Int) + 1).toNat < T.length - (k : Int).toNat := fun e => ⟨⟨by omega, by omega⟩, ⟨k + 1, by simp, h2, by rw [e]; exact g16⟩, msr h2⟩
    refine br_f rfl ⟨_, _, _, rk.cell g16 (j := 5) rfl, idx_n hta h2 ⟨_, ru.cell0 g16, br_intro (fun h3 => ?_) fun h3 => ?_⟩⟩
    · have h3 : u.st = (j0 : Int) := by simpa using h3
      refine ⟨_, _, _, rk.cell g16 (j := 6) rfl, idx_i hba hmN ⟨bb, hb2 _ g16, idx_i rfl h1 ⟨_, _, _, cx1 _ g16, (y_has11 (rx1.mono g16) (by omega)).mono ?_⟩⟩⟩
      rintro _ w21 ⟨rfl, e21⟩
      refine ⟨_, rfl, br_f ?_ (next e21)⟩
      rw [hdec, hrd, decide_eq_true h3]
      cases bb <;> rfl
    · have h3 : u.st ≠ (j0 : Int) := by simpa using h3
      refine idx_i rfl h1 ⟨_, _, _, cx1 _ g16, (y_has11 (rx1.mono g16) (by omega)).mono ?_⟩
      rintro _ w22 ⟨rfl, e22⟩
      refine ⟨_, rfl, br_f ?_ (next e22)⟩
      rw [hdec, hrd, decide_eq_false h3]
      rfl
  refine ⟨fun z w' => ∃ m : Nat, z = m ∧ m ≤ xr.length ∧ Gr w5 w', fun z _ => xr.length - z.toNat, ⟨0, rfl, Nat.zero_le _, g15'⟩, ?_⟩
  rintro _ _ w23 ⟨m, rfl, hm, g23'⟩
  refine idx_i rfl h1 ⟨_, _, _, cx1 _ g23', br_intro (fun h3 => ?_) fun h3 => ⟨⟨by omega, by omega⟩, ⟨i + 1, by simp, h1, g23'⟩, msr h1⟩⟩
  have h3 : m < xr.length := by have := of_decide_eq_true h3; omega
  obtain ⟨y, yad, hy1, hya, hy2⟩ := rx1.get1 h3
  have hym : y ∈ rowF T.length (readB g nn2 ss i) := by rw [← hx1']; exact List.mem_of_getElem? hy1
  obtain ⟨yn, hyn, hyl, _⟩ := rowF_mem.1 hym
  have hrise : Rise xr := by rw [hx1']; exact rowF_rise _ _
  intro w24 hd3
  have g24 : Gr w5 w24 := g23'.trans (Gr.drawn hd3)
  have next : inI ((m : Int) + 1) ∧ (∃ m' : Nat, (m : Int) + 1 = m' ∧ m' ≤ xr.length ∧ Gr w5 w24) ∧ xr.length - ((m : Int) + 1).toNat < xr.length - (m : Int).toNat := ⟨⟨by omega, by omega⟩, ⟨m + 1, by simp, h3, g24⟩, msr h3⟩
  refine ⟨fun u => Gr w24 u, Gr.refl _, idx_i rfl h1 ⟨_, _, _, fun u s => cx1 _ (sub.trans g24 s), idx_i hya h3 ⟨y, fun u s => hy2 _ (sub.trans g24 s), br_f (decide_eq_false (by omega)) (idx_i rfl h1 ⟨_, _, _, fun u s => cx1 _ (sub.trans g24 s), idx_i hya h3 ⟨y, fun u s => hy2 _ (sub.trans g24 s), _, _, _, fun u s => rk.cell (sub.trans g24 s) (j := 5) rfl, br_f (decide_eq_false (by omega)) (br_intro (fun h4 => ?_) fun _ => next)⟩⟩)⟩⟩⟩
  have h4 : 0 < m := by have := of_decide_eq_true h4; omega
  obtain ⟨m', rfl⟩ : ∃ m', m = m' + 1 := ⟨m - 1, by omega⟩
  obtain ⟨z, zad, hz1, hza, hz2⟩ := rx1.get1 (show m' < xr.length by omega)
  have hlt := rise_at hrise hz1 hy1 (by omega)
  have em : ((m' + 1 : Nat) : Int) - 1 = (m' : Int) := by omega
  refine idx_i rfl h1 ⟨_, _, _, fun u s => cx1 _ (sub.trans g24 s), idx_i hya h3 ⟨y, fun u s => hy2 _ (sub.trans g24 s), idx_i rfl h1 ⟨_, _, _, fun u s => cx1 _ (sub.trans g24 s), ⟨by omega, by omega⟩, ?_⟩⟩⟩
  rw [em]
  exact idx_i hza (by omega) ⟨z, fun u s => hz2 _ (sub.trans g24 s), br_f (decide_eq_false (by omega)) next⟩
end Go.Proofs.YtkmjjnjngcpjmaaGreatDoor
set_option linter.unusedVariables false
namespace Go.Proofs.YtkmjjnjngcpjmaaGreatDoor
open Go.V
abbrev n_presagelaw11_RelateBacks : FuncId := 4
def ann_presagelaw11_RelateBacks : Ann := { rngs := [], loops := [(9, [(10, (.one (.int .i64))), (11, (.one (.int .i64)))]), (15, [(10, (.one (.int .i64))), (14, (.one (.int .i64)))]), (22, [(16, (.one (.int .i64)))])], joins := [(4, [(33, (.one .bool))]), (19, [(144, (.one .bool))])], blocks := [] }
set_option maxRecDepth 100000 in
def vc_presagelaw11_RelateBacks (a : Option Addr) (b c : Nat) (d : Option Addr) (e f : Nat) (g : Option Addr) (i j : Nat) (k : Int) (l : Option Addr) (m n : Nat) (w : World) (R : Value → WP) : Prop :=  new w (oC [vS a b c, vS d e f, vS g i j, iI k, vS l m n] 27) fun k1 w1 => RunE Proofs.Tryz.prog Ev 7 [] w1 fun v1 w2 => ∃ b1, v1 = vB b1 ∧ ∃ o1 k2 k3 o2 k4 k5 o3 k6 k7 n1 o4 k8 k9, V.rowAt w2 (aM k1) 0 5 = some [vS o1 k2 k3, vS o2 k4 k5, vS o3 k6 k7, iI n1, vS o4 k8 k9] ∧ RunE Proofs.Tryz.prog Ev 18 [vA (Array.mk [vS o1 k2 k3, vS o2 k4 k5, vS o3 k6 k7, iI n1, vS o4 k8 k9])] w2 fun v2 w3 => ∃ o5 b2, v2 = vT (Array.mk [vP o5, vB b2]) ∧ ∃ (x1 : lP [(33, shB)]), br (!b1) (x1 true w3) (br (!b2) (x1 true w3) (x1 (Option.isNone o5) w3)) ∧ ∀ (I1 : Nat → Value) (b3 : Bool) (w4 : World), x1 b3 w4 → br b3 (br b1 (R (vB b2) w4) (R (vB false) w4)) (∃ o6 k10 k11 o7 k12 k13 o8 k14 k15 n2 o9 k16 k17, V.rowAt w4 (aM k1) 0 5 = some [vS o6 k10 k11, vS o7 k12 k13, vS o8 k14 k15, iI n2, vS o9 k16 k17] ∧ RunE Proofs.Tryz.prog Ev 14 [vA (Array.mk [vS o6 k10 k11, vS o7 k12 k13, vS o8 k14 k15, iI n2, vS o9 k16 k17])] w4 fun v3 w5 => ∃ o10 k18 k19 n3, v3 = vT (Array.mk [vS o10 k18 k19, iI n3]) ∧ ∃ o11 k20 k21 o12 k22 k23 o13 k24 k25 n4 o14 k26 k27, V.rowAt w5 (aM k1) 0 5 = some [vS o11 k20 k21, vS o12 k22 k23, vS o13 k24 k25, iI n4, vS o14 k26 k27] ∧ RunE Proofs.Tryz.prog Ev 19 [vA (Array.mk [vS o11 k20 k21, vS o12 k22 k23, vS o13 k24 k25, iI n4, vS o14 k26 k27])] w5 fun v4 w6 => ∃ o15 k28 k29 n5 n6 n7, v4 = vT (Array.mk [vA (Array.mk [vS o15 k28 k29, iI n5, iI n6]), iI n7]) ∧ new w6 (oC [vS none 0 0, iI 0, iI 0] 48) fun k30 w7 => stR w7 (aM k30) [vS o15 k28 k29, iI n5, iI n6] fun w8 => ∃ (x2 : lP [(10, shI), (11, shI)]), ∃ (x3 : lN [(10, shI), (11, shI)]), x2 0 0 w8 ∧ ∀ (I2 : Nat → Value) (n8 n9 : Int) (w9 : World), x2 n8 n9 w9 → ∃ o16 k31 k32, World.cell? w9 (aM k30) = some (vS o16 k31 k32) ∧ br (decide (n9 < (↑k31 : Int))) (∀ w10, drawn w9 w10 → ∃ (I3 : World → Prop), I3 w10 ∧ ∃ o17 k33 k34 o18 k35 k36 o19 k37 k38 n10 o20 k39 k40, (∀ w11, I3 w11 → V.rowAt w11 (aM k1) 0 5 = some [vS o17 k33 k34, vS o18 k35 k36, vS o19 k37 k38, iI n10, vS o20 k39 k40]) ∧ ∃ o21 k41 k42, (∀ w12, I3 w12 → World.cell? w12 (aM k30) = some (vS o21 k41 k42)) ∧ idx o21 k41 n9 2 fun a1 => ∃ o22 k43 k44, (∀ w13, I3 w13 → World.cell? w13 a1 = some (vS o22 k43 k44)) ∧ RunE Proofs.Tryz.prog Ev 20 [vA (Array.mk [vS o17 k33 k34, vS o18 k35 k36, vS o19 k37 k38, iI n10, vS o20 k39 k40]), vS o22 k43 k44] w10 fun v5 w14 => ∃ o23 k45 k46 n11, v5 = vT (Array.mk [vS o23 k45 k46, iI n11]) ∧ I3 w14 ∧ br (n11 != 0) (R (vB false) w14) (∃ (x4 : lP [(10, shI), (14, shI)]), ∃ (x5 : lN [(10, shI), (14, shI)]), x4 n8 0 w14 ∧ ∀ (I4 : Nat → Value) (n12 n13 : Int) (w15 : World), x4 n12 n13 w15 → br (decide (n13 < (↑k45 : Int))) (∀ w16, drawn w15 w16 → ∃ (I5 : World → Prop), I5 w16 ∧ idx o23 k45 n13 2 fun a2 => ∃ n14, (∀ w17, I5 w17 → World.cell? w17 a2 = some (iI n14)) ∧ br (decide (n14 < 1)) (inI (n13 + 1) ∧ x4 n12 (n13 + 1) w16 ∧ x5 n12 (n13 + 1) w16 < x5 n12 n13 w15) (idx o23 k45 n13 2 fun a3 => ∃ n15, (∀ w18, I5 w18 → World.cell? w18 a3 = some (iI n15)) ∧ ∃ o24 k47 k48, (∀ w19, I5 w19 → World.cell? w19 (Addr.add (aM k1) 4) = some (vS o24 k47 k48)) ∧ br (decide ((↑k47 : Int) ≤ n15)) (inI (n13 + 1) ∧ x4 n12 (n13 + 1) w16 ∧ x5 n12 (n13 + 1) w16 < x5 n12 n13 w15) (idx o23 k45 n13 2 fun a4 => ∃ n16, (∀ w20, I5 w20 → World.cell? w20 (Addr.add a4 1) = some (iI n16)) ∧ ∃ o25 k49 k50, (∀ w21, I5 w21 → World.cell? w21 (Addr.add (aM k1) 4) = some (vS o25 k49 k50)) ∧ idx o23 k45 n13 2 fun a5 => ∃ n17, (∀ w22, I5 w22 → World.cell? w22 a5 = some (iI n17)) ∧ idx o25 k49 n17 3 fun a6 => ∃ o26 k51 k52, (∀ w23, I5 w23 → World.cell? w23 (Addr.add a6 1) = some (vS o26 k51 k52)) ∧ br (decide (n16 < (↑k51 : Int))) (inI (n13 + 1) ∧ x4 n12 (n13 + 1) w16 ∧ x5 n12 (n13 + 1) w16 < x5 n12 n13 w15) (∃ (x6 : lP [(144, shB)]), (∀ w24, drawn w16 w24 → ∃ (I6 : World → Prop), I6 w24 ∧ br (decide ((↑k18 : Int) ≤ n12)) (x6 true w24) (idx o10 k18 n12 3 fun a7 => ∃ n18, (∀ w25, I6 w25 → World.cell? w25 a7 = some (iI n18)) ∧ br (n18 != n9) (x6 true w24) (idx o10 k18 n12 3 fun a8 => ∃ n19, (∀ w26, I6 w26 → World.cell? w26 (Addr.add a8 1) = some (iI n19)) ∧ idx o23 k45 n13 2 fun a9 => ∃ n20, (∀ w27, I6 w27 → World.cell? w27 a9 = some (iI n20)) ∧ br (n19 != n20) (x6 true w24) (idx o10 k18 n12 3 fun a10 => ∃ o27 k53 k54, (∀ w28, I6 w28 → World.cell? w28 (Addr.add a10 2) = some (vS o27 k53 k54)) ∧ x6 ((↑k53 : Int) == 0) w24)))) ∧ ∀ (I7 : Nat → Value) (b4 : Bool) (w29 : World), x6 b4 w29 → br b4 (R (vB false) w29) (∀ w30, drawn w29 w30 → ∃ (I8 : World → Prop), I8 w30 ∧ ∃ o28 k55 k56, (∀ w31, I8 w31 → World.cell? w31 (Addr.add (aM k1) 4) = some (vS o28 k55 k56)) ∧ idx o23 k45 n13 2 fun a11 => ∃ n21, (∀ w32, I8 w32 → World.cell? w32 a11 = some (iI n21)) ∧ idx o28 k55 n21 3 fun a12 => ∃ n22 o29 k57 k58 n23, (∀ w33, I8 w33 → V.rowAt w33 a12 0 3 = some [iI n22, vS o29 k57 k58, iI n23]) ∧ new w30 (oC [iI 0, vS none 0 0, iI 0] 60) fun k59 w34 => I8 w34 ∧ stR w34 (aM k59) [iI n22, vS o29 k57 k58, iI n23] fun w35 => ∃ (x7 : lP [(16, shI)]), ∃ (x8 : lN [(16, shI)]), x7 0 w35 ∧ ∀ (I9 : Nat → Value) (n24 : Int) (w36 : World), x7 n24 w36 → idx o10 k18 n12 3 fun a13 => ∃ o30 k60 k61, World.cell? w36 (Addr.add a13 2) = some (vS o30 k60 k61) ∧ br (decide (n24 < (↑k60 : Int))) (idx o10 k18 n12 3 fun a14 => ∃ o31 k62 k63, World.cell? w36 (Addr.add a14 2) = some (vS o31 k62 k63) ∧ idx o31 k62 n24 1 fun a15 => ∃ n25, World.cell? w36 a15 = some (iI n25) ∧ ∀ w37, drawn w36 w37 → ∃ (I10 : World → Prop), I10 w37 ∧ br (decide (n25 < 0)) (R (vB false) w37) (nn o5 fun a16 => ∃ o32 k64 k65, (∀ w38, I10 w38 → World.cell? w38 (Addr.add a16 5) = some (vS o32 k64 k65)) ∧ br (decide ((↑k64 : Int) ≤ n25)) (R (vB false) w37) (br (decide (0 < n24)) (idx o10 k18 n12 3 fun a17 => ∃ o33 k66 k67, (∀ w39, I10 w39 → World.cell? w39 (Addr.add a17 2) = some (vS o33 k66 k67)) ∧ inI (n24 - 1) ∧ idx o33 k66 (n24 - 1) 1 fun a18 => ∃ n26, (∀ w40, I10 w40 → World.cell? w40 a18 = some (iI n26)) ∧ br (decide (n25 ≤ n26)) (R (vB false) w37) (nn o5 fun a19 => ∃ o34 k68 k69, (∀ w41, I10 w41 → World.cell? w41 (Addr.add a19 5) = some (vS o34 k68 k69)) ∧ idx o34 k68 n25 2 fun a20 => ∃ n27, (∀ w42, I10 w42 → World.cell? w42 (Addr.add a20 1) = some (iI n27)) ∧ ∃ n28, (∀ w43, I10 w43 → World.cell? w43 (aM k59) = some (iI n28)) ∧ br (n27 != n28) (R (vB false) w37) (∃ o35 k70 k71 n29 n30, (∀ w44, I10 w44 → V.rowAt w44 (aM k30) 0 3 = some [vS o35 k70 k71, iI n29, iI n30]) ∧ nn o5 fun a21 => ∃ o36 k72 k73, (∀ w45, I10 w45 → World.cell? w45 (Addr.add a21 5) = some (vS o36 k72 k73)) ∧ idx o36 k72 n25 2 fun a22 => ∃ n31, (∀ w46, I10 w46 → World.cell? w46 a22 = some (iI n31)) ∧ ∃ o37 k74 k75, (∀ w47, I10 w47 → World.cell? w47 (Addr.add (aM k59) 1) = some (vS o37 k74 k75)) ∧ RunE Proofs.Tryz.prog Ev 21 [vA (Array.mk [vS o35 k70 k71, iI n29, iI n30]), iI n31, vS o37 k74 k75] w37 fun v6 w48 => ∃ n32, v6 = iI n32 ∧ I10 w48 ∧ br (n32 != n9) (R (vB false) w48) (inI (n24 + 1) ∧ x7 (n24 + 1) w48 ∧ x8 (n24 + 1) w48 < x8 n24 w36)))) (nn o5 fun a23 => ∃ o38 k76 k77, (∀ w49, I10 w49 → World.cell? w49 (Addr.add a23 5) = some (vS o38 k76 k77)) ∧ idx o38 k76 n25 2 fun a24 => ∃ n33, (∀ w50, I10 w50 → World.cell? w50 (Addr.add a24 1) = some (iI n33)) ∧ ∃ n34, (∀ w51, I10 w51 → World.cell? w51 (aM k59) = some (iI n34)) ∧ br (n33 != n34) (R (vB false) w37) (∃ o39 k78 k79 n35 n36, (∀ w52, I10 w52 → V.rowAt w52 (aM k30) 0 3 = some [vS o39 k78 k79, iI n35, iI n36]) ∧ nn o5 fun a25 => ∃ o40 k80 k81, (∀ w53, I10 w53 → World.cell? w53 (Addr.add a25 5) = some (vS o40 k80 k81)) ∧ idx o40 k80 n25 2 fun a26 => ∃ n37, (∀ w54, I10 w54 → World.cell? w54 a26 = some (iI n37)) ∧ ∃ o41 k82 k83, (∀ w55, I10 w55 → World.cell? w55 (Addr.add (aM k59) 1) = some (vS o41 k82 k83)) ∧ RunE Proofs.Tryz.prog Ev 21 [vA (Array.mk [vS o39 k78 k79, iI n35, iI n36]), iI n37, vS o41 k82 k83] w37 fun v7 w56 => ∃ n38, v7 = iI n38 ∧ I10 w56 ∧ br (n38 != n9) (R (vB false) w56) (inI (n24 + 1) ∧ x7 (n24 + 1) w56 ∧ x8 (n24 + 1) w56 < x8 n24 w36)))))) (∀ w57, drawn w36 w57 → ∃ (I11 : World → Prop), I11 w57 ∧ ∃ o42 k84 k85, (∀ w58, I11 w58 → World.cell? w58 (Addr.add (aM k59) 1) = some (vS o42 k84 k85)) ∧ br ((↑k84 : Int) == 0) (idx o10 k18 n12 3 fun a27 => ∃ o43 k86 k87, (∀ w59, I11 w59 → World.cell? w59 (Addr.add a27 2) = some (vS o43 k86 k87)) ∧ br ((↑k86 : Int) != 1) (R (vB false) w57) (nn o5 fun a28 => ∃ o44 k88 k89, (∀ w60, I11 w60 → World.cell? w60 (Addr.add a28 5) = some (vS o44 k88 k89)) ∧ idx o10 k18 n12 3 fun a29 => ∃ o45 k90 k91, (∀ w61, I11 w61 → World.cell? w61 (Addr.add a29 2) = some (vS o45 k90 k91)) ∧ idx o45 k90 0 1 fun a30 => ∃ n39, (∀ w62, I11 w62 → World.cell? w62 a30 = some (iI n39)) ∧ idx o44 k88 n39 2 fun a31 => ∃ n40, (∀ w63, I11 w63 → World.cell? w63 a31 = some (iI n40)) ∧ br (n40 != n9) (R (vB false) w57) (inI (n12 + 1) ∧ inI (n13 + 1) ∧ x4 (n12 + 1) (n13 + 1) w57 ∧ x5 (n12 + 1) (n13 + 1) w57 < x5 n12 n13 w15))) (inI (n12 + 1) ∧ inI (n13 + 1) ∧ x4 (n12 + 1) (n13 + 1) w57 ∧ x5 (n12 + 1) (n13 + 1) w57 < x5 n12 n13 w15))))))) (inI (n9 + 1) ∧ x2 n12 (n9 + 1) w15 ∧ x3 n12 (n9 + 1) w15 < x3 n8 n9 w9))) (R (vB (n8 == (↑k18 : Int))) w9))
set_option maxRecDepth 100000 in
theorem run_presagelaw11_RelateBacks (a : Option Addr) (b c : Nat) (d : Option Addr) (e f : Nat) (g : Option Addr) (i j : Nat) (k : Int) (l : Option Addr) (m n : Nat) (w : World) (R : Value → WP) (h : vc_presagelaw11_RelateBacks a b c d e f g i j k l m n w R) : Run Tryz.prog 4 [(.agg #[(.slice a b c), (.slice d e f), (.slice g i j), (.int .i64 k), (.slice l m n)])] w R := rv Tryz.func4 ann_presagelaw11_RelateBacks (by kernel_rfl) h

abbrev n_presagelaw11_RelateIncludes : FuncId := 6
def ann_presagelaw11_RelateIncludes : Ann := { rngs := [], loops := [(12, [(11, (.one (.int .i64)))]), (18, [(13, (.one (.int .i64)))])], joins := [(4, [(29, (.one .bool))]), (7, [(51, (.one .bool))]), (10, [(1, (.one (.int .i64)))]), (17, [])], blocks := [] }
set_option maxRecDepth 100000 in
def vc_presagelaw11_RelateIncludes (a : Option Addr) (b c : Nat) (d : Option Addr) (e f : Nat) (g : Option Addr) (i j : Nat) (k : Int) (l : Option Addr) (m n : Nat) (o : Int) (w : World) (R : Value → WP) : Prop :=  new w (oC [vS a b c, vS d e f, vS g i j, iI k, vS l m n] 27) fun k1 w1 => RunE Proofs.Tryz.prog Ev 7 [] w1 fun v1 w2 => ∃ b1, v1 = vB b1 ∧ ∃ o1 k2 k3 o2 k4 k5 o3 k6 k7 n1 o4 k8 k9, V.rowAt w2 (aM k1) 0 5 = some [vS o1 k2 k3, vS o2 k4 k5, vS o3 k6 k7, iI n1, vS o4 k8 k9] ∧ RunE Proofs.Tryz.prog Ev 18 [vA (Array.mk [vS o1 k2 k3, vS o2 k4 k5, vS o3 k6 k7, iI n1, vS o4 k8 k9])] w2 fun v2 w3 => ∃ o5 b2, v2 = vT (Array.mk [vP o5, vB b2]) ∧ ∃ (x1 : lP [(29, shB)]), br (!b1) (x1 true w3) (br (!b2) (x1 true w3) (x1 (Option.isNone o5) w3)) ∧ ∀ (I1 : Nat → Value) (b3 : Bool) (w4 : World), x1 b3 w4 → br b3 (br b1 (R (vB b2) w4) (R (vB false) w4)) (∃ o6 k10 k11 o7 k12 k13 o8 k14 k15 n2 o9 k16 k17, V.rowAt w4 (aM k1) 0 5 = some [vS o6 k10 k11, vS o7 k12 k13, vS o8 k14 k15, iI n2, vS o9 k16 k17] ∧ RunE Proofs.Tryz.prog Ev 13 [vA (Array.mk [vS o6 k10 k11, vS o7 k12 k13, vS o8 k14 k15, iI n2, vS o9 k16 k17])] w4 fun v3 w5 => ∃ o10 k18 k19 n3, v3 = vT (Array.mk [vS o10 k18 k19, iI n3]) ∧ ∃ (x2 : lP [(51, shB)]), (nn o5 fun a1 => ∃ o11 k20 k21, World.cell? w5 (Addr.add a1 5) = some (vS o11 k20 k21) ∧ br ((↑k18 : Int) != (↑k20 : Int)) (x2 true w5) (x2 ((↑k18 : Int) == 0) w5)) ∧ ∀ (I2 : Nat → Value) (b4 : Bool) (w6 : World), x2 b4 w6 → br b4 (R (vB false) w6) (∃ (x3 : lP [(1, shI)]), br (decide (o < 0)) (inI (o + 1) ∧ inI (0 - (o + 1)) ∧ x3 (0 - (o + 1)) w6) (x3 o w6) ∧ ∀ (I3 : Nat → Value) (n4 : Int) (w7 : World), x3 n4 w7 → nz (↑k18 : Int) ∧ ∃ (x4 : lP []), (∃ (x5 : lP [(11, shI)]), ∃ (x6 : lN [(11, shI)]), x5 0 w7 ∧ ∀ (I4 : Nat → Value) (n5 : Int) (w8 : World), x5 n5 w8 → nn o5 fun a2 => ∃ o12 k22 k23, World.cell? w8 (Addr.add a2 5) = some (vS o12 k22 k23) ∧ br (decide (n5 < (↑k22 : Int))) (br (decide (n5 < 60)) (∀ w9, drawn w8 w9 → ∃ (I5 : World → Prop), I5 w9 ∧ nn o5 fun a3 => ∃ o13 k24 k25, (∀ w10, I5 w10 → World.cell? w10 (Addr.add a3 5) = some (vS o13 k24 k25)) ∧ idx o13 k24 (Int.tmod n4 (↑k18 : Int)) 2 fun a4 => ∃ n6 n7, (∀ w11, I5 w11 → V.rowAt w11 a4 0 2 = some [iI n6, iI n7]) ∧ nn o5 fun a5 => ∃ o14 k26 k27, (∀ w12, I5 w12 → World.cell? w12 (Addr.add a5 5) = some (vS o14 k26 k27)) ∧ idx o14 k26 n5 2 fun a6 => ∃ n8 n9, (∀ w13, I5 w13 → V.rowAt w13 a6 0 2 = some [iI n8, iI n9]) ∧ RunE Proofs.Tryz.prog Ev 24 [vP o5, vA (Array.mk [iI n6, iI n7]), vA (Array.mk [iI n8, iI n9])] w9 fun v4 w14 => ∃ b5, v4 = vB b5 ∧ I5 w14 ∧ idx o10 k18 (Int.tmod n4 (↑k18 : Int)) 1 fun a7 => ∃ o15 k28 k29, World.cell? w14 a7 = some (vS o15 k28 k29) ∧ RunE Proofs.Tryz.prog Ev 23 [vS o15 k28 k29, iI n5] w14 fun v5 w15 => ∃ b6, v5 = vB b6 ∧ br (!b6 == b5) (R (vB false) w15) (inI (n5 + 1) ∧ x5 (n5 + 1) w15 ∧ x6 (n5 + 1) w15 < x6 n5 w8)) (x4 w8)) (x4 w8)) ∧ ∀ (I6 : Nat → Value) (w16 : World), x4 w16 → ∃ (x7 : lP [(13, shI)]), ∃ (x8 : lN [(13, shI)]), x7 0 w16 ∧ ∀ (I7 : Nat → Value) (n10 : Int) (w17 : World), x7 n10 w17 → idx o10 k18 (Int.tmod n4 (↑k18 : Int)) 1 fun a8 => ∃ o16 k30 k31, World.cell? w17 a8 = some (vS o16 k30 k31) ∧ br (decide (n10 < (↑k30 : Int))) (∀ w18, drawn w17 w18 → ∃ (I8 : World → Prop), I8 w18 ∧ idx o10 k18 (Int.tmod n4 (↑k18 : Int)) 1 fun a9 => ∃ o17 k32 k33, (∀ w19, I8 w19 → World.cell? w19 a9 = some (vS o17 k32 k33)) ∧ idx o17 k32 n10 1 fun a10 => ∃ n11, (∀ w20, I8 w20 → World.cell? w20 a10 = some (iI n11)) ∧ br (decide (n11 < 0)) (R (vB false) w18) (idx o10 k18 (Int.tmod n4 (↑k18 : Int)) 1 fun a11 => ∃ o18 k34 k35, (∀ w21, I8 w21 → World.cell? w21 a11 = some (vS o18 k34 k35)) ∧ idx o18 k34 n10 1 fun a12 => ∃ n12, (∀ w22, I8 w22 → World.cell? w22 a12 = some (iI n12)) ∧ nn o5 fun a13 => ∃ o19 k36 k37, (∀ w23, I8 w23 → World.cell? w23 (Addr.add a13 5) = some (vS o19 k36 k37)) ∧ br (decide ((↑k36 : Int) ≤ n12)) (R (vB false) w18) (br (decide (0 < n10)) (idx o10 k18 (Int.tmod n4 (↑k18 : Int)) 1 fun a14 => ∃ o20 k38 k39, (∀ w24, I8 w24 → World.cell? w24 a14 = some (vS o20 k38 k39)) ∧ idx o20 k38 n10 1 fun a15 => ∃ n13, (∀ w25, I8 w25 → World.cell? w25 a15 = some (iI n13)) ∧ idx o10 k18 (Int.tmod n4 (↑k18 : Int)) 1 fun a16 => ∃ o21 k40 k41, (∀ w26, I8 w26 → World.cell? w26 a16 = some (vS o21 k40 k41)) ∧ inI (n10 - 1) ∧ idx o21 k40 (n10 - 1) 1 fun a17 => ∃ n14, (∀ w27, I8 w27 → World.cell? w27 a17 = some (iI n14)) ∧ br (decide (n13 ≤ n14)) (R (vB false) w18) (inI (n10 + 1) ∧ x7 (n10 + 1) w18 ∧ x8 (n10 + 1) w18 < x8 n10 w17)) (inI (n10 + 1) ∧ x7 (n10 + 1) w18 ∧ x8 (n10 + 1) w18 < x8 n10 w17)))) (R (vB true) w17)))
set_option maxRecDepth 100000 in
theorem run_presagelaw11_RelateIncludes (a : Option Addr) (b c : Nat) (d : Option Addr) (e f : Nat) (g : Option Addr) (i j : Nat) (k : Int) (l : Option Addr) (m n : Nat) (o : Int) (w : World) (R : Value → WP) (h : vc_presagelaw11_RelateIncludes a b c d e f g i j k l m n o w R) : Run Tryz.prog 6 [(.agg #[(.slice a b c), (.slice d e f), (.slice g i j), (.int .i64 k), (.slice l m n)]), (.int .i64 o)] w R := rv Tryz.func6 ann_presagelaw11_RelateIncludes (by kernel_rfl) h

abbrev n_presagelaw11_world_ahead : FuncId := 24
def ann_presagelaw11_world_ahead : Ann := { rngs := [], loops := [(2, [(7, (.one (.int .i64)))]), (6, [(9, (.one (.int .i64)))])], joins := [], blocks := [] }
set_option maxRecDepth 100000 in
def vc_presagelaw11_world_ahead (a : Option Addr) (b c d e : Int) (w : World) (R : Value → WP) : Prop :=  new w (oC [iI b, iI c] 66) fun k1 w1 => new w1 (oC [iI d, iI e] 66) fun k2 w2 => ∃ (x1 : lP [(7, shI)]), ∃ (x2 : lN [(7, shI)]), x1 1 w2 ∧ ∀ (I1 : Nat → Value) (n1 : Int) (w3 : World), x1 n1 w3 → nn a fun a1 => ∃ o1 k3 k4, World.cell? w3 (Addr.add a1 4) = some (vS o1 k3 k4) ∧ br (decide (n1 < (↑k3 : Int))) (nn a fun a2 => ∃ o2 k5 k6, World.cell? w3 (Addr.add a2 4) = some (vS o2 k5 k6) ∧ idx o2 k5 n1 3 fun a3 => ∃ o3 k7 k8, World.cell? w3 (Addr.add a3 1) = some (vS o3 k7 k8) ∧ ∃ (x3 : lP [(9, shI)]), ∃ (x4 : lN [(9, shI)]), x3 0 w3 ∧ ∀ (I2 : Nat → Value) (n2 : Int) (w4 : World), x3 n2 w4 → ∀ w5, drawn w4 w5 → ∃ (I3 : World → Prop), I3 w5 ∧ br (decide (n2 < (↑k7 : Int))) (nn a fun a4 => ∃ o4 k9 k10, (∀ w6, I3 w6 → World.cell? w6 (Addr.add a4 4) = some (vS o4 k9 k10)) ∧ idx o4 k9 n1 3 fun a5 => ∃ n3, (∀ w7, I3 w7 → World.cell? w7 a5 = some (iI n3)) ∧ ∃ n4, (∀ w8, I3 w8 → World.cell? w8 (Addr.add (aM k2) 1) = some (iI n4)) ∧ br (n3 == n4) (∀ w9, drawn w5 w9 → ∃ (I4 : World → Prop), I4 w9 ∧ idx o3 k7 n2 1 fun a6 => ∃ n5, (∀ w10, I4 w10 → World.cell? w10 a6 = some (iI n5)) ∧ ∃ n6, (∀ w11, I4 w11 → World.cell? w11 (Addr.add (aM k1) 1) = some (iI n6)) ∧ br (n5 != n6) (inI (n2 + 1) ∧ x3 (n2 + 1) w9 ∧ x4 (n2 + 1) w9 < x4 n2 w4) (∀ w12, drawn w9 w12 → ∃ (I5 : World → Prop), I5 w12 ∧ nn a fun a7 => ∃ o5 k11 k12 o6 k13 k14 o7 k15 k16 n7 o8 k17 k18, (∀ w13, I5 w13 → V.rowAt w13 a7 0 5 = some [vS o5 k11 k12, vS o6 k13 k14, vS o7 k15 k16, iI n7, vS o8 k17 k18]) ∧ ∃ n8, (∀ w14, I5 w14 → World.cell? w14 (aM k2) = some (iI n8)) ∧ slc o3 k7 k8 none (some n2) none 1 fun (o9 : Option Addr) (k19 k20 : Nat) => RunE Proofs.Tryz.prog Ev 22 [vA (Array.mk [vS o5 k11 k12, vS o6 k13 k14, vS o7 k15 k16, iI n7, vS o8 k17 k18]), iI n8, vS o9 k19 k20] w12 fun v1 w15 => ∃ n9 n10, v1 = vT (Array.mk [iI n9, iI n10]) ∧ I5 w15 ∧ inI (n2 + 1) ∧ slc o3 k7 k8 (some (n2 + 1)) none none 1 fun (o10 : Option Addr) (k21 k22 : Nat) => RunE Proofs.Tryz.prog Ev 58 [vP a, vS o10 k21 k22] w15 fun v2 w16 => ∃ b1, v2 = vB b1 ∧ br (n10 == 0) (∃ n11, World.cell? w16 (aM k1) = some (iI n11) ∧ br (n9 == n11) (br b1 (R (vB true) w16) (inI (n2 + 1) ∧ x3 (n2 + 1) w16 ∧ x4 (n2 + 1) w16 < x4 n2 w4)) (inI (n2 + 1) ∧ x3 (n2 + 1) w16 ∧ x4 (n2 + 1) w16 < x4 n2 w4)) (inI (n2 + 1) ∧ x3 (n2 + 1) w16 ∧ x4 (n2 + 1) w16 < x4 n2 w4))) (inI (n1 + 1) ∧ x1 (n1 + 1) w5 ∧ x2 (n1 + 1) w5 < x2 n1 w3)) (inI (n1 + 1) ∧ x1 (n1 + 1) w5 ∧ x2 (n1 + 1) w5 < x2 n1 w3)) (R (vB false) w3)
set_option maxRecDepth 100000 in
theorem run_presagelaw11_world_ahead (a : Option Addr) (b c d e : Int) (w : World) (R : Value → WP) (h : vc_presagelaw11_world_ahead a b c d e w R) : Run Tryz.prog 24 [(.pointer a), (.agg #[(.int .i64 b), (.int .i64 c)]), (.agg #[(.int .i64 d), (.int .i64 e)])] w R := rv Tryz.func24 ann_presagelaw11_world_ahead (by kernel_rfl) h

end Go.Proofs.YtkmjjnjngcpjmaaGreatDoor
set_option linter.unusedVariables false
set_option maxRecDepth 4000
namespace Go.V
theorem rowH_pre {h : Hp} {a : Addr} {vs us : List Value} (r : rowH h a (vs ++ us)) : rowH h a vs := fun j v hv => r j v (by rw [List.getElem?_append_left (List.getElem?_eq_some_iff.1 hv).1]; exact hv)
section
variable {g : GramT} {nn : List Bool} {ss : List SQ}
def AhP (g : GramT) (nn : List Bool) (ss : List SQ) (x y : TransT) (p : ProdT) (k : Nat) : Prop := p.left = y.sym ∧ p.right[k]? = some x.sym ∧ wayN ss y.st (p.right.take k) = x.st ∧ vanR g nn (p.right.drop (k + 1)) = true
theorem incB_iff {i k : Nat} {x y : TransT} (hx : (TrL g ss)[i]? = some x) (hy : (TrL g ss)[k]? = some y) : incB g nn ss i k = true ↔ ∃ (m : Nat) (p : ProdT) (j : Nat), 0 < m ∧ g.prods[m]? = some p ∧ AhP g nn ss x y p j := by
  unfold incB
  rw [hy]
  simp only [List.any_eq_true, List.mem_range, Bool.and_eq_true, decide_eq_true_eq]
  constructor
  · rintro ⟨m, hm, h0, h⟩
    cases hp : g.prods[m]? with
    | none => rw [hp] at h; cases h
    | some p =>
      rw [hp] at h
      simp only [Bool.and_eq_true, decide_eq_true_eq, List.any_eq_true, List.mem_range] at h
      obtain ⟨hl, j, hj, hn, hv⟩ := h
      have hs : p.right[j]? = some p.right[j] := List.getElem?_eq_getElem hj
      rw [hx, List.getD_eq_getElem?_getD, hs] at hn
      have e := Option.some.inj hn
      exact ⟨m, p, j, by omega, hp, hl, by rw [hs, e]; rfl, by rw [e], hv⟩
  · rintro ⟨m, p, j, h0, hp, hl, hs, hw, hv⟩
    refine ⟨m, (List.getElem?_eq_some_iff.1 hp).1, by omega, ?_⟩
    rw [hp]
    simp only [Bool.and_eq_true, decide_eq_true_eq, List.any_eq_true, List.mem_range]
    refine ⟨hl, j, (List.getElem?_eq_some_iff.1 hs).1, ?_, hv⟩
    rw [hx, hw, List.getD_eq_getElem?_getD, hs]
    rfl
theorem trl_pos (hc : ClosedP g) (hA : AutI g ss) : 0 < (TrL g ss).length := by
  have hpos := hA.pos
  obtain ⟨q, hq⟩ : ∃ q, ss[0]? = some q := ⟨_, List.getElem?_eq_getElem hpos⟩
  have hK := (aut_at hA hq).1
  have e : q.1.2 = [⟨0, 0⟩] := by
    have : (bst g 0).1[0]? = some [⟨0, 0⟩] := rfl
    rw [this] at hK
    exact (Option.some.inj hK).symm
  obtain ⟨_, _, hpr, p0, hp0, hl0, hr0, _⟩ := id hc
  have hs0 : (g.T : Int) + 1 ≤ g.start := hpr.2.2.2.2.1
  have haft : aft g ⟨0, 0⟩ = g.start := by
    rw [aft_some (p := p0) (by show g.prods[(0 : Int).toNat]? = _; exact hp0), hr0]; rfl
  obtain ⟨j, r, h1, _⟩ := edge_of hc hA hq (y := ⟨0, 0⟩) (.base (by rw [e]; simp)) haft (by omega)
  obtain ⟨q', k, e', hq', he', he1, _⟩ := nxt_inv h1
  have := TrL_at (g := g) hq' he' (by rw [he1]; omega)
  exact Nat.lt_of_le_of_lt (Nat.zero_le _) (List.getElem?_eq_some_iff.1 this).1
end
end Go.V
namespace Go.Proofs.YtkmjjnjngcpjmaaGreatDoor
open Go.V
variable {w : World} {L : List Asn} {g : GramT} {x : GA} {ss : List SQ} {nn : List Bool}
theorem y_van11 {k l c : Nat} {a : Option Addr} {row : List Int} (hw : AsR (hp w) g ss nn k) (hnn : NnP g nn) (hc : ClosedP g) (hr : rdS (hp w) row a l) (hl : l ≤ 4611686018427387904) (hrow : ∀ s ∈ row, 0 ≤ s ∧ s < g.T + g.N) : Run Tryz.prog n_presagelaw11_world_vanishes [.pointer (some (aM k)), .slice a l c] w fun v w' => v = .bool (vanR g nn row) ∧ Gr w w' := by
  obtain ⟨x', ol, cl, on, cn, rk, hg, rT, rN⟩ := hw.ex
  obtain ⟨sT, sN, sP, _, _, _⟩ := hc.sizes
  have hTl : g.T = x'.tl := hg.t.1
  have hrl := hr.1
  refine run_presagelaw11_world_vanishes _ _ _ _ w _ ⟨fun n w' => ∃ j : Nat, n = j ∧ j ≤ l ∧ vanR g nn (row.take j) = true ∧ Gr w w', fun n _ => l - n.toNat, ⟨0, rfl, Nat.zero_le _, rfl, Gr.refl _⟩, ?_⟩
  rintro _ _ w1 ⟨j, rfl, hj, ha, g1⟩
  refine br_intro (fun h1 => ?_) fun h1 => ?_
  rotate_left
  · have h1 : j = l := by have := of_decide_eq_false h1; omega
    subst h1
    rw [List.take_of_length_le (by omega)] at ha
    exact ⟨by rw [ha], g1⟩
  have h1 : j < l := by have := of_decide_eq_true h1; omega
  obtain ⟨y, ad, hy1, hya, hy2⟩ := hr.get1 h1
  have hym := List.mem_of_getElem? hy1
  obtain ⟨hy0, hyN⟩ := hrow y hym
  have no : vanB g nn y = false → vanR g nn row = false := fun hv => by
    unfold vanR
    refine Bool.eq_false_iff.2 fun h => ?_
    have := List.all_eq_true.1 h y hym
    rw [hv] at this; cases this
  intro w2 hd
  have g2 : Gr w w2 := g1.trans (Gr.drawn hd)
  refine ⟨fun u => Gr w2 u, Gr.refl _, idx_i hya h1 ⟨y, fun u s => hy2 _ (sub.trans g2 s), _, _, _, fun u s => rk.cell0 (sub.trans g2 s), br_intro (fun h3 => ?_) fun h3 => ?_⟩⟩
  · have h3 : ¬(g.T : Int) ≤ y := by have := of_decide_eq_true h3; omega
    refine ⟨?_, g2⟩
    rw [no (by unfold vanB; rw [decide_eq_false h3]; rfl)]
  have h3 : (g.T : Int) ≤ y := by have := of_decide_eq_false h3; omega
  obtain ⟨m, hm⟩ : ∃ m : Nat, y - (x'.tl : Int) = m := ⟨(y - (x'.tl : Int)).toNat, by omega⟩
  have hmN : m < g.N := by omega
  obtain ⟨bb, bad, hb1, hba, hb2⟩ := rN.get1 hmN
  have hvan : vanB g nn y = bb := by
    unfold vanB
    rw [decide_eq_true h3, Bool.true_and, show y.toNat - g.T = m by omega]
    exact fnB_get hb1
  refine ⟨_, _, _, fun u s => rk.cell (sub.trans g2 s) (j := 6) rfl, idx_i hya h1 ⟨y, fun u s => hy2 _ (sub.trans g2 s), _, _, _, fun u s => rk.cell0 (sub.trans g2 s), ⟨by omega, by omega⟩, ?_⟩⟩
  rw [hm]
  refine idx_i hba hmN ⟨bb, fun u s => hb2 _ (sub.trans g2 s), br_intro (fun h4 => ?_) fun h4 => ⟨⟨by omega, by omega⟩, ⟨j + 1, by simp, by omega, ?_, g2⟩, msr h1⟩⟩
  · have h4 : bb = false := by simpa using h4
    exact ⟨by rw [no (by rw [hvan, h4])], g2⟩
  · have h4 : bb = true := by simpa using h4
    unfold vanR at ha ⊢
    rw [take_succ_get hy1, List.all_append, ha]
    simp [hvan, h4]
set_option maxHeartbeats 4000000 in
theorem y_ahead {k : Nat} {s t : TransT} (hw : AsR (hp w) g ss nn k) (hb : okG g) (hnn : NnP g nn) (hc : ClosedP g) (hA : AutI g ss) (hR : ∀ {ss2 : List SQ} {a i f : Int}, Res g ss2 a i f → f = 0 ∧ esOf ss = esOf ss2) (ht0 : 0 ≤ t.st) (ht1 : t.st < ss.length) : Run Tryz.prog n_presagelaw11_world_ahead [.pointer (some (aM k)), .agg ⟨encR s⟩, .agg ⟨encR t⟩] w fun v w' => ∃ r : Bool, v = .bool r ∧ (r = true ↔ ∃ (m : Nat) (p : ProdT) (j : Nat), 0 < m ∧ g.prods[m]? = some p ∧ AhP g nn ss s t p j) ∧ Gr w w' := by
  obtain ⟨x, ol, cl, on, cn, rk, hg, rT, rN⟩ := hw.ex
  have pl := hg.p.1
  obtain ⟨sT, sN, sP, sP2, _, _⟩ := hc.sizes
  refine run_presagelaw11_world_ahead _ _ _ _ _ w _ (newC_i (St.all w) fun k1 w1 h => newC_i h fun k2 w2 h => ?_)
  have g2 : Gr w w2 := rdH 2 h.l
  have r1 : rowH (hp w2) (aM k1) [.int .i64 s.st, .int .i64 s.sym] := rdCel 1 h.l
  have r2 : rowH (hp w2) (aM k2) [.int .i64 t.st, .int .i64 t.sym] := rdCel 0 h.l
  clear h
  refine ⟨fun z w' => ∃ m : Nat, z = ((m + 1 : Nat) : Int) ∧ m + 1 ≤ x.pl ∧ (∀ m', 0 < m' → m' < m + 1 → ∀ p, g.prods[m']? = some p → ∀ j, ¬AhP g nn ss s t p j) ∧ Gr w2 w', fun z _ => x.pl - z.toNat, ⟨0, rfl, by omega, fun m' h1 h2 => by omega, Gr.refl _⟩, ?_⟩
  rintro _ _ w3 ⟨m, rfl, hm, hno, g3⟩
  have g03 := g2.trans g3
  refine ⟨_, _, _, rk.cell g03 (j := 4) rfl, br_intro (fun h1 => ?_) fun h1 => ?_⟩
  rotate_left
  · have h1 : m + 1 = x.pl := by have := of_decide_eq_false h1; omega
    refine ⟨false, rfl, ⟨fun h => (by cases h), fun ⟨m', p, j, h0, hp, h2⟩ => ?_⟩, g03⟩
    exact absurd h2 (hno m' h0 (by have := (List.getElem?_eq_some_iff.1 hp).1; omega) p hp j)
  have h1 : m + 1 < x.pl := by have := of_decide_eq_true h1; omega
  obtain ⟨p, pad, pvs, hp1, hpa, hp2, ra, rl, rc, rfl, hrc, hp3⟩ := hg.p.get h1
  have hpr := List.mem_of_getElem? hp1
  have rl1 := hp3.1
  have b7 := hb.2.2.2.2.2.2 p hpr
  have hrow : ∀ s ∈ p.right, 0 ≤ s ∧ s < g.T + g.N := fun s hs => by have := hc.sym hpr hs; omega
  have nextO : ∀ {u : World}, Gr w2 u → (∀ j, ¬AhP g nn ss s t p j) → inI (((m + 1 : Nat) : Int) + 1) ∧ (∃ m' : Nat, ((m + 1 : Nat) : Int) + 1 = ((m' + 1 : Nat) : Int) ∧ m' + 1 ≤ x.pl ∧ (∀ m'', 0 < m'' → m'' < m' + 1 → ∀ p, g.prods[m'']? = some p → ∀ j, ¬AhP g nn ss s t p j) ∧ Gr w2 u) ∧ x.pl - (((m + 1 : Nat) : Int) + 1).toNat < x.pl - ((m + 1 : Nat) : Int).toNat := fun gu hp' => by
    refine ⟨⟨by omega, by omega⟩, ⟨m + 1, by simp, by omega, fun m'' h2 h3 p2 hp2 => ?_, gu⟩, msr h1⟩
    by_cases e : m'' = m + 1
    · subst e; rw [hp1] at hp2; cases hp2; exact hp'
    · exact hno m'' h2 (by omega) p2 hp2
  refine ⟨_, _, _, rk.cell g03 (j := 4) rfl, idx_n hpa h1 ⟨_, _, _, hp2.cell g03 (j := 1) rfl, fun z w' => ∃ n : Nat, z = n ∧ n ≤ rl ∧ (∀ j, j < n → ¬AhP g nn ss s t p j) ∧ Gr w2 w', fun z _ => rl - z.toNat, ⟨0, rfl, Nat.zero_le _, fun j h => by omega, g3⟩, ?_⟩⟩
  rintro _ _ w4 ⟨n, rfl, hn, hnoj, g4⟩
  intro w5 hd
  have g5 : Gr w2 w5 := g4.trans (Gr.drawn hd)
  have g05 := g2.trans g5
  refine ⟨fun u => Gr w5 u, Gr.refl _, br_intro (fun h2 => ?_) fun h2 => ?_⟩
  rotate_left
  · have h2 : n = rl := by have := of_decide_eq_false h2; omega
    refine nextO g5 fun j hj => ?_
    have := (List.getElem?_eq_some_iff.1 hj.2.1).1
    exact hnoj j (by omega) hj
  have h2 : n < rl := by have := of_decide_eq_true h2; omega
  refine ⟨_, _, _, fun u s => rk.cell (sub.trans g05 s) (j := 4) rfl, idx_n hpa h1 ⟨_, fun u s => hp2.cell0 (sub.trans g05 s), _, fun u s => r2.cell (sub.trans g5 s) (j := 1) rfl, br_intro (fun h3 => ?_) fun h3 => ?_⟩⟩
  rotate_left
  · have h3 : p.left ≠ t.sym := by simpa using h3
    exact nextO g5 fun j hj => h3 hj.1
  have h3 : p.left = t.sym := by simpa using h3
  obtain ⟨y, ad, hy1, hya, hy2⟩ := hp3.get1 h2
  intro w9 hd2
  have g9 : Gr w2 w9 := g5.trans (Gr.drawn hd2)
  have g09 := g2.trans g9
  have next : ∀ {u : World}, Gr w2 u → ¬AhP g nn ss s t p n → inI ((n : Int) + 1) ∧ (∃ n' : Nat, (n : Int) + 1 = n' ∧ n' ≤ rl ∧ (∀ j, j < n' → ¬AhP g nn ss s t p j) ∧ Gr w2 u) ∧ rl - ((n : Int) + 1).toNat < rl - (n : Int).toNat := fun gu hp' => by
    refine ⟨⟨by omega, by omega⟩, ⟨n + 1, by simp, h2, fun j hj => ?_, gu⟩, msr h2⟩
    by_cases e : j = n
    · subst e; exact hp'
    · exact hnoj j (by omega)
  refine ⟨fun u => Gr w9 u, Gr.refl _, idx_i hya h2 ⟨y, fun u s => hy2 _ (sub.trans g09 s), _, fun u s => r1.cell (sub.trans g9 s) (j := 1) rfl, br_intro (fun h4 => ?_) fun h4 => ?_⟩⟩
  · have h4 : y ≠ s.sym := by simpa using h4
    refine next g9 fun hj => h4 ?_
    have := hj.2.1
    rw [hy1] at this
    exact Option.some.inj this
  have h4 : y = s.sym := by simpa using h4
  intro w12 hd3
  have g12 : Gr w2 w12 := g9.trans (Gr.drawn hd3)
  have g012 := g2.trans g12
  refine ⟨fun u => Gr w12 u, Gr.refl _, _, _, _, _, _, _, _, _, _, _, _, _, _, fun u s => (rowH_pre rk).at (sub.trans g012 s) rfl, _, fun u s => r2.cell0 (sub.trans g12 s), slc_hiN (by omega) ?_⟩
  rw [slP0]
  have htake : rdS (hp w12) (p.right.take n) ra n := (hp3.take (k := n) (by omega)).mono g012
  refine (y_trWalk (fr := t.st) (hg.mono g012) hb htake (by omega)).mono ?_
  rintro _ w15 ⟨ss2, ask2, int2, f2, rfl, hR2, g1215⟩
  obtain ⟨rfl, hes2⟩ := hR hR2
  have hwk : wlk g ss2 0 t.st (p.right.take n) = (wayN ss t.st (p.right.take n), 0) := by
    rw [← wlk_es hes2]
    obtain ⟨tn, htn⟩ : ∃ tn : Nat, t.st = tn := ⟨t.st.toNat, by omega⟩
    rw [htn]
    refine wlk_ok0 (by omega) ?_
    refine Bool.eq_false_iff.2 fun h => ?_
    obtain ⟨s', hs', h5⟩ := List.any_eq_true.1 h
    have := hrow s' (List.mem_of_mem_take hs')
    rw [bS_no this.1 this.2] at h5
    cases h5
  rw [hwk]
  have g15 := g12.trans g1215
  have g015 := g2.trans g15
  have en : (n : Int) + 1 = ((n + 1 : Nat) : Int) := by omega
  refine ⟨_, _, rfl, g1215, ⟨by omega, by omega⟩, ?_⟩
  rw [en]
  refine slc_from (by omega) hrc ((y_van11 (hw.mono g015) hnn hc ((hp3.drop (k := n + 1) (m := rc) (by omega) hrc).mono g015) (by omega) fun s hs => hrow s (List.mem_of_mem_drop hs)).mono ?_)
  rintro _ w16 ⟨rfl, g1516⟩
  have g16 := g15.trans g1516
  rw [← en]
  refine ⟨_, rfl, br_t rfl ⟨_, r1.cell0 g16, br_intro (fun h5 => br_intro (fun h6 => ?_) fun h6 => ?_) fun h5 => ?_⟩⟩
  · have h5 : wayN ss t.st (p.right.take n) = s.st := by simpa using h5
    refine ⟨true, rfl, ⟨fun _ => ⟨m + 1, p, n, by omega, hp1, h3, by rw [hy1, h4], h5, h6⟩, fun _ => rfl⟩, g2.trans g16⟩
  · refine next g16 fun hj => ?_
    rw [hj.2.2.2] at h6; cases h6
  · have h5 : wayN ss t.st (p.right.take n) ≠ s.st := by simpa using h5
    exact next g16 fun hj => h5 hj.2.2.1
end Go.Proofs.YtkmjjnjngcpjmaaGreatDoor
set_option linter.unusedVariables false
set_option maxRecDepth 4000
namespace Go.Proofs.YtkmjjnjngcpjmaaGreatDoor
open Go.V
variable {w : World} {L : List Asn} {g : GramT} {x : GA} {wh : Int}
set_option maxHeartbeats 4000000 in
theorem l_RelateIncludes (hg : gR (hp w) g x) (hb : okG g) (ht : tabA (hp w)) (hwh : anyI wh) : Run Tryz.prog n_presagelaw11_RelateIncludes [.agg ⟨x.cells⟩, .int .i64 wh] w fun v w' => v = .bool true ∧ Gr w w' := by
  refine run_presagelaw11_RelateIncludes _ _ _ _ _ _ _ _ _ _ _ _ _ _ w _ (gbox hg fun k1 w1 gw hg B => (l_awake11 (rdV.mono gw ht)).mono ?_)
  rintro _ w2 ⟨rfl, g12⟩
  refine ⟨_, rfl, _, _, _, _, _, _, _, _, _, _, _, _, _, B.row g12, (y_asked (hg.mono g12) hb (rdV.mono (gw.trans g12) ht)).mono ?_⟩
  rintro _ w3 ⟨ss, ask, int, f, p, rfl, hR, g23, hpn, hps⟩
  have g13 := g12.trans g23
  refine ⟨_, _, rfl, fun b w' => b = Option.isNone p ∧ w' = w3, br_f rfl (br_f rfl ⟨rfl, rfl⟩), ?_⟩
  rintro _ b3 w4 ⟨rfl, e4⟩
  rw [e4]
  by_cases hf : f = 0
  rotate_left
  · have := hpn hf
    subst this
    exact br_t rfl (br_t rfl ⟨rfl, gw.trans g13⟩)
  obtain ⟨k, nn, rfl, hnn, hAs⟩ := hps hf
  obtain ⟨hc, hA⟩ := hR.aut hf
  refine br_f rfl ⟨_, _, _, _, _, _, _, _, _, _, _, _, _, B.row g13, (y_Includes (hg.mono g13) hb (rdV.mono (gw.trans g13) ht)).mono ?_⟩
  rintro _ w5 ⟨ss2, ask2, int2, f2, nn2, o10, c10, ds, rfl, hR2, hnn2, hds, h⟩
  obtain ⟨_, hes, _, _, rfl, _⟩ := hR.one hR2
  have e := (hnn2 hf).inj hnn
  subst e
  rw [← IncL_es hes] at hds
  have g35 : Gr w3 w5 := rdH 2 h.l
  have rA := rdLq h
  have hdl : ds.length = (TrL g ss).length := by have := congrArg List.length hds; rw [List.length_map] at this; rw [this]; unfold IncL; simp
  rw [hds, hdl] at rA
  rw [hdl]
  clear h
  have hAs := hAs.mono g35
  have g15 := g13.trans g35
  have gw5 := gw.trans g15
  have hRR : ∀ {ss2 : List SQ} {a i f' : Int}, Res g ss2 a i f' → f' = 0 ∧ esOf ss = esOf ss2 := fun h => by
    obtain ⟨_, e1, _, _, e2, _⟩ := hR.one h
    exact ⟨by rw [← e2]; exact hf, e1⟩
  obtain ⟨x', ol, cl, on, cn, rk, hg', rT, rN⟩ := hAs.ex
  have hnl := trl_le hc hA
  have hpos := trl_pos hc hA
  generalize hTT : TrL g ss = T at *
  refine ⟨_, _, _, _, rfl, fun b w' => b = false ∧ w' = w5, ⟨_, _, _, rk.cell (sub.refl _) (j := 5) rfl, br_f (by simp) ⟨beq_eq_false_iff_ne.2 (by omega), rfl⟩⟩, ?_⟩
  rintro _ b4 w6 ⟨rfl, e6⟩
  rw [e6]
  refine br_f rfl ⟨fun z w' => 0 ≤ z ∧ w' = w5, br_intro (fun h2 => ?_) fun h2 => ⟨by have := of_decide_eq_false h2; omega, rfl⟩, ?_⟩
  · have h2 := of_decide_eq_true h2
    obtain ⟨s1, s2⟩ := hwh
    exact ⟨⟨by omega, by omega⟩, ⟨by omega, by omega⟩, by omega, rfl⟩
  rintro _ z w7 ⟨hz, e7⟩
  rw [e7]
  obtain ⟨i, hi, h1⟩ : ∃ n : Nat, Int.tmod z (T.length : Int) = n ∧ n < T.length := by
    have e : Int.tmod z (T.length : Int) = z % (T.length : Int) := Int.tmod_eq_emod_of_nonneg hz
    have h1 := Int.emod_nonneg z (show (T.length : Int) ≠ 0 by omega)
    have h2 := Int.emod_lt_of_pos z (show (0 : Int) < (T.length : Int) by omega)
    exact ⟨(z % (T.length : Int)).toNat, by rw [e]; omega, by omega⟩
  rw [hi]
  obtain ⟨t, tad, ht', hta, rt⟩ := rdTr_get rT h1
  have ht2 : (TrL g ss)[i]? = some t := by rw [hTT]; exact ht'
  obtain ⟨xr, ad1, a1, c1, hx1, rfl, cx1, rx1⟩ := rdLq_row rA h1
  have hx1' : xr = rowF T.length (incB g nn2 ss i) := by
    have := IncL_at (nn := nn2) (show i < (TrL g ss).length by rw [hTT]; exact h1)
    rw [hx1, hTT] at this
    exact Option.some.inj this
  have hxl : xr.length ≤ T.length := by rw [hx1']; exact rowF_len _ _
  refine ⟨by show ((T.length : Int)) ≠ 0; omega, fun w' => Gr w5 w', ⟨fun z w' => ∃ k : Nat, z = k ∧ k ≤ T.length ∧ Gr w5 w', fun z _ => T.length - z.toNat, ⟨0, rfl, Nat.zero_le _, Gr.refl _⟩, ?_⟩, ?_⟩
  · rintro _ _ w8 ⟨k, rfl, hk, g8⟩
    refine ⟨_, _, _, rk.cell g8 (j := 5) rfl, br_intro (fun h2 => br_intro (fun h60 => ?_) fun _ => g8) fun _ => g8⟩
    have h2 : k < T.length := by have := of_decide_eq_true h2; omega
    obtain ⟨u, uad, hu, hua, ru⟩ := rdTr_get rT h2
    rw [hta] at hua; cases hua
    have hu2 : (TrL g ss)[k]? = some u := by rw [hTT]; exact hu
    obtain ⟨i1, q1, k1', e1, hi1, hq1, he1, hge1, hue⟩ := TrN_mem (show u ∈ TrN g ss ss.length from List.mem_of_getElem? hu2)
    have hdec : decide (((k : Nat) : Int) ∈ xr) = incB g nn2 ss i k := by rw [hx1']; exact rowF_dec h2
    intro w9 hd
    have g9 : Gr w5 w9 := g8.trans (Gr.drawn hd)
    refine ⟨fun v => Gr w9 v, Gr.refl _, _, _, _, fun v s => rk.cell (sub.trans g9 s) (j := 5) rfl, idx_n hta h1 ⟨_, _, fun v s => rt.at (sub.trans g9 s) rfl, _, _, _, fun v s => rk.cell (sub.trans g9 s) (j := 5) rfl, idx_n hta h2 ⟨_, _, fun v s => ru.at (sub.trans g9 s) rfl, (y_ahead (s := t) (t := u) (hAs.mono g9) hb hnn hc hA hRR (by rw [hue]; exact Int.natCast_nonneg _) (by rw [hue]; show (i1 : Int) < _; omega)).mono ?_⟩⟩⟩
    rintro _ w14 ⟨r, rfl, hr, g14⟩
    have hri : r = incB g nn2 ss i k := by rw [Bool.eq_iff_iff, hr, incB_iff ht2 hu2]
    have g514 := g9.trans g14
    refine ⟨_, rfl, g14, idx_i rfl h1 ⟨_, _, _, cx1 _ g514, (y_has11 (rx1.mono g514) (by omega)).mono ?_⟩⟩
    rintro _ w15 ⟨rfl, e15⟩
    refine ⟨_, rfl, br_f ?_ ⟨⟨by omega, by omega⟩, ⟨k + 1, by simp, h2, by rw [e15]; exact g514⟩, msr h2⟩⟩
    rw [hdec, hri]
    cases incB g nn2 ss i k <;> rfl
  rintro _ w16 g16
  refine ⟨fun z w' => ∃ m : Nat, z = m ∧ m ≤ xr.length ∧ Gr w5 w', fun z _ => xr.length - z.toNat, ⟨0, rfl, Nat.zero_le _, g16⟩, ?_⟩
  rintro _ _ w23 ⟨m, rfl, hm, g23'⟩
  refine idx_i rfl h1 ⟨_, _, _, cx1 _ g23', br_intro (fun h3 => ?_) fun h3 => ⟨rfl, gw5.trans g23'⟩⟩
  have h3 : m < xr.length := by have := of_decide_eq_true h3; omega
  obtain ⟨y, yad, hy1, hya, hy2⟩ := rx1.get1 h3
  have hym : y ∈ rowF T.length (incB g nn2 ss i) := by rw [← hx1']; exact List.mem_of_getElem? hy1
  obtain ⟨yn, hyn, hyl, _⟩ := rowF_mem.1 hym
  have hrise : Rise xr := by rw [hx1']; exact rowF_rise _ _
  intro w24 hd3
  have g24 : Gr w5 w24 := g23'.trans (Gr.drawn hd3)
  have next : inI ((m : Int) + 1) ∧ (∃ m' : Nat, (m : Int) + 1 = m' ∧ m' ≤ xr.length ∧ Gr w5 w24) ∧ xr.length - ((m : Int) + 1).toNat < xr.length - (m : Int).toNat := ⟨⟨by omega, by omega⟩, ⟨m + 1, by simp, h3, g24⟩, msr h3⟩
  refine ⟨fun u => Gr w24 u, Gr.refl _, idx_i rfl h1 ⟨_, _, _, fun u s => cx1 _ (sub.trans g24 s), idx_i hya h3 ⟨y, fun u s => hy2 _ (sub.trans g24 s), br_f (decide_eq_false (by omega)) (idx_i rfl h1 ⟨_, _, _, fun u s => cx1 _ (sub.trans g24 s), idx_i hya h3 ⟨y, fun u s => hy2 _ (sub.trans g24 s), _, _, _, fun u s => rk.cell (sub.trans g24 s) (j := 5) rfl, br_f (decide_eq_false (by omega)) (br_intro (fun h4 => ?_) fun _ => next)⟩⟩)⟩⟩⟩
  have h4 : 0 < m := by have := of_decide_eq_true h4; omega
  obtain ⟨m', rfl⟩ : ∃ m', m = m' + 1 := ⟨m - 1, by omega⟩
  obtain ⟨z, zad, hz1, hza, hz2⟩ := rx1.get1 (show m' < xr.length by omega)
  have hlt := rise_at hrise hz1 hy1 (by omega)
  have em : ((m' + 1 : Nat) : Int) - 1 = (m' : Int) := by omega
  refine idx_i rfl h1 ⟨_, _, _, fun u s => cx1 _ (sub.trans g24 s), idx_i hya h3 ⟨y, fun u s => hy2 _ (sub.trans g24 s), idx_i rfl h1 ⟨_, _, _, fun u s => cx1 _ (sub.trans g24 s), ⟨by omega, by omega⟩, ?_⟩⟩⟩
  rw [em]
  exact idx_i hza (by omega) ⟨z, fun u s => hz2 _ (sub.trans g24 s), br_f (decide_eq_false (by omega)) next⟩
end Go.Proofs.YtkmjjnjngcpjmaaGreatDoor
set_option linter.unusedVariables false
set_option maxRecDepth 4000
namespace Go.V
section
variable {g : GramT} {ss : List SQ}
def compB (g : GramT) (x : ItemT) : Bool := decide (1 ≤ x.prod) && (decide (x.prod < g.prods.length) && (match g.prods[x.prod.toNat]? with | some p => decide ((p.right.length : Int) ≤ x.dot) | none => false))
theorem compB_iff {x : ItemT} (hf : fitI g x) : compB g x = true ↔ ∃ (m : Nat) (p : ProdT), 0 < m ∧ g.prods[m]? = some p ∧ x = ⟨(m : Int), (p.right.length : Int)⟩ := by
  obtain ⟨h0, h1, p, hp, h2⟩ := hf
  unfold compB
  rw [hp]
  simp only [Bool.and_eq_true, decide_eq_true_eq]
  constructor
  · rintro ⟨a, b, c⟩
    refine ⟨x.prod.toNat, p, by omega, hp, ?_⟩
    cases x
    simp at *
    omega
  · rintro ⟨m, p', hm, hp', rfl⟩
    simp only [Int.toNat_natCast] at hp
    rw [hp'] at hp; cases hp
    have := (List.getElem?_eq_some_iff.1 hp').1
    exact ⟨by show (1 : Int) ≤ m; omega, by show (m : Int) < _; omega, by simp⟩
theorem trace (hc : ClosedP g) (hA : AutI g ss) {m : Nat} {p : ProdT} (hp : g.prods[m]? = some p) : ∀ (d : Nat), d ≤ p.right.length → ∀ (q : Nat) (r : SQ), ss[q]? = some r → ClM g r.1.2 ⟨(m : Int), (d : Int)⟩ →
    ∃ (i : Nat) (s : SQ), ss[i]? = some s ∧ ClM g s.1.2 ⟨(m : Int), 0⟩ ∧ wayN ss (i : Int) (p.right.take d) = (q : Int)
  | 0, _, q, r, hr, h => ⟨q, r, hr, by simpa using h, by rw [List.take_zero]; rfl⟩
  | d + 1, hd, q, r, hr, h => by
    have hbase : (⟨(m : Int), ((d + 1 : Nat) : Int)⟩ : ItemT) ∈ r.1.2 := by
      generalize hz : (⟨(m : Int), ((d + 1 : Nat) : Int)⟩ : ItemT) = z at h
      cases h with
      | base h => exact h
      | step _ _ _ _ =>
        have := congrArg ItemT.dot hz
        simp at this
        omega
    have hq1 : 1 ≤ q := by
      refine Nat.pos_of_ne_zero fun e => ?_
      subst e
      have hK := (aut_at hA hr).1
      have e : r.1.2 = [⟨0, 0⟩] := by
        have : (bst g 0).1[0]? = some [⟨0, 0⟩] := rfl
        rw [this] at hK
        exact (Option.some.inj hK).symm
      rw [e, List.mem_singleton] at hbase
      have := congrArg ItemT.dot hbase
      simp at this
      omega
    obtain ⟨i, s, k, e, hij, hs, he, hto⟩ := aut_from hc hA hq1 (List.getElem?_eq_some_iff.1 hr).1
    obtain ⟨h1, h2, j, r', e1, _, hr', hk, _⟩ := aut_edge hc hA hs he
    have ej : j = q := by rw [e1] at hto; omega
    subst ej
    rw [hr] at hr'; cases hr'
    rw [hk] at hbase
    obtain ⟨y, hy1, hy2, hy3⟩ := kern_mem.1 hbase
    have ey : y = ⟨(m : Int), (d : Int)⟩ := by
      have a1 := congrArg ItemT.prod hy3
      have a2 := congrArg ItemT.dot hy3
      cases y
      simp at *
      omega
    subst ey
    obtain ⟨i0, s0, hi0, hc0, hw0⟩ := trace hc hA hp d (by omega) i s hs hy1
    refine ⟨i0, s0, hi0, hc0, ?_⟩
    have hlt : d < p.right.length := by omega
    have hsym : p.right[d]? = some e.sym := by
      rw [aft_some (p := p) (by show g.prods[(m : Int).toNat]? = _; rw [Int.toNat_natCast]; exact hp)] at hy2
      have hy2 : p.right.getD (d : Int).toNat (-1) = e.sym := hy2
      rw [Int.toNat_natCast, List.getD_eq_getElem?_getD, List.getElem?_eq_getElem hlt] at hy2
      rw [List.getElem?_eq_getElem hlt]
      exact congrArg some hy2
    have hil := (List.getElem?_eq_some_iff.1 hi0).1
    rw [take_succ_get hsym, wayN_app (fun i s j h => nxt_pos hc hA h) _ _ _ (Int.natCast_nonneg _) (by omega), hw0, if_neg (by omega), wayN_cons, Int.toNat_natCast, nxt_edge hA hs he, e1]
    rfl
theorem back_iff (hc : ClosedP g) (hA : AutI g ss) {q m : Nat} {r : SQ} {p : ProdT} (hr : ss[q]? = some r) (hm : 0 < m) (hp : g.prods[m]? = some p) : ClM g r.1.2 ⟨(m : Int), (p.right.length : Int)⟩ ↔ rowF (TrL g ss).length (backB g ss q m) ≠ [] := by
  constructor
  · intro h
    obtain ⟨i, s, hs, hc0, hw⟩ := trace hc hA hp p.right.length (Nat.le_refl _) q r hr h
    rw [List.take_length] at hw
    have hl := by_left hc hA hs hp hc0
    rw [decide_eq_true (by omega : m ≠ 0)] at hl
    obtain ⟨j, hj⟩ := Option.isSome_iff_exists.1 hl
    obtain ⟨s', k, e, hs', he, he1, _⟩ := nxt_inv hj
    have hat := TrL_at (g := g) hs' he (by rw [he1]; exact hc.left (List.mem_of_getElem? hp))
    rw [he1] at hat
    refine List.ne_nil_of_mem (rowF_mem.2 ⟨_, rfl, (List.getElem?_eq_some_iff.1 hat).1, (backB_iff hat).2 ⟨byR_mem.2 ⟨hm, p, hp, rfl⟩, p, hp, hw⟩⟩)
  · intro h
    obtain ⟨z, hz⟩ := List.exists_mem_of_ne_nil _ h
    obtain ⟨u, _, hu, hb⟩ := rowF_mem.1 hz
    have ht : (TrL g ss)[u]? = some (TrL g ss)[u] := List.getElem?_eq_getElem hu
    obtain ⟨hmm, p', hp', hw⟩ := (backB_iff ht).1 hb
    rw [hp] at hp'; cases hp'
    obtain ⟨_, p2, hp2, hl⟩ := byR_mem.1 hmm
    rw [hp] at hp2; cases hp2
    obtain ⟨i0, q0, e0, hq0, hcl⟩ := tr_prods hc hA ht hp hl
    obtain ⟨j, r', e1, e2, e3⟩ := walk_right hc hA hp p.right.length 0 (by omega) i0 q0 hq0 (by simpa using hcl)
    rw [List.drop_zero, ← e0, hw] at e1
    have : j = q := by omega
    subst this
    rw [hr] at e2; cases e2
    exact e3
theorem bkAt_prod {q m : Nat} {b : BackT} (h : b ∈ bkAt g ss q m) : b = ⟨(q : Int), (m : Int), rowF (TrL g ss).length (backB g ss q m)⟩ ∧ rowF (TrL g ss).length (backB g ss q m) ≠ [] := by
  unfold bkAt at h
  split at h
  · simp at h
  · rename_i hn
    rw [List.mem_singleton] at h
    exact ⟨h, hn⟩
theorem bkRow_mem {q j : Nat} {b : BackT} : b ∈ bkRow g ss q j ↔ ∃ m, m < j ∧ rowF (TrL g ss).length (backB g ss q m) ≠ [] ∧ b = ⟨(q : Int), (m : Int), rowF (TrL g ss).length (backB g ss q m)⟩ := by
  unfold bkRow
  rw [List.mem_flatMap]
  constructor
  · rintro ⟨m, hm, h⟩
    obtain ⟨h1, h2⟩ := bkAt_prod h
    exact ⟨m, List.mem_range.1 hm, h2, h1⟩
  · rintro ⟨m, hm, h2, rfl⟩
    refine ⟨m, List.mem_range.2 hm, ?_⟩
    unfold bkAt
    rw [if_neg h2]; simp
theorem bkRow_rise (q : Nat) : ∀ j, Rise ((bkRow g ss q j).map (·.prod))
  | 0 => by simp [bkRow, Rise]
  | j + 1 => by
    rw [bkRow_succ, List.map_append]
    unfold Rise
    rw [List.pairwise_append]
    refine ⟨bkRow_rise q j, ?_, fun a ha b hb => ?_⟩
    · unfold bkAt
      split <;> simp
    · obtain ⟨x, hx, rfl⟩ := List.mem_map.1 ha
      obtain ⟨y, hy, rfl⟩ := List.mem_map.1 hb
      obtain ⟨m, hm, _, rfl⟩ := bkRow_mem.1 hx
      obtain ⟨rfl, _⟩ := bkAt_prod hy
      show (m : Int) < j
      omega
theorem comp_row (hc : ClosedP g) (hA : AutI g ss) {q : Nat} {r : SQ} (hr : ss[q]? = some r) : ((cls g r.1.2).filter (compB g)).map (·.prod) = (bkRow g ss q g.prods.length).map (·.prod) := by
  obtain ⟨_, _, _, hP2, _, _⟩ := hc.sizes
  have hf := (bst_inv (g := g) (by omega) q).fit _ (List.mem_of_getElem? (aut_at hA hr).1)
  have hfit : ∀ x, x ∈ cls g r.1.2 → fitI g x := fun x hx => (cls_mem.1 hx).fit hf
  refine rise_eq ?_ (bkRow_rise q _) fun z => ?_
  · unfold Rise
    rw [List.pairwise_map]
    have hS : SrtI (cls g r.1.2) := cls_srt
    have h1 : ((cls g r.1.2).filter (compB g)).Pairwise fun x y => x.lt y := List.Pairwise.filter _ hS
    refine h1.imp_of_mem fun {x y} hx hy hlt => ?_
    obtain ⟨hx1, hx2⟩ := List.mem_filter.1 hx
    obtain ⟨hy1, hy2⟩ := List.mem_filter.1 hy
    obtain ⟨m, p, _, hp, rfl⟩ := (compB_iff (hfit x hx1)).1 hx2
    obtain ⟨m', p', _, hp', rfl⟩ := (compB_iff (hfit y hy1)).1 hy2
    unfold ItemT.lt at hlt
    show (m : Int) < m'
    rcases hlt with h | ⟨h, h2⟩
    · exact h
    · have e : m = m' := by simp at h; omega
      subst e
      rw [hp] at hp'; cases hp'
      simp at h2
  · rw [List.mem_map, List.mem_map]
    constructor
    · rintro ⟨x, hx, rfl⟩
      obtain ⟨hx1, hx2⟩ := List.mem_filter.1 hx
      obtain ⟨m, p, hm, hp, rfl⟩ := (compB_iff (hfit x hx1)).1 hx2
      exact ⟨_, bkRow_mem.2 ⟨m, (List.getElem?_eq_some_iff.1 hp).1, (back_iff hc hA hr hm hp).1 (cls_mem.1 hx1), rfl⟩, rfl⟩
    · rintro ⟨b, hb, rfl⟩
      obtain ⟨m, hm, hn, rfl⟩ := bkRow_mem.1 hb
      obtain ⟨p, hp⟩ : ∃ p, g.prods[m]? = some p := ⟨_, List.getElem?_eq_getElem hm⟩
      obtain ⟨z, hz⟩ := List.exists_mem_of_ne_nil _ hn
      obtain ⟨u, _, hu, hb⟩ := rowF_mem.1 hz
      have ht : (TrL g ss)[u]? = some (TrL g ss)[u] := List.getElem?_eq_getElem hu
      obtain ⟨hmm, _⟩ := (backB_iff ht).1 hb
      have hm0 := (byR_mem.1 hmm).1
      have hcl := cls_mem.2 ((back_iff hc hA hr hm0 hp).2 hn)
      exact ⟨_, List.mem_filter.2 ⟨hcl, (compB_iff (hfit _ hcl)).2 ⟨m, p, hm0, hp, rfl⟩⟩, rfl⟩
theorem bks_at {q j : Nat} {b : BackT} (hq : q < ss.length) (h : (bkRow g ss q g.prods.length)[j]? = some b) : (BksL g ss)[(BksN g ss q).length + j]? = some b := by
  have key : ∀ n, q < n → ∃ t, BksN g ss n = BksN g ss q ++ bkRow g ss q g.prods.length ++ t := by
    intro n
    induction n with
    | zero => intro h; omega
    | succ n ih =>
      intro h
      by_cases e : q = n
      · subst e
        exact ⟨[], by rw [BksN_succ, List.append_nil]⟩
      · obtain ⟨t, ht⟩ := ih (by omega)
        exact ⟨t ++ bkRow g ss n g.prods.length, by rw [BksN_succ, ht, List.append_assoc]⟩
  obtain ⟨t, ht⟩ := key ss.length hq
  have hj := (List.getElem?_eq_some_iff.1 h).1
  show (BksN g ss ss.length)[_]? = _
  rw [ht, List.append_assoc, List.getElem?_append_right (by omega), Nat.add_sub_cancel_left, List.getElem?_append_left hj]
  exact h
theorem back_one (hA : AutI g ss) {q m : Nat} {p : ProdT} (hp : g.prods[m]? = some p) (hr : p.right = []) {z z' : Int} (hz : z ∈ rowF (TrL g ss).length (backB g ss q m)) (hz' : z' ∈ rowF (TrL g ss).length (backB g ss q m)) : z = z' := by
  have key : ∀ z, z ∈ rowF (TrL g ss).length (backB g ss q m) → ∃ u : Nat, z = u ∧ (TrL g ss)[u]? = some ⟨(q : Int), p.left⟩ := fun z hz => by
    obtain ⟨u, hu0, hu, hb⟩ := rowF_mem.1 hz
    have ht : (TrL g ss)[u]? = some (TrL g ss)[u] := List.getElem?_eq_getElem hu
    obtain ⟨hmm, p', hp', hw⟩ := (backB_iff ht).1 hb
    rw [hp] at hp'; cases hp'
    obtain ⟨_, p2, hp2, hl⟩ := byR_mem.1 hmm
    rw [hp] at hp2; cases hp2
    rw [hr] at hw
    have hw : (TrL g ss)[u].st = (q : Int) := hw
    refine ⟨u, hu0, ?_⟩
    rw [ht, ← hw, hl]
  obtain ⟨u, e1, h1⟩ := key z hz
  obtain ⟨u', e2, h2⟩ := key z' hz'
  have := (List.getElem?_inj (i := u) (j := u') (List.getElem?_eq_some_iff.1 h1).1 (TrL_nd hA)).1 (by rw [h1, h2])
  omega
end
end Go.V
set_option linter.unusedVariables false
namespace Go.Proofs.YtkmjjnjngcpjmaaGreatDoor
open Go.V
end Go.Proofs.YtkmjjnjngcpjmaaGreatDoor
set_option linter.unusedVariables false
set_option maxRecDepth 4000
namespace Go.Proofs.YtkmjjnjngcpjmaaGreatDoor
open Go.V
section
variable {w : World} {L : List Asn} {g : GramT} {x : GA} {ss : List SQ}
end
end Go.Proofs.YtkmjjnjngcpjmaaGreatDoor
set_option linter.unusedVariables false
set_option maxRecDepth 4000
namespace Go.Proofs.YtkmjjnjngcpjmaaGreatDoor
open Go.V
section
variable {w : World} {L : List Asn} {g : GramT} {x : GA} {ss : List SQ}
end
end Go.Proofs.YtkmjjnjngcpjmaaGreatDoor
set_option linter.unusedVariables false
set_option maxRecDepth 4000
namespace Go.Proofs.YtkmjjnjngcpjmaaGreatDoor
open Go.V
section
variable {w : World} {L : List Asn} {g : GramT} {x : GA} {ss : List SQ} {a : Option Addr} {l c : Nat} {row : List Int}
theorem d_Way {o : Option Addr} {c2 : Nat} {ask int : Int} {i : Nat} (hc : ClosedP g) (hA : AutI g ss) (hs : stRd (hp w) ss o) (hi : i < ss.length) (hr : rdS (hp w) row a l) (hl : l ≤ 4611686018427387904) : Run Tryz.prog n_presageref09_Way [.agg #[.slice o ss.length c2, .int .i64 ask, .int .i64 int], .int .i64 (i : Int), .slice a l c] w fun v w' => v = .int .i64 (wayN ss i row) ∧ Gr w w' := by
  have hkl := hA.klen hc
  have h256 := hA.dn.2.1
  have hrl := hr.1
  refine run_presageref09_Way _ _ _ _ _ _ _ _ _ w _ (newC_i (St.all w) fun k1 w1 h => ?_)
  have g1 : Gr w w1 := h.gone1
  have r1 : rowH (hp w1) (aM k1) [.slice o ss.length c2, .int .i64 ask, .int .i64 int] := rdCel 0 h.l
  clear h
  have hs := hs.mono g1
  refine ⟨fun q z w' => ∃ j : Nat, z = j ∧ j ≤ l ∧ (q = -1 ∧ wayN ss i row = -1 ∨ 0 ≤ q ∧ q < ss.length ∧ wayN ss i row = wayN ss q (row.drop j)) ∧ Gr w1 w', fun _ z _ => l - z.toNat, ⟨0, rfl, by omega, .inr ⟨by omega, by omega, rfl⟩, Gr.refl _⟩, ?_⟩
  rintro _ q _ w2 ⟨j, rfl, hj, hq, g2⟩
  refine br_intro (fun h1 => br_intro (fun h2 => ?_) fun h2 => ?_) fun h1 => ?_
  · have h1 : j < l := by have := of_decide_eq_true h1; omega
    have h2 := of_decide_eq_true h2
    obtain ⟨q0, q1, he⟩ := hq.resolve_left (by omega)
    obtain ⟨n, rfl⟩ : ∃ n : Nat, q = n := ⟨q.toNat, by omega⟩
    obtain ⟨y, ad, hy1, hya, hy2⟩ := hr.get1 h1
    have hd : row.drop j = y :: row.drop (j + 1) := by
      rw [List.drop_eq_getElem_cons (by omega)]
      congr 1
      exact (List.getElem?_eq_some_iff.1 hy1).2
    intro w3 hdr
    have g3 := g2.trans (Gr.drawn hdr)
    refine ⟨fun u => Gr w3 u, Gr.refl _, _, _, _, _, _, fun u s => r1.at (sub.trans g3 s) rfl, idx_i hya h1 ⟨y, fun u s => hy2 _ (sub.trans g1 (sub.trans g3 s)), (d_Next (i := n) (s := y) hA (hs.mono g3) (by omega) (fun q hq => (hkl q hq).2) h256).mono ?_⟩⟩
    rintro _ w6 ⟨rfl, g6⟩
    refine ⟨_, rfl, g6, ⟨by omega, by omega⟩, ⟨j + 1, by simp, h1, ?_, g3.trans g6⟩, msr h1⟩
    rw [he, hd, wayN_cons, Int.toNat_natCast]
    unfold nextS
    cases hn : nxt ss n y with
    | none => exact .inl ⟨rfl, rfl⟩
    | some t =>
      have := nxt_pos hc hA hn
      exact .inr ⟨this.1, this.2, rfl⟩
  · have h2 := of_decide_eq_false h2
    rcases hq with ⟨rfl, e⟩ | ⟨q0, _⟩
    · exact ⟨by rw [e], g1.trans g2⟩
    · omega
  · have h1 : j = l := by have := of_decide_eq_false h1; omega
    subst h1
    rcases hq with ⟨rfl, e⟩ | ⟨_, _, e⟩
    · exact ⟨by rw [e], g1.trans g2⟩
    · rw [← hrl, List.drop_length] at e
      exact ⟨by rw [e]; rfl, g1.trans g2⟩
end
end Go.Proofs.YtkmjjnjngcpjmaaGreatDoor
set_option linter.unusedVariables false
set_option maxRecDepth 4000
namespace Go.V
theorem AsR.es {h : Hp} {g : GramT} {ss ss' : List SQ} {nn : List Bool} {k : Nat} (r : AsR h g ss nn k) (e : esOf ss = esOf ss') : AsR h g ss' nn k := by
  obtain ⟨x, ol, cl, on, cn, h1, h2, h3, h4⟩ := r.ex
  rw [TrL_es e] at h1 h3
  exact ⟨x, ol, cl, on, cn, h1, h2, h3, h4⟩
end Go.V
namespace Go.Proofs.YtkmjjnjngcpjmaaGreatDoor
open Go.V
variable {w : World} {L : List Asn} {g : GramT} {x : GA}
set_option maxHeartbeats 8000000 in
theorem l_RelateBacks (hg : gR (hp w) g x) (hb : okG g) (ht : tabA (hp w)) : Run Tryz.prog n_presagelaw11_RelateBacks [.agg ⟨x.cells⟩] w fun v w' => v = .bool true ∧ Gr w w' := by
  refine run_presagelaw11_RelateBacks _ _ _ _ _ _ _ _ _ _ _ _ _ w _ (gbox hg fun k1 w1 gw hg B => (l_awake11 (rdV.mono gw ht)).mono ?_)
  rintro _ w2 ⟨rfl, g12⟩
  refine ⟨_, rfl, _, _, _, _, _, _, _, _, _, _, _, _, _, B.row g12, (y_asked (hg.mono g12) hb (rdV.mono (gw.trans g12) ht)).mono ?_⟩
  rintro _ w3 ⟨ssA, ask, int, f, pp, rfl, hRA, g23, hpn, hps⟩
  have g13 := g12.trans g23
  refine ⟨_, _, rfl, fun b w' => b = Option.isNone pp ∧ w' = w3, br_f rfl (br_f rfl ⟨rfl, rfl⟩), ?_⟩
  rintro _ b3 w4 ⟨rfl, e4⟩
  rw [e4]
  by_cases hf : f = 0
  rotate_left
  · have := hpn hf
    subst this
    exact br_t rfl (br_t rfl ⟨rfl, gw.trans g13⟩)
  obtain ⟨k, nn, rfl, hnn, hAs⟩ := hps hf
  refine br_f rfl ⟨_, _, _, _, _, _, _, _, _, _, _, _, _, B.row g13, (y_Lookback (hg.mono g13) hb (rdV.mono (gw.trans g13) ht)).mono ?_⟩
  rintro _ w5 ⟨ss2, ask2, int2, f2, o10, c10, ds, rfl, hR2, hds, h⟩
  obtain ⟨_, hes2, _, _, rfl, _⟩ := hRA.one hR2
  have g35 : Gr w3 w5 := rdH 2 h.l
  have rB := rdBk h
  clear h
  have g15 := g13.trans g35
  refine ⟨_, _, _, _, rfl, _, _, _, _, _, _, _, _, _, _, _, _, _, B.row g15, (y_BuildR (hg.mono g15) hb).mono ?_⟩
  rintro _ w6 ⟨o, c, ss, ask4, int4, f4, rfl, hR, h⟩
  obtain ⟨_, hesA, _, _, rfl, _⟩ := hRA.one hR
  have g56 : Gr w5 w6 := rdH 3 h.l
  have hs := stRd_of h.l
  clear h
  obtain ⟨hc, hA⟩ := hR.aut hf
  have es2 : esOf ss2 = esOf ss := hes2.symm.trans hesA
  rw [BksL_es es2] at hds
  have hdl : ds.length = (BksL g ss).length := by have := congrArg List.length hds; rwa [List.length_map] at this
  rw [hds, hdl] at rB
  rw [hdl]
  refine ⟨_, _, _, _, _, _, rfl, newC_i (St.all w6) fun k30 w7 h => stR_i h rfl (by simp [oneC]) fun w8 h => ?_⟩
  have r30 : rowH (hp w8) (aM k30) [.slice o ss.length c, .int .i64 ask4, .int .i64 int4] := rdCel 0 h.l
  have g68 : Gr w6 w8 := h.gone1
  clear h
  have g58 := g56.trans g68
  have g18 := g15.trans g58
  have gw8 := gw.trans g18
  have hAs := ((hAs.mono g35).mono g58).es hesA
  have rB := rB.mono g58
  have hs := hs.mono g68
  obtain ⟨x', ol, cl, on, cn, rk, hg', rT, rN⟩ := hAs.ex
  have hkl := hA.klen hc
  have h256 := hA.dn.2.1
  have hnl := trl_le hc hA
  have pl := hg.p.1
  obtain ⟨sT, sN, sP, sP2, _, _⟩ := hc.sizes
  have hKf : ∀ {i : Nat} {r : SQ}, ss[i]? = some r → fitsB g r.1.2 := fun {i r} hr => (bst_inv (g := g) (by omega) i).fit _ (List.mem_of_getElem? (aut_at hA hr).1)
  have hlenB : ∀ q, q ≤ ss.length → (BksN g ss q).length ≤ 24832 := fun q hq => by
    have h1 := BksN_len g ss q
    have h2 : q * g.prods.length ≤ 256 * 97 := Nat.mul_le_mul (by omega) sP
    omega
  refine ⟨fun n z w' => ∃ q : Nat, n = ((BksN g ss q).length : Int) ∧ z = q ∧ q ≤ ss.length ∧ Gr w8 w', fun _ z _ => ss.length - z.toNat, ⟨0, rfl, rfl, Nat.zero_le _, Gr.refl _⟩, ?_⟩
  rintro _ _ _ w9 ⟨q, rfl, rfl, hq, g9⟩
  refine ⟨_, _, _, r30.cell0 g9, br_intro (fun h1 => ?_) fun h1 => ?_⟩
  rotate_left
  · have h1 : q = ss.length := by have := of_decide_eq_false h1; omega
    subst h1
    refine ⟨?_, gw8.trans g9⟩
    show Value.bool _ = _
    rw [show (BksN g ss ss.length).length = (BksL g ss).length from rfl]
    simp
  have h1 : q < ss.length := by have := of_decide_eq_true h1; omega
  have hBq := hlenB q hq
  obtain ⟨r, hr⟩ : ∃ r, ss[q]? = some r := ⟨_, List.getElem?_eq_getElem h1⟩
  obtain ⟨ad, eo, rs, rkn, _⟩ := hs q r hr
  have hkr := (hkl r (List.mem_of_getElem? hr)).1
  have hR0 : clsR g r.1.2 = cls g r.1.2 := by unfold clsR; rw [if_pos ⟨hc, hKf hr⟩]
  have hE0 : clsE g r.1.2 = 0 := by unfold clsE; rw [if_pos ⟨hc, hKf hr⟩]
  have hcl : (cls g r.1.2).length ≤ 29197 := by have := cls_len g r.1.2; omega
  intro w10 hd
  have g10 : Gr w8 w10 := g9.trans (Gr.drawn hd)
  have g110 := g18.trans g10
  refine ⟨fun u => Gr w10 u, Gr.refl _, _, _, _, _, _, _, _, _, _, _, _, _, _, fun u s => B.row (sub.trans g110 s), _, _, _, fun u s => r30.cell0 (sub.trans g10 s), idx_n eo h1 ⟨_, _, _, fun u s => rs.cell0 (sub.trans g10 s), (y_ClosureR (hg.mono g110) hb (rkn.mono g10) (by omega)).mono ?_⟩⟩
  rintro _ w14 ⟨o23, c23, rfl, h⟩
  have g1014 : Gr w10 w14 := h.gone1
  have rI := own_rdI2 h
  clear h
  rw [hR0] at rI
  rw [hR0, hE0]
  have g814 := g10.trans g1014
  have hrow := comp_row hc hA hr
  have hfit : ∀ y, y ∈ cls g r.1.2 → fitI g y := fun y hy => (cls_mem.1 hy).fit (hKf hr)
  have hrl : ((cls g r.1.2).filter (compB g)).length = (bkRow g ss q g.prods.length).length := by have := congrArg List.length hrow; simpa using this
  obtain ⟨C, hC⟩ : ∃ C, C = cls g r.1.2 := ⟨_, rfl⟩
  rw [← hC] at rI hcl hrow hfit hrl ⊢
  refine ⟨_, _, _, _, rfl, g1014, br_f rfl ⟨fun n z w' => ∃ i : Nat, n = (((BksN g ss q).length + ((C.take i).filter (compB g)).length : Nat) : Int) ∧ z = i ∧ i ≤ C.length ∧ Gr w14 w', fun _ z _ => C.length - z.toNat, ⟨0, by simp, rfl, Nat.zero_le _, Gr.refl _⟩, ?_⟩⟩
  rintro _ _ _ w15 ⟨i, rfl, rfl, hi, g15'⟩
  have hfl : ((C.take i).filter (compB g)).length ≤ 29197 := by
    have h1 := List.length_filter_le (compB g) (C.take i)
    rw [List.length_take] at h1
    omega
  refine br_intro (fun h2 => ?_) fun h2 => ?_
  rotate_left
  · have h2 : i = C.length := by have := of_decide_eq_false h2; omega
    refine ⟨⟨by omega, by omega⟩, ⟨q + 1, ?_, by simp, h1, g814.trans g15'⟩, msr h1⟩
    rw [h2, List.take_length, hrl, BksN_succ, List.length_append]
  have h2 : i < C.length := by have := of_decide_eq_true h2; omega
  obtain ⟨y, yad, hy, hya, ry⟩ := rdIt_getR rI h2
  have hyC := List.mem_of_getElem? hy
  have htk : C.take (i + 1) = C.take i ++ [y] := by rw [List.take_add_one, hy]; rfl
  intro w16 hd2
  have g16 : Gr w14 w16 := g15'.trans (Gr.drawn hd2)
  have g816 := g814.trans g16
  have g116 := g18.trans g816
  have skip : compB g y = false → inI ((i : Int) + 1) ∧ (∃ i' : Nat, (((BksN g ss q).length + ((C.take i).filter (compB g)).length : Nat) : Int) = (((BksN g ss q).length + ((C.take i').filter (compB g)).length : Nat) : Int) ∧ (i : Int) + 1 = i' ∧ i' ≤ C.length ∧ Gr w14 w16) ∧ C.length - ((i : Int) + 1).toNat < C.length - (i : Int).toNat := fun hn => by
    refine ⟨⟨by omega, by omega⟩, ⟨i + 1, ?_, by simp, h2, g16⟩, msr h2⟩
    rw [htk, List.filter_append, List.filter_cons, if_neg (by rw [hn]; simp)]
    simp
  refine ⟨fun u => Gr w16 u, Gr.refl _, idx_n hya h2 ⟨_, fun u s => ry.cell0 (sub.trans g16 s), br_intro (fun h3 => skip ?_) fun h3 => idx_n hya h2 ⟨_, fun u s => ry.cell0 (sub.trans g16 s), _, _, _, fun u s => B.c4 (sub.trans g116 s), br_intro (fun h4 => skip ?_) fun h4 => ?_⟩⟩⟩
  · have h3 := of_decide_eq_true h3
    unfold compB
    rw [decide_eq_false (by omega), Bool.false_and]
  · have h4 := of_decide_eq_true h4
    unfold compB
    rw [decide_eq_false (show ¬y.prod < (g.prods.length : Int) by omega), Bool.false_and, Bool.and_false]
  have h3 := of_decide_eq_false h3
  have h4 := of_decide_eq_false h4
  obtain ⟨m, hm⟩ : ∃ m : Nat, y.prod = m := ⟨y.prod.toNat, by omega⟩
  have hml : m < x.pl := by omega
  obtain ⟨p, pad, pvs, hp1, hpa, hp2, ra, rl, rc, rfl, hrc, hp3⟩ := hg.p.get hml
  have hpr := List.mem_of_getElem? hp1
  have rl1 := hp3.1
  have b7 := hb.2.2.2.2.2.2 p hpr
  refine idx_n hya h2 ⟨_, fun u s => ry.cell (sub.trans g16 s) (j := 1) rfl, _, _, _, fun u s => B.c4 (sub.trans g116 s), idx_n hya h2 ⟨_, fun u s => ry.cell0 (sub.trans g16 s), ?_⟩⟩
  rw [hm]
  refine idx_n hpa hml ⟨_, _, _, fun u s => hp2.cell (sub.trans g116 s) (j := 1) rfl, br_intro (fun h5 => skip ?_) fun h5 => ?_⟩
  · have h5 := of_decide_eq_true h5
    unfold compB
    rw [hm, Int.toNat_natCast, hp1]
    simp
    omega
  have h5 := of_decide_eq_false h5
  have hcomp : compB g y = true := by
    unfold compB
    rw [hm, Int.toNat_natCast, hp1, decide_eq_true (show (1 : Int) ≤ m by omega), decide_eq_true (show (m : Int) < g.prods.length by omega)]
    simp
    omega
  obtain ⟨m', p', hm0, hp', hye⟩ := (compB_iff (hfit y hyC)).1 hcomp
  have em : m' = m := by rw [hye] at hm; have : (m' : Int) = m := hm; omega
  subst em
  rw [hp1] at hp'; cases hp'
  obtain ⟨j, hj⟩ : ∃ j, j = ((C.take i).filter (compB g)).length := ⟨_, rfl⟩
  have hfj : (C.filter (compB g))[j]? = some y := by
    have e : C = C.take i ++ y :: C.drop (i + 1) := by
      have h1 := List.take_append_drop i C
      have h3 : C.drop i = y :: C.drop (i + 1) := by
        rw [List.drop_eq_getElem_cons h2]
        congr 1
        exact (List.getElem?_eq_some_iff.1 hy).2
      rw [← h3, h1]
    rw [e, List.filter_append, List.getElem?_append_right (by omega), hj, Nat.sub_self, List.filter_cons, if_pos hcomp]
    rfl
  obtain ⟨bk, hbk, hbp⟩ : ∃ bk, (bkRow g ss q g.prods.length)[j]? = some bk ∧ bk.prod = (m' : Int) := by
    have h1 : (((bkRow g ss q g.prods.length)).map (·.prod))[j]? = some y.prod := by rw [← hrow, List.getElem?_map, hfj]; rfl
    rw [List.getElem?_map] at h1
    cases hb : (bkRow g ss q g.prods.length)[j]? with
    | none => rw [hb] at h1; cases h1
    | some b => rw [hb] at h1; exact ⟨b, rfl, by have := Option.some.inj h1; rw [← hm]; exact this⟩
  obtain ⟨mm, _, hne, hbke⟩ := bkRow_mem.1 (List.mem_of_getElem? hbk)
  have emm : mm = m' := by rw [hbke] at hbp; have : (mm : Int) = m' := hbp; omega
  subst emm
  have hBat := bks_at h1 hbk
  rw [← hj]
  obtain ⟨nx, hnx⟩ : ∃ nx, nx = (BksN g ss q).length + j := ⟨_, rfl⟩
  rw [← hnx] at hBat ⊢
  have hnl2 : nx < (BksL g ss).length := (List.getElem?_eq_some_iff.1 hBat).1
  obtain ⟨bk', bad, ba, bc, hb1, hba, rb, rtr⟩ := rdBk_get rB hnl2
  rw [hBat] at hb1; cases hb1
  have hnx2 : (nx : Int) ≤ 60000 := by omega
  have hst : bk.st = (q : Int) := by rw [hbke]
  have htr : bk.tr = rowF (TrL g ss).length (backB g ss q mm) := by rw [hbke]
  have htl : bk.tr.length ≤ (TrL g ss).length := by rw [htr]; exact rowF_len _ _
  refine ⟨fun b w' => b = false ∧ Gr w16 w', ?_, ?_⟩
  · intro w24 hd3
    have g24 : Gr w16 w24 := Gr.drawn hd3
    have g824 := g816.trans g24
    refine ⟨fun u => Gr w24 u, Gr.refl _, br_f (decide_eq_false (by omega)) (idx_n hba hnl2 ⟨_, fun u s => rb.cell0 (sub.trans g824 s), br_f (by simp [hst]) (idx_n hba hnl2 ⟨_, fun u s => rb.cell (sub.trans g824 s) (j := 1) rfl, idx_n hya h2 ⟨_, fun u s => ry.cell0 (sub.trans g16 (sub.trans g24 s)), br_f (by simp [hbp, hm]) (idx_n hba hnl2 ⟨_, _, _, fun u s => rb.cell (sub.trans g824 s) (j := 2) rfl, ?_, g24⟩)⟩⟩)⟩)⟩
    refine beq_eq_false_iff_ne.2 fun e => hne ?_
    rw [← htr]
    exact List.eq_nil_of_length_eq_zero (by omega)
  rintro _ b4 w29 ⟨rfl, g29⟩
  refine br_f rfl ?_
  intro w30 hd4
  have g30 : Gr w16 w30 := g29.trans (Gr.drawn hd4)
  have g130 := g116.trans g30
  refine ⟨fun u => Gr w30 u, Gr.refl _, _, _, _, fun u s => B.c4 (sub.trans g130 s), idx_n hya h2 ⟨_, fun u s => ry.cell0 (sub.trans g16 (sub.trans g30 s)), ?_⟩⟩
  rw [hm]
  refine idx_n hpa hml ⟨_, _, _, _, _, fun u s => hp2.at (sub.trans g130 s) rfl, newC_i (St.all w30) fun k59 w34 h => ⟨h.gone1, stR_i h rfl (by simp [oneC]) fun w35 h => ?_⟩⟩
  have r59 : rowH (hp w35) (aM k59) [.int .i64 p.left, .slice ra rl rc, .int .i64 p.level] := rdCel 0 h.l
  have g3035 : Gr w30 w35 := h.gone1
  clear h
  have g1635 := g30.trans g3035
  have g835 := g816.trans g1635
  have g1435 := g16.trans g1635
  have hmem : ∀ z, z ∈ bk.tr → ∃ (u : Nat) (t : TransT), z = u ∧ u < (TrL g ss).length ∧ (TrL g ss)[u]? = some t ∧ t.sym = p.left ∧ 0 ≤ t.st ∧ t.st < ss.length ∧ wayN ss t.st p.right = (q : Int) := fun z hz => by
    rw [htr] at hz
    obtain ⟨u, hu0, hu, hbb⟩ := rowF_mem.1 hz
    have htt : (TrL g ss)[u]? = some (TrL g ss)[u] := List.getElem?_eq_getElem hu
    obtain ⟨hmm, p2, hp2', hw⟩ := (backB_iff htt).1 hbb
    rw [hp1] at hp2'; cases hp2'
    obtain ⟨_, p3, hp3', hl⟩ := byR_mem.1 hmm
    rw [hp1] at hp3'; cases hp3'
    obtain ⟨i1, q1, _, _, hi1, _, _, _, hue⟩ := TrN_mem (List.mem_of_getElem? htt)
    exact ⟨u, _, hu0, hu, htt, hl.symm, by rw [hue]; exact Int.natCast_nonneg _, by rw [hue]; show (i1 : Int) < _; omega, hw⟩
  have hrise : Rise bk.tr := by rw [htr]; exact rowF_rise _ _
  refine ⟨fun z w' => ∃ n : Nat, z = n ∧ n ≤ bk.tr.length ∧ Gr w35 w', fun z _ => bk.tr.length - z.toNat, ⟨0, rfl, Nat.zero_le _, Gr.refl _⟩, ?_⟩
  rintro _ _ w36 ⟨n, rfl, hn, g36⟩
  have g836 := g835.trans g36
  refine idx_n hba hnl2 ⟨_, _, _, rb.cell g836 (j := 2) rfl, br_intro (fun h6 => ?_) fun h6 => ?_⟩
  · have h6 : n < bk.tr.length := by have := of_decide_eq_true h6; omega
    obtain ⟨z, zad, hz1, hza, hz2⟩ := rtr.get1 h6
    obtain ⟨u, t, rfl, h2u, htu, hsymu, ht0, ht1, hwu⟩ := hmem z (List.mem_of_getElem? hz1)
    obtain ⟨t', tad, htu', hta, ru⟩ := rdTr_get rT h2u
    rw [htu] at htu'; cases htu'
    refine idx_n hba hnl2 ⟨_, _, _, rb.cell g836 (j := 2) rfl, idx_i hza h6 ⟨_, hz2 _ g836, ?_⟩⟩
    intro w37 hd5
    have g3537 : Gr w35 w37 := g36.trans (Gr.drawn hd5)
    have g837 := g835.trans g3537
    have g37 := g837
    obtain ⟨tn, ett⟩ : ∃ tn : Nat, t.st = tn := ⟨t.st.toNat, by omega⟩
    refine ⟨fun u => Gr w37 u, Gr.refl _, br_f (decide_eq_false (by omega)) ⟨_, _, _, fun u s => rk.cell (sub.trans g37 s) (j := 5) rfl, br_f (decide_eq_false (by omega)) (br_intro (fun h7 => ?_) fun h7 => ?_)⟩⟩
    · have h7 : 0 < n := by have := of_decide_eq_true h7; omega
      obtain ⟨n', rfl⟩ : ∃ n', n = n' + 1 := ⟨n - 1, by omega⟩
      obtain ⟨z, zad2, hz1', hza', hz2'⟩ := rtr.get1 (show n' < bk.tr.length by omega)
      have hlt := rise_at hrise hz1' hz1 (by omega)
      have em' : ((n' + 1 : Nat) : Int) - 1 = (n' : Int) := by omega
      refine idx_n hba hnl2 ⟨_, _, _, fun u s => rb.cell (sub.trans g37 s) (j := 2) rfl, ⟨by omega, by omega⟩, ?_⟩
      rw [em']
      refine idx_i hza' (by omega) ⟨z, fun u s => hz2' _ (sub.trans g37 s), br_f (decide_eq_false (by omega)) ?_⟩
      refine ⟨_, _, _, fun v s => rk.cell (sub.trans g37 s) (j := 5) rfl, idx_n hta h2u ⟨_, fun v s => ru.cell (sub.trans g37 s) (j := 1) rfl, _, fun v s => r59.cell0 (sub.trans g3537 s), br_f (by simp [hsymu]) ⟨_, _, _, _, _, fun v s => r30.at (sub.trans g837 s) rfl, _, _, _, fun v s => rk.cell (sub.trans g37 s) (j := 5) rfl, idx_n hta h2u ⟨_, fun v s => ru.cell0 (sub.trans g37 s), _, _, _, fun v s => r59.cell (sub.trans g3537 s) (j := 1) rfl, ?_⟩⟩⟩⟩
      rw [ett]
      refine (d_Way (i := tn) hc hA (hs.mono g37) (by omega) (hp3.mono (g18.trans g37)) (by omega)).mono ?_
      rintro _ w48 ⟨rfl, g48⟩
      rw [← ett, hwu]
      exact ⟨_, rfl, g48, br_f (by simp) ⟨⟨by omega, by omega⟩, ⟨n' + 1 + 1, by simp, by omega, g3537.trans g48⟩, msr h6⟩⟩
    · skip
      refine ⟨_, _, _, fun v s => rk.cell (sub.trans g37 s) (j := 5) rfl, idx_n hta h2u ⟨_, fun v s => ru.cell (sub.trans g37 s) (j := 1) rfl, _, fun v s => r59.cell0 (sub.trans g3537 s), br_f (by simp [hsymu]) ⟨_, _, _, _, _, fun v s => r30.at (sub.trans g837 s) rfl, _, _, _, fun v s => rk.cell (sub.trans g37 s) (j := 5) rfl, idx_n hta h2u ⟨_, fun v s => ru.cell0 (sub.trans g37 s), _, _, _, fun v s => r59.cell (sub.trans g3537 s) (j := 1) rfl, ?_⟩⟩⟩⟩
      rw [ett]
      refine (d_Way (i := tn) hc hA (hs.mono g37) (by omega) (hp3.mono (g18.trans g37)) (by omega)).mono ?_
      rintro _ w48 ⟨rfl, g48⟩
      rw [← ett, hwu]
      exact ⟨_, rfl, g48, br_f (by simp) ⟨⟨by omega, by omega⟩, ⟨n + 1, by simp, by omega, g3537.trans g48⟩, msr h6⟩⟩
  have h6 : n = bk.tr.length := by have := of_decide_eq_false h6; omega
  intro w57 hd6
  have g3557 : Gr w35 w57 := g36.trans (Gr.drawn hd6)
  have g857 := g835.trans g3557
  have next : inI ((nx : Int) + 1) ∧ inI ((i : Int) + 1) ∧ (∃ i' : Nat, (nx : Int) + 1 = (((BksN g ss q).length + ((C.take i').filter (compB g)).length : Nat) : Int) ∧ (i : Int) + 1 = i' ∧ i' ≤ C.length ∧ Gr w14 w57) ∧ C.length - ((i : Int) + 1).toNat < C.length - (i : Int).toNat := by
    refine ⟨⟨by omega, by omega⟩, ⟨by omega, by omega⟩, ⟨i + 1, ?_, by simp, h2, g1435.trans g3557⟩, msr h2⟩
    rw [htk, List.filter_append, List.filter_cons, if_pos hcomp, List.length_append, ← hj]
    simp
    omega
  refine ⟨fun u => Gr w57 u, Gr.refl _, _, _, _, fun u s => r59.cell (sub.trans g3557 s) (j := 1) rfl, br_intro (fun h7 => ?_) fun _ => next⟩
  have h7 : rl = 0 := by have : (rl : Int) = 0 := by simpa using h7
                         omega
  have hr0 : p.right = [] := List.eq_nil_of_length_eq_zero (by omega)
  have hpos : 0 < bk.tr.length := by
    refine Nat.pos_of_ne_zero fun e => hne ?_
    rw [← htr]; exact List.eq_nil_of_length_eq_zero e
  have hone : bk.tr.length = 1 := by
    refine Nat.le_antisymm (Nat.le_of_not_lt fun h8 => ?_) hpos
    have e0 : bk.tr[0]? = some bk.tr[0] := List.getElem?_eq_getElem hpos
    have e1 : bk.tr[1]? = some bk.tr[1] := List.getElem?_eq_getElem h8
    have h9 := rise_at hrise e0 e1 (by omega)
    have h10 := back_one (q := q) (z := bk.tr[0]) (z' := bk.tr[1]) hA hp1 hr0 (by rw [← htr]; exact List.mem_of_getElem? e0) (by rw [← htr]; exact List.mem_of_getElem? e1)
    omega
  obtain ⟨z, zad, hz1, hza, hz2⟩ := rtr.get1 hpos
  obtain ⟨u, t, rfl, h2u, htu, hsymu, ht0, ht1, hwu⟩ := hmem z (List.mem_of_getElem? hz1)
  obtain ⟨t', tad, htu', hta, ru⟩ := rdTr_get rT h2u
  rw [htu] at htu'; cases htu'
  have hst2 : t.st = (q : Int) := by rw [hr0] at hwu; exact hwu
  exact idx_n hba hnl2 ⟨_, _, _, fun v s => rb.cell (sub.trans g857 s) (j := 2) rfl, br_f (by simp [hone]) ⟨_, _, _, fun v s => rk.cell (sub.trans g857 s) (j := 5) rfl, idx_n hba hnl2 ⟨_, _, _, fun v s => rb.cell (sub.trans g857 s) (j := 2) rfl, idx_i (i := 0) hza hpos ⟨_, fun v s => hz2 _ (sub.trans g857 s), idx_n hta h2u ⟨_, fun v s => ru.cell0 (sub.trans g857 s), br_f (by simp [hst2]) next⟩⟩⟩⟩⟩
end Go.Proofs.YtkmjjnjngcpjmaaGreatDoor
set_option linter.unusedVariables false
set_option maxRecDepth 4000
namespace Go.V
open Go.RowKit Go.WideShapes Go.ChangeShapes
theorem cellH_of {w : World} {a : Addr} {v : Value} (h : w.cell? a = some v) : cellH (hp w) a = some v := by
  unfold World.cell? at h
  unfold cellH hp
  cases ho : w.heap[a.block]? with
  | none => rw [ho] at h; cases h
  | some o => rw [ho] at h; cases o <;> first | exact h | cases h
theorem mapM_get' {α β : Type} {f : α → Option β} : ∀ {l : List α} {r : List β}, l.mapM f = some r → r.length = l.length ∧ ∀ (i : Nat) (a : α) (b : β), l[i]? = some a → r[i]? = some b → f a = some b
  | [], r, h => by
    simp at h; subst h; exact ⟨rfl, fun i a b ha => by simp at ha⟩
  | x :: l, r, h => by
    simp only [List.mapM_cons, Option.bind_eq_bind, Option.bind_eq_some_iff, Option.pure_def, Option.some.injEq] at h
    obtain ⟨b, hb, r', hr', rfl⟩ := h
    obtain ⟨h1, h2⟩ := mapM_get' hr'
    refine ⟨by simp [h1], fun i a b' ha hb' => ?_⟩
    cases i with
    | zero => simp at ha hb'; subst ha; subst hb'; exact hb
    | succ i => exact h2 i a b' (by simpa using ha) (by simpa using hb')
theorem cells_row {w : World} {base n : Nat} {a : Addr} {vs : List Value} (h : w.cells? base a n = some vs) : rowH (hp w) a vs := by
  unfold World.cells? at h
  split at h
  · obtain ⟨h1, h2⟩ := mapM_get' h
    intro j v hj
    have hlt := (List.getElem?_eq_some_iff.1 hj).1
    rw [h1, List.length_range] at hlt
    exact cellH_of (h2 j j v (by simp [hlt]) hj)
  · cases h
theorem weightsAll_get {H : Type} {P : Program} {e : TypeId} {N : Nat} : ∀ {l : List (DataW H)}, (DataW.weightsAll P e l).all (· ≤ N) = true → ∀ d ∈ l, (d.weights P e).all (· ≤ N) = true
  | [], _, d, hd => by simp at hd
  | x :: l, h, d, hd => by
    rw [DataW.weightsAll, List.all_append, Bool.and_eq_true] at h
    rcases List.mem_cons.1 hd with rfl | hd
    · exact h.1
    · exact weightsAll_get h.2 d hd
theorem weightsEach_get {H : Type} {P : Program} {N : Nat} : ∀ {ts : List TypeId} {l : List (DataW H)}, (DataW.weightsEach P ts l).all (· ≤ N) = true → ∀ (i : Nat) t d, ts[i]? = some t → l[i]? = some d → (d.weights P t).all (· ≤ N) = true
  | [], l, _, i, t, d, ht, _ => by simp at ht
  | _ :: _, [], _, i, t, d, _, hd => by simp at hd
  | t0 :: ts, x :: l, h, i, t, d, ht, hd => by
    rw [DataW.weightsEach, List.all_append, Bool.and_eq_true] at h
    cases i with
    | zero => simp at ht hd; subst ht; subst hd; exact h.1
    | succ i => exact weightsEach_get h.2 i t d (by simpa using ht) (by simpa using hd)
def Opn (P : Program) (α : Type) [Rep α] (bd : α → Prop) (t : TypeId) : Prop :=
  ∀ {H : Type} (enc : TypeId × Value → H) (W : World) (n : Nat) (cs : List Value) (x : DataW H × List MemPlace), DataW.trod enc P W 0 (fun _ => true) true n t cs = some x → (x.1.weights P t).all (· ≤ reachBytes) = true → ∃ y : α, rd (hp W) y cs ∧ bd y
def anyS : ByteArray → Prop := fun s => s.size ≤ reachBytes
def anyL {α : Type} (bytes : Nat) (bd : α → Prop) : List α → Prop := fun xs => xs.length * bytes ≤ reachBytes ∧ ∀ x ∈ xs, bd x
section
variable {P : Program} {t e : TypeId}
theorem opn_int (ht : P.underlying t = some (.int .i64)) : Opn P Int anyI t := by
  intro H enc W n cs x h hw
  obtain ⟨z, rfl, _, hwf⟩ := DataW.trod_int ht h
  refine ⟨z, rfl, ?_⟩
  have : IntKind.i64.min ≤ z ∧ z ≤ IntKind.i64.max := by simpa [Lit.wf] using hwf
  exact this
theorem opn_str (ht : P.underlying t = some .string) : Opn P ByteArray anyS t := by
  intro H enc W n cs x h hw
  obtain ⟨z, rfl, rfl, _⟩ := DataW.trod_string ht h
  refine ⟨z, rfl, ?_⟩
  simpa [DataW.weights, anyS] using hw
theorem opn_slice {α : Type} [Rep α] {bd : α → Prop} {bb : Nat} (ht : P.underlying t = some (.slice e)) (hc : P.cellsOf e = Rep.n α) (hb : P.bytesOf e = bb) (he : Opn P α bd e) : Opn P (List α) (anyL bb bd) t := by
  intro H enc W n cs x h hw
  rcases DataW.trod_slice ht h with ⟨rfl, rfl⟩ | ⟨a, len, cap, elems, rest, m, rfl, rfl, rfl, _, hlc, hcm, hel, hg, _, _⟩
  · exact ⟨[], ⟨none, 0, 0, rfl, Nat.le_refl _, rdS.nil⟩, by simp [reachBytes], fun x hx => by simp at hx⟩
  · simp only [DataW.weights, ht, List.all_cons, List.all_append, Bool.and_eq_true, decide_eq_true_eq, List.length_map] at hw
    obtain ⟨hw1, hw2, _⟩ := hw
    have key : ∀ k, k ≤ len → ∃ ys : List α, ys.length = k ∧ (∀ i y, ys[i]? = some y → ∃ vs, rowH (hp W) (a.add (mulS i (Rep.n α))) vs ∧ rd (hp W) y vs) ∧ ∀ y ∈ ys, bd y := by
      intro k
      induction k with
      | zero => exact fun _ => ⟨[], rfl, fun i y hy => by simp at hy, fun y hy => by simp at hy⟩
      | succ k ih =>
        intro hk
        obtain ⟨ys, h1, h2, h3⟩ := ih (by omega)
        have hgk := hg k (by omega)
        obtain ⟨d, hd⟩ : ∃ d, elems[k]? = some d := ⟨elems[k]'(by omega), List.getElem?_eq_getElem _⟩
        rw [hd, Option.bind_eq_some_iff] at hgk
        obtain ⟨vs, hv1, hv2⟩ := hgk
        obtain ⟨y, hy1, hy2⟩ := he enc W m vs d hv2 (weightsAll_get hw2 _ (by
          have := List.mem_of_getElem? hd
          exact List.mem_map_of_mem this))
        refine ⟨ys ++ [y], by simp [h1], fun i z hz => ?_, fun z hz => ?_⟩
        · by_cases hi : i < k
          · rw [List.getElem?_append_left (by omega)] at hz
            exact h2 i z hz
          · have : i = k := by
              have := (List.getElem?_eq_some_iff.1 hz).1
              simp at this; omega
            subst this
            rw [List.getElem?_append_right (by omega), h1, Nat.sub_self] at hz
            cases hz
            refine ⟨vs, ?_, hy1⟩
            rw [mulS_eq, ← hc]
            exact cells_row hv1
        · rcases List.mem_append.1 hz with hz | hz
          · exact h3 z hz
          · simp at hz; subst hz; exact hy2
    obtain ⟨ys, h1, h2, h3⟩ := key len (Nat.le_refl _)
    refine ⟨ys, ⟨some a, len, cap, rfl, hlc, h1, fun i y hy => ?_⟩, ?_, h3⟩
    · obtain ⟨vs, h4, h5⟩ := h2 i y hy
      exact ⟨a, vs, rfl, h4, h5⟩
    · rw [h1, ← hb, ← hel]
      exact Nat.le_trans (Nat.mul_le_mul_right _ (Nat.le_add_right _ _)) hw1
theorem opn_struct {fs : Array Field} (ht : P.underlying t = some (.struct fs)) {H : Type} {enc : TypeId × Value → H} {W : World} {n : Nat} {cs : List Value} {x : DataW H × List MemPlace} (h : DataW.trod enc P W 0 (fun _ => true) true n t cs = some x) (hw : (x.1.weights P t).all (· ≤ reachBytes) = true) :
    cs.length = P.cellsOf t ∧ ∀ (i : Nat) (f : Field) (ty k o : Nat), fs[i]? = some f → P.cellsOf ty = k → f.type = ty → f.offset = o → ∃ (m : Nat) (d : DataW H × List MemPlace), DataW.trod enc P W 0 (fun _ => true) true m ty ((cs.drop o).take k) = some d ∧ (d.1.weights P ty).all (· ≤ reachBytes) = true := by
  obtain ⟨xs, m, rfl, rfl, hl, hxs, hf⟩ := DataW.trod_struct ht h
  refine ⟨hl, ?_⟩
  rintro i f _ _ _ hi rfl rfl rfl
  have hlt := (Array.getElem?_eq_some_iff.1 hi).1
  obtain ⟨d, hd⟩ : ∃ d, xs[i]? = some d := ⟨xs[i]'(by omega), List.getElem?_eq_getElem _⟩
  refine ⟨m, d, by rw [hf i f hi, hd], ?_⟩
  simp only [DataW.weights, ht] at hw
  exact weightsEach_get hw i f.type d.1 (by simp [hi]) (by simp [hd])
theorem opn_arg {α : Type} [Rep α] {bd : α → Prop} (ho : Opn P α bd t) {H : Type} {enc : TypeId × Value → H} {W : World} {v : Value} {d : DataW H} {ps : List MemPlace} (h : DataW.Trod enc P W 0 (fun _ => true) true t v d ps)
    (hw : (d.weights P t).all (· ≤ reachBytes) = true) : ∃ y : α, rd (hp W) y v.cells.toList ∧ bd y := by
  obtain ⟨n, h⟩ := h
  exact ho enc W n _ _ h hw
theorem arg_int {H : Type} {enc : TypeId × Value → H} {W : World} {b : Nat} {v : Value} {d : DataW H} {ps : List MemPlace} (ht : P.underlying t = some (.int .i64)) (hval : Value.okWide P W .any b t v) (h : DataW.Trod enc P W 0 (fun _ => true) true t v d ps) : ∃ x : Int, v = .int .i64 x ∧ anyI x := by
  obtain ⟨n, rfl, _, _, hwf⟩ := open_int ht hval h
  refine ⟨n, rfl, ?_⟩
  have : IntKind.i64.min ≤ n ∧ n ≤ IntKind.i64.max := by simpa [Lit.wf] using hwf
  exact this
theorem arg_struct {α : Type} [Rep α] {bd : α → Prop} {fs : Array Field} (ho : Opn P α bd t) (ht : P.underlying t = some (.struct fs)) {H : Type} {enc : TypeId × Value → H} {W : World} {b : Nat} {v : Value} {d : DataW H} {ps : List MemPlace}
    (hval : Value.okWide P W .any b t v) (h : DataW.Trod enc P W 0 (fun _ => true) true t v d ps) (hw : (d.weights P t).all (· ≤ reachBytes) = true) : ∃ (x : α) (cs : List Value), v = .agg ⟨cs⟩ ∧ rd (hp W) x cs ∧ bd x := by
  obtain ⟨x, hr, hb⟩ := opn_arg ho h hw
  simp only [Value.okWide, ht] at hval
  obtain ⟨cs, rfl, _⟩ := hval
  exact ⟨x, cs.toList, rfl, hr, hb⟩
theorem below_of {w w' : World} (h : Ev w w') (g : Gr w w') : Below w.heap.size w w' := by
  refine ⟨h.os, h.tape, h.output, h.size, fun k hk => ?_⟩
  cases ho : w.heap[k]? with
  | none => rw [Array.getElem?_eq_none_iff] at ho; omega
  | some o =>
    by_cases hd : notD o = true
    · have : hp w k = some o := by unfold hp; rw [ho, hidD_not hd]
      exact hidD_some (g k o this)
    · cases o <;> first | exact absurd rfl hd | exact h.dfr _ _ ho
theorem trodAll_below (hl : laidOutB P = true) {H : Type} {enc : TypeId × Value → H} {W W' : World} (hb : Below W.heap.size W W') {sp : Nat → Bool} : ∀ {ts : List TypeId} {vs : List Value} {ds : List (DataW H)} {ps : List MemPlace},
    (ts.all fun t => P.readableRec t && decide (t < P.types.size)) = true → DataW.TrodAll enc P W 0 (fun _ => true) true ts vs ds ps → (∀ x ∈ ps, x.block < W.heap.size) → (∀ x ∈ ps, sp x.block = true) →
    DataW.TrodAll enc P W' 0 sp true ts vs ds ps
  | [], [], [], ps, _, h, _, _ => h
  | [], _ :: _, _, _, _, h, _, _ => h.elim
  | [], [], _ :: _, _, _, h, _, _ => h.elim
  | _ :: _, [], _, _, _, h, _, _ => h.elim
  | _ :: _, _ :: _, [], _, _, h, _, _ => h.elim
  | t :: ts, v :: vs, d :: ds, ps, ht, h, hlt, hsp => by
    obtain ⟨p, q, h1, h2, rfl⟩ := h
    rw [List.all_cons, Bool.and_eq_true, Bool.and_eq_true, decide_eq_true_eq] at ht
    exact ⟨p, q, WideElems.Trod_stays hl ht.1.1 ht.1.2 h1 (fun x hx => hb.same (hlt x (by simp [hx]))) (fun x hx => hsp x (by simp [hx])), trodAll_below hl hb ht.2 h2 (fun x hx => hlt x (by simp [hx])) (fun x hx => hsp x (by simp [hx])), rfl⟩
theorem law_post {H : Type} {enc : TypeId × Value → H} {s : ChangeSpec} {f : Func} {W W' : World} {args : Array Value} {ds gs : List (DataW H)} {before : List MemPlace} {tb : TypeId} (hv : s.vars = []) (hrt : f.resultTypes = #[tb]) (htb : P.underlying tb = some .bool)
    (hsp : s.fn H (ds ++ gs) = { results := [.lit (.bool true)], args := ds }) (hl : laidOutB P = true) (hrd : (f.params.toList.all fun t => P.readableRec t && decide (t < P.types.size)) = true)
    (hW : DataW.Whole enc P f.params.toList s.vars false W args.toList ds gs before) (hE : Ev W W') (hg : Gr W W') : s.post enc P f false true false false W args (.bool true) W' := by
  have hb := below_of hE hg
  have hlt : ∀ p ∈ before, p.block < W.heap.size := fun p hp => hW.lt p hp
  have hold : ∀ p ∈ before, (fun b => decide (b < W.heap.size)) p.block = true := fun p hp => by simpa using hlt p hp
  have hW' := hW
  obtain ⟨p, q, h1, h2, rfl, h3, h4⟩ := hW
  have hq : q = [] := by
    rw [hv] at h2
    cases gs with
    | nil => exact h2
    | cons _ _ => exact h2.elim
  subst hq
  rw [List.append_nil] at *
  have hargs : ∀ sp : Nat → Bool, (∀ x ∈ p, sp x.block = true) → DataW.TrodAll enc P W' 0 sp true f.params.toList args.toList (s.fn H (ds ++ gs)).args p := fun sp hs => by
    rw [hsp]; exact trodAll_below hl hb hrd h1 hlt hs
  have hvars : ∀ sp : Nat → Bool, DataW.TrodVars enc P W' sp s.vars (s.fn H (ds ++ gs)).vars [] := fun sp => by
    rw [hsp, hv]; exact rfl
  have hres : ∀ (b : Nat) (sp : Nat → Bool) (hd : Bool), DataW.TrodAll enc P W' b sp hd f.resultTypes.toList ((Value.bool true).resultList f.resultTypes.size) (s.fn H (ds ++ gs)).results [] := fun b sp hd => by
    rw [hsp, hrt]; exact trodAll_cons_mk (shut_bool htb _) trodAll_mk0
  have hok : ∀ (j : Nat) (t : TypeId) (r : Value), f.resultTypes[j]? = some t → ((Value.bool true).resultList f.resultTypes.size)[j]? = some r → Value.okWide P W' .any 0 t r := ok_one hrt rfl (okWide_bool_mk htb _)
  refine ⟨ds, gs, p, [], p, [], hW', hres _ _ _, hargs _ hold, hvars _, World.keptBut_mono (fun x hx => ⟨hx, ?_⟩) (hb.frame (· ∈ p)), fun _ => ?_⟩
  · exact Or.inr (by simpa using hx)
  · refine ⟨hok, _, _, ([] ++ p) ++ [], ⟨[] ++ p, [], trodAll_append (hargs _ (fun _ _ => rfl)) (hres _ _ _), hvars _, rfl, ?_, ?_⟩, ?_⟩
    · intro b off hp
      have hin : MemPlace.cell b off ∈ p := by simpa using hp
      rw [hb.frozen (hlt _ hin)]
      exact h3 b off hin
    · intro ha; cases ha
    · intro x hx _
      simpa using hx
end
end Go.V
set_option linter.unusedVariables false
namespace Go.Proofs.YtkmjjnjngcpjmaaGreatDoor
open Go.V Go.RowKit Go.WideShapes Go.ChangeShapes Go.ChangeAt
theorem ownK : ownKnob Tryz.prog.godebug = none := by kernel_rfl
theorem laidO : laidOutB Tryz.prog = true := by kernel_rfl
theorem cellsI : Tryz.prog.cellsOf 3 = 1 := by kernel_rfl
theorem bytesI : Tryz.prog.bytesOf 3 = 8 := by kernel_rfl
theorem cellsStr : Tryz.prog.cellsOf 9 = 1 := by kernel_rfl
theorem bytesStr : Tryz.prog.bytesOf 9 = 16 := by kernel_rfl
theorem cellsS24 : Tryz.prog.cellsOf 24 = 1 := by kernel_rfl
theorem cellsS22 : Tryz.prog.cellsOf 22 = 1 := by kernel_rfl
theorem cellsS23 : Tryz.prog.cellsOf 23 = 1 := by kernel_rfl
theorem cellsS25 : Tryz.prog.cellsOf 25 = 1 := by kernel_rfl
theorem cellsT : Tryz.prog.cellsOf 99 = 2 := by kernel_rfl
theorem bytesT : Tryz.prog.bytesOf 99 = 24 := by kernel_rfl
theorem cellsP : Tryz.prog.cellsOf 60 = 3 := by kernel_rfl
theorem bytesP : Tryz.prog.bytesOf 60 = 40 := by kernel_rfl
theorem cellsG : Tryz.prog.cellsOf 27 = 5 := by kernel_rfl
theorem oInt : Opn Tryz.prog Int anyI 3 := opn_int Tryz.underlying3
theorem oInts : Opn Tryz.prog (List Int) (anyL 8 anyI) 24 := opn_slice Tryz.underlying24 cellsI bytesI oInt
theorem oStr : Opn Tryz.prog ByteArray anyS 9 := opn_str Tryz.underlying9
theorem oStrs : Opn Tryz.prog (List ByteArray) (anyL 16 anyS) 23 := opn_slice Tryz.underlying23 cellsStr bytesStr oStr
theorem oTerm : Opn Tryz.prog TermT (fun t => anyS t.name ∧ anyI t.level) 99 := by
  intro H enc W n cs x h hw
  obtain ⟨hl, hf⟩ := opn_struct Tryz.underlying99 h hw
  rw [cellsT] at hl
  obtain ⟨_, _, t0, w0⟩ := hf 0 _ 9 1 0 rfl cellsStr rfl rfl
  obtain ⟨_, _, t1, w1⟩ := hf 1 _ 3 1 1 rfl cellsI rfl rfl
  obtain ⟨y0, r0, b0⟩ := oStr enc W _ _ _ t0 w0
  obtain ⟨y1, r1, b1⟩ := oInt enc W _ _ _ t1 w1
  match cs, hl with
  | [c0, c1], _ =>
    have e0 : [c0] = [.string y0] := r0
    have e1 : [c1] = [.int .i64 y1] := r1
    cases e0; cases e1
    exact ⟨⟨y0, y1⟩, rfl, b0, b1⟩
theorem oTerms : Opn Tryz.prog (List TermT) (anyL 24 fun t => anyS t.name ∧ anyI t.level) 22 := opn_slice Tryz.underlying22 cellsT bytesT oTerm
theorem oProd : Opn Tryz.prog ProdT (fun p => anyI p.left ∧ anyL 8 anyI p.right ∧ anyI p.level) 60 := by
  intro H enc W n cs x h hw
  obtain ⟨hl, hf⟩ := opn_struct Tryz.underlying60 h hw
  rw [cellsP] at hl
  obtain ⟨_, _, t0, w0⟩ := hf 0 _ 3 1 0 rfl cellsI rfl rfl
  obtain ⟨_, _, t1, w1⟩ := hf 1 _ 24 1 1 rfl cellsS24 rfl rfl
  obtain ⟨_, _, t2, w2⟩ := hf 2 _ 3 1 2 rfl cellsI rfl rfl
  obtain ⟨y0, r0, b0⟩ := oInt enc W _ _ _ t0 w0
  obtain ⟨y1, ⟨a, l, c, r1, hlc, r1'⟩, b1⟩ := oInts enc W _ _ _ t1 w1
  obtain ⟨y2, r2, b2⟩ := oInt enc W _ _ _ t2 w2
  match cs, hl with
  | [c0, c1, c2], _ =>
    have e0 : [c0] = [.int .i64 y0] := r0
    have e1 : [c1] = [.slice a l c] := r1
    have e2 : [c2] = [.int .i64 y2] := r2
    cases e0; cases e1; cases e2
    exact ⟨⟨y0, y1, y2⟩, ⟨a, l, c, rfl, hlc, r1'⟩, b0, b1, b2⟩
theorem oProds : Opn Tryz.prog (List ProdT) (anyL 40 fun p => anyI p.left ∧ anyL 8 anyI p.right ∧ anyI p.level) 25 := opn_slice Tryz.underlying25 cellsP bytesP oProd
def okG2 (g : GramT) : Prop := okG g ∧ g.terms.length * 24 ≤ 140737488355328 ∧ g.nons.length * 16 ≤ 140737488355328
theorem oGram : Opn Tryz.prog GramT okG2 27 := by
  intro H enc W n cs x h hw
  obtain ⟨hl, hf⟩ := opn_struct Tryz.underlying27 h hw
  rw [cellsG] at hl
  obtain ⟨_, _, t0, w0⟩ := hf 0 _ 22 1 0 rfl cellsS22 rfl rfl
  obtain ⟨_, _, t1, w1⟩ := hf 1 _ 23 1 1 rfl cellsS23 rfl rfl
  obtain ⟨_, _, t2, w2⟩ := hf 2 _ 24 1 2 rfl cellsS24 rfl rfl
  obtain ⟨_, _, t3, w3⟩ := hf 3 _ 3 1 3 rfl cellsI rfl rfl
  obtain ⟨_, _, t4, w4⟩ := hf 4 _ 25 1 4 rfl cellsS25 rfl rfl
  obtain ⟨y0, ⟨a0, l0, c0', r0, k0, q0⟩, b0⟩ := oTerms enc W _ _ _ t0 w0
  obtain ⟨y1, ⟨a1, l1, c1', r1, k1, q1⟩, b1⟩ := oStrs enc W _ _ _ t1 w1
  obtain ⟨y2, ⟨a2, l2, c2', r2, k2, q2⟩, b2⟩ := oInts enc W _ _ _ t2 w2
  obtain ⟨y3, r3, b3⟩ := oInt enc W _ _ _ t3 w3
  obtain ⟨y4, ⟨a4, l4, c4', r4, k4, q4⟩, b4⟩ := oProds enc W _ _ _ t4 w4
  match cs, hl with
  | [c0, c1, c2, c3, c4], _ =>
    have e0 : [c0] = [.slice a0 l0 c0'] := r0
    have e1 : [c1] = [.slice a1 l1 c1'] := r1
    have e2 : [c2] = [.slice a2 l2 c2'] := r2
    have e3 : [c3] = [.int .i64 y3] := r3
    have e4 : [c4] = [.slice a4 l4 c4'] := r4
    cases e0; cases e1; cases e2; cases e3; cases e4
    refine ⟨⟨y0, y1, y2, y3, y4⟩, ⟨⟨a0, l0, c0', a1, l1, c1', a2, l2, c2', y3, a4, l4, c4'⟩, rfl, q0, q1, q2, rfl, q4, k0, k1, k2, k4⟩, ?_⟩
    have z0 := b0.1
    have z1 := b1.1
    have z2 := b2.1
    have z4 := b4.1
    unfold reachBytes at z0 z1 z2 z4
    refine ⟨⟨by show y0.length ≤ _; omega, by show y1.length ≤ _; omega, by show y2.length ≤ _; omega, by show y4.length * 40 ≤ _; omega, fun t ht => ⟨?_, (b0.2 t ht).2⟩, fun s hs => ?_, fun p hp => ?_⟩, by show y0.length * 24 ≤ _; omega, by show y1.length * 16 ≤ _; omega⟩
    · have := (b0.2 t ht).1; unfold anyS reachBytes at this; omega
    · have := b1.2 s hs; unfold anyS reachBytes at this; omega
    · have := (b4.2 p hp).2.1.1; unfold reachBytes at this; omega

theorem gTab : Tryz.prog.globalNamed "math/bits.deBruijn64tab" = some 0 := by kernel_rfl
theorem gTabType : (Tryz.prog.globals[0]?).map (·.type) = some 217 := by kernel_rfl
theorem cellsTab : Tryz.prog.cellsOf 217 = 64 := by kernel_rfl
theorem cellsTabE : Tryz.prog.cellsOf 5 = 1 := by kernel_rfl
theorem table {W : World} (h : laidMetH Tryz.prog [("math/bits.deBruijn64tab", Rows.laid_math_bits_deBruijn64tab)] W) : tabA (hp W) := by
  have ht : Lib.TabIs Tryz.prog W "math/bits.deBruijn64tab" .u8 (Lib.deBruijn64tab.map fun (k : Nat) => (k : Int)) :=
    Lib.tabIs_of_head (rest := []) gTab gTabType Tryz.underlying217 Tryz.underlying5 cellsTabE cellsTab h
  refine .inr ⟨_, rfl, fun j v hj => ?_⟩
  have hlt := (List.getElem?_eq_some_iff.1 hj).1
  have hc := ht.cell gTab j (by simpa [tabV] using hlt)
  rw [add_lit0]
  refine cellH_of (hc.trans ?_)
  rw [← hj]
  simp only [tabV, List.getElem?_map, List.length_map] at hj hlt ⊢
  rw [List.getElem?_eq_getElem hlt]
  simp [hlt]
noncomputable def laidWorld (os : Os) : World :=
  { World.holding Tryz.prog os ⟨#[], #[], []⟩ with heap := (World.holding Tryz.prog os ⟨#[], #[], []⟩).heap.modify 0 fun
      | .cells _ t frozen => .cells ⟨tabV⟩ t frozen
      | o => o }
end Go.Proofs.YtkmjjnjngcpjmaaGreatDoor
