/- Texts of this claim, one behind the other. -/
import Derived.Test.YtkmjjnjngcpjmaaGreatDoorG4
import Derived.Test.YtkmjjnjngcpjmaaGreatDoorG1
import Derived.Test.YtkmjjnjngcpjmaaGreatDoorG3
import Derived.Test.YtkmjjnjngcpjmaaGreatDoorG2
import Derived.Test.YtkmjjnjngcpjmaaGreatDoorCards
import Derived.Test.YtkmjjnjngcpjmaaGreatDoorTie
import Derived.WalkKit
import Derived.ProofKit
import Derived.OpenShut
import Derived.Carry
import Derived.OpenVars
import Derived.Deep.DeepHandedRow
import Derived.Lib.LaidTab
set_option linter.unusedVariables false
set_option maxRecDepth 4000
namespace Go.V
def RowsS (n : Nat) (P : Nat → Int → Prop) (B k : Nat) (L : List Asn) (w : World) : Prop := ∃ (o : Option Addr) (c : Nat) (es : List (Lq Int)), es.length = n ∧ (∀ i q, es[i]? = some q → (∀ z, z ∈ q.2 ↔ P i z) ∧ q.2.length ≤ B) ∧ St w (cel k [.slice o n c] :: own 1 o n c (es.map slQ) :: sta (es.map (owQ 1 iv)) :: L)
theorem RowsS.iff {n B k : Nat} {P Q : Nat → Int → Prop} {L : List Asn} {w : World} (h : RowsS n P B k L w) (hpq : ∀ i z, i < n → (P i z ↔ Q i z)) : RowsS n Q B k L w := by
  obtain ⟨o, c, es, h1, h2, h3⟩ := h
  refine ⟨o, c, es, h1, fun i q hq => ⟨fun z => ?_, (h2 i q hq).2⟩, h3⟩
  rw [(h2 i q hq).1 z, hpq i z (by rw [← h1]; exact (List.getElem?_eq_some_iff.1 hq).1)]
theorem RowsS.gr {n B k : Nat} {P : Nat → Int → Prop} {L : List Asn} {w w' : World} (h : RowsS n P B k L w) (g : Gr w w') : RowsS n P B k L w' := by
  obtain ⟨o, c, es, h1, h2, h3⟩ := h
  exact ⟨o, c, es, h1, h2, h3.gr g⟩
theorem RowsS.gw {n B k : Nat} {P : Nat → Int → Prop} {w0 w : World} (h : RowsS n P B k (all w0) w) : Gr w0 w := by
  obtain ⟨o, c, es, h1, h2, h3⟩ := h
  exact rdH 3 h3.l
def RiseS (n : Nat) (P : Nat → Int → Prop) (ds : List (Lq Int)) : Prop := ds.length = n ∧ ∀ i q, ds[i]? = some q → Rise q.2 ∧ ∀ z, z ∈ q.2 ↔ P i z
end Go.V
namespace Go.Proofs.YtkmjjnjngcpjmaaGreatDoor
open Go.V
variable {w : World} {L : List Asn} {g : GramT} {x : GA}
theorem y_edge {n a B k : Nat} {b : Int} {P : Nat → Int → Prop} (h : RowsS n P B k L w) (ha : a < n) (hB : (B + 1) * 8 ≤ 140737488355328) : Run Tryz.prog n_relate_world_laid_S1 [.int .i64 (a : Int), .int .i64 b, .pointer (some (aM k))] w fun v w' => v = .tuple (Array.mk []) ∧ RowsS n (fun i z => P i z ∨ i = a ∧ z = b) (B + 1) k L w' := by
  refine run_relate_world_laid_S1 _ _ _ w _ ?_
  intro w1 hd
  have h := h.gr (Gr.drawn hd)
  obtain ⟨o, c, es, hes, hrow, h⟩ := h
  obtain ⟨q, hq⟩ : ∃ q, es[a]? = some q := ⟨_, List.getElem?_eq_getElem (by omega)⟩
  have hqB := (hrow a q hq).2
  have hA : (es.map (owQ 1 iv))[a]? = some (owQ 1 iv q) := by rw [List.getElem?_map, hq]; rfl
  have hV : (es.map slQ)[a]? = some (slQ q) := by rw [List.getElem?_map, hq]; rfl
  have h := St.out (h.pick 3 [2, 0, 1]) hA
  have h : St w1 (own 1 q.1.1 q.2.length q.1.2 (iv q.2) :: sta ((es.map (owQ 1 iv)).eraseIdx a) :: cel k [.slice o n c] :: own 1 o n c (es.map slQ) :: L) := h
  obtain ⟨ad, rfl, hco⟩ := own_cell (h.pick 4 [3]) hV
  refine ⟨fun u => u.cell? (aM k) = some (.slice (some ad) n c) ∧ u.cell? (ad.add a) = some (slQ q), ⟨(rdCel 2 h.l).cell0 (sub.refl _), hco⟩, _, _, _, fun u hu => hu.1, _, _, _, fun u hu => hu.1, idx_i rfl ha ⟨_, _, _, fun u hu => hu.2, newC_i h fun k7 w5 h => ?_⟩⟩
  have cc : ∀ {u : World} {L' : List Asn}, St u (own 1 (some ad) n c (es.map slQ) :: L') → u.cell? (ad.add a) = some (slQ q) := fun h => by
    obtain ⟨ad', e, hc⟩ := own_cell h hV
    cases e; exact hc
  refine ⟨⟨(rdCel 3 h.l).cell0 (sub.refl _), cc (h.pick 5 [4])⟩, ?_⟩
  refine (app_one (us := iv q.2) tyOk (rfl : kdOfT Ty _ = .slice _) (rfl : kdOfT Ty _ = .slice _) rfl rfl rfl h rfl (by simp [oneC]) (by show (q.2.length + 1) * 8 ≤ _; omega) (by omega)).mono ?_
  rintro _ w6 ⟨o', c', rfl, h⟩
  refine ⟨_, _, _, rfl, ⟨(rdCel 3 h.l).cell0 (sub.refl _), cc (h.pick 5 [4])⟩, idx_i rfl ha (own_st1 (h.pick 5 [4, 0, 2, 3]) rfl (by rw [List.length_map]; omega) fun w7 h => ?_)⟩
  refine ⟨rfl, some ad, c, es.set a ((o', c'), q.2 ++ [b]), by rw [List.length_set]; exact hes, fun i r hr => ?_, ?_⟩
  · by_cases e : a = i
    · subst e
      rw [List.getElem?_set_self (by omega)] at hr
      cases hr
      refine ⟨fun z => ?_, by simp; omega⟩
      show z ∈ q.2 ++ [b] ↔ _
      rw [List.mem_append, (hrow a q hq).1 z, List.mem_singleton]
      simp
    · rw [List.getElem?_set_ne e] at hr
      obtain ⟨r1, r2⟩ := hrow i r hr
      refine ⟨fun z => ?_, by omega⟩
      rw [r1 z]
      exact ⟨.inl, fun h => h.resolve_right fun h => e h.1.symm⟩
  · have e1 : (.slice o' (q.2.length + 1) c' : Value) = slQ (((o', c'), q.2 ++ [b]) : Lq Int) := by simp [slQ]
    have e2 : own 1 o' (q.2.length + 1) c' (iv q.2 ++ [.int .i64 b]) = owQ 1 iv (((o', c'), q.2 ++ [b]) : Lq Int) := by simp [owQ, iv]
    have h : St w7 (own 1 (some ad) n c ((es.map slQ).set a (.slice o' (q.2.length + 1) c')) :: own 1 o' (q.2.length + 1) c' (iv q.2 ++ [.int .i64 b]) :: sta ((es.map (owQ 1 iv)).eraseIdx a) :: cel k [.slice (some ad) n c] :: L) := h
    rw [e1, ← List.map_set] at h
    have h := St.back (B := own 1 o' (q.2.length + 1) c' (iv q.2 ++ [.int .i64 b])) (h.pick 4 [1, 2, 0, 3]) hA
    rw [e2, ← List.map_set] at h
    exact h.pick 3 [2, 1, 0]
set_option maxHeartbeats 1000000 in
theorem y_laidE {n k : Nat} {ss : List SQ} {nn : List Bool} {fg : FuncId} {fc : List Value} {P : Nat → Int → Prop} (hw : WrR (hp w) g ss nn k) (hn : (TrL g ss).length = n) (hn2 : n ≤ 33280) (hF : Fn fg = true)
    (hE : ∀ (k4 : Nat) (w0 : World), RowsS n (fun _ _ => False) 0 k4 (all w) w0 → Run Tryz.prog fg (.func (.func n_relate_world_laid_S1) (Array.mk []) (Array.mk [.pointer (some (aM k4))]) :: fc) w0 fun v w' => v = .tuple (Array.mk []) ∧ ∃ B, B ≤ 4611686018427387 ∧ RowsS n P B k4 (all w) w') :
    Run Tryz.prog n_relate_world_laid [.pointer (some (aM k)), .func (.func fg) (Array.mk []) (Array.mk fc)] w fun v w' => ∃ (o : Option Addr) (c : Nat) (ds : List (Lq Int)), v = .slice o n c ∧ RiseS n P ds ∧ St w' (own 1 o n c (ds.map slQ) :: sta (ds.map (owQ 1 iv)) :: all w) := by
  obtain ⟨x, o, c, a, int, ol, cl, ka, kt, on, cn, kp, ma, mt, mp, rk, hg, hs, rT, _, _, _, _, _, _, _⟩ := hw.ex
  rw [hn] at rk
  refine run_relate_world_laid _ _ _ w _ ⟨_, _, _, rk.cell (sub.refl _) (j := 8) rfl, ⟨by omega, rfl, by omega⟩, ?_⟩
  rw [Int.toNat_natCast]
  have e0 : reps n [(Value.slice none 0 0 : Value)] = (List.replicate n (((none, 0), []) : Lq Int)).map slQ := by rw [reps_one]; simp [slQ]
  rw [e0]
  refine newC_i (St.all w) fun k3 w1 h => newC_i h fun k4 w2 h => st1_i h (by simp) fun w3 h => ifT_iff.2 ⟨hF, ?_⟩
  have h : St w3 (cel k4 [.slice (some (aM k3)) n n] :: cel k3 ((List.replicate n (((none, 0), []) : Lq Int)).map slQ) :: all w) := h
  have h : St w3 (own 1 (some (aM k3)) n n ((List.replicate n (((none, 0), []) : Lq Int)).map slQ) :: cel k4 [.slice (some (aM k3)) n n] :: all w) := own_some (cs := []) (show St w3 (cel k3 ((List.replicate n (((none, 0), []) : Lq Int)).map slQ ++ []) :: cel k4 [.slice (some (aM k3)) n n] :: all w) by rw [List.append_nil]; exact h.pick 2 [1, 0]) (by simp) (by simp) (Nat.le_refl _)
  have h := sta_reps (A := owQ 1 iv ((none, 0), [])) (fun w L h => own_nil 1 h) n h
  rw [← List.map_replicate] at h
  have hR0 : RowsS n (fun _ _ => False) 0 k4 (all w) w3 := by
    refine ⟨_, _, List.replicate n (((none, 0), []) : Lq Int), by simp, fun i q hq => ?_, h.pick 3 [2, 1, 0]⟩
    rw [List.getElem?_replicate] at hq
    split at hq
    · cases hq; simp
    · cases hq
  clear h
  refine (hE k4 w3 hR0).mono ?_
  rintro _ w4 ⟨rfl, B, hB, o4, c4, es, hes, hrow, h⟩
  refine ⟨rfl, _, _, _, (rdCel 0 h.l).cell0 (sub.refl _), fun z w' => ∃ (i : Nat) (es : List (Lq Int)), z = i ∧ i ≤ n ∧ es.length = n ∧ (∀ j q, es[j]? = some q → (∀ z, z ∈ q.2 ↔ P j z) ∧ q.2.length ≤ B ∧ (j < i → Rise q.2)) ∧ St w' (cel k4 [.slice o4 n c4] :: own 1 o4 n c4 (es.map slQ) :: sta (es.map (owQ 1 iv)) :: all w), fun z _ => n - z.toNat,
    ⟨0, es, rfl, Nat.zero_le _, hes, fun j q hq => ⟨(hrow j q hq).1, (hrow j q hq).2, fun h => absurd h (by omega)⟩, h⟩, ?_⟩
  clear h hrow hes
  rintro _ _ w5 ⟨i, es, rfl, hi, hes, hrow, h⟩
  refine br_intro (fun h1 => ?_) fun h1 => ?_
  rotate_left
  · have h1 : i = n := by have := of_decide_eq_false h1; omega
    refine ⟨_, _, _, (rdCel 0 h.l).cell0 (sub.refl _), o4, c4, es, rfl, ⟨hes, fun j q hq => ?_⟩, h.pick 3 [1, 2]⟩
    obtain ⟨q1, q2, q3⟩ := hrow j q hq
    exact ⟨q3 (by have := (List.getElem?_eq_some_iff.1 hq).1; omega), q1⟩
  have h1 : i < n := by have := of_decide_eq_true h1; omega
  obtain ⟨q, hq⟩ : ∃ q, es[i]? = some q := ⟨_, List.getElem?_eq_getElem (by omega)⟩
  obtain ⟨hqP, hqB, _⟩ := hrow i q hq
  have hA : (es.map (owQ 1 iv))[i]? = some (owQ 1 iv q) := by rw [List.getElem?_map, hq]; rfl
  have hV : (es.map slQ)[i]? = some (slQ q) := by rw [List.getElem?_map, hq]; rfl
  have h := St.out (h.pick 3 [2, 0, 1]) hA
  have h : St w5 (own 1 q.1.1 q.2.length q.1.2 (iv q.2) :: sta ((es.map (owQ 1 iv)).eraseIdx i) :: cel k4 [.slice o4 n c4] :: own 1 o4 n c4 (es.map slQ) :: all w) := h
  obtain ⟨ad, rfl, hco⟩ := own_cell (h.pick 4 [3]) hV
  have cc : ∀ {u : World} {L' : List Asn}, St u (own 1 (some ad) n c4 (es.map slQ) :: L') → u.cell? (ad.add i) = some (slQ q) := fun h => by
    obtain ⟨ad', e, hc⟩ := own_cell h hV
    cases e; exact hc
  refine ⟨_, _, _, (rdCel 2 h.l).cell0 (sub.refl _), idx_i rfl h1 ⟨_, _, _, hco, (y_sortI h (by omega)).mono ?_⟩⟩
  rintro _ w6 ⟨rfl, h⟩
  refine ⟨rfl, ?_⟩
  intro w7 hd
  have h := h.eq (drawn_hp hd)
  generalize hso : (q.2.mergeSort fun x y => decide (x ≤ y)) = so at h
  have hsm : ∀ z, z ∈ so ↔ z ∈ q.2 := fun z => by rw [← hso]; exact List.mem_mergeSort
  have hsr : so.Pairwise (· ≤ ·) := by
    have := List.pairwise_mergeSort (le := fun x y : Int => decide (x ≤ y)) (fun a b c h1 h2 => by simp at *; omega) (fun a b => by simp; omega) q.2
    rw [hso] at this
    exact this.imp fun h => of_decide_eq_true h
  have hsl : so.length = q.2.length := by rw [← hso]; exact List.length_mergeSort _
  refine ⟨fun u => u.cell? (aM k4) = some (.slice (some ad) n c4) ∧ u.cell? (ad.add i) = some (slQ q), ⟨(rdCel 2 h.l).cell0 (sub.refl _), cc (h.pick 4 [3])⟩, _, _, _, fun u hu => hu.1, _, _, _, fun u hu => hu.1, idx_i rfl h1 ⟨_, _, _, fun u hu => hu.2, (y_compactI h (by omega)).mono ?_⟩⟩
  rintro _ w11 ⟨a', c', rfl, h⟩
  refine ⟨_, _, _, rfl, ⟨(rdCel 2 h.l).cell0 (sub.refl _), cc (h.pick 4 [3])⟩, run_slices_Clip_int_int_ _ _ _ w11 _ (slc_clip (own_le h) ?_)⟩
  have h := own_clip h
  refine ⟨_, _, _, rfl, ⟨(rdCel 2 h.l).cell0 (sub.refl _), cc (h.pick 4 [3])⟩, idx_i rfl h1 (own_st1 (h.pick 4 [3, 0, 1, 2]) rfl (by rw [List.length_map]; omega) fun w13 h => ?_)⟩
  have hdl := dd_len so
  refine ⟨⟨by omega, by omega⟩, ⟨i + 1, es.set i ((slP a' 0 (dd so).length 1, (dd so).length), dd so), by simp, h1, by rw [List.length_set]; exact hes, fun j r hr => ?_, ?_⟩, msr h1⟩
  · by_cases e : i = j
    · subst e
      rw [List.getElem?_set_self (by omega)] at hr
      cases hr
      refine ⟨fun z => ?_, by show (dd so).length ≤ B; omega, fun _ => dd_rise hsr⟩
      show z ∈ dd so ↔ _
      rw [dd_mem, hsm, hqP z]
    · rw [List.getElem?_set_ne e] at hr
      obtain ⟨r1, r2, r3⟩ := hrow j r hr
      exact ⟨r1, r2, fun h => r3 (by omega)⟩
  · have e1 : (.slice (slP a' 0 (dd so).length 1) (dd so).length (dd so).length : Value) = slQ (((slP a' 0 (dd so).length 1, (dd so).length), dd so) : Lq Int) := rfl
    have h : St w13 (own 1 (some ad) n c4 ((es.map slQ).set i (.slice (slP a' 0 (dd so).length 1) (dd so).length (dd so).length)) :: own 1 (slP a' 0 (dd so).length 1) (dd so).length (dd so).length (iv (dd so)) :: sta ((es.map (owQ 1 iv)).eraseIdx i) :: cel k4 [.slice (some ad) n c4] :: all w) := h
    rw [e1, ← List.map_set] at h
    have h := St.back (B := own 1 (slP a' 0 (dd so).length 1) (dd so).length (dd so).length (iv (dd so))) (h.pick 4 [1, 2, 0, 3]) hA
    rw [show own 1 (slP a' 0 (dd so).length 1) (dd so).length (dd so).length (iv (dd so)) = owQ 1 iv (((slP a' 0 (dd so).length 1, (dd so).length), dd so) : Lq Int) from rfl, ← List.map_set] at h
    exact h.pick 3 [2, 1, 0]
end Go.Proofs.YtkmjjnjngcpjmaaGreatDoor
set_option linter.unusedVariables false
set_option maxRecDepth 4000
namespace Go.V
section
variable {g : GramT} {ss : List SQ} {nn : List Bool}
theorem vanB_ge {s : Int} (h : vanB g nn s = true) : (g.T : Int) ≤ s := by
  unfold vanB at h
  rw [Bool.and_eq_true] at h
  exact of_decide_eq_true h.1
def RdE (g : GramT) (nn : List Bool) (ss : List SQ) (j0 : Nat) (es : List EdgeT) (z : Int) : Prop := ∃ e ∈ es, vanB g nn e.sym = true ∧ numT g ss ⟨(j0 : Int), e.sym⟩ = z + 1
theorem RdE.snoc {j0 : Nat} {es : List EdgeT} {e : EdgeT} {z : Int} : RdE g nn ss j0 (es ++ [e]) z ↔ RdE g nn ss j0 es z ∨ (vanB g nn e.sym = true ∧ numT g ss ⟨(j0 : Int), e.sym⟩ = z + 1) := by
  unfold RdE
  constructor
  · rintro ⟨e', he', h⟩
    rw [List.mem_append, List.mem_singleton] at he'
    rcases he' with he' | rfl
    · exact .inl ⟨e', he', h⟩
    · exact .inr h
  · rintro (⟨e', he', h⟩ | h)
    · exact ⟨e', by simp [he'], h⟩
    · exact ⟨e, by simp, h⟩
theorem RdE.all (hc : ClosedP g) (hA : AutI g ss) {i j0 : Nat} {t : TransT} {r : SQ} (ht : (TrL g ss)[i]? = some t) (hnx : nxt ss t.st.toNat t.sym = some (j0 : Int)) (hr : ss[j0]? = some r) (z : Int) : RdE g nn ss j0 r.2.2 z ↔ z ∈ rowF (TrL g ss).length (readB g nn ss i) := by
  rw [rowF_mem]
  constructor
  · rintro ⟨e, he, h1, h2⟩
    have hpos : 0 < numT g ss ⟨(j0 : Int), e.sym⟩ := by
      obtain ⟨k, hk⟩ := List.getElem?_of_mem he
      have := TrL_at hr hk (vanB_ge h1)
      rw [numT_at hA this]; omega
    obtain ⟨u, hu, hu2⟩ := numT_pos hA hpos
    refine ⟨u, by omega, (List.getElem?_eq_some_iff.1 hu2).1, ?_⟩
    unfold readB
    rw [ht, hu2]
    simp [hnx, h1]
  · rintro ⟨u, rfl, hu, h⟩
    unfold readB at h
    rw [ht, List.getElem?_eq_getElem hu] at h
    simp only [Bool.and_eq_true, decide_eq_true_eq] at h
    obtain ⟨h1, h2⟩ := h
    have hu2 : (TrL g ss)[u]? = some (TrL g ss)[u] := List.getElem?_eq_getElem hu
    obtain ⟨i', q', k', e', hi', hq', he', hge, hte⟩ := TrN_mem (List.mem_of_getElem? hu2)
    have e1 : (i' : Int) = j0 := by
      rw [hnx] at h1
      have := Option.some.inj h1
      rw [hte] at this
      exact this.symm
    have e1 : i' = j0 := by omega
    subst e1
    rw [hr] at hq'; cases hq'
    refine ⟨e', List.mem_of_getElem? he', by rw [hte] at h2; exact h2, ?_⟩
    rw [← hte, numT_at hA hu2]
end
end Go.V
namespace Go.Proofs.YtkmjjnjngcpjmaaGreatDoor
open Go.V
variable {w : World} {L : List Asn} {g : GramT} {x : GA} {ss : List SQ} {nn : List Bool}
theorem toK_at {t : TransT} {j0 : Nat} (h0 : 0 ≤ t.st) (h : nxt ss t.st.toNat t.sym = some (j0 : Int)) : toK ss t = (j0 : Int) + 1 := by
  unfold toK; rw [if_neg (by omega), h]
set_option maxHeartbeats 4000000 in
theorem y_ReadsS1 {n kw kc k1 k4 : Nat} {w0 : World} (hw : WrR (hp w) g ss nn kw) (hcl : ClosedP g) (hA : AutI g ss) (hnn : NnP g nn) (hkc : rowH (hp w) (aM kc) [.pointer (some (aM kw))]) (B : GB (hp w) k1 x) (hTl : g.T = x.tl) (hn : (TrL g ss).length = n) (hn2 : n ≤ 33280)
    (hR : RowsS n (fun _ _ => False) 0 k4 (all w) w0) :
    Run Tryz.prog n_relate_Reads_S1 [.func (.func n_relate_world_laid_S1) (Array.mk []) (Array.mk [.pointer (some (aM k4))]), .pointer (some (aM kc)), .pointer (some (aM k1))] w0 fun v w' => v = .tuple (Array.mk []) ∧ ∃ B, B ≤ 4611686018427387 ∧ RowsS n (fun i z => z ∈ rowF n (readB g nn ss i)) B k4 (all w) w' := by
  obtain ⟨x', o, c, a, int, ol, cl, ka, kt, on, cn, kp, ma, mt, mp, rk, hg, hs, rT, hma, hN, hmt, hTo, rN, _, _⟩ := hw.ex
  rw [hn] at rk rT
  have hkl := hA.klen hcl
  obtain ⟨sT, sN, sP, _, _, _⟩ := hcl.sizes
  have h256 := hA.dn.2.1
  have g0 : Gr w w0 := hR.gw
  refine run_relate_Reads_S1 _ _ _ _ w0 _ ⟨_, hkc.cell0 g0, _, _, _, rk.cell g0 (j := 8) rfl, fun z w' => ∃ (i B : Nat), z = i ∧ i ≤ n ∧ B ≤ i * 130 ∧ RowsS n (fun j z => j < i ∧ z ∈ rowF n (readB g nn ss j)) B k4 (all w) w', fun z _ => n - z.toNat,
    ⟨0, 0, rfl, Nat.zero_le _, Nat.zero_le _, hR.iff fun j z _ => ⟨fun h => h.elim, fun h => absurd h.1 (by omega)⟩⟩, ?_⟩
  clear hR
  rintro _ _ w1 ⟨i, B0, rfl, hi, hB0, hR⟩
  have g1 : Gr w w1 := hR.gw
  refine br_intro (fun h1 => ?_) fun h1 => ?_
  rotate_left
  · have h1 : i = n := by have := of_decide_eq_false h1; omega
    subst h1
    exact ⟨rfl, B0, by omega, hR.iff fun j z hj => ⟨fun h => h.2, fun h => ⟨hj, h⟩⟩⟩
  have h1 : i < n := by have := of_decide_eq_true h1; omega
  obtain ⟨t, tad, ht, hta, rt⟩ := rdTr_get rT h1
  obtain ⟨i0, q0, k0, e0, hi0, hq0, he0, hge, hte⟩ := TrN_mem (List.mem_of_getElem? ht)
  have hnx : nxt ss t.st.toNat t.sym = some e0.to := by rw [hte]; exact nxt_edge hA hq0 he0
  obtain ⟨hto1, hto2⟩ := nxt_pos hcl hA hnx
  obtain ⟨j0, hj0⟩ : ∃ j0 : Nat, e0.to = j0 := ⟨e0.to.toNat, by omega⟩
  rw [hj0] at hnx hto2
  have hto : j0 < ss.length := by omega
  obtain ⟨r, hr⟩ : ∃ r, ss[j0]? = some r := ⟨_, List.getElem?_eq_getElem hto⟩
  have hrl := (hkl r (List.mem_of_getElem? hr)).2
  have hst0 : 0 ≤ t.st := by rw [hte]; exact Int.natCast_nonneg _
  have hk : toK ss t = (j0 : Int) + 1 := toK_at hst0 hnx
  obtain ⟨o9, c9, es, hes, hrow, h⟩ := hR
  refine idx_n hta h1 ⟨_, _, rt.at g1 rfl, newC_i h fun k3 w2 h => stR_i h rfl (by simp [oneC]) fun w3 h => ?_⟩
  intro w4 hd
  have h := h.eq (drawn_hp hd)
  have g4 : Gr w w4 := rdH 4 h.l
  have r3 : rowH (hp w4) (aM k3) [.int .i64 t.st, .int .i64 t.sym] := rdCel 0 h.l
  refine ⟨fun u => Gr w4 u, Gr.refl _, _, fun u s => hkc.cell0 (sub.trans g4 s), _, fun u s => rk.cell (sub.trans g4 s) (j := 10) rfl, _, _, fun u s => r3.at s rfl, (map_lookupHP (κ := TransT) hmt g4 tyOk (rfl : kdOfT Ty _ = .map _ _) key_Trans rfl rfl t).mono ?_⟩
  rintro _ w8 ⟨rfl, e8⟩
  rw [e8, hTo.all, hk]
  obtain ⟨sad, eo, rs, _, re⟩ := hs j0 r hr
  have e9 : ((j0 : Int) + 1) - 1 = (j0 : Int) := by omega
  refine ⟨_, rfl, Gr.refl _, ⟨by omega, by omega⟩, _, hkc.cell0 g4, _, _, _, rk.cell g4 (j := 5) rfl, ?_⟩
  rw [e9]
  have hR : RowsS n (fun j z => j < i ∧ z ∈ rowF n (readB g nn ss j)) B0 k4 (all w) w4 := ⟨o9, c9, es, hes, hrow, h.pick 4 [1, 2, 3]⟩
  clear h hrow
  refine idx_n eo hto ⟨_, _, _, rs.cell g4 (j := 1) rfl, fun z w' => ∃ (k B1 : Nat), z = k ∧ k ≤ r.2.2.length ∧ B1 ≤ B0 + k ∧ RowsS n (fun j z => j < i ∧ z ∈ rowF n (readB g nn ss j) ∨ j = i ∧ RdE g nn ss j0 (r.2.2.take k) z) B1 k4 (all w) w', fun z _ => r.2.2.length - z.toNat,
    ⟨0, B0, rfl, Nat.zero_le _, Nat.le_refl _, hR.iff fun j z _ => ⟨.inl, fun h => h.elim id fun h => by obtain ⟨_, e, he, _⟩ := h; simp at he⟩⟩, ?_⟩
  clear hR
  rintro _ _ w9 ⟨k, B1, rfl, hk2, hB1, hR⟩
  have g9 : Gr w w9 := hR.gw
  refine br_intro (fun h2 => ?_) fun h2 => ?_
  rotate_left
  · have h2 : k = r.2.2.length := by have := of_decide_eq_false h2; omega
    rw [h2, List.take_length] at hR
    refine ⟨⟨by omega, by omega⟩, ⟨i + 1, B1, by simp, h1, by omega, hR.iff fun j z _ => ?_⟩, msr h1⟩
    rw [RdE.all hcl hA ht hnx hr, hn]
    constructor
    · rintro (⟨h1, h2⟩ | ⟨rfl, h2⟩)
      · exact ⟨by omega, h2⟩
      · exact ⟨by omega, h2⟩
    · rintro ⟨h1, h2⟩
      by_cases e : j = i
      · exact .inr ⟨e, by rw [e] at h2; exact h2⟩
      · exact .inl ⟨by omega, h2⟩
  have h2 : k < r.2.2.length := by have := of_decide_eq_true h2; omega
  obtain ⟨e, ead, he, hea, red⟩ := rdEd_get re h2
  have htk : r.2.2.take (k + 1) = r.2.2.take k ++ [e] := by rw [List.take_add_one, he]; rfl
  obtain ⟨hs1, hs2, _⟩ := aut_edge hcl hA hr he
  obtain ⟨o10, c10, es10, hes10, hrow10, h⟩ := hR
  refine idx_n hea h2 ⟨_, _, red.at g9 rfl, newC_i h fun k8 w10 h => stR_i h rfl (by simp [oneC]) fun w11 h => ?_⟩
  intro w12 hd2
  have h := h.eq (drawn_hp hd2)
  have g12 : Gr w w12 := rdH 4 h.l
  have r8 : rowH (hp w12) (aM k8) [.int .i64 e.sym, .int .i64 e.to] := rdCel 0 h.l
  have hR : RowsS n (fun j z => j < i ∧ z ∈ rowF n (readB g nn ss j) ∨ j = i ∧ RdE g nn ss j0 (r.2.2.take k) z) B1 k4 (all w) w12 := ⟨o10, c10, es10, hes10, hrow10, h.pick 4 [1, 2, 3]⟩
  have skip : vanB g nn e.sym ≠ true → inI ((k : Int) + 1) ∧ (∃ (k' B1' : Nat), (k : Int) + 1 = k' ∧ k' ≤ r.2.2.length ∧ B1' ≤ B0 + k' ∧ RowsS n (fun j z => j < i ∧ z ∈ rowF n (readB g nn ss j) ∨ j = i ∧ RdE g nn ss j0 (r.2.2.take k') z) B1' k4 (all w) w12) ∧ r.2.2.length - ((k : Int) + 1).toNat < r.2.2.length - (k : Int).toNat := fun hv => by
    refine ⟨⟨by omega, by omega⟩, ⟨k + 1, B1, by simp, h2, by omega, hR.iff fun j z _ => ?_⟩, msr h2⟩
    rw [htk, RdE.snoc]
    simp [hv]
  refine ⟨fun u => Gr w12 u, Gr.refl _, _, fun u s => r8.cell0 s, _, _, _, fun u s => B.c0 (sub.trans g12 s), br_intro (fun h3 => ?_) fun h3 => skip fun hv => ?_⟩
  rotate_left
  · have := vanB_ge hv
    have := of_decide_eq_false h3
    omega
  have h3 : (g.T : Int) ≤ e.sym := by rw [hTl]; exact of_decide_eq_true h3
  obtain ⟨m, hm⟩ : ∃ m : Nat, e.sym - (x.tl : Int) = m := ⟨(e.sym - (x.tl : Int)).toNat, by omega⟩
  have hmN : m < g.N := by omega
  have hvan : vanB g nn e.sym = fnB nn m := by
    unfold vanB
    rw [decide_eq_true h3, Bool.true_and, show e.sym.toNat - g.T = m by omega]
  obtain ⟨bb, hbb⟩ : ∃ bb, nn[m]? = some bb := ⟨_, List.getElem?_eq_getElem (by rw [hnn.1]; exact hmN)⟩
  have hfn : fnB nn m = bb := by unfold fnB; rw [List.getD_eq_getElem?_getD, hbb]; rfl
  obtain ⟨bb', bad, hb1, hba, hb2⟩ := rN.get1 hmN
  rw [hbb] at hb1; cases hb1
  refine ⟨_, fun u s => hkc.cell0 (sub.trans g12 s), _, _, _, fun u s => rk.cell (sub.trans g12 s) (j := 11) rfl, _, fun u s => r8.cell0 s, _, _, _, fun u s => B.c0 (sub.trans g12 s), ⟨by omega, by omega⟩, ?_⟩
  rw [hm]
  refine idx_i hba hmN ⟨bb, fun u s => hb2 _ (sub.trans g12 s), br_intro (fun h4 => ?_) fun h4 => skip (by rw [hvan, hfn, h4]; simp)⟩
  subst h4
  have hat := TrL_at hr he h3
  obtain ⟨u0, hu0, hu1⟩ := numT_pos hA (t := ⟨(j0 : Int), e.sym⟩) (by rw [numT_at hA hat]; omega)
  have hul : u0 < n := by rw [← hn]; exact (List.getElem?_eq_some_iff.1 hu1).1
  intro w20 hd3
  have h := h.eq (drawn_hp hd3)
  have g20 : Gr w w20 := rdH 4 h.l
  have r8 : rowH (hp w20) (aM k8) [.int .i64 e.sym, .int .i64 e.to] := rdCel 0 h.l
  have hR := hR.gr (Gr.drawn hd3)
  refine ⟨fun u => Gr w20 u, Gr.refl _, _, fun u s => hkc.cell0 (sub.trans g20 s), _, fun u s => rk.cell (sub.trans g20 s) (j := 9) rfl, _, fun u s => r8.cell0 s, (map_lookupHP (κ := TransT) hma g20 tyOk (rfl : kdOfT Ty _ = .map _ _) key_Trans rfl rfl ⟨(j0 : Int), e.sym⟩).mono ?_⟩
  rintro _ w24 ⟨rfl, e24⟩
  rw [e24, hN.all, hu0]
  have e25 : ((u0 : Int) + 1) - 1 = (u0 : Int) := by omega
  refine ⟨_, rfl, Gr.refl _, ⟨by omega, by omega⟩, ifT_iff.2 ⟨rfl, ?_⟩⟩
  rw [e25]
  refine (y_edge (a := i) hR h1 (by omega)).mono ?_
  rintro _ w25 ⟨rfl, hR⟩
  refine ⟨rfl, ⟨by omega, by omega⟩, ⟨k + 1, B1 + 1, by simp, h2, by omega, hR.iff fun j z _ => ?_⟩, msr h2⟩
  rw [htk, RdE.snoc, hu0]
  constructor
  · rintro ((h | h) | ⟨rfl, rfl⟩)
    · exact .inl h
    · exact .inr ⟨h.1, .inl h.2⟩
    · exact .inr ⟨rfl, .inr ⟨by rw [hvan, hfn], rfl⟩⟩
  · rintro (h | ⟨rfl, h | h⟩)
    · exact .inl (.inl h)
    · exact .inl (.inr ⟨rfl, h⟩)
    · exact .inr ⟨rfl, by omega⟩
end Go.Proofs.YtkmjjnjngcpjmaaGreatDoor
set_option linter.unusedVariables false
set_option maxRecDepth 4000
namespace Go.V
theorem RiseS.list {n : Nat} {f : Nat → Nat → Bool} {ds : List (Lq Int)} (h : RiseS n (fun i z => z ∈ rowF n (f i)) ds) : ds.map (·.2) = (List.range n).map fun i => rowF n (f i) := by
  obtain ⟨h1, h2⟩ := h
  apply List.ext_getElem?
  intro i
  rw [List.getElem?_map, List.getElem?_map]
  by_cases hi : i < n
  · have hd : ds[i]? = some ds[i] := List.getElem?_eq_getElem (by omega)
    rw [hd, List.getElem?_range hi]
    obtain ⟨r1, r2⟩ := h2 i _ hd
    exact congrArg some (rise_eq r1 (rowF_rise n (f i)) r2)
  · rw [List.getElem?_eq_none (by omega), List.getElem?_eq_none (by simp; omega)]; rfl
theorem RowsS.has {n B k : Nat} {P : Nat → Int → Prop} {h0 h1 : Hp} {w : World} (h : RowsS n P B k [V.has h1] w) (s : sub h0 h1) : RowsS n P B k [V.has h0] w := by
  obtain ⟨o, c, es, h2, h3, h4⟩ := h
  exact ⟨o, c, es, h2, h3, starL_under (L := [_, _, _]) (M := [V.has h1]) (N := [V.has h0]) (fun h hs => has_i (sub.trans s (starL_has hs))) h4⟩
theorem RowsS.frz {n B k : Nat} {P : Nat → Int → Prop} {L : List Asn} {w : World} (h : RowsS n P B k L w) : ∃ h0, starL L h0 ∧ sub h0 (hp w) ∧ RowsS n P B k [V.has h0] w := by
  obtain ⟨o, c, es, q1, q2, h1, h2, d1, s1, s2, ha, h3, h4, d2, s3, s4, hb, h5, h6, d3, s5, s6, hc, hl⟩ := h
  exact ⟨h6, hl, s6.trans (s4.trans s2), o, c, es, q1, q2, h1, h2, d1, s1, s2, ha, h3, h4, d2, s3, s4, hb, h5, h6, d3, s5, s6, hc, has_i (sub.refl _)⟩
theorem RowsS.sb {n B k : Nat} {P : Nat → Int → Prop} {h0 : Hp} {w : World} (h : RowsS n P B k [V.has h0] w) : sub h0 (hp w) := by
  obtain ⟨o, c, es, h1, h2, h3⟩ := h
  exact rdH 3 h3.l
section
variable {g : GramT} {ss : List SQ}
theorem right_len (hc : ClosedP g) (hA : AutI g ss) {i m : Nat} {q : SQ} {p : ProdT} (hq : ss[i]? = some q) (hp : g.prods[m]? = some p) (hy : ClM g q.1.2 ⟨(m : Int), 0⟩) : p.right.length ≤ 256 := by
  obtain ⟨j, r, _, e2, e3⟩ := walk_right hc hA hp p.right.length 0 (by omega) i q hq (by simpa using hy)
  obtain ⟨_, _, _, hP2, _, _⟩ := hc.sizes
  have hd := (bst_inv (g := g) (by omega) j).dots j _ (aut_at hA e2).1
  have hj := (List.getElem?_eq_some_iff.1 e2).1
  have h256 := hA.dn.2.1
  have := e3.dot (d := j) hd (Int.natCast_nonneg _)
  simp at this
  omega
theorem tr_prods (hc : ClosedP g) (hA : AutI g ss) {i : Nat} {t : TransT} (ht : (TrL g ss)[i]? = some t) {m : Nat} {p : ProdT} (hp : g.prods[m]? = some p) (hl : p.left = t.sym) : ∃ (i0 : Nat) (q : SQ), t.st = i0 ∧ ss[i0]? = some q ∧ ClM g q.1.2 ⟨(m : Int), 0⟩ := by
  obtain ⟨i0, q0, k0, e0, hi0, hq0, he0, hge, hte⟩ := TrN_mem (List.mem_of_getElem? ht)
  obtain ⟨_, _, j, r, _, _, hr, hrk, hne⟩ := aut_edge hc hA hq0 he0
  obtain ⟨x, hx⟩ := List.exists_mem_of_ne_nil _ hne
  obtain ⟨y, h1, h2, _⟩ := kern_mem.1 hx
  refine ⟨i0, q0, by rw [hte], hq0, .step h1 (by rw [h2]; omega) hp ?_⟩
  rw [hl, h2, hte]
theorem way_snoc (hc : ClosedP g) (hA : AutI g ss) {q : Int} {row : List Int} {k : Nat} {s : Int} (h0 : 0 ≤ q) (h1 : q < ss.length) (hs : row[k]? = some s) : toK ss ⟨wayN ss q (row.take k), s⟩ - 1 = wayN ss q (row.take (k + 1)) := by
  have hn : ∀ i s j, nxt ss i s = some j → 0 ≤ j ∧ j < ss.length := fun i s j h => nxt_pos hc hA h
  rw [take_succ_get hs, wayN_app hn _ _ _ h0 h1]
  unfold toK
  rcases wayN_rng hn (row.take k) q h0 h1 with e | ⟨e1, e2⟩
  · rw [e, if_pos (by show (-1 : Int) < 0; omega), if_pos rfl]; rfl
  · rw [if_neg (by show ¬wayN ss q (row.take k) < 0; omega), if_neg (by omega), wayN_cons]
    show (match nxt ss (wayN ss q (row.take k)).toNat s with | some j => j + 1 | none => 0) - 1 = _
    cases nxt ss (wayN ss q (row.take k)).toNat s with
    | none => rfl
    | some j => show j + 1 - 1 = j; omega
end
end Go.V
namespace Go.Proofs.YtkmjjnjngcpjmaaGreatDoor
open Go.V
variable {w : World} {L : List Asn} {g : GramT} {x : GA} {ss : List SQ} {nn : List Bool}
theorem trl_le (hc : ClosedP g) (hA : AutI g ss) : (TrL g ss).length ≤ 33280 := by
  have hk : ∀ q ∈ ss, q.2.2.length ≤ 130 := fun q hq => (hA.klen hc q hq).2
  have h1 := TrN_len (g := g) hk ss.length
  have h2 := hA.dn.2.1
  show (TrN g ss ss.length).length ≤ _
  omega
theorem y_Reads (hg : gR (hp w) g x) (hb : okG g) (ht : tabA (hp w)) : Run Tryz.prog n_relate_Reads [.agg ⟨x.cells⟩] w fun v w' => ∃ (ss : List SQ) (ask int f : Int) (nn : List Bool) (o : Option Addr) (c : Nat) (ds : List (Lq Int)), v = .tuple #[.slice o ds.length c, .int .i64 f] ∧ Res g ss ask int f ∧ (f = 0 → NnP g nn) ∧ ds.map (·.2) = RdsL g nn ss ∧ St w' (own 1 o ds.length c (ds.map slQ) :: sta (ds.map (owQ 1 iv)) :: all w) := by
  refine run_relate_Reads _ _ _ _ _ _ _ _ _ _ _ _ _ w _ (gbox hg fun k1 w1 gw hg B => ?_)
  refine ⟨_, _, _, _, _, _, _, _, _, _, _, _, _, B.row (sub.refl _), (y_reof hg hb (rdV.mono gw ht)).mono ?_⟩
  rintro _ w2 ⟨ss, ask, int, f, p, rfl, hR, g2, h0, hn⟩
  refine ⟨_, _, rfl, newC_i (St.all w2) fun k10 w3 h => st1_i h (by simp) fun w4 h => ?_⟩
  have g24 : Gr w2 w4 := h.gone1
  have r10 : rowH (hp w4) (aM k10) [.pointer p] := rdCel 0 h.l
  clear h
  have g14 := g2.trans g24
  refine br_intro (fun h1 => ?_) fun h1 => ?_
  · have h1 : f ≠ 0 := by simpa using h1
    have hz : ss = [] := by rcases hR with ⟨_, e, _⟩ | ⟨_, _, e, _⟩ | ⟨_, _, _, _, e⟩ <;> first | exact e | exact absurd e h1
    subst hz
    exact ⟨[], ask, int, f, [], none, 0, [], rfl, hR, fun h => absurd h h1, rfl, own_nil 1 ((St.flat (M := [])).2 (St.here (gw.trans g14)))⟩
  have h1 : f = 0 := by simpa using h1
  subst h1
  obtain ⟨hc, hA⟩ := hR.aut rfl
  obtain ⟨k, nn, rfl, hnn, hw⟩ := h0 rfl
  have hw := hw.mono g24
  have B4 : GB (hp w4) k1 x := ⟨fun s => B.c0 (sub.trans g14 s), fun s => B.c1 (sub.trans g14 s), fun s => B.c2 (sub.trans g14 s), fun s => B.c3 (sub.trans g14 s), fun s => B.c4 (sub.trans g14 s), fun s => B.row (sub.trans g14 s)⟩
  have hnl := trl_le hc hA
  refine ⟨_, r10.cell0 (sub.refl _), (y_laidE (P := fun i z => z ∈ rowF (TrL g ss).length (readB g nn ss i)) hw rfl hnl rfl fun k4 w0 hR0 => y_ReadsS1 hw hc hA hnn r10 B4 hg.t.1 rfl hnl hR0).mono ?_⟩
  rintro _ w5 ⟨o, c, ds, rfl, hds, h⟩
  have hdl := hds.1
  refine ⟨_, _, _, rfl, ss, ask, int, 0, nn, o, c, ds, by rw [hdl], hR, fun _ => hnn, hds.list, ?_⟩
  rw [hdl]
  exact St.on2 h (has_i (gw.trans g14))
theorem y_vanS1 {kw k1 : Nat} {s : Int} (hw : WrR (hp w) g ss nn kw) (hnn : NnP g nn) (hc : ClosedP g) (r1 : rowH (hp w) (aM k1) [.pointer (some (aM kw))]) (hs0 : 0 ≤ s) (hs1 : s < g.T + g.N) : Run Tryz.prog n_relate_world_vanishes_S1 [.int .i64 s, .pointer (some (aM k1))] w fun v w' => v = .bool (!vanB g nn s) ∧ Gr w w' := by
  obtain ⟨x', o, c, a, int, ol, cl, ka, kt, on, cn, kp, ma, mt, mp, rk, hg, hs, rT, hma, hN, hmt, hTo, rN, _, _⟩ := hw.ex
  obtain ⟨sT, sN, sP, _, _, _⟩ := hc.sizes
  have hTl : g.T = x'.tl := hg.t.1
  refine run_relate_world_vanishes_S1 _ _ w _ ?_
  intro w1 hd
  have g1 : Gr w w1 := Gr.drawn hd
  refine ⟨fun u => Gr w1 u, Gr.refl _, _, fun u s => r1.cell0 (sub.trans g1 s), _, _, _, fun u s => rk.cell0 (sub.trans g1 s), br_intro (fun h3 => ⟨?_, g1⟩) fun h3 => ?_⟩
  · have h3 : ¬(g.T : Int) ≤ s := by have := of_decide_eq_true h3; omega
    unfold vanB
    rw [decide_eq_false h3]; rfl
  have h3 : (g.T : Int) ≤ s := by have := of_decide_eq_false h3; omega
  obtain ⟨m, hm⟩ : ∃ m : Nat, s - (x'.tl : Int) = m := ⟨(s - (x'.tl : Int)).toNat, by omega⟩
  have hmN : m < g.N := by omega
  obtain ⟨bb, bad, hb1, hba, hb2⟩ := rN.get1 hmN
  refine ⟨_, fun u s => r1.cell0 (sub.trans g1 s), _, _, _, fun u s => rk.cell (sub.trans g1 s) (j := 11) rfl, _, fun u s => r1.cell0 (sub.trans g1 s), _, _, _, fun u s => rk.cell0 (sub.trans g1 s), ⟨by omega, by omega⟩, ?_⟩
  rw [hm]
  refine idx_i hba hmN ⟨bb, fun u s => hb2 _ (sub.trans g1 s), ?_, g1⟩
  unfold vanB
  rw [decide_eq_true h3, Bool.true_and, show s.toNat - g.T = m by omega]
  have hfn : fnB nn m = bb := fnB_get hb1
  rw [hfn]
theorem y_vanishes {kw l c : Nat} {a : Option Addr} {row : List Int} (hw : WrR (hp w) g ss nn kw) (hnn : NnP g nn) (hc : ClosedP g) (hr : rdS (hp w) row a l) (hl : l ≤ 4611686018427387904) (hrow : ∀ s ∈ row, 0 ≤ s ∧ s < g.T + g.N) : Run Tryz.prog n_relate_world_vanishes [.pointer (some (aM kw)), .slice a l c] w fun v w' => v = .bool (vanR g nn row) ∧ Gr w w' := by
  refine run_relate_world_vanishes _ _ _ _ w _ (newC_i (St.all w) fun k1 w1 h => ?_)
  have g1 : Gr w w1 := h.gone1
  have r1 : rowH (hp w1) (aM k1) [.pointer (some (aM kw))] := rdCel 0 h.l
  clear h
  have hr := hr.mono g1
  have hw := hw.mono g1
  refine run_slices_ContainsFunc_int_int_ _ _ _ _ _ w1 _ ?_
  have key : Run Tryz.prog n_slices_IndexFunc_int_int_ [.slice a l c, .func (.func n_relate_world_vanishes_S1) #[] #[.pointer (some (aM k1))]] w1 fun v w' => (∃ n : Int, v = .int .i64 n ∧ (decide (0 ≤ n) = !vanR g nn row)) ∧ Gr w1 w' := by
    refine run_slices_IndexFunc_int_int_ _ _ _ _ _ w1 _ ?_
    refine ⟨fun n w' => ∃ j : Nat, n = j ∧ j ≤ l ∧ vanR g nn (row.take j) = true ∧ Gr w1 w', fun n _ => l - n.toNat, ⟨0, rfl, by omega, rfl, Gr.refl _⟩, ?_⟩
    rintro _ n w2 ⟨j, rfl, hj, ha, g2⟩
    refine br_intro (fun h1 => ?_) fun h1 => ?_
    · have h1 : j < l := by have := of_decide_eq_true h1; omega
      obtain ⟨y, ad, hy1, hya, hy2⟩ := hr.get1 h1
      have hym := List.mem_of_getElem? hy1
      refine idx_i hya h1 ⟨y, hy2 _ g2, ifT_iff.2 ⟨rfl, (y_vanS1 (hw.mono g2) hnn hc (r1.mono g2) (hrow y hym).1 (hrow y hym).2).mono ?_⟩⟩
      rintro _ w3 ⟨rfl, g3⟩
      refine ⟨_, rfl, br_intro (fun h2 => ⟨⟨_, rfl, ?_⟩, g2.trans g3⟩) fun h2 => ⟨⟨by omega, by omega⟩, ⟨j + 1, by simp, by omega, ?_, g2.trans g3⟩, msr h1⟩⟩
      · have hv : vanB g nn y = false := by simpa using h2
        have : vanR g nn row = false := by
          unfold vanR
          refine Bool.eq_false_iff.2 fun h => ?_
          have := List.all_eq_true.1 h y hym
          rw [hv] at this; cases this
        rw [this]; simp
      · unfold vanR at ha ⊢
        rw [take_succ_get hy1, List.all_append, ha]
        simpa using h2
    · have h1 : j = l := by have := of_decide_eq_false h1; omega
      subst h1
      rw [List.take_of_length_le (by have := hr.1; omega)] at ha
      exact ⟨⟨_, rfl, by rw [ha]; rfl⟩, g2⟩
  refine key.mono ?_
  rintro _ w2 ⟨⟨n, rfl, hn⟩, g2⟩
  refine ⟨n, rfl, _, rfl, ?_, g1.trans g2⟩
  rw [hn, Bool.not_not]
theorem y_along {J : Nat → World → Prop} {H : Hp} {kw l c : Nat} {a : Option Addr} {row : List Int} {q : Int} {fg : FuncId} {fc : List Value} (hw : WrR H g ss nn kw) (hc : ClosedP g) (hA : AutI g ss) (hr : rdS H row a l) (hl : l ≤ 4611686018427387904) (h0 : 0 ≤ q) (h1 : q < ss.length) (hF : Fn fg = true)
    (hJ0 : J 0 w) (hJs : ∀ k u, J k u → sub H (hp u)) (hst : ∀ (k : Nat) (u : World) (s : Int), row[k]? = some s → J k u → Run Tryz.prog fg (.int .i64 (wayN ss q (row.take k)) :: .int .i64 (k : Int) :: fc) u fun v u' => v = .tuple (Array.mk []) ∧ J (k + 1) u') :
    Run Tryz.prog n_relate_world_along [.pointer (some (aM kw)), .int .i64 q, .slice a l c, .func (.func fg) (Array.mk []) (Array.mk fc)] w fun v w' => v = .int .i64 (wayN ss q row) ∧ J l w' := by
  obtain ⟨x', o, c', a', int, ol, cl, ka, kt, on, cn, kp, ma, mt, mp, rk, hg, hs, rT, hma, hN, hmt, hTo, rN, _, _⟩ := hw.ex
  have hrl := hr.1
  have h256 := hA.dn.2.1
  have hn : ∀ i s j, nxt ss i s = some j → 0 ≤ j ∧ j < ss.length := fun i s j h => nxt_pos hc hA h
  refine run_relate_world_along _ _ _ _ _ _ _ w _ ⟨fun st z w' => ∃ k : Nat, z = k ∧ k ≤ l ∧ st = wayN ss q (row.take k) ∧ J k w', fun _ z _ => l - z.toNat, ⟨0, rfl, Nat.zero_le _, rfl, hJ0⟩, ?_⟩
  rintro _ _ _ w1 ⟨k, rfl, hk, rfl, hJ⟩
  refine br_intro (fun h2 => ?_) fun h2 => ?_
  rotate_left
  · have h2 : k = l := by have := of_decide_eq_false h2; omega
    subst h2
    exact ⟨by rw [List.take_of_length_le (by omega)], hJ⟩
  have h2 : k < l := by have := of_decide_eq_true h2; omega
  have s1 := hJs _ _ hJ
  obtain ⟨y, ad, hy1, hya, hy2⟩ := hr.get1 h2
  refine idx_i hya h2 ⟨y, hy2 _ s1, ifT_iff.2 ⟨hF, (hst k w1 y hy1 hJ).mono ?_⟩⟩
  rintro _ w2 ⟨rfl, hJ⟩
  have s2 := hJs _ _ hJ
  refine ⟨rfl, _, rk.cell s2 (j := 10) rfl, (map_lookupHP (κ := TransT) hmt s2 tyOk (rfl : kdOfT Ty _ = .map _ _) key_Trans rfl rfl ⟨wayN ss q (row.take k), y⟩).mono ?_⟩
  rintro _ w3 ⟨rfl, rfl⟩
  rw [hTo.all]
  have e := way_snoc hc hA h0 h1 hy1
  have hw2 := wayN_rng hn (row.take (k + 1)) q h0 h1
  refine ⟨_, rfl, ⟨by omega, by omega⟩, ⟨by omega, by omega⟩, ⟨k + 1, by simp, h2, e, hJ⟩, msr h2⟩
end Go.Proofs.YtkmjjnjngcpjmaaGreatDoor
set_option linter.unusedVariables false
set_option maxRecDepth 4000
namespace Go.V
section
variable {g : GramT} {ss : List SQ} {nn : List Bool}
def IncP (g : GramT) (nn : List Bool) (ss : List SQ) (t : TransT) (p : ProdT) (k j : Nat) : Prop := ∃ (k' : Nat) (s : Int), k' < k ∧ p.right[k']? = some s ∧ numT g ss ⟨wayN ss t.st (p.right.take k'), s⟩ = (j : Int) + 1 ∧ vanR g nn (p.right.drop (k' + 1)) = true
def IncM (g : GramT) (nn : List Bool) (ss : List SQ) (t : TransT) (ms : List Nat) (j : Nat) : Prop := ∃ m ∈ ms, ∃ p, g.prods[m]? = some p ∧ IncP g nn ss t p p.right.length j
theorem IncP.succ {t : TransT} {p : ProdT} {k j : Nat} {s : Int} (hs : p.right[k]? = some s) : IncP g nn ss t p (k + 1) j ↔ IncP g nn ss t p k j ∨ (numT g ss ⟨wayN ss t.st (p.right.take k), s⟩ = (j : Int) + 1 ∧ vanR g nn (p.right.drop (k + 1)) = true) := by
  unfold IncP
  constructor
  · rintro ⟨k', s', h1, h2, h3⟩
    by_cases e : k' = k
    · subst e; rw [hs] at h2; cases h2; exact .inr h3
    · exact .inl ⟨k', s', by omega, h2, h3⟩
  · rintro (⟨k', s', h1, h2⟩ | h)
    · exact ⟨k', s', by omega, h2⟩
    · exact ⟨k, s, by omega, hs, h⟩
theorem IncM.snoc {t : TransT} {ms : List Nat} {m j : Nat} {p : ProdT} (hp : g.prods[m]? = some p) : IncM g nn ss t (ms ++ [m]) j ↔ IncM g nn ss t ms j ∨ IncP g nn ss t p p.right.length j := by
  unfold IncM
  constructor
  · rintro ⟨m', h1, p', h2, h3⟩
    rw [List.mem_append, List.mem_singleton] at h1
    rcases h1 with h1 | rfl
    · exact .inl ⟨m', h1, p', h2, h3⟩
    · rw [hp] at h2; cases h2; exact .inr h3
  · rintro (⟨m', h1, h⟩ | h)
    · exact ⟨m', by simp [h1], h⟩
    · exact ⟨m, by simp, p, hp, h⟩
theorem numT_iff (hA : AutI g ss) {t : TransT} {j : Nat} : numT g ss t = (j : Int) + 1 ↔ (TrL g ss)[j]? = some t := by
  constructor
  · intro h
    obtain ⟨u, hu, hu2⟩ := numT_pos hA (t := t) (by omega)
    have : u = j := by omega
    subst this; exact hu2
  · exact numT_at hA
theorem IncM.iff (hA : AutI g ss) {i j : Nat} {t : TransT} (ht : (TrL g ss)[i]? = some t) : IncM g nn ss t (byR g g.prods.length t.sym) j ↔ incB g nn ss j i = true := by
  unfold incB
  rw [ht]
  simp only [List.any_eq_true, List.mem_range, Bool.and_eq_true, decide_eq_true_eq]
  constructor
  · rintro ⟨m, hm, p, hp, k, s, hk, hs, hn, hv⟩
    obtain ⟨h0, p', hp', hl⟩ := byR_mem.1 hm
    rw [hp] at hp'; cases hp'
    refine ⟨m, (List.getElem?_eq_some_iff.1 hp).1, by omega, ?_⟩
    rw [hp]
    simp only [Bool.and_eq_true, decide_eq_true_eq, List.any_eq_true, List.mem_range]
    refine ⟨hl, k, hk, ?_, hv⟩
    rw [(numT_iff hA).1 hn, List.getD_eq_getElem?_getD, hs]; rfl
  · rintro ⟨m, hm, h0, h⟩
    cases hp : g.prods[m]? with
    | none => rw [hp] at h; cases h
    | some p =>
      rw [hp] at h
      simp only [Bool.and_eq_true, decide_eq_true_eq, List.any_eq_true, List.mem_range] at h
      obtain ⟨hl, k, hk, hn, hv⟩ := h
      have hs : p.right[k]? = some p.right[k] := List.getElem?_eq_getElem hk
      refine ⟨m, byR_mem.2 ⟨by omega, p, hp, hl⟩, p, hp, k, _, hk, hs, ?_, hv⟩
      rw [numT_iff hA, hn, List.getD_eq_getElem?_getD, hs]; rfl
def IncI (g : GramT) (nn : List Bool) (ss : List SQ) (i : Nat) (j : Nat) (z : Int) : Prop := ∃ (i' : Nat) (t : TransT), i' < i ∧ z = i' ∧ (TrL g ss)[i']? = some t ∧ IncM g nn ss t (byR g g.prods.length t.sym) j
theorem IncI.succ {i j : Nat} {z : Int} {t : TransT} (ht : (TrL g ss)[i]? = some t) : IncI g nn ss (i + 1) j z ↔ IncI g nn ss i j z ∨ (z = i ∧ IncM g nn ss t (byR g g.prods.length t.sym) j) := by
  unfold IncI
  constructor
  · rintro ⟨i', t', h1, h2, h3, h4⟩
    by_cases e : i' = i
    · subst e; rw [ht] at h3; cases h3; exact .inr ⟨h2, h4⟩
    · exact .inl ⟨i', t', by omega, h2, h3, h4⟩
  · rintro (⟨i', t', h1, h2⟩ | ⟨h1, h2⟩)
    · exact ⟨i', t', by omega, h2⟩
    · exact ⟨i, t, by omega, h1, ht, h2⟩
theorem IncI.all (hA : AutI g ss) {j : Nat} {z : Int} : IncI g nn ss (TrL g ss).length j z ↔ z ∈ rowF (TrL g ss).length (incB g nn ss j) := by
  rw [rowF_mem]
  constructor
  · rintro ⟨i, t, h1, h2, h3, h4⟩
    exact ⟨i, h2, h1, (IncM.iff hA h3).1 h4⟩
  · rintro ⟨i, h2, h1, h4⟩
    have h3 : (TrL g ss)[i]? = some (TrL g ss)[i] := List.getElem?_eq_getElem h1
    exact ⟨i, _, h1, h2, h3, (IncM.iff hA h3).2 h4⟩
end
end Go.V
namespace Go.Proofs.YtkmjjnjngcpjmaaGreatDoor
open Go.V
variable {w : World} {L : List Asn} {g : GramT} {x : GA} {ss : List SQ} {nn : List Bool}
set_option maxHeartbeats 1000000 in
theorem y_IncS11 {H : Hp} {n kw kc kr ke ki k4 i k rl rc B : Nat} {ra : Option Addr} {row : List Int} {st s : Int} {P : Nat → Int → Prop} (hw : WrR H g ss nn kw) (hnn : NnP g nn) (hc : ClosedP g) (hA : AutI g ss) (r1 : rowH H (aM kc) [.pointer (some (aM kw))]) (r2 : rowH H (aM kr) [.slice ra rl rc]) (r3 : rowH H (aM ke) [.func (.func n_relate_world_laid_S1) (Array.mk []) (Array.mk [.pointer (some (aM k4))])]) (r4 : rowH H (aM ki) [.int .i64 (i : Int)])
    (hr : rdS H row ra rl) (hlc : rl ≤ rc) (hl : rl ≤ 4611686018427387904) (hrow : ∀ s ∈ row, 0 ≤ s ∧ s < g.T + g.N) (hs : row[k]? = some s) (hn : (TrL g ss).length = n) (hn2 : n ≤ 33280) (hB : B ≤ 4611686018427) (hR : RowsS n P B k4 [has H] w) :
    Run Tryz.prog n_relate_Includes_S1_S1 [.int .i64 st, .int .i64 (k : Int), .pointer (some (aM kc)), .pointer (some (aM kr)), .pointer (some (aM ke)), .pointer (some (aM ki))] w fun v w' => v = .tuple (Array.mk []) ∧ ∃ B', B' ≤ B + 1 ∧ RowsS n (fun j z => P j z ∨ z = i ∧ numT g ss ⟨st, s⟩ = (j : Int) + 1 ∧ vanR g nn (row.drop (k + 1)) = true) B' k4 [has H] w' := by
  obtain ⟨x', o, c', a', int, ol, cl, ka, kt, on, cn, kp, ma, mt, mp, rk, hg, hss, rT, hma, hN, hmt, hTo, rN, _, _⟩ := hw.ex
  have hkl : k < rl := by have := hr.1; have := (List.getElem?_eq_some_iff.1 hs).1; omega
  have s0 := hR.sb
  refine run_relate_Includes_S1_S1 _ _ _ _ _ _ w _ ?_
  intro w1 hd
  have hR := hR.gr (Gr.drawn hd)
  have s1 := hR.sb
  obtain ⟨y, ad, hy1, hya, hy2⟩ := hr.get1 hkl
  rw [hs] at hy1; cases hy1
  refine ⟨fun u => Gr w1 u, Gr.refl _, _, fun u g => r1.cell0 (sub.trans s1 g), _, fun u g => rk.cell (sub.trans s1 g) (j := 9) rfl, _, _, _, fun u g => r2.cell0 (sub.trans s1 g), idx_i hya hkl ⟨s, fun u g => hy2 _ (sub.trans s1 g), (map_lookupHP (κ := TransT) hma s1 tyOk (rfl : kdOfT Ty _ = .map _ _) key_Trans rfl rfl ⟨st, s⟩).mono ?_⟩⟩
  rintro _ w6 ⟨rfl, e6⟩
  rw [hN.all]
  refine ⟨_, rfl, by rw [e6]; exact Gr.refl _, ?_⟩
  intro w7 hd2
  have hR := hR.gr (by rw [← e6]; exact Gr.drawn hd2 : Gr w1 w7)
  have s7 := hR.sb
  refine ⟨fun u => Gr w7 u, Gr.refl _, br_intro (fun h1 => ?_) fun h1 => ?_⟩
  rotate_left
  · refine ⟨rfl, B, by omega, hR.iff fun j z _ => ⟨.inl, fun h => h.elim id fun h => ?_⟩⟩
    have := of_decide_eq_false h1
    omega
  have h1 := of_decide_eq_true h1
  obtain ⟨u0, hu0, hu1⟩ := numT_pos hA h1
  have hul : u0 < n := by rw [← hn]; exact (List.getElem?_eq_some_iff.1 hu1).1
  have ek : (k : Int) + 1 = ((k + 1 : Nat) : Int) := by omega
  refine ⟨_, fun u g => r1.cell0 (sub.trans s7 g), _, _, _, fun u g => r2.cell0 (sub.trans s7 g), ⟨by omega, by omega⟩, ?_⟩
  rw [ek]
  refine slc_from (by omega) hlc ((y_vanishes (hw.mono s7) hnn hc ((hr.drop (k := k + 1) (m := rc) (by omega) hlc).mono s7) (by omega) fun s hs => hrow s (List.mem_of_mem_drop hs)).mono ?_)
  rintro _ w10 ⟨rfl, g10⟩
  have hR := hR.gr g10
  have s10 := hR.sb
  refine ⟨_, rfl, g10, br_intro (fun h2 => ?_) fun h2 => ?_⟩
  rotate_left
  · exact ⟨rfl, B, by omega, hR.iff fun j z _ => ⟨.inl, fun h => h.elim id fun h => by rw [h.2.2] at h2; cases h2⟩⟩
  have eu : numT g ss ⟨st, s⟩ - 1 = (u0 : Int) := by omega
  refine ⟨_, _, r3.cell0 s10, ⟨by omega, by omega⟩, _, r4.cell0 s10, ifT_iff.2 ⟨rfl, ?_⟩⟩
  rw [eu]
  refine (y_edge (a := u0) hR hul (by omega)).mono ?_
  rintro _ w11 ⟨rfl, hR⟩
  refine ⟨rfl, rfl, B + 1, by omega, hR.iff fun j z _ => ?_⟩
  constructor
  · rintro (h | ⟨rfl, rfl⟩)
    · exact .inl h
    · exact .inr ⟨rfl, hu0, h2⟩
  · rintro (h | ⟨rfl, h, _⟩)
    · exact .inl h
    · exact .inr ⟨by omega, rfl⟩
set_option maxHeartbeats 4000000 in
theorem y_IncS1 {n kw kc k1 k4 : Nat} {w0 : World} (hw : WrR (hp w) g ss nn kw) (hc : ClosedP g) (hA : AutI g ss) (hnn : NnP g nn) (hkc : rowH (hp w) (aM kc) [.pointer (some (aM kw))]) (B : GB (hp w) k1 x) (hgx : gR (hp w) g x) (hn : (TrL g ss).length = n) (hn2 : n ≤ 33280)
    (hR : RowsS n (fun _ _ => False) 0 k4 (all w) w0) :
    Run Tryz.prog n_relate_Includes_S1 [.func (.func n_relate_world_laid_S1) (Array.mk []) (Array.mk [.pointer (some (aM k4))]), .pointer (some (aM kc)), .pointer (some (aM k1))] w0 fun v w' => v = .tuple (Array.mk []) ∧ ∃ B, B ≤ 4611686018427387 ∧ RowsS n (fun j z => z ∈ rowF n (incB g nn ss j)) B k4 (all w) w' := by
  obtain ⟨x', o, c, a, int, ol, cl, ka, kt, on, cn, kp, ma, mt, mp, rk, hg, hs, rT, hma, hN, hmt, hTo, rN, hmp, hby⟩ := hw.ex
  rw [hn] at rk rT
  have hkl := hA.klen hc
  obtain ⟨sT, sN, sP, _, _, _⟩ := hc.sizes
  have h256 := hA.dn.2.1
  have pl := hgx.p.1
  refine run_relate_Includes_S1 _ _ _ _ w0 _ ?_
  obtain ⟨oo, co, es, q1, q2, h⟩ := hR
  refine newC_i h fun ke w1 h => ?_
  have hR : RowsS n (fun _ _ => False) 0 k4 (cel ke [.func (.func n_relate_world_laid_S1) (Array.mk []) (Array.mk [.pointer (some (aM k4))])] :: all w) w1 := ⟨oo, co, es, q1, q2, h.pick 4 [1, 2, 3, 0]⟩
  clear h q1 q2
  obtain ⟨he, hel, _, hR⟩ := hR.frz
  have rE : rowH he (aM ke) [.func (.func n_relate_world_laid_S1) (Array.mk []) (Array.mk [.pointer (some (aM k4))])] := rdCel 0 hel
  have swe : sub (hp w) he := rdH 1 hel
  have s1 := sub.trans swe hR.sb
  refine ⟨_, hkc.cell0 s1, _, _, _, rk.cell s1 (j := 8) rfl, fun z w' => ∃ (i B : Nat), z = i ∧ i ≤ n ∧ B ≤ i * 30000 ∧ RowsS n (IncI g nn ss i) B k4 [has he] w', fun z _ => n - z.toNat,
    ⟨0, 0, rfl, Nat.zero_le _, Nat.zero_le _, hR.iff fun j z _ => ⟨fun h => h.elim, fun h => by obtain ⟨_, _, h, _⟩ := h; omega⟩⟩, ?_⟩
  clear hR s1
  rintro _ _ w2 ⟨i, B0, rfl, hi, hB0, hR⟩
  have s2 := sub.trans swe hR.sb
  refine br_intro (fun h1 => ?_) fun h1 => ?_
  rotate_left
  · have h1 : i = n := by have := of_decide_eq_false h1; omega
    subst h1
    refine ⟨rfl, B0, by omega, (hR.has swe).iff fun j z _ => ?_⟩
    rw [← hn]; exact IncI.all hA
  have h1 : i < n := by have := of_decide_eq_true h1; omega
  obtain ⟨t, tad, ht, hta, rt⟩ := rdTr_get rT h1
  obtain ⟨i0, q0, k0, e0, hi0, hq0, he0, hge, hte⟩ := TrN_mem (List.mem_of_getElem? ht)
  have hst0 : 0 ≤ t.st := by rw [hte]; exact Int.natCast_nonneg _
  have hst1 : t.st < ss.length := by rw [hte]; show (i0 : Int) < _; omega
  obtain ⟨oo, co, es, q1, q2, h⟩ := hR
  refine idx_n hta h1 ⟨_, _, rt.at s2 rfl, newC_i h fun ki w3 h => newC_i h fun k5 w4 h => st1_i (h.pick 2 [1, 0]) (by simp) fun w5 h => stR_i (h.pick 2 [1, 0]) rfl (by simp [oneC]) fun w6 h => ?_⟩
  have h : St w6 (cel k5 [.int .i64 t.st, .int .i64 t.sym] :: cel ki [.int .i64 (i : Int)] :: cel k4 [.slice oo n co] :: own 1 oo n co (es.map slQ) :: sta (es.map (owQ 1 iv)) :: [has he]) := h
  have hR : RowsS n (IncI g nn ss i) B0 k4 (cel k5 [.int .i64 t.st, .int .i64 t.sym] :: cel ki [.int .i64 (i : Int)] :: [has he]) w6 := ⟨oo, co, es, q1, q2, h.pick 5 [2, 3, 4, 0, 1]⟩
  clear h q1 q2
  intro w7 hd
  have hR := hR.gr (Gr.drawn hd)
  obtain ⟨hi0, hil, _, hR⟩ := hR.frz
  have r5 : rowH hi0 (aM k5) [.int .i64 t.st, .int .i64 t.sym] := rdCel 0 hil
  have rI : rowH hi0 (aM ki) [.int .i64 (i : Int)] := rdCel 1 hil
  have sei : sub he hi0 := rdH 2 hil
  have s7 := hR.sb
  have sw7 := sub.trans swe (sub.trans sei s7)
  refine ⟨fun u => Gr w7 u, Gr.refl _, _, fun u g => hkc.cell0 (sub.trans sw7 g), _, fun u g => rk.cell (sub.trans sw7 g) (j := 12) rfl, _, fun u g => r5.cell (sub.trans s7 g) (j := 1) rfl, (map_lookupHP (κ := Int) hmp sw7 tyOk (rfl : kdOfT Ty _ = .map _ _) (KeyP.of_und und_int) rfl rfl t.sym).mono ?_⟩
  rintro _ w11 ⟨rfl, e11⟩
  obtain ⟨ba, bc, hb1, hb2⟩ := hby t.sym
  rw [hb1]
  generalize hbs : byR g g.prods.length t.sym = bys at *
  have hbl : bys.length ≤ 97 := by rw [← hbs]; exact Nat.le_trans (byR_len _ _ _) sP
  refine ⟨_, _, _, rfl, by rw [e11]; exact Gr.refl _, fun z w' => ∃ (m B : Nat), z = m ∧ m ≤ bys.length ∧ B ≤ B0 + m * 300 ∧ RowsS n (fun j z => IncI g nn ss i j z ∨ z = i ∧ IncM g nn ss t (bys.take m) j) B k4 [has hi0] w', fun z _ => bys.length - z.toNat,
    ⟨0, B0, rfl, Nat.zero_le _, by omega, by rw [e11]; exact hR.iff fun j z _ => ⟨.inl, fun h => h.elim id fun h => by obtain ⟨_, m, hm, _⟩ := h; simp at hm⟩⟩, ?_⟩
  clear hR e11 hd s7 sw7
  rintro _ _ w12 ⟨m, B1, rfl, hm, hB1, hR⟩
  have s12 := hR.sb
  have sw12 := sub.trans swe (sub.trans sei s12)
  refine br_intro (fun h2 => ?_) fun h2 => ?_
  rotate_left
  · have h2 : m = bys.length := by have := of_decide_eq_false h2; omega
    rw [h2, List.take_length] at hR
    refine ⟨⟨by omega, by omega⟩, ⟨i + 1, B1, by simp, h1, by omega, (hR.has sei).iff fun j z _ => ?_⟩, msr h1⟩
    rw [IncI.succ ht, hbs]
  have h2 : m < bys.length := by have := of_decide_eq_true h2; omega
  obtain ⟨pm, hpm⟩ : ∃ pm, bys[m]? = some pm := ⟨_, List.getElem?_eq_getElem h2⟩
  obtain ⟨_, p, hp, hpl⟩ := byR_mem.1 (hbs ▸ List.mem_of_getElem? hpm)
  have hpml : pm < x.pl := by have := (List.getElem?_eq_some_iff.1 hp).1; omega
  have hpr := List.mem_of_getElem? hp
  obtain ⟨i0', q', e1', hq', hcl'⟩ := tr_prods hc hA ht hp hpl
  have hrl := right_len hc hA hq' hp hcl'
  obtain ⟨bv, bad, hbv, hba, hbc⟩ := hb2.get1 h2
  rw [List.getElem?_map, hpm] at hbv
  cases hbv
  obtain ⟨p', pad, pvs, hp1, hpa, hp2, ra, rl, rc, rfl, hrc, hp3⟩ := hgx.p.get hpml
  rw [hp] at hp1; cases hp1
  have rl1 := hp3.1
  refine idx_i hba h2 ⟨_, hbc _ sw12, _, _, _, B.c4 sw12, idx_n hpa hpml ⟨_, _, _, hp2.cell sw12 (j := 1) rfl, ?_⟩⟩
  obtain ⟨oo, co, es, q1, q2, h⟩ := hR
  refine newC_i h fun kr w13 h => st1_i h (by simp) fun w14 h => ?_
  have hR : RowsS n (fun j z => IncI g nn ss i j z ∨ z = i ∧ IncM g nn ss t (bys.take m) j) B1 k4 (cel kr [.slice ra rl rc] :: [has hi0]) w14 := ⟨oo, co, es, q1, q2, h.pick 4 [1, 2, 3, 0]⟩
  clear h q1 q2
  obtain ⟨hm0, hml, _, hR⟩ := hR.frz
  have rR : rowH hm0 (aM kr) [.slice ra rl rc] := rdCel 0 hml
  have sim : sub hi0 hm0 := rdH 1 hml
  have s14 := hR.sb
  have swm := sub.trans swe (sub.trans sei sim)
  have sw14 := sub.trans swm s14
  have hrow : ∀ s ∈ p.right, 0 ≤ s ∧ s < g.T + g.N := fun s hs => by have := hc.sym hpr hs; omega
  refine ⟨_, hkc.cell0 sw14, _, r5.cell0 (sub.trans sim s14), _, _, _, rR.cell0 s14, (y_along (J := fun k u => ∃ B', B' ≤ B1 + k ∧ RowsS n (fun j z => (IncI g nn ss i j z ∨ z = i ∧ IncM g nn ss t (bys.take m) j) ∨ z = i ∧ IncP g nn ss t p k j) B' k4 [has hm0] u) (hw.mono swm) hc hA (hp3.mono swm) (by omega) hst0 hst1 rfl
    ⟨B1, by omega, hR.iff fun j z _ => ⟨.inl, fun h => h.elim id fun h => by obtain ⟨_, _, _, h, _⟩ := h; omega⟩⟩ (fun k u ⟨_, _, h⟩ => h.sb) fun k u s hs ⟨B', hB', h⟩ => ?_).mono ?_⟩
  · have hkl : k < p.right.length := (List.getElem?_eq_some_iff.1 hs).1
    refine (y_IncS11 (hw.mono swm) hnn hc hA (hkc.mono swm) rR (rE.mono (sub.trans sei sim)) (rI.mono sim) (hp3.mono swm) hrc (by omega) hrow hs hn hn2 (by omega) h).mono ?_
    rintro _ u' ⟨rfl, B2, hB2, h⟩
    refine ⟨rfl, B2, by omega, h.iff fun j z _ => ?_⟩
    rw [IncP.succ hs]
    constructor
    · rintro ((h | h) | h)
      · exact .inl h
      · exact .inr ⟨h.1, .inl h.2⟩
      · exact .inr ⟨h.1, .inr h.2⟩
    · rintro (h | ⟨h, h2 | h2⟩)
      · exact .inl (.inl h)
      · exact .inl (.inr ⟨h, h2⟩)
      · exact .inr ⟨h, h2⟩
  rintro _ w15 ⟨rfl, B', hB', hR⟩
  have htk : bys.take (m + 1) = bys.take m ++ [pm] := by rw [List.take_add_one, hpm]; rfl
  refine ⟨_, rfl, ⟨by omega, by omega⟩, ⟨m + 1, B', by simp, h2, by omega, (hR.has sim).iff fun j z _ => ?_⟩, msr h2⟩
  rw [htk, IncM.snoc hp, ← rl1]
  constructor
  · rintro ((h | h) | h)
    · exact .inl h
    · exact .inr ⟨h.1, .inl h.2⟩
    · exact .inr ⟨h.1, .inr h.2⟩
  · rintro (h | ⟨h, h2 | h2⟩)
    · exact .inl (.inl h)
    · exact .inl (.inr ⟨h, h2⟩)
    · exact .inr ⟨h, h2⟩
end Go.Proofs.YtkmjjnjngcpjmaaGreatDoor
set_option linter.unusedVariables false
set_option maxRecDepth 4000
namespace Go.V
section
variable {κ α : Type} [DecidableEq κ] {sz : Nat} {f : List α → List Value} {s t : κ}
theorem mO_out {q : Lq α} : ∀ {ps : List (κ × Lq α)}, (ps.map Prod.fst).Nodup → getQ s ps = some q → (mO sz f ps).Perm (owQ sz f q :: mO sz f (ps.filter fun e => decide (e.1 ≠ s)))
  | [], _, h => by cases h
  | (a, u) :: m, hn, h => by
    rw [List.map_cons, List.nodup_cons] at hn
    unfold getQ at h
    by_cases e : s = a
    · subst e
      rw [if_pos rfl] at h
      cases h
      have e2 : ((s, q) :: m).filter (fun e => decide (e.1 ≠ s)) = m := by
        rw [List.filter_cons, if_neg (by simp)]
        refine List.filter_eq_self.2 fun x hx => ?_
        simp only [decide_eq_true_eq]
        exact fun h => hn.1 (List.mem_map.2 ⟨x, hx, h⟩)
      rw [e2]; exact .refl _
    · rw [if_neg e] at h
      have e2 : ((a, u) :: m).filter (fun e => decide (e.1 ≠ s)) = (a, u) :: m.filter fun e => decide (e.1 ≠ s) := by
        rw [List.filter_cons, if_pos (by simpa using Ne.symm e)]
      rw [e2]
      exact (List.Perm.cons _ (mO_out hn.2 h)).trans (.swap _ _ _)
theorem getQ_filter (h : t ≠ s) (ps : List (κ × Lq α)) : getQ t (ps.filter fun e => decide (e.1 ≠ s)) = getQ t ps := by
  induction ps with
  | nil => rfl
  | cons x m ih =>
    obtain ⟨a, u⟩ := x
    rw [List.filter_cons]
    by_cases e : a = s
    · subst e
      have e2 : getQ t ((a, u) :: m) = getQ t m := by show (if t = a then some u else getQ t m) = _; rw [if_neg h]
      rw [if_neg (by simp), ih, e2]
    · rw [if_pos (by simpa using e)]
      show (if t = a then some u else getQ t (m.filter fun e => decide (e.1 ≠ s))) = (if t = a then some u else getQ t m)
      rw [ih]
end
section
variable {g : GramT} {ss : List SQ}
theorem rowF_succ (i : Nat) (f : Nat → Bool) : rowF (i + 1) f = rowF i f ++ if f i = true then [(i : Int)] else [] := by
  unfold rowF
  rw [List.range_succ, List.filter_append, List.map_append]
  congr 1
  by_cases h : f i = true <;> simp [h]
theorem backB_iff {q m i : Nat} {t : TransT} (ht : (TrL g ss)[i]? = some t) : backB g ss q m i = true ↔ m ∈ byR g g.prods.length t.sym ∧ ∃ p, g.prods[m]? = some p ∧ wayN ss t.st p.right = q := by
  rw [byR_mem]
  unfold backB
  rw [ht]
  cases hp : g.prods[m]? with
  | none => simp
  | some p =>
    simp only [Bool.and_eq_true, decide_eq_true_eq, Option.some.injEq]
    constructor
    · rintro ⟨⟨h1, h2⟩, h3⟩
      exact ⟨⟨by omega, p, rfl, h2⟩, p, rfl, h3⟩
    · rintro ⟨⟨h1, p', rfl, h2⟩, p'', rfl, h3⟩
      exact ⟨⟨by omega, h2⟩, h3⟩
def BkI (g : GramT) (ss : List SQ) (ps : List (TransT × Lq Int)) (i : Nat) (t : TransT) (ms : List Nat) : Prop := (ps.map Prod.fst).Nodup ∧ (∀ k, (getK k ps).length ≤ i + 1) ∧ ∀ q m : Nat, getK ⟨(q : Int), (m : Int)⟩ ps = rowF i (backB g ss q m) ++ if m ∈ ms ∧ (∃ p, g.prods[m]? = some p ∧ wayN ss t.st p.right = q) then [(i : Int)] else []
abbrev BkQ := (Int × Int) × Lq Int
def bkE (b : BkQ) : List Value := [.int .i64 b.1.1, .int .i64 b.1.2, slQ b.2]
def bkV (bs : List BkQ) : List Value := bs.flatMap bkE
def bkO (bs : List BkQ) : List Asn := bs.map fun b => owQ 1 iv b.2
def toBk (b : BkQ) : BackT := ⟨b.1.1, b.1.2, b.2.2⟩
theorem bkV_len (bs : List BkQ) : (bkV bs).length = bs.length * 3 := fm_len (f := bkE) (n := 3) (fun _ => rfl) bs
theorem bkV_app (xs ys : List BkQ) : bkV (xs ++ ys) = bkV xs ++ bkV ys := List.flatMap_append
theorem bkRow_len (g : GramT) (ss : List SQ) (q : Nat) : ∀ j, (bkRow g ss q j).length ≤ j
  | 0 => by simp [bkRow]
  | j + 1 => by
    have := bkRow_len g ss q j
    rw [bkRow_succ, List.length_append]
    have h2 : (bkAt g ss q j).length ≤ 1 := by unfold bkAt; split <;> simp
    omega
def BksN (g : GramT) (ss : List SQ) (q : Nat) : List BackT := (List.range q).flatMap fun q => bkRow g ss q g.prods.length
theorem BksN_succ (g : GramT) (ss : List SQ) (q : Nat) : BksN g ss (q + 1) = BksN g ss q ++ bkRow g ss q g.prods.length := by unfold BksN; rw [List.range_succ, List.flatMap_append]; simp
theorem BksN_len (g : GramT) (ss : List SQ) : ∀ q, (BksN g ss q).length ≤ q * g.prods.length
  | 0 => by simp [BksN]
  | q + 1 => by
    have := BksN_len g ss q
    have := bkRow_len g ss q g.prods.length
    rw [BksN_succ, List.length_append, Nat.succ_mul]
    omega
end
end Go.V
namespace Go.Proofs.YtkmjjnjngcpjmaaGreatDoor
open Go.V
variable {w : World} {L : List Asn} {g : GramT} {x : GA} {ss : List SQ} {nn : List Bool}
theorem y_Includes (hg : gR (hp w) g x) (hb : okG g) (ht : tabA (hp w)) : Run Tryz.prog n_relate_Includes [.agg ⟨x.cells⟩] w fun v w' => ∃ (ss : List SQ) (ask int f : Int) (nn : List Bool) (o : Option Addr) (c : Nat) (ds : List (Lq Int)), v = .tuple #[.slice o ds.length c, .int .i64 f] ∧ Res g ss ask int f ∧ (f = 0 → NnP g nn) ∧ ds.map (·.2) = IncL g nn ss ∧ St w' (own 1 o ds.length c (ds.map slQ) :: sta (ds.map (owQ 1 iv)) :: all w) := by
  refine run_relate_Includes _ _ _ _ _ _ _ _ _ _ _ _ _ w _ (gbox hg fun k1 w1 gw hg B => ?_)
  refine ⟨_, _, _, _, _, _, _, _, _, _, _, _, _, B.row (sub.refl _), (y_reof hg hb (rdV.mono gw ht)).mono ?_⟩
  rintro _ w2 ⟨ss, ask, int, f, p, rfl, hR, g2, h0, hn⟩
  refine ⟨_, _, rfl, newC_i (St.all w2) fun k10 w3 h => st1_i h (by simp) fun w4 h => ?_⟩
  have g24 : Gr w2 w4 := h.gone1
  have r10 : rowH (hp w4) (aM k10) [.pointer p] := rdCel 0 h.l
  clear h
  have g14 := g2.trans g24
  refine br_intro (fun h1 => ?_) fun h1 => ?_
  · have h1 : f ≠ 0 := by simpa using h1
    have hz : ss = [] := by rcases hR with ⟨_, e, _⟩ | ⟨_, _, e, _⟩ | ⟨_, _, _, _, e⟩ <;> first | exact e | exact absurd e h1
    subst hz
    exact ⟨[], ask, int, f, [], none, 0, [], rfl, hR, fun h => absurd h h1, rfl, own_nil 1 ((St.flat (M := [])).2 (St.here (gw.trans g14)))⟩
  have h1 : f = 0 := by simpa using h1
  subst h1
  obtain ⟨hc, hA⟩ := hR.aut rfl
  obtain ⟨k, nn, rfl, hnn, hw⟩ := h0 rfl
  have hw := hw.mono g24
  have B4 : GB (hp w4) k1 x := ⟨fun s => B.c0 (sub.trans g14 s), fun s => B.c1 (sub.trans g14 s), fun s => B.c2 (sub.trans g14 s), fun s => B.c3 (sub.trans g14 s), fun s => B.c4 (sub.trans g14 s), fun s => B.row (sub.trans g14 s)⟩
  have hnl := trl_le hc hA
  refine ⟨_, r10.cell0 (sub.refl _), (y_laidE (P := fun i z => z ∈ rowF (TrL g ss).length (incB g nn ss i)) hw rfl hnl rfl fun k4 w0 hR0 => y_IncS1 hw hc hA hnn r10 B4 (hg.mono g14) rfl hnl hR0).mono ?_⟩
  rintro _ w5 ⟨o, c, ds, rfl, hds, h⟩
  have hdl := hds.1
  refine ⟨_, _, _, rfl, ss, ask, int, 0, nn, o, c, ds, by rw [hdl], hR, fun _ => hnn, hds.list, ?_⟩
  rw [hdl]
  exact St.on2 h (has_i (gw.trans g14))
set_option maxHeartbeats 4000000 in
theorem y_Lookback (hg : gR (hp w) g x) (hb : okG g) (htb : tabA (hp w)) : Run Tryz.prog n_relate_Lookback [.agg ⟨x.cells⟩] w fun v w' => ∃ (ss : List SQ) (ask int f : Int) (o : Option Addr) (c : Nat) (ds : List BkQ), v = .tuple #[.slice o ds.length c, .int .i64 f] ∧ Res g ss ask int f ∧ ds.map toBk = BksL g ss ∧ St w' (own 3 o ds.length c (bkV ds) :: sta (bkO ds) :: all w) := by
  refine run_relate_Lookback _ _ _ _ _ _ _ _ _ _ _ _ _ w _ (gbox hg fun k1 w1 gw hg B => ?_)
  refine ⟨_, _, _, _, _, _, _, _, _, _, _, _, _, B.row (sub.refl _), (y_reof hg hb (rdV.mono gw htb)).mono ?_⟩
  rintro _ w2 ⟨ss, ask, int, f, p, rfl, hR, g12, h0, hn⟩
  refine ⟨_, _, rfl, br_intro (fun h1 => ?_) fun h1 => ?_⟩
  · have h1 : f ≠ 0 := by simpa using h1
    have hz : ss = [] := by rcases hR with ⟨_, e, _⟩ | ⟨_, _, e, _⟩ | ⟨_, _, _, _, e⟩ <;> first | exact e | exact absurd e h1
    subst hz
    exact ⟨[], ask, int, f, none, 0, [], rfl, hR, rfl, own_nil 3 ((St.flat (M := [])).2 (St.here (gw.trans g12)))⟩
  have h1 : f = 0 := by simpa using h1
  subst h1
  obtain ⟨hc, hA⟩ := hR.aut rfl
  obtain ⟨kw, nn, rfl, hnn, hw⟩ := h0 rfl
  have hnl := trl_le hc hA
  obtain ⟨x', o, c, a, int', ol, cl, ka, kt, on, cn, kp, ma, mt, mp, rk, hg', hs, rT, hma, hN, hmt, hTo, rN, hmp, hby⟩ := hw.ex
  have hkl := hA.klen hc
  obtain ⟨sT, sN, sP, _, _, _⟩ := hc.sizes
  have h256 := hA.dn.2.1
  have pl := hg.p.1
  have hgx := hg.mono g12
  refine new_i (St.all w2) fun kb w3 h => ?_
  have h := mapA_new (κ := TransT) h
  have g23 : Gr w2 w3 := rdH 1 h.l
  refine ⟨_, _, _, rk.cell g23 (j := 8) rfl, fun z w' => ∃ (i : Nat) (ps : List (TransT × Lq Int)), z = i ∧ i ≤ (TrL g ss).length ∧ BkI g ss ps i ⟨0, 0⟩ [] ∧ St w' (mapA kb (mV ps) :: sta (mO 1 iv ps) :: all w2), fun z _ => (TrL g ss).length - z.toNat,
    ⟨0, [], rfl, Nat.zero_le _, ⟨by simp, fun k => Nat.zero_le _, fun q m => by simp [getK, getQ, rowF]⟩, ?_⟩, ?_⟩
  · exact ((St.flat (M := [])).2 h).swap
  clear h
  rintro _ _ w4 ⟨i, ps, rfl, hi, hBk, h⟩
  have s4 : sub (hp w2) (hp w4) := rdH 2 h.l
  refine br_intro (fun h1 => ?_) fun h1 => ?_
  · have h1 : i < (TrL g ss).length := by have := of_decide_eq_true h1; omega
    obtain ⟨t, tad, ht, hta, rt⟩ := rdTr_get rT h1
    obtain ⟨i0, q0, k0, e0, hi0, hq0, he0, hge, hte⟩ := TrN_mem (List.mem_of_getElem? ht)
    have hst0 : 0 ≤ t.st := by rw [hte]; exact Int.natCast_nonneg _
    have hst1 : t.st < ss.length := by rw [hte]; show (i0 : Int) < _; omega
    refine idx_n hta h1 ⟨_, _, rt.at s4 rfl, newC_i h fun k13 w5 h => stR_i h rfl (by simp [oneC]) fun w6 h => ?_⟩
    intro w7 hd
    have h := h.eq (drawn_hp hd)
    have s7 : sub (hp w2) (hp w7) := rdH 3 h.l
    have r13 : rowH (hp w7) (aM k13) [.int .i64 t.st, .int .i64 t.sym] := rdCel 0 h.l
    refine ⟨fun u => Gr w7 u, Gr.refl _, _, fun u g => rk.cell (sub.trans s7 g) (j := 12) rfl, _, fun u g => r13.cell g (j := 1) rfl, (map_lookupHP (κ := Int) hmp s7 tyOk (rfl : kdOfT Ty _ = .map _ _) (KeyP.of_und und_int) rfl rfl t.sym).mono ?_⟩
    rintro _ w10 ⟨rfl, e10⟩
    obtain ⟨ba, bc, hb1, hb2⟩ := hby t.sym
    rw [hb1]
    have hnd : (byR g g.prods.length t.sym).Nodup := by
      unfold byR byN
      exact (List.nodup_range.filter _).filter _
    have hiff : ∀ m, m ∈ byR g g.prods.length t.sym ↔ 0 < m ∧ ∃ p, g.prods[m]? = some p ∧ p.left = t.sym := fun m => byR_mem
    have hbb : ∀ q m : Nat, backB g ss q m i = true ↔ m ∈ byR g g.prods.length t.sym ∧ ∃ p, g.prods[m]? = some p ∧ wayN ss t.st p.right = q := fun q m => backB_iff ht
    generalize hbs : byR g g.prods.length t.sym = bys at *
    have hbl : bys.length ≤ 97 := by rw [← hbs]; exact Nat.le_trans (byR_len _ _ _) sP
    refine ⟨_, _, _, rfl, by rw [e10]; exact Gr.refl _, fun z w' => ∃ (M : Nat) (ps : List (TransT × Lq Int)), z = M ∧ M ≤ bys.length ∧ BkI g ss ps i t (bys.take M) ∧ St w' (mapA kb (mV ps) :: sta (mO 1 iv ps) :: cel k13 [.int .i64 t.st, .int .i64 t.sym] :: all w2), fun z _ => bys.length - z.toNat,
      ⟨0, ps, rfl, Nat.zero_le _, ⟨hBk.1, hBk.2.1, fun q m => by rw [hBk.2.2 q m]; simp⟩, by rw [e10]; exact h.pick 3 [1, 2, 0]⟩, ?_⟩
    clear h hBk e10 hd r13 s7
    rintro _ _ w11 ⟨M, ps, rfl, hM, hBk, h⟩
    have s11 : sub (hp w2) (hp w11) := rdH 3 h.l
    refine br_intro (fun h2 => ?_) fun h2 => ?_
    rotate_left
    · have h2 : M = bys.length := by have := of_decide_eq_false h2; omega
      rw [h2, List.take_length] at hBk
      refine ⟨⟨by omega, by omega⟩, ⟨i + 1, ps, by simp, h1, ⟨hBk.1, fun k => by have := hBk.2.1 k; omega, fun q m => ?_⟩, h.pick 3 [0, 1]⟩, msr h1⟩
      rw [hBk.2.2 q m, rowF_succ]
      by_cases e : backB g ss q m i = true
      · rw [if_pos e, if_pos ((hbb q m).1 e)]; simp
      · rw [if_neg e, if_neg (fun h => e ((hbb q m).2 h))]; simp
    have h2 : M < bys.length := by have := of_decide_eq_true h2; omega
    obtain ⟨pm, hpm⟩ : ∃ pm, bys[M]? = some pm := ⟨_, List.getElem?_eq_getElem h2⟩
    obtain ⟨_, p, hpq, hpl⟩ := (hiff pm).1 (List.mem_of_getElem? hpm)
    have hpml : pm < x.pl := by have := (List.getElem?_eq_some_iff.1 hpq).1; omega
    obtain ⟨i0', q', e1', hq', hcl'⟩ := tr_prods hc hA ht hpq hpl
    have hrl := right_len hc hA hq' hpq hcl'
    obtain ⟨bv, bad, hbv, hba, hbc⟩ := hb2.get1 h2
    rw [List.getElem?_map, hpm] at hbv
    cases hbv
    obtain ⟨p', pad, pvs, hp1, hpa, hp2, ra, rl, rc, rfl, hrc, hp3⟩ := hgx.p.get hpml
    rw [hpq] at hp1; cases hp1
    have rl1 := hp3.1
    obtain ⟨jw, _, hjw, _, _⟩ := walk_right hc hA hpq p.right.length 0 (by omega) i0' q' hq' (by simpa using hcl')
    rw [List.drop_zero, ← e1'] at hjw
    refine idx_i hba h2 ⟨_, hbc _ s11, ?_⟩
    intro w12 hd
    have h := h.eq (drawn_hp hd)
    have s12 : sub (hp w2) (hp w12) := rdH 3 h.l
    have r13 : rowH (hp w12) (aM k13) [.int .i64 t.st, .int .i64 t.sym] := rdCel 2 h.l
    refine ⟨fun u => Gr w12 u, Gr.refl _, _, fun u g => r13.cell0 g, _, _, _, fun u g => B.c4 (sub.trans g12 (sub.trans s12 g)), idx_n hpa hpml ⟨_, _, _, fun u g => hp2.cell (sub.trans s12 g) (j := 1) rfl, (y_along (J := fun k u => hp u = hp w12) (H := hp w2) hw hc hA hp3 (by omega) hst0 hst1 rfl rfl (fun k u e => by rw [e]; exact s12) fun k u s hs e => ?_).mono ?_⟩⟩
    · exact run_relate_Lookback_S1 _ _ _ _ ⟨rfl, e⟩
    rintro _ w16 ⟨rfl, e16⟩
    have h := h.eq e16
    refine ⟨_, rfl, Gr.of_eq e16, newC_i h fun k20 w17 h => stR_i h rfl (by simp [oneC]) fun w18 h => ?_⟩
    refine ⟨_, _, (rdCel 0 h.l).at (sub.refl _) rfl, newC_i h fun k21 w19 h => ?_⟩
    refine (map_take (κ := TransT) tyOk (rfl : kdOfT Ty _ = .map _ _) key_Trans rfl rfl (h.pick 3 [2, 0, 1]) ⟨wayN ss t.st p.right, (pm : Int)⟩).mono ?_
    rintro _ w20 ⟨n, rfl, h⟩
    obtain ⟨q, M', e1, e2, hq, back⟩ := mS_take rfl (h.pick 4 [3, 0, 1, 2]) ⟨wayN ss t.st p.right, (pm : Int)⟩
    have hql : q.2.length ≤ i + 1 := by rw [e2]; exact hBk.2.1 _
    rw [e1] at hq ⊢
    refine ⟨_, _, _, _, rfl, ?_⟩
    refine (app_one (us := iv q.2) tyOk (rfl : kdOfT Ty _ = .slice _) (rfl : kdOfT Ty _ = .slice _) rfl rfl rfl (hq.pick 5 [3, 0, 1, 2, 4]) rfl (by simp [oneC]) (by show (q.2.length + 1) * 8 ≤ _; omega) (by omega)).mono ?_
    rintro _ w21 ⟨o', c', rfl, h⟩
    refine ⟨_, _, _, rfl, (map_back (h.pick 5 [3, 0, 2]) _).mono ?_⟩
    rintro _ w22 h
    rw [aput_aput] at h
    have h := mS_put back (q.2 ++ [(i : Int)]) (by simp) (by simp [iv]) h
    have htk : bys.take (M + 1) = bys.take M ++ [pm] := by rw [List.take_add_one, hpm]; rfl
    have hnot : pm ∉ bys.take M := fun hm => by
      obtain ⟨M2, hM2⟩ := List.getElem?_of_mem hm
      have hM3 := (List.getElem?_eq_some_iff.1 hM2).1
      rw [List.length_take] at hM3
      rw [List.getElem?_take, if_pos (by omega)] at hM2
      have := (List.getElem?_inj (i := M2) (j := M) (by omega) hnd).1 (by rw [hM2, hpm])
      omega
    refine ⟨⟨by omega, by omega⟩, ⟨M + 1, putK ⟨wayN ss t.st p.right, (pm : Int)⟩ ((o', c'), q.2 ++ [(i : Int)]) ps, by simp, h2, ⟨putK_nd _ hBk.1, fun k => ?_, fun q2 m => ?_⟩, ?_⟩, msr h2⟩
    · rw [getK_put]
      by_cases e : k = (⟨wayN ss t.st p.right, (pm : Int)⟩ : TransT)
      · rw [if_pos e]
        show (q.2 ++ [(i : Int)]).length ≤ i + 1
        have h5 : q.2.length ≤ i := by
          rw [e2]
          rw [hjw, hBk.2.2 jw pm, if_neg (fun h => hnot h.1), List.append_nil]
          exact rowF_len _ _
        rw [List.length_append, List.length_singleton]; omega
      · rw [if_neg e]; exact hBk.2.1 k
    · rw [getK_put, htk]
      by_cases e : (⟨(q2 : Int), (m : Int)⟩ : TransT) = ⟨wayN ss t.st p.right, (pm : Int)⟩
      · rw [if_pos e]
        have e3 : (q2 : Int) = wayN ss t.st p.right := congrArg TransT.st e
        have e4 : m = pm := by have : (m : Int) = pm := congrArg TransT.sym e; omega
        subst e4
        show q.2 ++ [(i : Int)] = _
        rw [e2, ← e, hBk.2.2 q2 m, if_neg (fun h => hnot h.1), List.append_nil, if_pos ⟨by simp, p, hpq, e3.symm⟩]
      · rw [if_neg e, hBk.2.2 q2 m]
        congr 1
        by_cases h5 : m ∈ bys.take M ∧ ∃ p, g.prods[m]? = some p ∧ wayN ss t.st p.right = q2
        · rw [if_pos h5, if_pos ⟨by simp [h5.1], h5.2⟩]
        · rw [if_neg h5, if_neg ?_]
          rintro ⟨h6, p2, h7, h8⟩
          rw [List.mem_append, List.mem_singleton] at h6
          rcases h6 with h6 | rfl
          · exact h5 ⟨h6, p2, h7, h8⟩
          · rw [hpq] at h7; cases h7
            exact e (by rw [← h8])
    · exact h
  have h1 : i = (TrL g ss).length := by have := of_decide_eq_false h1; omega
  subst h1
  have hget : ∀ q m : Nat, getK ⟨(q : Int), (m : Int)⟩ ps = rowF (TrL g ss).length (backB g ss q m) := fun q m => by rw [hBk.2.2 q m]; simp
  have hkn := hBk.1
  clear hBk
  have hP2 : ∀ q, q ≤ ss.length → q * g.prods.length ≤ 256 * 97 := fun q hq => Nat.mul_le_mul (by omega) sP
  refine ⟨_, _, _, rk.cell s4 (j := 5) rfl, fun o n c z w' => ∃ (q : Nat) (bs : List BkQ) (rs : List (TransT × Lq Int)), z = q ∧ q ≤ ss.length ∧ n = bs.length ∧ bs.map toBk = BksN g ss q ∧ (rs.map Prod.fst).Nodup ∧ (∀ k : TransT, (q : Int) ≤ k.st → getQ k rs = getQ k ps) ∧ St w' (own 3 o n c (bkV bs) :: sta (bkO bs) :: mapA kb (mV ps) :: sta (mO 1 iv rs) :: all w2), fun _ _ _ z _ => ss.length - z.toNat,
    ⟨0, [], ps, rfl, Nat.zero_le _, rfl, rfl, hkn, fun _ _ => rfl, own_nil 3 ((St.flat (M := [])).2 h)⟩, ?_⟩
  clear h s4
  rintro _ o14 _ c14 _ w23 ⟨q, bs, rs, rfl, hq, rfl, hbs, hrn, hrs, h⟩
  have s23 : sub (hp w2) (hp w23) := rdH 4 h.l
  have hbl : bs.length ≤ 24832 := by
    have h1 := BksN_len g ss q
    rw [← hbs, List.length_map] at h1
    have := hP2 q hq
    omega
  refine br_intro (fun h1 => ?_) fun h1 => ?_
  rotate_left
  · have h1 : q = ss.length := by have := of_decide_eq_false h1; omega
    subst h1
    refine run_slices_Clip_api_Back_api_Back_ _ _ _ w23 _ (slc_clip (own_le h) ⟨_, _, _, rfl, ss, ask, int, 0, _, _, bs, rfl, hR, hbs, ?_⟩)
    have h := own_clip h
    exact St.on2 (h.pick 5 [0, 1, 4]) (has_i (gw.trans g12))
  have h1 : q < ss.length := by have := of_decide_eq_true h1; omega
  refine ⟨_, _, _, B.c4 (sub.trans g12 s23), fun o n c z w' => ∃ (m : Nat) (bs : List BkQ) (rs : List (TransT × Lq Int)), z = m ∧ m ≤ x.pl ∧ n = bs.length ∧ bs.map toBk = BksN g ss q ++ bkRow g ss q m ∧ (rs.map Prod.fst).Nodup ∧ (∀ k : TransT, ((q : Int) < k.st ∨ (k.st = q ∧ (m : Int) ≤ k.sym)) → getQ k rs = getQ k ps) ∧ St w' (own 3 o n c (bkV bs) :: sta (bkO bs) :: mapA kb (mV ps) :: sta (mO 1 iv rs) :: all w2), fun _ _ _ z _ => x.pl - z.toNat,
    ⟨0, bs, rs, rfl, Nat.zero_le _, rfl, by rw [hbs]; simp [bkRow], hrn, fun k hk => hrs k (by rcases hk with hk | hk <;> omega), h⟩, ?_⟩
  clear h s23 hbs hrn hrs hbl
  rintro _ o16 _ c16 _ w24 ⟨m, bs, rs, rfl, hm, rfl, hbs, hrn, hrs, h⟩
  have hbl : bs.length ≤ 25000 := by
    have h1 := BksN_len g ss q
    have h2 := bkRow_len g ss q m
    have h3 := congrArg List.length hbs
    rw [List.length_map, List.length_append] at h3
    have := hP2 q hq
    omega
  refine br_intro (fun h2 => ?_) fun h2 => ?_
  rotate_left
  · have h2 : m = x.pl := by have := of_decide_eq_false h2; omega
    subst h2
    refine ⟨⟨by omega, by omega⟩, ⟨q + 1, bs, rs, by simp, h1, rfl, ?_, hrn, fun k hk => hrs k (.inl (by omega)), h⟩, msr h1⟩
    rw [hbs, BksN_succ, pl]
  have h2 : m < x.pl := by have := of_decide_eq_true h2; omega
  have hgm := hget q m
  refine (map_lookupP (κ := TransT) tyOk (rfl : kdOfT Ty _ = .map _ _) key_Trans rfl rfl (h.pick 3 [2]) ⟨(q : Int), (m : Int)⟩).mono ?_
  rintro _ w25 ⟨rfl, e25⟩
  rw [assoc_mV]
  have hrow : bkRow g ss q (m + 1) = bkRow g ss q m ++ bkAt g ss q m := bkRow_succ g ss q m
  have hskip : rowF (TrL g ss).length (backB g ss q m) = [] → inI ((m : Int) + 1) ∧ (∃ (m' : Nat) (bs' : List BkQ) (rs' : List (TransT × Lq Int)), (m : Int) + 1 = m' ∧ m' ≤ x.pl ∧ bs.length = bs'.length ∧ bs'.map toBk = BksN g ss q ++ bkRow g ss q m' ∧ (rs'.map Prod.fst).Nodup ∧ (∀ k : TransT, ((q : Int) < k.st ∨ (k.st = q ∧ (m' : Int) ≤ k.sym)) → getQ k rs' = getQ k ps) ∧ St w25 (own 3 o16 bs.length c16 (bkV bs') :: sta (bkO bs') :: mapA kb (mV ps) :: sta (mO 1 iv rs') :: all w2)) ∧ x.pl - ((m : Int) + 1).toNat < x.pl - (m : Int).toNat := fun e => by
    refine ⟨⟨by omega, by omega⟩, ⟨m + 1, bs, rs, by simp, h2, rfl, ?_, hrn, fun k hk => hrs k (hk.elim .inl fun hk => .inr ⟨hk.1, by have := hk.2; omega⟩), by rw [e25]; exact h⟩, msr h2⟩
    rw [hrow, hbs]
    unfold bkAt
    rw [if_pos e]; simp
  cases hgq : getQ (⟨(q : Int), (m : Int)⟩ : TransT) ps with
  | none =>
    have e : rowF (TrL g ss).length (backB g ss q m) = [] := by rw [← hgm]; unfold getK; rw [hgq]
    exact ⟨_, _, _, rfl, br_f (by simp) (hskip e)⟩
  | some r =>
    have er : r.2 = rowF (TrL g ss).length (backB g ss q m) := by rw [← hgm]; unfold getK; rw [hgq]
    refine ⟨_, _, _, rfl, br_intro (fun h3 => ?_) fun h3 => ?_⟩
    rotate_left
    · refine hskip ?_
      rw [← er]
      exact List.eq_nil_of_length_eq_zero (by have := of_decide_eq_false h3; omega)
    have h3 : 0 < r.2.length := by have := of_decide_eq_true h3; omega
    have hne : rowF (TrL g ss).length (backB g ss q m) ≠ [] := by rw [← er]; intro e; rw [e] at h3; simp at h3
    have hgr : getQ (⟨(q : Int), (m : Int)⟩ : TransT) rs = some r := by rw [hrs _ (.inr ⟨rfl, Int.le_refl _⟩)]; exact hgq
    have h := h.eq (by rw [e25] : hp w25 = hp w24)
    have h4 := (St.flat.1 (h.pick 4 [3, 0, 1, 2])).perm ((mO_out (sz := 1) (f := iv) hrn hgr).append_right _)
    have h : St w25 (own 1 r.1.1 r.2.length r.1.2 (iv r.2) :: sta (mO 1 iv (rs.filter fun e => decide (e.1 ≠ (⟨(q : Int), (m : Int)⟩ : TransT)))) :: own 3 o16 bs.length c16 (bkV bs) :: sta (bkO bs) :: mapA kb (mV ps) :: all w2) := (St.flat.2 (h4.perm List.perm_middle.symm)).swap
    clear h4
    refine run_slices_Clip_int_int_ _ _ _ w25 _ (slc_clip (own_le h) ⟨_, _, _, rfl, ?_⟩)
    have h := own_clip h
    refine newC_i h fun k34 w27 h => ?_
    have z1 : (bs.length + 1) * 40 ≤ 140737488355328 ∧ bs.length < 9223372036854775807 := by omega
    refine (app_one (us := bkV bs) tyOk (rfl : kdOfT Ty _ = .slice _) (rfl : kdOfT Ty _ = .slice _) rfl rfl rfl (h.pick 6 [0, 3, 1, 2, 4, 5]) rfl (by simp [oneC]) z1.1 z1.2).mono ?_
    rintro _ w28 ⟨o17, c17, rfl, h⟩
    have hnew : toBk (((q : Int), (m : Int)), ((slP r.1.1 0 r.2.length 1, r.2.length), r.2)) = ⟨(q : Int), (m : Int), rowF (TrL g ss).length (backB g ss q m)⟩ := by unfold toBk; rw [er]
    refine ⟨_, _, _, rfl, ⟨by omega, by omega⟩, ⟨m + 1, bs ++ [(((q : Int), (m : Int)), ((slP r.1.1 0 r.2.length 1, r.2.length), r.2))], rs.filter fun e => decide (e.1 ≠ (⟨(q : Int), (m : Int)⟩ : TransT)), by simp, h2, by simp, ?_, (hrn.sublist (List.Sublist.map _ List.filter_sublist)), fun k hk => ?_, ?_⟩, msr h2⟩
    · rw [List.map_append, hbs, hrow]
      unfold bkAt
      rw [if_neg hne]
      simp [hnew]
    · rw [getQ_filter (s := (⟨(q : Int), (m : Int)⟩ : TransT)) ?_]
      · exact hrs k (hk.elim .inl fun hk => .inr ⟨hk.1, by have := hk.2; omega⟩)
      · intro e
        subst e
        rcases hk with hk | hk
        · exact absurd hk (by show ¬(q : Int) < q; omega)
        · have := hk.2; simp at this; omega
    · have h := St.snoc (h.pick 6 [2, 4, 0, 5, 3])
      have h3 : St w28 (own 3 o17 (bs.length + 1) c17 (bkV bs ++ [.int .i64 (q : Int), .int .i64 (m : Int), .slice (slP r.1.1 0 r.2.length 1) r.2.length r.2.length]) :: sta (bkO bs ++ [own 1 (slP r.1.1 0 r.2.length 1) r.2.length r.2.length (iv r.2)]) :: mapA kb (mV ps) :: sta (mO 1 iv (rs.filter fun e => decide (e.1 ≠ (⟨(q : Int), (m : Int)⟩ : TransT)))) :: all w2) := h.pick 2 [1, 0]
      rw [bkV_app, show bkO (bs ++ [(((q : Int), (m : Int)), ((slP r.1.1 0 r.2.length 1, r.2.length), r.2))]) = bkO bs ++ [own 1 (slP r.1.1 0 r.2.length 1) r.2.length r.2.length (iv r.2)] by unfold bkO; rw [List.map_append]; rfl]
      exact h3
end Go.Proofs.YtkmjjnjngcpjmaaGreatDoor
set_option linter.unusedVariables false
namespace Go.Proofs.YtkmjjnjngcpjmaaGreatDoor
open Go.V
abbrev n_presagelaw11_awake : FuncId := 7
def ann_presagelaw11_awake : Ann := { rngs := [], loops := [], joins := [], blocks := [] }
set_option maxRecDepth 100000 in
def vc_presagelaw11_awake  (w : World) (R : Value → WP) : Prop :=  RunE Proofs.Tryz.prog Ev 25 [] w fun v1 w1 => ∃ o1 k1 k2 o2 k3 k4 o3 k5 k6 n1 o4 k7 k8, v1 = vA (Array.mk [vS o1 k1 k2, vS o2 k3 k4, vS o3 k5 k6, iI n1, vS o4 k7 k8]) ∧ new w1 (oC [vS none 0 0, vS none 0 0, vS none 0 0, iI 0, vS none 0 0] 27) fun k9 w2 => stR w2 (aM k9) [vS o1 k1 k2, vS o2 k3 k4, vS o3 k5 k6, iI n1, vS o4 k7 k8] fun w3 => ∃ o5 k10 k11 o6 k12 k13 o7 k14 k15 n2 o8 k16 k17, V.rowAt w3 (aM k9) 0 5 = some [vS o5 k10 k11, vS o6 k12 k13, vS o7 k14 k15, iI n2, vS o8 k16 k17] ∧ RunE Proofs.Tryz.prog Ev 12 [vA (Array.mk [vS o5 k10 k11, vS o6 k12 k13, vS o7 k14 k15, iI n2, vS o8 k16 k17])] w3 fun v2 w4 => ∃ o9 k18 k19 n3, v2 = vT (Array.mk [vS o9 k18 k19, iI n3]) ∧ ∃ o10 k20 k21 o11 k22 k23 o12 k24 k25 n4 o13 k26 k27, V.rowAt w4 (aM k9) 0 5 = some [vS o10 k20 k21, vS o11 k22 k23, vS o12 k24 k25, iI n4, vS o13 k26 k27] ∧ RunE Proofs.Tryz.prog Ev 13 [vA (Array.mk [vS o10 k20 k21, vS o11 k22 k23, vS o12 k24 k25, iI n4, vS o13 k26 k27])] w4 fun v3 w5 => ∃ o14 k28 k29 n5, v3 = vT (Array.mk [vS o14 k28 k29, iI n5]) ∧ ∃ o15 k30 k31 o16 k32 k33 o17 k34 k35 n6 o18 k36 k37, V.rowAt w5 (aM k9) 0 5 = some [vS o15 k30 k31, vS o16 k32 k33, vS o17 k34 k35, iI n6, vS o18 k36 k37] ∧ RunE Proofs.Tryz.prog Ev 14 [vA (Array.mk [vS o15 k30 k31, vS o16 k32 k33, vS o17 k34 k35, iI n6, vS o18 k36 k37])] w5 fun v4 w6 => ∃ o19 k38 k39 n7, v4 = vT (Array.mk [vS o19 k38 k39, iI n7]) ∧ br (n3 == 0) (br (n5 == 0) (br (n7 == 0) (br ((↑k18 : Int) == 5) (idx o9 k18 1 1 fun a1 => ∃ o20 k40 k41, World.cell? w6 a1 = some (vS o20 k40 k41) ∧ br ((↑k40 : Int) == 1) (idx o9 k18 1 1 fun a2 => ∃ o21 k42 k43, World.cell? w6 a2 = some (vS o21 k42 k43) ∧ idx o21 k42 0 1 fun a3 => ∃ n8, World.cell? w6 a3 = some (iI n8) ∧ br (n8 == 3) (br ((↑k28 : Int) == 5) (idx o14 k28 2 1 fun a4 => ∃ o22 k44 k45, World.cell? w6 a4 = some (vS o22 k44 k45) ∧ br ((↑k44 : Int) == 2) (br ((↑k38 : Int) == 6) (idx o19 k38 5 3 fun a5 => ∃ o23 k46 k47, World.cell? w6 (Addr.add a5 2) = some (vS o23 k46 k47) ∧ R (vB ((↑k46 : Int) == 2)) w6) (R (vB false) w6)) (R (vB false) w6)) (R (vB false) w6)) (R (vB false) w6)) (R (vB false) w6)) (R (vB false) w6)) (R (vB false) w6)) (R (vB false) w6)) (R (vB false) w6)
set_option maxRecDepth 100000 in
theorem run_presagelaw11_awake  (w : World) (R : Value → WP) (h : vc_presagelaw11_awake  w R) : Run Tryz.prog 7 [] w R := rv Tryz.func7 ann_presagelaw11_awake (by kernel_rfl) h

abbrev n_presagelaw11_small : FuncId := 25
def ann_presagelaw11_small : Ann := { rngs := [], loops := [], joins := [], blocks := [] }
set_option maxRecDepth 100000 in
def vc_presagelaw11_small  (w : World) (R : Value → WP) : Prop :=  new w (oC [vS none 0 0, vS none 0 0, vS none 0 0, iI 0, vS none 0 0] 27) fun k1 w1 => new w1 (oC [Value.string (ByteArray.mk (Array.mk [])), iI 0, Value.string (ByteArray.mk (Array.mk [120])), iI 0, Value.string (ByteArray.mk (Array.mk [121])), iI 0] 99) fun k2 w2 => new w2 (oC [Value.string (ByteArray.mk (Array.mk [])), Value.string (ByteArray.mk (Array.mk [115])), Value.string (ByteArray.mk (Array.mk [97])), Value.string (ByteArray.mk (Array.mk [98]))] 9) fun k3 w3 => new w3 (oC [iI 4] 3) fun k4 w4 => new w4 (oC [iI 5, iI 4, iI 6] 3) fun k5 w5 => new w5 (oC [iI 1] 3) fun k6 w6 => new w6 (oC [iI 2] 3) fun k7 w7 => new w7 (oC [iI 3, vS (some (aM k4)) 1 1, iI 0, iI 4, vS (some (aM k5)) 3 3, iI 0, iI 4, vS (some (aM k6)) 1 1, iI 0, iI 5, vS none 0 0, iI 0, iI 6, vS none 0 0, iI 0, iI 6, vS (some (aM k7)) 1 1, iI 0] 60) fun k8 w8 => stR w8 (aM k1) [vS (some (aM k2)) 3 3, vS (some (aM k3)) 4 4, vS none 0 0, iI 4, vS (some (aM k8)) 6 6] fun w9 => ∃ o1 k9 k10 o2 k11 k12 o3 k13 k14 n1 o4 k15 k16, V.rowAt w9 (aM k1) 0 5 = some [vS o1 k9 k10, vS o2 k11 k12, vS o3 k13 k14, iI n1, vS o4 k15 k16] ∧ R (vG [vS o1 k9 k10, vS o2 k11 k12, vS o3 k13 k14, iI n1, vS o4 k15 k16]) w9
set_option maxRecDepth 100000 in
theorem run_presagelaw11_small  (w : World) (R : Value → WP) (h : vc_presagelaw11_small  w R) : Run Tryz.prog 25 [] w R := rv Tryz.func25 ann_presagelaw11_small (by kernel_rfl) h

end Go.Proofs.YtkmjjnjngcpjmaaGreatDoor
set_option linter.unusedVariables false
set_option maxRecDepth 4000
namespace Go.V
instance : Rep BackT := { n := 3, rd := fun h x vs => ∃ (a : Option Addr) (c : Nat), vs = [.int .i64 x.st, .int .i64 x.prod, .slice a x.tr.length c] ∧ rdS h x.tr a x.tr.length, mono := fun s ⟨a, c, e, r⟩ => ⟨a, c, e, r.mono s⟩, len := fun ⟨_, _, e, _⟩ => by rw [e]; rfl }
section
variable {w : World} {L : List Asn} {o : Option Addr} {c : Nat}
theorem rdLq {ds : List (Lq Int)} (h : St w (own 1 o ds.length c (ds.map slQ) :: sta (ds.map (owQ 1 iv)) :: L)) : rdS (hp w) (ds.map (·.2)) o ds.length := by
  have hr := rdOv 0 h.l
  refine ⟨by simp, fun i x hi => ?_⟩
  rw [List.getElem?_map] at hi
  cases hd : ds[i]? with
  | none => rw [hd] at hi; cases hi
  | some p =>
    rw [hd] at hi
    simp only [Option.map_some, Option.some.injEq] at hi
    subst hi
    have hA : (ds.map (owQ 1 iv))[i]? = some (owQ 1 iv p) := by rw [List.getElem?_map, hd]; rfl
    have h2 := St.out (h.pick 2 [1]) hA
    have hle : p.2.length ≤ p.1.2 := own_le h2
    have rp : rdS (hp w) p.2 p.1.1 p.2.length := rdI_of rfl (rdOv 0 h2.l)
    rcases hr with e | ⟨ad, e, hc⟩
    · rw [List.map_eq_nil_iff] at e; subst e; simp at hd
    · refine ⟨ad, [slQ p], e, fun j v hj => ?_, p.1.1, p.2.length, p.1.2, rfl, hle, rp⟩
      cases j with
      | zero =>
        simp at hj; subst hj
        rw [add_add, mulS_eq]
        have := hc i (slQ p) (by rw [List.getElem?_map, hd]; rfl)
        rw [show i * Rep.n (List Int) + 0 = i from by show i * 1 + 0 = i; omega]
        exact this
      | succ j => simp at hj
theorem rdLq_row {h : Hp} {xss : List (List Int)} {i l : Nat} (r : rdS h xss o l) (hi : i < l) : ∃ x ad a c, xss[i]? = some x ∧ o = some ad ∧ (∀ u : World, sub h (hp u) → u.cell? (ad.add i) = some (.slice a x.length c)) ∧ rdS h x a x.length := by
  obtain ⟨x, ad, vs, hx, ha, hr, a, l', c', rfl, hle, hx2⟩ := r.get hi
  have hl := hx2.1
  subst hl
  refine ⟨x, ad, a, c', hx, ha, fun u s => ?_, hx2⟩
  have := hr.cell0 s
  rwa [mulS_eq, show i * Rep.n (List Int) = i from Nat.mul_one i] at this
theorem rdBk {ds : List BkQ} (h : St w (own 3 o ds.length c (bkV ds) :: sta (bkO ds) :: L)) : rdS (hp w) (ds.map toBk) o ds.length := by
  have hr := rdOv 0 h.l
  refine ⟨by simp, fun i x hi => ?_⟩
  rw [List.getElem?_map] at hi
  cases hd : ds[i]? with
  | none => rw [hd] at hi; cases hi
  | some p =>
    rw [hd] at hi
    simp only [Option.map_some, Option.some.injEq] at hi
    subst hi
    have hA : (bkO ds)[i]? = some (owQ 1 iv p.2) := by unfold bkO; rw [List.getElem?_map, hd]; rfl
    have h2 := St.out (h.pick 2 [1]) hA
    have rp : rdS (hp w) p.2.2 p.2.1.1 p.2.2.length := rdI_of rfl (rdOv 0 h2.l)
    rcases hr with e | ⟨ad, e, hc⟩
    · have h1 := congrArg List.length e
      rw [bkV_len, List.length_nil] at h1
      have := (List.getElem?_eq_some_iff.1 hd).1; omega
    · exact ⟨ad, bkE p, e, rowH_unflat (n := 3) (fun _ => rfl) ds ad hc i p hd, p.2.1.1, p.2.1.2, rfl, rp⟩
theorem rdBk_get {h : Hp} {xs : List BackT} {l i : Nat} (r : rdS h xs o l) (hi : i < l) : ∃ x ad a c, xs[i]? = some x ∧ o = some ad ∧ rowH h (ad.add (mulS i 3)) [.int .i64 x.st, .int .i64 x.prod, .slice a x.tr.length c] ∧ rdS h x.tr a x.tr.length := by
  obtain ⟨x, ad, vs, hx, ha, hr, a, c', rfl, hx2⟩ := r.get hi
  exact ⟨x, ad, a, c', hx, ha, hr, hx2⟩
end
section
variable {g : GramT} {nn : List Bool} {ss ss' : List SQ}
theorem readB_es (h : esOf ss = esOf ss') (i k : Nat) : readB g nn ss i k = readB g nn ss' i k := by
  unfold readB
  rw [TrL_es h]
  have e : ∀ i s, nxt ss i s = nxt ss' i s := fun i s => nxt_es h i s
  simp only [e]
theorem incB_es (h : esOf ss = esOf ss') (i k : Nat) : incB g nn ss i k = incB g nn ss' i k := by
  unfold incB
  rw [TrL_es h]
  have e : ∀ q l, wayN ss q l = wayN ss' q l := fun q l => wayN_es h l q
  simp only [e]
theorem backB_es (h : esOf ss = esOf ss') (q m i : Nat) : backB g ss q m i = backB g ss' q m i := by
  unfold backB
  rw [TrL_es h]
  have e : ∀ q l, wayN ss q l = wayN ss' q l := fun q l => wayN_es h l q
  simp only [e]
theorem RdsL_es (h : esOf ss = esOf ss') : RdsL g nn ss = RdsL g nn ss' := by
  unfold RdsL
  rw [TrL_es h]
  refine List.map_congr_left fun i _ => ?_
  rw [show readB g nn ss i = readB g nn ss' i from funext fun k => readB_es h i k]
theorem IncL_es (h : esOf ss = esOf ss') : IncL g nn ss = IncL g nn ss' := by
  unfold IncL
  rw [TrL_es h]
  refine List.map_congr_left fun i _ => ?_
  rw [show incB g nn ss i = incB g nn ss' i from funext fun k => incB_es h i k]
theorem bkAt_es (h : esOf ss = esOf ss') (q m : Nat) : bkAt g ss q m = bkAt g ss' q m := by
  unfold bkAt
  rw [TrL_es h, show backB g ss q m = backB g ss' q m from funext fun k => backB_es h q m k]
theorem BksL_es (h : esOf ss = esOf ss') : BksL g ss = BksL g ss' := by
  unfold BksL
  rw [es_len h]
  have e : ∀ q j, bkRow g ss q j = bkRow g ss' q j := fun q j => by unfold bkRow; rw [show bkAt g ss q = bkAt g ss' q from funext fun m => bkAt_es h q m]
  simp only [e]
end
def reG : GramT := ⟨[⟨⟨⟨[]⟩⟩, 0⟩, ⟨⟨⟨[120]⟩⟩, 0⟩, ⟨⟨⟨[121]⟩⟩, 0⟩], [⟨⟨[]⟩⟩, ⟨⟨[115]⟩⟩, ⟨⟨[97]⟩⟩, ⟨⟨[98]⟩⟩], [], 4, [⟨3, [4], 0⟩, ⟨4, [5, 4, 6], 0⟩, ⟨4, [1], 0⟩, ⟨5, [], 0⟩, ⟨6, [], 0⟩, ⟨6, [2], 0⟩]⟩
theorem re_closed : ClosedP reG := by
  refine ⟨rfl, ⟨rfl, by decide, by decide, by decide, by decide, ?_, ?_, ?_, ?_, ?_⟩, ⟨by decide, by decide, ?_, by decide, by decide, by decide⟩, ⟨3, [4], 0⟩, rfl, rfl, rfl, rfl⟩
  · decide
  · intro i v h; simp [reG] at h
  · decide
  · decide
  · decide
  · intro p hp
    simp only [List.drop_succ_cons, List.drop_zero, reG, List.mem_cons, List.not_mem_nil, or_false] at hp
    unfold prodOk symOk
    rcases hp with rfl | rfl | rfl | rfl | rfl
    · refine ⟨by decide, ?_⟩
      intro s hs; simp at hs
      rcases hs with rfl | rfl | rfl <;> decide
    · refine ⟨by decide, ?_⟩
      intro s hs; simp at hs; subst hs; decide
    · exact ⟨by decide, by simp⟩
    · exact ⟨by decide, by simp⟩
    · refine ⟨by decide, ?_⟩
      intro s hs; simp at hs; subst hs; decide
theorem re_ok : okG reG := by
  refine ⟨by decide, by decide, by decide, by decide, ?_, by decide, by decide⟩
  intro t ht
  simp only [reG, List.mem_cons, List.not_mem_nil, or_false] at ht
  unfold anyI
  rcases ht with rfl | rfl | rfl <;> decide
set_option maxRecDepth 100000 in
theorem re_bst : (bst reG 7).1.length = 7 ∧ ∀ i, i < 7 → i < (bst reG i).1.length := by decide +kernel
theorem re_done : DoneP reG 7 := ⟨re_bst.1, by decide, re_bst.2⟩
def reS : List SQ := (bst reG 7).2.map fun es => (((none, 0), []), ((none, 0), es))
def reN : List Bool := [false, false, true, true]
theorem re_nul : NnP reG reN := by
  refine ⟨rfl, fun i => ?_⟩
  have key : ∀ s, Nul reG s → s = 5 ∨ s = 6 := fun s h => by
    induction h with
    | mk p hp _ ih =>
      simp only [reG, List.mem_cons, List.not_mem_nil, or_false] at hp
      rcases hp with rfl | rfl | rfl | rfl | rfl | rfl
      · have := ih 4 (by simp); omega
      · have := ih 4 (by simp); omega
      · have := ih 1 (by simp); omega
      · exact .inl rfl
      · exact .inr rfl
      · exact .inr rfl
  have n5 : Nul reG 5 := Nul.mk ⟨5, [], 0⟩ (by simp [reG]) (by simp)
  have n6 : Nul reG 6 := Nul.mk ⟨6, [], 0⟩ (by simp [reG]) (by simp)
  have hT : reG.T = 3 := rfl
  rw [hT]
  match i with
  | 0 => exact ⟨fun h => (by cases h), fun h => (by have := key _ h; omega)⟩
  | 1 => exact ⟨fun h => (by cases h), fun h => (by have := key _ h; omega)⟩
  | 2 => exact ⟨fun _ => n5, fun _ => rfl⟩
  | 3 => exact ⟨fun _ => n6, fun _ => rfl⟩
  | i + 4 => exact ⟨fun h => (by simp [fnB, reN] at h), fun h => (by have := key _ h; omega)⟩
set_option maxRecDepth 100000 in
theorem re_is : (RdsL reG reN reS).length = 5 ∧ (RdsL reG reN reS)[1]? = some [3] ∧ (IncL reG reN reS).length = 5 ∧ ((IncL reG reN reS)[2]?.map List.length) = some 2 ∧ (BksL reG reS).length = 6 ∧ ((BksL reG reS)[5]?.map fun b => b.tr.length) = some 2 := by decide +kernel
set_option maxRecDepth 100000 in
theorem re_res {ss : List SQ} {a i f : Int} (h : Res reG ss a i f) : f = 0 ∧ esOf ss = esOf reS := by
  rcases h with ⟨hn, _⟩ | ⟨_, hbig, _⟩ | ⟨_, hA, _, _, rfl⟩
  · exact absurd re_closed hn
  · exact (done_big re_done hbig).elim
  · refine ⟨rfl, ?_⟩
    rw [hA.es, done_one hA.dn re_done]
    unfold reS esOf
    rw [List.map_map]
    simp [Function.comp_def]
end Go.V
namespace Go.Proofs.YtkmjjnjngcpjmaaGreatDoor
open Go.V
variable {w : World} {L : List Asn} {g : GramT} {x : GA}
set_option maxHeartbeats 2000000 in
theorem l_small11 : Run Tryz.prog n_presagelaw11_small [] w fun v w' => ∃ x : GA, v = .agg ⟨x.cells⟩ ∧ gR (hp w') reG x ∧ Gr w w' := by
  refine run_presagelaw11_small w _ ?_
  refine newC_i (St.all w) fun k1 w1 h => newC_i h fun k2 w2 h => newC_i h fun k3 w3 h => newC_i h fun k4 w4 h => newC_i h fun k5 w5 h => newC_i h fun k6 w6 h => newC_i h fun k7 w7 h => newC_i h fun k8 w8 h => stR_i (h.pick 9 [7, 0, 1, 2, 3, 4, 5, 6, 8]) rfl (by intro v hv; simp at hv; rcases hv with rfl | rfl | rfl | rfl | rfl <;> rfl) fun w9 h => ?_
  have r8 : rowH (hp w9) ⟨k8, 0, none⟩ _ := rdCel 1 h.l
  have r7 : rowH (hp w9) ⟨k7, 0, none⟩ _ := rdCel 2 h.l
  have r6 : rowH (hp w9) ⟨k6, 0, none⟩ _ := rdCel 3 h.l
  have r5 : rowH (hp w9) ⟨k5, 0, none⟩ _ := rdCel 4 h.l
  have r4 : rowH (hp w9) ⟨k4, 0, none⟩ _ := rdCel 5 h.l
  have r3 : rowH (hp w9) ⟨k3, 0, none⟩ _ := rdCel 6 h.l
  have r2 : rowH (hp w9) ⟨k2, 0, none⟩ _ := rdCel 7 h.l
  have r1 : rowH (hp w9) ⟨k1, 0, none⟩ _ := rdCel 0 h.l
  have g9 : sub (hp w) (hp w9) := rdH 8 h.l
  have p4 : rdS (hp w9) ([4] : List Int) (some ⟨k4, 0, none⟩) 1 := rdI_of rfl (.inr ⟨_, rfl, r4⟩)
  have p5 : rdS (hp w9) ([5, 4, 6] : List Int) (some ⟨k5, 0, none⟩) 3 := rdI_of rfl (.inr ⟨_, rfl, r5⟩)
  have p6 : rdS (hp w9) ([1] : List Int) (some ⟨k6, 0, none⟩) 1 := rdI_of rfl (.inr ⟨_, rfl, r6⟩)
  have p7 : rdS (hp w9) ([2] : List Int) (some ⟨k7, 0, none⟩) 1 := rdI_of rfl (.inr ⟨_, rfl, r7⟩)
  have p0 : rdS (hp w9) ([] : List Int) none 0 := rdI_of rfl (.inl rfl)
  refine ⟨_, _, _, _, _, _, _, _, _, _, _, _, _, r1.at (sub.refl _) rfl, ⟨some ⟨k2, 0, none⟩, 3, 3, some ⟨k3, 0, none⟩, 4, 4, none, 0, 0, 4, some ⟨k8, 0, none⟩, 6, 6⟩, rfl, ⟨?_, ?_, ?_, rfl, ?_, Nat.le_refl _, Nat.le_refl _, Nat.le_refl _, Nat.le_refl _⟩, g9⟩
  · refine rdS_lit9 (xs := reG.terms) r2 fun i t hi => ?_
    match i, hi with
    | 0, hi => cases hi; rfl
    | 1, hi => cases hi; rfl
    | 2, hi => cases hi; rfl
    | i + 3, hi => cases hi
  · exact rdS_of_row (xs := reG.nons) rfl (.inr ⟨_, rfl, r3⟩)
  · exact p0
  · refine rdS_lit9 (xs := reG.prods) r8 fun i t hi => ?_
    match i, hi with
    | 0, hi => cases hi; exact ⟨_, _, _, rfl, by decide, p4⟩
    | 1, hi => cases hi; exact ⟨_, _, _, rfl, by decide, p5⟩
    | 2, hi => cases hi; exact ⟨_, _, _, rfl, by decide, p6⟩
    | 3, hi => cases hi; exact ⟨_, _, _, rfl, by decide, p0⟩
    | 4, hi => cases hi; exact ⟨_, _, _, rfl, by decide, p0⟩
    | 5, hi => cases hi; exact ⟨_, _, _, rfl, by decide, p7⟩
    | i + 6, hi => cases hi
set_option maxHeartbeats 2000000 in
theorem l_awake11 (ht : tabA (hp w)) : Run Tryz.prog n_presagelaw11_awake [] w fun v w' => v = .bool true ∧ Gr w w' := by
  refine run_presagelaw11_awake w _ (l_small11.mono ?_)
  rintro _ w1 ⟨x, rfl, hg, g1⟩
  refine ⟨_, _, _, _, _, _, _, _, _, _, _, _, _, rfl, newC_i (St.all w1) fun k9 w2 h => stR_i h rfl (by intro v hv; simp at hv; rcases hv with rfl | rfl | rfl | rfl | rfl <;> rfl) fun w3 h => ?_⟩
  have s3 : sub (hp w1) (hp w3) := h.gone1
  have B : GB (hp w3) k9 x := gb_of (rdCel 0 h.l)
  have hg := hg.mono s3
  have g3 : Gr w w3 := sub.trans g1 s3
  clear h
  refine ⟨_, _, _, _, _, _, _, _, _, _, _, _, _, B.row (sub.refl _), (y_Reads hg re_ok (rdV.mono g3 ht)).mono ?_⟩
  rintro _ w4 ⟨ss, ask, int, f, nn, o, c, ds, rfl, hR, hnn, hds, h⟩
  obtain ⟨rfl, hes⟩ := re_res hR
  have e := (hnn rfl).inj re_nul
  subst e
  rw [RdsL_es hes] at hds
  have g34 : Gr w3 w4 := rdH 2 h.l
  have rA := rdLq h
  have hdl : ds.length = 5 := by have := congrArg List.length hds; rw [List.length_map, re_is.1] at this; exact this
  rw [hds, hdl] at rA
  rw [hdl]
  clear h
  refine ⟨_, _, _, _, rfl, _, _, _, _, _, _, _, _, _, _, _, _, _, B.row g34, (y_Includes (hg.mono g34) re_ok (rdV.mono (g3.trans g34) ht)).mono ?_⟩
  rintro _ w5 ⟨ss2, ask2, int2, f2, nn2, o2, c2, ds2, rfl, hR2, hnn2, hds2, h⟩
  obtain ⟨rfl, hes2⟩ := re_res hR2
  have e := (hnn2 rfl).inj re_nul
  subst e
  rw [IncL_es hes2] at hds2
  have g45 : Gr w4 w5 := rdH 2 h.l
  have rB := rdLq h
  have hdl2 : ds2.length = 5 := by have := congrArg List.length hds2; rw [List.length_map, re_is.2.2.1] at this; exact this
  rw [hds2, hdl2] at rB
  rw [hdl2]
  clear h
  have g35 := g34.trans g45
  refine ⟨_, _, _, _, rfl, _, _, _, _, _, _, _, _, _, _, _, _, _, B.row g35, (y_Lookback (hg.mono g35) re_ok (rdV.mono (g3.trans g35) ht)).mono ?_⟩
  rintro _ w6 ⟨ss3, ask3, int3, f3, o3, c3, ds3, rfl, hR3, hds3, h⟩
  obtain ⟨rfl, hes3⟩ := re_res hR3
  rw [BksL_es hes3] at hds3
  have g56 : Gr w5 w6 := rdH 2 h.l
  have rC := rdBk h
  have hdl3 : ds3.length = 6 := by have := congrArg List.length hds3; rw [List.length_map, re_is.2.2.2.2.1] at this; exact this
  rw [hds3, hdl3] at rC
  rw [hdl3]
  clear h
  obtain ⟨x1, ad1, a1, c1, hx1, rfl, cx1, rx1⟩ := rdLq_row rA (i := 1) (by decide)
  rw [re_is.2.1] at hx1
  cases hx1
  obtain ⟨y1, yad, hy1, hya, hy2⟩ := rx1.get1 (i := 0) (by decide)
  simp at hy1
  subst hy1
  obtain ⟨x2, ad2, a2, c2', hx2, rfl, cx2, rx2⟩ := rdLq_row rB (i := 2) (by decide)
  have hx2l : x2.length = 2 := by have := re_is.2.2.2.1; rw [hx2] at this; simpa using this
  obtain ⟨x3, ad3, a3, c3', hx3, rfl, rx3, _⟩ := rdBk_get rC (i := 5) (by decide)
  have hx3l : x3.tr.length = 2 := by have := re_is.2.2.2.2.2; rw [hx3] at this; simpa using this
  have gA : Gr w4 w6 := g45.trans g56
  refine ⟨_, _, _, _, rfl, br_t rfl (br_t rfl (br_t rfl (br_t rfl (idx_i (i := 1) rfl (by decide) ⟨_, _, _, cx1 _ gA, br_t rfl (idx_i (i := 1) rfl (by decide) ⟨_, _, _, cx1 _ gA, idx_i (i := 0) hya (by decide) ⟨_, hy2 _ gA, br_t rfl (br_t rfl (idx_i (i := 2) rfl (by decide) ⟨_, _, _, cx2 _ g56, ?_⟩))⟩⟩)⟩))))⟩
  rw [hx2l]
  refine br_t rfl (br_t rfl (idx_n (i := 5) rfl (by decide) ⟨_, _, _, rx3.cell (sub.refl _) (j := 2) rfl, ?_, ?_⟩))
  · rw [hx3l]; rfl
  · exact g3.trans (g35.trans g56)
end Go.Proofs.YtkmjjnjngcpjmaaGreatDoor
set_option linter.unusedVariables false
set_option maxRecDepth 4000
namespace Go.V
structure AsR (h : Hp) (g : GramT) (ss : List SQ) (nn : List Bool) (k : Nat) : Prop where
  ex : ∃ (x : GA) (ol : Option Addr) (cl : Nat) (on : Option Addr) (cn : Nat), rowH h (aM k) (x.cells ++ [.slice ol (TrL g ss).length cl, .slice on g.N cn]) ∧ gR h g x ∧ rdS h (TrL g ss) ol (TrL g ss).length ∧ rdS h nn on g.N
theorem AsR.mono {h h' : Hp} {g : GramT} {ss : List SQ} {nn : List Bool} {k : Nat} (s : sub h h') (r : AsR h g ss nn k) : AsR h' g ss nn k := by
  obtain ⟨x, ol, cl, on, cn, h1, h2, h3, h4⟩ := r.ex
  exact ⟨x, ol, cl, on, cn, h1.mono s, h2.mono s, h3.mono s, h4.mono s⟩
end Go.V
namespace Go.Proofs.YtkmjjnjngcpjmaaGreatDoor
open Go.V
variable {w : World} {L : List Asn} {g : GramT} {x : GA}
end Go.Proofs.YtkmjjnjngcpjmaaGreatDoor
set_option linter.unusedVariables false
set_option maxRecDepth 4000
namespace Go.V
theorem rise_at {l : List Int} (h : Rise l) {i j : Nat} {a b : Int} (ha : l[i]? = some a) (hb : l[j]? = some b) (hij : i < j) : a < b := by
  obtain ⟨h1, rfl⟩ := List.getElem?_eq_some_iff.1 ha
  obtain ⟨h2, rfl⟩ := List.getElem?_eq_some_iff.1 hb
  exact List.pairwise_iff_getElem.1 h i j h1 h2 hij
end Go.V
namespace Go.Proofs.YtkmjjnjngcpjmaaGreatDoor
open Go.V
variable {w : World} {L : List Asn} {g : GramT} {x : GA}
end Go.Proofs.YtkmjjnjngcpjmaaGreatDoor
set_option linter.unusedVariables false
namespace Go.Proofs.YtkmjjnjngcpjmaaGreatDoor
open Go.V
abbrev n_presagelaw11_RelateExact : FuncId := 3
def ann_presagelaw11_RelateExact : Ann := { rngs := [], loops := [(7, [(11, (.one (.int .i64)))]), (18, [(21, (.one (.int .i64)))]), (21, [(22, (.one (.int .i64)))]), (25, [(23, (.one (.int .i64)))]), (31, [(24, (.one (.int .i64)))]), (34, [(25, (.one (.int .i64)))])], joins := [(16, [(97, (.one .bool))])], blocks := [] }
set_option maxRecDepth 100000 in
def vc_presagelaw11_RelateExact (a : Option Addr) (b c : Nat) (d : Option Addr) (e f : Nat) (g : Option Addr) (i j : Nat) (k : Int) (l : Option Addr) (m n : Nat) (w : World) (R : Value → WP) : Prop :=  new w (oC [vS a b c, vS d e f, vS g i j, iI k, vS l m n] 27) fun k1 w1 => RunE Proofs.Tryz.prog Ev 7 [] w1 fun v1 w2 => ∃ b1, v1 = vB b1 ∧ ∃ o1 k2 k3 o2 k4 k5 o3 k6 k7 n1 o4 k8 k9, V.rowAt w2 (aM k1) 0 5 = some [vS o1 k2 k3, vS o2 k4 k5, vS o3 k6 k7, iI n1, vS o4 k8 k9] ∧ RunE Proofs.Tryz.prog Ev 8 [vA (Array.mk [vS o1 k2 k3, vS o2 k4 k5, vS o3 k6 k7, iI n1, vS o4 k8 k9])] w2 fun v2 w3 => ∃ o5 k10 k11 o6 k12 k13 o7 k14 k15 n2 o8 k16 k17, v2 = vA (Array.mk [vS o5 k10 k11, vS o6 k12 k13, vS o7 k14 k15, iI n2, vS o8 k16 k17]) ∧ new w3 (oC [vS none 0 0, vS none 0 0, vS none 0 0, iI 0, vS none 0 0] 27) fun k18 w4 => stR w4 (aM k18) [vS o5 k10 k11, vS o6 k12 k13, vS o7 k14 k15, iI n2, vS o8 k16 k17] fun w5 => ∃ o9 k19 k20 o10 k21 k22 o11 k23 k24 n3 o12 k25 k26, V.rowAt w5 (aM k18) 0 5 = some [vS o9 k19 k20, vS o10 k21 k22, vS o11 k23 k24, iI n3, vS o12 k25 k26] ∧ RunE Proofs.Tryz.prog Ev 9 [vA (Array.mk [vS o9 k19 k20, vS o10 k21 k22, vS o11 k23 k24, iI n3, vS o12 k25 k26])] w5 fun v3 w6 => ∃ o13 k27 k28 n4, v3 = vT (Array.mk [vS o13 k27 k28, iI n4]) ∧ ∃ o14 k29 k30 o15 k31 k32 o16 k33 k34 n5 o17 k35 k36, V.rowAt w6 (aM k18) 0 5 = some [vS o14 k29 k30, vS o15 k31 k32, vS o16 k33 k34, iI n5, vS o17 k35 k36] ∧ RunE Proofs.Tryz.prog Ev 10 [vA (Array.mk [vS o14 k29 k30, vS o15 k31 k32, vS o16 k33 k34, iI n5, vS o17 k35 k36])] w6 fun v4 w7 => ∃ o18 k37 k38 n6, v4 = vT (Array.mk [vS o18 k37 k38, iI n6]) ∧ ∃ o19 k39 k40 o20 k41 k42 o21 k43 k44 n7 o22 k45 k46, V.rowAt w7 (aM k18) 0 5 = some [vS o19 k39 k40, vS o20 k41 k42, vS o21 k43 k44, iI n7, vS o22 k45 k46] ∧ RunE Proofs.Tryz.prog Ev 11 [vA (Array.mk [vS o19 k39 k40, vS o20 k41 k42, vS o21 k43 k44, iI n7, vS o22 k45 k46])] w7 fun v5 w8 => ∃ o23 k47 k48 n8, v5 = vT (Array.mk [vS o23 k47 k48, iI n8]) ∧ ∃ (x1 : lP [(11, shI)]), ∃ (x2 : lN [(11, shI)]), x1 0 w8 ∧ ∀ (I1 : Nat → Value) (n9 : Int) (w9 : World), x1 n9 w9 → br (decide (n9 < 2)) (∃ o24 k49 k50 o25 k51 k52 o26 k53 k54 n10 o27 k55 k56, V.rowAt w9 (aM k1) 0 5 = some [vS o24 k49 k50, vS o25 k51 k52, vS o26 k53 k54, iI n10, vS o27 k55 k56] ∧ RunE Proofs.Tryz.prog Ev 12 [vA (Array.mk [vS o24 k49 k50, vS o25 k51 k52, vS o26 k53 k54, iI n10, vS o27 k55 k56])] w9 fun v6 w10 => ∃ o28 k57 k58 n11, v6 = vT (Array.mk [vS o28 k57 k58, iI n11]) ∧ ∃ o29 k59 k60 o30 k61 k62 o31 k63 k64 n12 o32 k65 k66, V.rowAt w10 (aM k1) 0 5 = some [vS o29 k59 k60, vS o30 k61 k62, vS o31 k63 k64, iI n12, vS o32 k65 k66] ∧ RunE Proofs.Tryz.prog Ev 13 [vA (Array.mk [vS o29 k59 k60, vS o30 k61 k62, vS o31 k63 k64, iI n12, vS o32 k65 k66])] w10 fun v7 w11 => ∃ o33 k67 k68 n13, v7 = vT (Array.mk [vS o33 k67 k68, iI n13]) ∧ ∃ o34 k69 k70 o35 k71 k72 o36 k73 k74 n14 o37 k75 k76, V.rowAt w11 (aM k1) 0 5 = some [vS o34 k69 k70, vS o35 k71 k72, vS o36 k73 k74, iI n14, vS o37 k75 k76] ∧ RunE Proofs.Tryz.prog Ev 14 [vA (Array.mk [vS o34 k69 k70, vS o35 k71 k72, vS o36 k73 k74, iI n14, vS o37 k75 k76])] w11 fun v8 w12 => ∃ o38 k77 k78 n15, v8 = vT (Array.mk [vS o38 k77 k78, iI n15]) ∧ RunE Proofs.Tryz.prog Ev 15 [vS o28 k57 k58, vS o13 k27 k28] w12 fun v9 w13 => ∃ b2, v9 = vB b2 ∧ RunE Proofs.Tryz.prog Ev 15 [vS o33 k67 k68, vS o18 k37 k38] w13 fun v10 w14 => ∃ b3, v10 = vB b3 ∧ RunE Proofs.Tryz.prog Ev 16 [vS o38 k77 k78, vS o23 k47 k48] w14 fun v11 w15 => ∃ b4, v11 = vB b4 ∧ ∃ (x3 : lP [(97, shB)]), br (!b2) (x3 true w15) (br (!b3) (x3 true w15) (br (!b4) (x3 true w15) (br (n4 != n11) (x3 true w15) (br (n6 != n13) (x3 true w15) (x3 (n8 != n15) w15))))) ∧ ∀ (I2 : Nat → Value) (b5 : Bool) (w16 : World), x3 b5 w16 → br b5 (R (vB false) w16) (∃ (x4 : lP [(21, shI)]), ∃ (x5 : lN [(21, shI)]), x4 0 w16 ∧ ∀ (I3 : Nat → Value) (n16 : Int) (w17 : World), x4 n16 w17 → br (decide (n16 < (↑k57 : Int))) (∃ (x6 : lP [(22, shI)]), ∃ (x7 : lN [(22, shI)]), x6 0 w17 ∧ ∀ (I4 : Nat → Value) (n17 : Int) (w18 : World), x6 n17 w18 → idx o28 k57 n16 1 fun a1 => ∃ o39 k79 k80, World.cell? w18 a1 = some (vS o39 k79 k80) ∧ br (decide (n17 < (↑k79 : Int))) (idx o28 k57 n16 1 fun a2 => ∃ o40 k81 k82, World.cell? w18 a2 = some (vS o40 k81 k82) ∧ idx o40 k81 n17 1 fun a3 => st1 w18 a3 (iI (-9)) fun w19 => inI (n17 + 1) ∧ x6 (n17 + 1) w19 ∧ x7 (n17 + 1) w19 < x7 n17 w18) (∃ (x8 : lP [(23, shI)]), ∃ (x9 : lN [(23, shI)]), x8 0 w18 ∧ ∀ (I5 : Nat → Value) (n18 : Int) (w20 : World), x8 n18 w20 → idx o33 k67 n16 1 fun a4 => ∃ o41 k83 k84, World.cell? w20 a4 = some (vS o41 k83 k84) ∧ br (decide (n18 < (↑k83 : Int))) (idx o33 k67 n16 1 fun a5 => ∃ o42 k85 k86, World.cell? w20 a5 = some (vS o42 k85 k86) ∧ idx o42 k85 n18 1 fun a6 => st1 w20 a6 (iI (-9)) fun w21 => inI (n18 + 1) ∧ x8 (n18 + 1) w21 ∧ x9 (n18 + 1) w21 < x9 n18 w20) (idx o28 k57 n16 1 fun a7 => ∃ o43 k87 k88, World.cell? w20 a7 = some (vS o43 k87 k88) ∧ new w20 (oC [iI (-8)] 3) fun k89 w22 => RunS Proofs.Tryz.prog (apB 24 (Array.mk [vS o43 k87 k88, vS (some (aM k89)) 1 1])) w22 fun v12 w23 => ∃ o44 k90 k91, v12 = vS o44 k90 k91 ∧ idx o28 k57 n16 1 fun a8 => st1 w23 a8 (vS o44 k90 k91) fun w24 => idx o33 k67 n16 1 fun a9 => ∃ o45 k92 k93, World.cell? w24 a9 = some (vS o45 k92 k93) ∧ new w24 (oC [iI (-8)] 3) fun k94 w25 => RunS Proofs.Tryz.prog (apB 24 (Array.mk [vS o45 k92 k93, vS (some (aM k94)) 1 1])) w25 fun v13 w26 => ∃ o46 k95 k96, v13 = vS o46 k95 k96 ∧ idx o33 k67 n16 1 fun a10 => st1 w26 a10 (vS o46 k95 k96) fun w27 => inI (n16 + 1) ∧ x4 (n16 + 1) w27 ∧ x5 (n16 + 1) w27 < x5 n16 w17))) (∃ (x10 : lP [(24, shI)]), ∃ (x11 : lN [(24, shI)]), x10 0 w17 ∧ ∀ (I6 : Nat → Value) (n19 : Int) (w28 : World), x10 n19 w28 → br (decide (n19 < (↑k77 : Int))) (∃ (x12 : lP [(25, shI)]), ∃ (x13 : lN [(25, shI)]), x12 0 w28 ∧ ∀ (I7 : Nat → Value) (n20 : Int) (w29 : World), x12 n20 w29 → idx o38 k77 n19 3 fun a11 => ∃ o47 k97 k98, World.cell? w29 (Addr.add a11 2) = some (vS o47 k97 k98) ∧ br (decide (n20 < (↑k97 : Int))) (idx o38 k77 n19 3 fun a12 => ∃ o48 k99 k100, World.cell? w29 (Addr.add a12 2) = some (vS o48 k99 k100) ∧ idx o48 k99 n20 1 fun a13 => st1 w29 a13 (iI (-9)) fun w30 => inI (n20 + 1) ∧ x12 (n20 + 1) w30 ∧ x13 (n20 + 1) w30 < x13 n20 w29) (idx o38 k77 n19 3 fun a14 => ∃ o49 k101 k102, World.cell? w29 (Addr.add a14 2) = some (vS o49 k101 k102) ∧ new w29 (oC [iI (-8)] 3) fun k103 w31 => RunS Proofs.Tryz.prog (apB 24 (Array.mk [vS o49 k101 k102, vS (some (aM k103)) 1 1])) w31 fun v14 w32 => ∃ o50 k104 k105, v14 = vS o50 k104 k105 ∧ idx o38 k77 n19 3 fun a15 => st1 w32 (Addr.add a15 2) (vS o50 k104 k105) fun w33 => inI (n19 + 1) ∧ x10 (n19 + 1) w33 ∧ x11 (n19 + 1) w33 < x11 n19 w28)) (inI (n9 + 1) ∧ x1 (n9 + 1) w28 ∧ x2 (n9 + 1) w28 < x2 n9 w9)))) (∃ o51 k106 k107 o52 k108 k109 o53 k110 k111 n21 o54 k112 k113, V.rowAt w9 (aM k1) 0 5 = some [vS o51 k106 k107, vS o52 k108 k109, vS o53 k110 k111, iI n21, vS o54 k112 k113] ∧ ∃ o55 k114 k115 o56 k116 k117 o57 k118 k119 n22 o58 k120 k121, V.rowAt w9 (aM k18) 0 5 = some [vS o55 k114 k115, vS o56 k116 k117, vS o57 k118 k119, iI n22, vS o58 k120 k121] ∧ RunE Proofs.Tryz.prog Ev 17 [vA (Array.mk [vS o51 k106 k107, vS o52 k108 k109, vS o53 k110 k111, iI n21, vS o54 k112 k113]), vA (Array.mk [vS o55 k114 k115, vS o56 k116 k117, vS o57 k118 k119, iI n22, vS o58 k120 k121])] w9 fun v15 w34 => ∃ b6, v15 = vB b6 ∧ br b1 (R (vB b6) w34) (R (vB false) w34))
set_option maxRecDepth 100000 in
theorem run_presagelaw11_RelateExact (a : Option Addr) (b c : Nat) (d : Option Addr) (e f : Nat) (g : Option Addr) (i j : Nat) (k : Int) (l : Option Addr) (m n : Nat) (w : World) (R : Value → WP) (h : vc_presagelaw11_RelateExact a b c d e f g i j k l m n w R) : Run Tryz.prog 3 [(.agg #[(.slice a b c), (.slice d e f), (.slice g i j), (.int .i64 k), (.slice l m n)])] w R := rv Tryz.func3 ann_presagelaw11_RelateExact (by kernel_rfl) h

end Go.Proofs.YtkmjjnjngcpjmaaGreatDoor
set_option linter.unusedVariables false
set_option maxRecDepth 4000
namespace Go.V
theorem rowH_pre {h : Hp} {a : Addr} {vs us : List Value} (r : rowH h a (vs ++ us)) : rowH h a vs := fun j v hv => r j v (by rw [List.getElem?_append_left (List.getElem?_eq_some_iff.1 hv).1]; exact hv)
section
variable {g : GramT} {nn : List Bool} {ss : List SQ}
end
end Go.V
namespace Go.Proofs.YtkmjjnjngcpjmaaGreatDoor
open Go.V
variable {w : World} {L : List Asn} {g : GramT} {x : GA} {ss : List SQ} {nn : List Bool}
end Go.Proofs.YtkmjjnjngcpjmaaGreatDoor
set_option linter.unusedVariables false
set_option maxRecDepth 4000
namespace Go.Proofs.YtkmjjnjngcpjmaaGreatDoor
open Go.V
variable {w : World} {L : List Asn} {g : GramT} {x : GA} {wh : Int}
end Go.Proofs.YtkmjjnjngcpjmaaGreatDoor
set_option linter.unusedVariables false
set_option maxRecDepth 4000
namespace Go.V
section
variable {g : GramT} {ss : List SQ}
def compB (g : GramT) (x : ItemT) : Bool := decide (1 ≤ x.prod) && (decide (x.prod < g.prods.length) && (match g.prods[x.prod.toNat]? with | some p => decide ((p.right.length : Int) ≤ x.dot) | none => false))
theorem compB_iff {x : ItemT} (hf : fitI g x) : compB g x = true ↔ ∃ (m : Nat) (p : ProdT), 0 < m ∧ g.prods[m]? = some p ∧ x = ⟨(m : Int), (p.right.length : Int)⟩ := by
  obtain ⟨h0, h1, p, hp, h2⟩ := hf
  unfold compB
  rw [hp]
  simp only [Bool.and_eq_true, decide_eq_true_eq]
  constructor
  · rintro ⟨a, b, c⟩
    refine ⟨x.prod.toNat, p, by omega, hp, ?_⟩
    cases x
    simp at *
    omega
  · rintro ⟨m, p', hm, hp', rfl⟩
    simp only [Int.toNat_natCast] at hp
    rw [hp'] at hp; cases hp
    have := (List.getElem?_eq_some_iff.1 hp').1
    exact ⟨by show (1 : Int) ≤ m; omega, by show (m : Int) < _; omega, by simp⟩
theorem trace (hc : ClosedP g) (hA : AutI g ss) {m : Nat} {p : ProdT} (hp : g.prods[m]? = some p) : ∀ (d : Nat), d ≤ p.right.length → ∀ (q : Nat) (r : SQ), ss[q]? = some r → ClM g r.1.2 ⟨(m : Int), (d : Int)⟩ →
    ∃ (i : Nat) (s : SQ), ss[i]? = some s ∧ ClM g s.1.2 ⟨(m : Int), 0⟩ ∧ wayN ss (i : Int) (p.right.take d) = (q : Int)
  | 0, _, q, r, hr, h => ⟨q, r, hr, by simpa using h, by rw [List.take_zero]; rfl⟩
  | d + 1, hd, q, r, hr, h => by
    have hbase : (⟨(m : Int), ((d + 1 : Nat) : Int)⟩ : ItemT) ∈ r.1.2 := by
      generalize hz : (⟨(m : Int), ((d + 1 : Nat) : Int)⟩ : ItemT) = z at h
      cases h with
      | base h => exact h
      | step _ _ _ _ =>
        have := congrArg ItemT.dot hz
        simp at this
        omega
    have hq1 : 1 ≤ q := by
      refine Nat.pos_of_ne_zero fun e => ?_
      subst e
      have hK := (aut_at hA hr).1
      have e : r.1.2 = [⟨0, 0⟩] := by
        have : (bst g 0).1[0]? = some [⟨0, 0⟩] := rfl
        rw [this] at hK
        exact (Option.some.inj hK).symm
      rw [e, List.mem_singleton] at hbase
      have := congrArg ItemT.dot hbase
      simp at this
      omega
    obtain ⟨i, s, k, e, hij, hs, he, hto⟩ := aut_from hc hA hq1 (List.getElem?_eq_some_iff.1 hr).1
    obtain ⟨h1, h2, j, r', e1, _, hr', hk, _⟩ := aut_edge hc hA hs he
    have ej : j = q := by rw [e1] at hto; omega
    subst ej
    rw [hr] at hr'; cases hr'
    rw [hk] at hbase
    obtain ⟨y, hy1, hy2, hy3⟩ := kern_mem.1 hbase
    have ey : y = ⟨(m : Int), (d : Int)⟩ := by
      have a1 := congrArg ItemT.prod hy3
      have a2 := congrArg ItemT.dot hy3
      cases y
      simp at *
      omega
    subst ey
    obtain ⟨i0, s0, hi0, hc0, hw0⟩ := trace hc hA hp d (by omega) i s hs hy1
    refine ⟨i0, s0, hi0, hc0, ?_⟩
    have hlt : d < p.right.length := by omega
    have hsym : p.right[d]? = some e.sym := by
      rw [aft_some (p := p) (by show g.prods[(m : Int).toNat]? = _; rw [Int.toNat_natCast]; exact hp)] at hy2
      have hy2 : p.right.getD (d : Int).toNat (-1) = e.sym := hy2
      rw [Int.toNat_natCast, List.getD_eq_getElem?_getD, List.getElem?_eq_getElem hlt] at hy2
      rw [List.getElem?_eq_getElem hlt]
      exact congrArg some hy2
    have hil := (List.getElem?_eq_some_iff.1 hi0).1
    rw [take_succ_get hsym, wayN_app (fun i s j h => nxt_pos hc hA h) _ _ _ (Int.natCast_nonneg _) (by omega), hw0, if_neg (by omega), wayN_cons, Int.toNat_natCast, nxt_edge hA hs he, e1]
    rfl
theorem back_iff (hc : ClosedP g) (hA : AutI g ss) {q m : Nat} {r : SQ} {p : ProdT} (hr : ss[q]? = some r) (hm : 0 < m) (hp : g.prods[m]? = some p) : ClM g r.1.2 ⟨(m : Int), (p.right.length : Int)⟩ ↔ rowF (TrL g ss).length (backB g ss q m) ≠ [] := by
  constructor
  · intro h
    obtain ⟨i, s, hs, hc0, hw⟩ := trace hc hA hp p.right.length (Nat.le_refl _) q r hr h
    rw [List.take_length] at hw
    have hl := by_left hc hA hs hp hc0
    rw [decide_eq_true (by omega : m ≠ 0)] at hl
    obtain ⟨j, hj⟩ := Option.isSome_iff_exists.1 hl
    obtain ⟨s', k, e, hs', he, he1, _⟩ := nxt_inv hj
    have hat := TrL_at (g := g) hs' he (by rw [he1]; exact hc.left (List.mem_of_getElem? hp))
    rw [he1] at hat
    refine List.ne_nil_of_mem (rowF_mem.2 ⟨_, rfl, (List.getElem?_eq_some_iff.1 hat).1, (backB_iff hat).2 ⟨byR_mem.2 ⟨hm, p, hp, rfl⟩, p, hp, hw⟩⟩)
  · intro h
    obtain ⟨z, hz⟩ := List.exists_mem_of_ne_nil _ h
    obtain ⟨u, _, hu, hb⟩ := rowF_mem.1 hz
    have ht : (TrL g ss)[u]? = some (TrL g ss)[u] := List.getElem?_eq_getElem hu
    obtain ⟨hmm, p', hp', hw⟩ := (backB_iff ht).1 hb
    rw [hp] at hp'; cases hp'
    obtain ⟨_, p2, hp2, hl⟩ := byR_mem.1 hmm
    rw [hp] at hp2; cases hp2
    obtain ⟨i0, q0, e0, hq0, hcl⟩ := tr_prods hc hA ht hp hl
    obtain ⟨j, r', e1, e2, e3⟩ := walk_right hc hA hp p.right.length 0 (by omega) i0 q0 hq0 (by simpa using hcl)
    rw [List.drop_zero, ← e0, hw] at e1
    have : j = q := by omega
    subst this
    rw [hr] at e2; cases e2
    exact e3
theorem bkAt_prod {q m : Nat} {b : BackT} (h : b ∈ bkAt g ss q m) : b = ⟨(q : Int), (m : Int), rowF (TrL g ss).length (backB g ss q m)⟩ ∧ rowF (TrL g ss).length (backB g ss q m) ≠ [] := by
  unfold bkAt at h
  split at h
  · simp at h
  · rename_i hn
    rw [List.mem_singleton] at h
    exact ⟨h, hn⟩
theorem bkRow_mem {q j : Nat} {b : BackT} : b ∈ bkRow g ss q j ↔ ∃ m, m < j ∧ rowF (TrL g ss).length (backB g ss q m) ≠ [] ∧ b = ⟨(q : Int), (m : Int), rowF (TrL g ss).length (backB g ss q m)⟩ := by
  unfold bkRow
  rw [List.mem_flatMap]
  constructor
  · rintro ⟨m, hm, h⟩
    obtain ⟨h1, h2⟩ := bkAt_prod h
    exact ⟨m, List.mem_range.1 hm, h2, h1⟩
  · rintro ⟨m, hm, h2, rfl⟩
    refine ⟨m, List.mem_range.2 hm, ?_⟩
    unfold bkAt
    rw [if_neg h2]; simp
theorem bkRow_rise (q : Nat) : ∀ j, Rise ((bkRow g ss q j).map (·.prod))
  | 0 => by simp [bkRow, Rise]
  | j + 1 => by
    rw [bkRow_succ, List.map_append]
    unfold Rise
    rw [List.pairwise_append]
    refine ⟨bkRow_rise q j, ?_, fun a ha b hb => ?_⟩
    · unfold bkAt
      split <;> simp
    · obtain ⟨x, hx, rfl⟩ := List.mem_map.1 ha
      obtain ⟨y, hy, rfl⟩ := List.mem_map.1 hb
      obtain ⟨m, hm, _, rfl⟩ := bkRow_mem.1 hx
      obtain ⟨rfl, _⟩ := bkAt_prod hy
      show (m : Int) < j
      omega
theorem comp_row (hc : ClosedP g) (hA : AutI g ss) {q : Nat} {r : SQ} (hr : ss[q]? = some r) : ((cls g r.1.2).filter (compB g)).map (·.prod) = (bkRow g ss q g.prods.length).map (·.prod) := by
  obtain ⟨_, _, _, hP2, _, _⟩ := hc.sizes
  have hf := (bst_inv (g := g) (by omega) q).fit _ (List.mem_of_getElem? (aut_at hA hr).1)
  have hfit : ∀ x, x ∈ cls g r.1.2 → fitI g x := fun x hx => (cls_mem.1 hx).fit hf
  refine rise_eq ?_ (bkRow_rise q _) fun z => ?_
  · unfold Rise
    rw [List.pairwise_map]
    have hS : SrtI (cls g r.1.2) := cls_srt
    have h1 : ((cls g r.1.2).filter (compB g)).Pairwise fun x y => x.lt y := List.Pairwise.filter _ hS
    refine h1.imp_of_mem fun {x y} hx hy hlt => ?_
    obtain ⟨hx1, hx2⟩ := List.mem_filter.1 hx
    obtain ⟨hy1, hy2⟩ := List.mem_filter.1 hy
    obtain ⟨m, p, _, hp, rfl⟩ := (compB_iff (hfit x hx1)).1 hx2
    obtain ⟨m', p', _, hp', rfl⟩ := (compB_iff (hfit y hy1)).1 hy2
    unfold ItemT.lt at hlt
    show (m : Int) < m'
    rcases hlt with h | ⟨h, h2⟩
    · exact h
    · have e : m = m' := by simp at h; omega
      subst e
      rw [hp] at hp'; cases hp'
      simp at h2
  · rw [List.mem_map, List.mem_map]
    constructor
    · rintro ⟨x, hx, rfl⟩
      obtain ⟨hx1, hx2⟩ := List.mem_filter.1 hx
      obtain ⟨m, p, hm, hp, rfl⟩ := (compB_iff (hfit x hx1)).1 hx2
      exact ⟨_, bkRow_mem.2 ⟨m, (List.getElem?_eq_some_iff.1 hp).1, (back_iff hc hA hr hm hp).1 (cls_mem.1 hx1), rfl⟩, rfl⟩
    · rintro ⟨b, hb, rfl⟩
      obtain ⟨m, hm, hn, rfl⟩ := bkRow_mem.1 hb
      obtain ⟨p, hp⟩ : ∃ p, g.prods[m]? = some p := ⟨_, List.getElem?_eq_getElem hm⟩
      obtain ⟨z, hz⟩ := List.exists_mem_of_ne_nil _ hn
      obtain ⟨u, _, hu, hb⟩ := rowF_mem.1 hz
      have ht : (TrL g ss)[u]? = some (TrL g ss)[u] := List.getElem?_eq_getElem hu
      obtain ⟨hmm, _⟩ := (backB_iff ht).1 hb
      have hm0 := (byR_mem.1 hmm).1
      have hcl := cls_mem.2 ((back_iff hc hA hr hm0 hp).2 hn)
      exact ⟨_, List.mem_filter.2 ⟨hcl, (compB_iff (hfit _ hcl)).2 ⟨m, p, hm0, hp, rfl⟩⟩, rfl⟩
end
end Go.V
set_option linter.unusedVariables false
namespace Go.Proofs.YtkmjjnjngcpjmaaGreatDoor
open Go.V
abbrev n_presageref10_All : FuncId := 60
def ann_presageref10_All : Ann := { rngs := [], loops := [(3, [(5, (.one .slice)), (6, (.one (.int .i64)))]), (6, [(5, (.one .slice)), (7, (.one (.int .i64)))])], joins := [], blocks := [] }
set_option maxRecDepth 100000 in
def vc_presageref10_All (a : Option Addr) (b c : Nat) (d : Option Addr) (e f : Nat) (g : Option Addr) (i j : Nat) (k : Int) (l : Option Addr) (m n : Nat) (o : Option Addr) (p q : Nat) (s t : Int) (w : World) (R : Value → WP) : Prop :=  new w (oC [vS a b c, vS d e f, vS g i j, iI k, vS l m n] 27) fun k1 w1 => new w1 (oC [vS o p q, iI s, iI t] 48) fun k2 w2 => ∃ (x1 : lP [(5, shS), (6, shI)]), ∃ (x2 : lN [(5, shS), (6, shI)]), x1 none 0 0 0 w2 ∧ ∀ (I1 : Nat → Value) (o1 : Option Addr) (k3 k4 : Nat) (n1 : Int) (w3 : World), x1 o1 k3 k4 n1 w3 → ∃ o2 k5 k6, World.cell? w3 (aM k2) = some (vS o2 k5 k6) ∧ br (decide (n1 < (↑k5 : Int))) (∃ (x3 : lP [(5, shS), (7, shI)]), ∃ (x4 : lN [(5, shS), (7, shI)]), x3 o1 k3 k4 0 w3 ∧ ∀ (I2 : Nat → Value) (o3 : Option Addr) (k7 k8 : Nat) (n2 : Int) (w4 : World), x3 o3 k7 k8 n2 w4 → ∃ o4 k9 k10, World.cell? w4 (aM k2) = some (vS o4 k9 k10) ∧ idx o4 k9 n1 2 fun a1 => ∃ o5 k11 k12, World.cell? w4 (Addr.add a1 1) = some (vS o5 k11 k12) ∧ br (decide (n2 < (↑k11 : Int))) (∃ o6 k13 k14, World.cell? w4 (aM k2) = some (vS o6 k13 k14) ∧ idx o6 k13 n1 2 fun a2 => ∃ o7 k15 k16, World.cell? w4 (Addr.add a2 1) = some (vS o7 k15 k16) ∧ idx o7 k15 n2 2 fun a3 => ∃ n3, World.cell? w4 a3 = some (iI n3) ∧ ∃ o8 k17 k18 o9 k19 k20 o10 k21 k22 n4 o11 k23 k24, V.rowAt w4 (aM k1) 0 5 = some [vS o8 k17 k18, vS o9 k19 k20, vS o10 k21 k22, iI n4, vS o11 k23 k24] ∧ RunE Proofs.Tryz.prog Ev 90 [vA (Array.mk [vS o8 k17 k18, vS o9 k19 k20, vS o10 k21 k22, iI n4, vS o11 k23 k24]), iI n3] w4 fun v1 w5 => ∃ b1, v1 = vB b1 ∧ br b1 (new w5 (oC [iI n1, iI n3] 66) fun k25 w6 => RunS Proofs.Tryz.prog (apB 61 (Array.mk [vS o3 k7 k8, vS (some (aM k25)) 1 1])) w6 fun v2 w7 => ∃ o12 k26 k27, v2 = vS o12 k26 k27 ∧ inI (n2 + 1) ∧ x3 o12 k26 k27 (n2 + 1) w7 ∧ x4 o12 k26 k27 (n2 + 1) w7 < x4 o3 k7 k8 n2 w4) (inI (n2 + 1) ∧ x3 o3 k7 k8 (n2 + 1) w5 ∧ x4 o3 k7 k8 (n2 + 1) w5 < x4 o3 k7 k8 n2 w4)) (inI (n1 + 1) ∧ x1 o3 k7 k8 (n1 + 1) w4 ∧ x2 o3 k7 k8 (n1 + 1) w4 < x2 o1 k3 k4 n1 w3)) (R (vS o1 k3 k4) w3)
set_option maxRecDepth 100000 in
theorem run_presageref10_All (a : Option Addr) (b c : Nat) (d : Option Addr) (e f : Nat) (g : Option Addr) (i j : Nat) (k : Int) (l : Option Addr) (m n : Nat) (o : Option Addr) (p q : Nat) (s t : Int) (w : World) (R : Value → WP) (h : vc_presageref10_All a b c d e f g i j k l m n o p q s t w R) : Run Tryz.prog 60 [(.agg #[(.slice a b c), (.slice d e f), (.slice g i j), (.int .i64 k), (.slice l m n)]), (.agg #[(.slice o p q), (.int .i64 s), (.int .i64 t)])] w R := rv Tryz.func60 ann_presageref10_All (by kernel_rfl) h

abbrev n_presageref10_Number : FuncId := 62
def ann_presageref10_Number : Ann := { rngs := [], loops := [(2, [(7, (.one (.int .i64)))])], joins := [], blocks := [] }
set_option maxRecDepth 100000 in
def vc_presageref10_Number (a : Option Addr) (b c : Nat) (d e : Int) (w : World) (R : Value → WP) : Prop :=  ∃ (x1 : lP [(7, shI)]), ∃ (x2 : lN [(7, shI)]), x1 0 w ∧ ∀ (I1 : Nat → Value) (n1 : Int) (w1 : World), x1 n1 w1 → br (decide (n1 < (↑b : Int))) (idx a b n1 2 fun a1 => ∃ n2, World.cell? w1 a1 = some (iI n2) ∧ br (n2 == d) (idx a b n1 2 fun a2 => ∃ n3, World.cell? w1 (Addr.add a2 1) = some (iI n3) ∧ br (n3 == e) (R (iI n1) w1) (inI (n1 + 1) ∧ x1 (n1 + 1) w1 ∧ x2 (n1 + 1) w1 < x2 n1 w1)) (inI (n1 + 1) ∧ x1 (n1 + 1) w1 ∧ x2 (n1 + 1) w1 < x2 n1 w1)) (R (iI (-1)) w1)
set_option maxRecDepth 100000 in
theorem run_presageref10_Number (a : Option Addr) (b c : Nat) (d e : Int) (w : World) (R : Value → WP) (h : vc_presageref10_Number a b c d e w R) : Run Tryz.prog 62 [(.slice a b c), (.int .i64 d), (.int .i64 e)] w R := rv Tryz.func62 ann_presageref10_Number (by kernel_rfl) h

end Go.Proofs.YtkmjjnjngcpjmaaGreatDoor
set_option linter.unusedVariables false
set_option maxRecDepth 4000
namespace Go.Proofs.YtkmjjnjngcpjmaaGreatDoor
open Go.V
section
variable {w : World} {L : List Asn} {g : GramT} {x : GA} {ss : List SQ}
theorem d_IsNon {s : Int} (hg : gR (hp w) g x) (hb : okG g) : Run Tryz.prog n_presageref02_IsNon [.agg ⟨x.cells⟩, .int .i64 s] w fun v w' => v = .bool (decide ((g.T : Int) ≤ s) && decide (s < (g.T : Int) + g.N)) ∧ Gr w w' := by
  have hTl : g.T = x.tl := hg.t.1
  refine run_presageref02_IsNon _ _ _ _ _ _ _ _ _ _ _ _ _ _ w _ (gbox hg fun k1 w1 gw hg B => ?_)
  refine ⟨_, _, _, B.c0 (sub.refl _), br_intro (fun h1 => ?_) fun h1 => ?_⟩
  · refine ⟨_, _, _, _, _, _, _, _, _, _, _, _, _, B.row (sub.refl _), (d_Symbols hg hb).mono ?_⟩
    rintro _ w2 ⟨rfl, g2⟩
    refine ⟨_, rfl, ?_, gw.trans g2⟩
    rw [hTl, h1, Bool.true_and]
  · refine ⟨?_, gw⟩
    rw [hTl, h1, Bool.false_and]
theorem d_All {o : Option Addr} {c : Nat} {ask int : Int} (hg : gR (hp w) g x) (hb : okG g) (hc : ClosedP g) (hA : AutI g ss) (hs : stRd (hp w) ss o) : Run Tryz.prog n_presageref10_All [.agg ⟨x.cells⟩, .agg #[.slice o ss.length c, .int .i64 ask, .int .i64 int]] w fun v w' => ∃ (o : Option Addr) (c : Nat), v = .slice o (TrL g ss).length c ∧ St w' (own 2 o (TrL g ss).length c (trv (TrL g ss)) :: all w) := by
  have hkl := hA.klen hc
  have h256 := hA.dn.2.1
  refine run_presageref10_All _ _ _ _ _ _ _ _ _ _ _ _ _ _ _ _ _ _ w _ (gbox hg fun k1 w1 gw hg B => newC_i (St.all w1) fun k2 w2 h => ?_)
  have g12 : Gr w1 w2 := h.gone1
  have r2 : rowH (hp w2) (aM k2) [.slice o ss.length c, .int .i64 ask, .int .i64 int] := rdCel 0 h.l
  clear h
  have hs := (hs.mono gw).mono g12
  refine ⟨fun o n c z w' => ∃ i : Nat, z = i ∧ i ≤ ss.length ∧ n = (TrN g ss i).length ∧ St w' (own 2 o n c (trv (TrN g ss i)) :: all w2), fun _ _ _ z _ => ss.length - z.toNat,
    ⟨0, rfl, Nat.zero_le _, rfl, own_nil 2 (St.all w2)⟩, ?_⟩
  rintro _ o2 _ c2 _ w3 ⟨i, rfl, hi, rfl, h⟩
  have s3 : sub (hp w2) (hp w3) := rdH 1 h.l
  refine ⟨_, _, _, r2.cell0 s3, br_intro (fun h1 => ?_) fun h1 => ?_⟩
  rotate_left
  · have h1 : i = ss.length := by have := of_decide_eq_false h1; omega
    subst h1
    exact ⟨_, _, rfl, St.on1 h (has_i (gw.trans g12))⟩
  have h1 : i < ss.length := by have := of_decide_eq_true h1; omega
  obtain ⟨q, hq⟩ : ∃ q, ss[i]? = some q := ⟨_, List.getElem?_eq_getElem h1⟩
  obtain ⟨ad, rfl, rs, _, re⟩ := hs i q hq
  have hql := (hkl q (List.mem_of_getElem? hq)).2
  have hNl := TrN_len (g := g) (fun q hq => (hkl q hq).2) i
  refine ⟨fun o n c z w' => ∃ (j : Nat), z = j ∧ j ≤ q.2.2.length ∧ n = (TrN g ss i ++ trAt g i (q.2.2.take j)).length ∧ St w' (own 2 o n c (trv (TrN g ss i ++ trAt g i (q.2.2.take j))) :: all w2), fun _ _ _ z _ => q.2.2.length - z.toNat,
    ⟨0, rfl, Nat.zero_le _, by simp [trAt], by simpa [trAt] using h⟩, ?_⟩
  clear h
  rintro _ o6 _ c6 _ w4 ⟨j, rfl, hj, rfl, h⟩
  have s4 : sub (hp w2) (hp w4) := rdH 1 h.l
  have hTA := trAt_len g i (q.2.2.take j)
  rw [List.length_take] at hTA
  refine ⟨_, _, _, r2.cell0 s4, idx_n rfl h1 ⟨_, _, _, rs.cell s4 (j := 1) rfl, br_intro (fun h2 => ?_) fun h2 => ?_⟩⟩
  rotate_left
  · have h2 : j = q.2.2.length := by have := of_decide_eq_false h2; omega
    subst h2
    rw [List.take_length] at h ⊢
    exact ⟨⟨by omega, by omega⟩, ⟨i + 1, by simp, h1, by rw [TrN_succ hq], by rw [TrN_succ hq]; exact h⟩, msr h1⟩
  have h2 : j < q.2.2.length := by have := of_decide_eq_true h2; omega
  obtain ⟨e, ead, he, hea, red⟩ := rdEd_get re h2
  have ht : q.2.2.take (j + 1) = q.2.2.take j ++ [e] := by rw [List.take_add_one, he]; rfl
  obtain ⟨hs1, hs2, _⟩ := aut_edge hc hA hq he
  have g14 : Gr w1 w4 := g12.trans s4
  refine ⟨_, _, _, r2.cell0 s4, idx_n rfl h1 ⟨_, _, _, rs.cell s4 (j := 1) rfl, idx_n hea h2 ⟨_, red.cell0 s4, _, _, _, _, _, _, _, _, _, _, _, _, _, B.row g14, (d_IsNon (hg.mono g14) hb).mono ?_⟩⟩⟩
  rintro _ w5 ⟨rfl, g45⟩
  have h := h.gr g45
  refine ⟨_, rfl, br_intro (fun h3 => ?_) fun h3 => ?_⟩
  · have h3 : (g.T : Int) ≤ e.sym := by rw [Bool.and_eq_true] at h3; exact of_decide_eq_true h3.1
    have z1 : ((TrN g ss i ++ trAt g i (q.2.2.take j)).length + 1) * 16 ≤ 140737488355328 ∧ (TrN g ss i ++ trAt g i (q.2.2.take j)).length < 9223372036854775807 := by rw [List.length_append]; omega
    refine newC_i h fun k17 w10 h => ?_
    refine (app_one (us := trv (TrN g ss i ++ trAt g i (q.2.2.take j))) tyOk (rfl : kdOfT Ty _ = .slice _) (rfl : kdOfT Ty _ = .slice _) rfl rfl rfl h rfl (by simp [oneC]) z1.1 z1.2).mono ?_
    rintro _ w11 ⟨o8, c8, rfl, h⟩
    have e2 : trAt g i (q.2.2.take (j + 1)) = trAt g i (q.2.2.take j) ++ [⟨(i : Int), e.sym⟩] := by rw [ht, trAt_snoc, if_pos h3]
    have e3 : trv (TrN g ss i ++ trAt g i (q.2.2.take (j + 1))) = trv (TrN g ss i ++ trAt g i (q.2.2.take j)) ++ [.int .i64 (i : Int), .int .i64 e.sym] := by rw [e2, ← List.append_assoc, trv_app]; rfl
    refine ⟨_, _, _, rfl, ⟨by omega, by omega⟩, ⟨j + 1, by simp, h2, by rw [e2]; simp; omega, ?_⟩, msr h2⟩
    rw [e3]; exact h.pick 2 [0]
  · have h3 : ¬(g.T : Int) ≤ e.sym := fun h4 => by rw [decide_eq_true h4, decide_eq_true hs2] at h3; cases h3
    have e2 : trAt g i (q.2.2.take (j + 1)) = trAt g i (q.2.2.take j) := by rw [ht, trAt_snoc, if_neg h3]
    exact ⟨⟨by omega, by omega⟩, ⟨j + 1, by simp, h2, by rw [e2], by rw [e2]; exact h⟩, msr h2⟩
end
end Go.Proofs.YtkmjjnjngcpjmaaGreatDoor
set_option linter.unusedVariables false
set_option maxRecDepth 4000
namespace Go.Proofs.YtkmjjnjngcpjmaaGreatDoor
open Go.V
section
variable {w : World} {L : List Asn} {g : GramT} {x : GA} {ss : List SQ}
end
end Go.Proofs.YtkmjjnjngcpjmaaGreatDoor
set_option linter.unusedVariables false
set_option maxRecDepth 4000
namespace Go.Proofs.YtkmjjnjngcpjmaaGreatDoor
open Go.V
section
variable {w : World} {L : List Asn} {g : GramT} {x : GA} {ss : List SQ} {a : Option Addr} {l c : Nat} {row : List Int}
theorem d_Way {o : Option Addr} {c2 : Nat} {ask int : Int} {i : Nat} (hc : ClosedP g) (hA : AutI g ss) (hs : stRd (hp w) ss o) (hi : i < ss.length) (hr : rdS (hp w) row a l) (hl : l ≤ 4611686018427387904) : Run Tryz.prog n_presageref09_Way [.agg #[.slice o ss.length c2, .int .i64 ask, .int .i64 int], .int .i64 (i : Int), .slice a l c] w fun v w' => v = .int .i64 (wayN ss i row) ∧ Gr w w' := by
  have hkl := hA.klen hc
  have h256 := hA.dn.2.1
  have hrl := hr.1
  refine run_presageref09_Way _ _ _ _ _ _ _ _ _ w _ (newC_i (St.all w) fun k1 w1 h => ?_)
  have g1 : Gr w w1 := h.gone1
  have r1 : rowH (hp w1) (aM k1) [.slice o ss.length c2, .int .i64 ask, .int .i64 int] := rdCel 0 h.l
  clear h
  have hs := hs.mono g1
  refine ⟨fun q z w' => ∃ j : Nat, z = j ∧ j ≤ l ∧ (q = -1 ∧ wayN ss i row = -1 ∨ 0 ≤ q ∧ q < ss.length ∧ wayN ss i row = wayN ss q (row.drop j)) ∧ Gr w1 w', fun _ z _ => l - z.toNat, ⟨0, rfl, by omega, .inr ⟨by omega, by omega, rfl⟩, Gr.refl _⟩, ?_⟩
  rintro _ q _ w2 ⟨j, rfl, hj, hq, g2⟩
  refine br_intro (fun h1 => br_intro (fun h2 => ?_) fun h2 => ?_) fun h1 => ?_
  · have h1 : j < l := by have := of_decide_eq_true h1; omega
    have h2 := of_decide_eq_true h2
    obtain ⟨q0, q1, he⟩ := hq.resolve_left (by omega)
    obtain ⟨n, rfl⟩ : ∃ n : Nat, q = n := ⟨q.toNat, by omega⟩
    obtain ⟨y, ad, hy1, hya, hy2⟩ := hr.get1 h1
    have hd : row.drop j = y :: row.drop (j + 1) := by
      rw [List.drop_eq_getElem_cons (by omega)]
      congr 1
      exact (List.getElem?_eq_some_iff.1 hy1).2
    intro w3 hdr
    have g3 := g2.trans (Gr.drawn hdr)
    refine ⟨fun u => Gr w3 u, Gr.refl _, _, _, _, _, _, fun u s => r1.at (sub.trans g3 s) rfl, idx_i hya h1 ⟨y, fun u s => hy2 _ (sub.trans g1 (sub.trans g3 s)), (d_Next (i := n) (s := y) hA (hs.mono g3) (by omega) (fun q hq => (hkl q hq).2) h256).mono ?_⟩⟩
    rintro _ w6 ⟨rfl, g6⟩
    refine ⟨_, rfl, g6, ⟨by omega, by omega⟩, ⟨j + 1, by simp, h1, ?_, g3.trans g6⟩, msr h1⟩
    rw [he, hd, wayN_cons, Int.toNat_natCast]
    unfold nextS
    cases hn : nxt ss n y with
    | none => exact .inl ⟨rfl, rfl⟩
    | some t =>
      have := nxt_pos hc hA hn
      exact .inr ⟨this.1, this.2, rfl⟩
  · have h2 := of_decide_eq_false h2
    rcases hq with ⟨rfl, e⟩ | ⟨q0, _⟩
    · exact ⟨by rw [e], g1.trans g2⟩
    · omega
  · have h1 : j = l := by have := of_decide_eq_false h1; omega
    subst h1
    rcases hq with ⟨rfl, e⟩ | ⟨_, _, e⟩
    · exact ⟨by rw [e], g1.trans g2⟩
    · rw [← hrl, List.drop_length] at e
      exact ⟨by rw [e]; rfl, g1.trans g2⟩
end
end Go.Proofs.YtkmjjnjngcpjmaaGreatDoor
set_option linter.unusedVariables false
set_option maxRecDepth 4000
namespace Go.V
theorem AsR.es {h : Hp} {g : GramT} {ss ss' : List SQ} {nn : List Bool} {k : Nat} (r : AsR h g ss nn k) (e : esOf ss = esOf ss') : AsR h g ss' nn k := by
  obtain ⟨x, ol, cl, on, cn, h1, h2, h3, h4⟩ := r.ex
  rw [TrL_es e] at h1 h3
  exact ⟨x, ol, cl, on, cn, h1, h2, h3, h4⟩
end Go.V
namespace Go.Proofs.YtkmjjnjngcpjmaaGreatDoor
open Go.V
variable {w : World} {L : List Asn} {g : GramT} {x : GA}
end Go.Proofs.YtkmjjnjngcpjmaaGreatDoor
set_option linter.unusedVariables false
namespace Go.Proofs.YtkmjjnjngcpjmaaGreatDoor
open Go.V
abbrev n_presageref11_Reads : FuncId := 9
def ann_presageref11_Reads : Ann := { rngs := [], loops := [], joins := [], blocks := [] }
set_option maxRecDepth 100000 in
def vc_presageref11_Reads (a : Option Addr) (b c : Nat) (d : Option Addr) (e f : Nat) (g : Option Addr) (i j : Nat) (k : Int) (l : Option Addr) (m n : Nat) (w : World) (R : Value → WP) : Prop :=  new w (oC [vS a b c, vS d e f, vS g i j, iI k, vS l m n] 27) fun k1 w1 => ∃ o1 k2 k3 o2 k4 k5 o3 k6 k7 n1 o4 k8 k9, V.rowAt w1 (aM k1) 0 5 = some [vS o1 k2 k3, vS o2 k4 k5, vS o3 k6 k7, iI n1, vS o4 k8 k9] ∧ RunE Proofs.Tryz.prog Ev 26 [vA (Array.mk [vS o1 k2 k3, vS o2 k4 k5, vS o3 k6 k7, iI n1, vS o4 k8 k9])] w1 fun v1 w2 => ∃ o5 k10 k11 o6 k12 k13 o7 k14 k15 n2 o8 k16 k17 o9 k18 k19 n3 n4 o10 k20 k21 o11 k22 k23 n5, v1 = vT (Array.mk [vA (Array.mk [vS o5 k10 k11, vS o6 k12 k13, vS o7 k14 k15, iI n2, vS o8 k16 k17, vS o9 k18 k19, iI n3, iI n4, vS o10 k20 k21, vS o11 k22 k23]), iI n5]) ∧ new w2 (oC [vS none 0 0, vS none 0 0, vS none 0 0, iI 0, vS none 0 0, vS none 0 0, iI 0, iI 0, vS none 0 0, vS none 0 0] 75) fun k24 w3 => stR w3 (aM k24) [vS o5 k10 k11, vS o6 k12 k13, vS o7 k14 k15, iI n2, vS o8 k16 k17, vS o9 k18 k19, iI n3, iI n4, vS o10 k20 k21, vS o11 k22 k23] fun w4 => br (n5 != 0) (R (vT (Array.mk [vS none 0 0, iI n5])) w4) (RunE Proofs.Tryz.prog Ev 27 [vP (some (aM k24))] w4 fun v2 w5 => ∃ o12 k25 k26, v2 = vS o12 k25 k26 ∧ R (vT (Array.mk [vS o12 k25 k26, iI 0])) w5)
set_option maxRecDepth 100000 in
theorem run_presageref11_Reads (a : Option Addr) (b c : Nat) (d : Option Addr) (e f : Nat) (g : Option Addr) (i j : Nat) (k : Int) (l : Option Addr) (m n : Nat) (w : World) (R : Value → WP) (h : vc_presageref11_Reads a b c d e f g i j k l m n w R) : Run Tryz.prog 9 [(.agg #[(.slice a b c), (.slice d e f), (.slice g i j), (.int .i64 k), (.slice l m n)])] w R := rv Tryz.func9 ann_presageref11_Reads (by kernel_rfl) h

abbrev n_presageref11_Includes : FuncId := 10
def ann_presageref11_Includes : Ann := { rngs := [], loops := [], joins := [], blocks := [] }
set_option maxRecDepth 100000 in
def vc_presageref11_Includes (a : Option Addr) (b c : Nat) (d : Option Addr) (e f : Nat) (g : Option Addr) (i j : Nat) (k : Int) (l : Option Addr) (m n : Nat) (w : World) (R : Value → WP) : Prop :=  new w (oC [vS a b c, vS d e f, vS g i j, iI k, vS l m n] 27) fun k1 w1 => ∃ o1 k2 k3 o2 k4 k5 o3 k6 k7 n1 o4 k8 k9, V.rowAt w1 (aM k1) 0 5 = some [vS o1 k2 k3, vS o2 k4 k5, vS o3 k6 k7, iI n1, vS o4 k8 k9] ∧ RunE Proofs.Tryz.prog Ev 26 [vA (Array.mk [vS o1 k2 k3, vS o2 k4 k5, vS o3 k6 k7, iI n1, vS o4 k8 k9])] w1 fun v1 w2 => ∃ o5 k10 k11 o6 k12 k13 o7 k14 k15 n2 o8 k16 k17 o9 k18 k19 n3 n4 o10 k20 k21 o11 k22 k23 n5, v1 = vT (Array.mk [vA (Array.mk [vS o5 k10 k11, vS o6 k12 k13, vS o7 k14 k15, iI n2, vS o8 k16 k17, vS o9 k18 k19, iI n3, iI n4, vS o10 k20 k21, vS o11 k22 k23]), iI n5]) ∧ new w2 (oC [vS none 0 0, vS none 0 0, vS none 0 0, iI 0, vS none 0 0, vS none 0 0, iI 0, iI 0, vS none 0 0, vS none 0 0] 75) fun k24 w3 => stR w3 (aM k24) [vS o5 k10 k11, vS o6 k12 k13, vS o7 k14 k15, iI n2, vS o8 k16 k17, vS o9 k18 k19, iI n3, iI n4, vS o10 k20 k21, vS o11 k22 k23] fun w4 => br (n5 != 0) (R (vT (Array.mk [vS none 0 0, iI n5])) w4) (RunE Proofs.Tryz.prog Ev 28 [vP (some (aM k24))] w4 fun v2 w5 => ∃ o12 k25 k26, v2 = vS o12 k25 k26 ∧ R (vT (Array.mk [vS o12 k25 k26, iI 0])) w5)
set_option maxRecDepth 100000 in
theorem run_presageref11_Includes (a : Option Addr) (b c : Nat) (d : Option Addr) (e f : Nat) (g : Option Addr) (i j : Nat) (k : Int) (l : Option Addr) (m n : Nat) (w : World) (R : Value → WP) (h : vc_presageref11_Includes a b c d e f g i j k l m n w R) : Run Tryz.prog 10 [(.agg #[(.slice a b c), (.slice d e f), (.slice g i j), (.int .i64 k), (.slice l m n)])] w R := rv Tryz.func10 ann_presageref11_Includes (by kernel_rfl) h

abbrev n_presageref11_Lookback : FuncId := 11
def ann_presageref11_Lookback : Ann := { rngs := [], loops := [], joins := [], blocks := [] }
set_option maxRecDepth 100000 in
def vc_presageref11_Lookback (a : Option Addr) (b c : Nat) (d : Option Addr) (e f : Nat) (g : Option Addr) (i j : Nat) (k : Int) (l : Option Addr) (m n : Nat) (w : World) (R : Value → WP) : Prop :=  new w (oC [vS a b c, vS d e f, vS g i j, iI k, vS l m n] 27) fun k1 w1 => ∃ o1 k2 k3 o2 k4 k5 o3 k6 k7 n1 o4 k8 k9, V.rowAt w1 (aM k1) 0 5 = some [vS o1 k2 k3, vS o2 k4 k5, vS o3 k6 k7, iI n1, vS o4 k8 k9] ∧ RunE Proofs.Tryz.prog Ev 26 [vA (Array.mk [vS o1 k2 k3, vS o2 k4 k5, vS o3 k6 k7, iI n1, vS o4 k8 k9])] w1 fun v1 w2 => ∃ o5 k10 k11 o6 k12 k13 o7 k14 k15 n2 o8 k16 k17 o9 k18 k19 n3 n4 o10 k20 k21 o11 k22 k23 n5, v1 = vT (Array.mk [vA (Array.mk [vS o5 k10 k11, vS o6 k12 k13, vS o7 k14 k15, iI n2, vS o8 k16 k17, vS o9 k18 k19, iI n3, iI n4, vS o10 k20 k21, vS o11 k22 k23]), iI n5]) ∧ new w2 (oC [vS none 0 0, vS none 0 0, vS none 0 0, iI 0, vS none 0 0, vS none 0 0, iI 0, iI 0, vS none 0 0, vS none 0 0] 75) fun k24 w3 => stR w3 (aM k24) [vS o5 k10 k11, vS o6 k12 k13, vS o7 k14 k15, iI n2, vS o8 k16 k17, vS o9 k18 k19, iI n3, iI n4, vS o10 k20 k21, vS o11 k22 k23] fun w4 => br (n5 != 0) (R (vT (Array.mk [vS none 0 0, iI n5])) w4) (RunE Proofs.Tryz.prog Ev 29 [vP (some (aM k24))] w4 fun v2 w5 => ∃ o12 k25 k26, v2 = vS o12 k25 k26 ∧ R (vT (Array.mk [vS o12 k25 k26, iI 0])) w5)
set_option maxRecDepth 100000 in
theorem run_presageref11_Lookback (a : Option Addr) (b c : Nat) (d : Option Addr) (e f : Nat) (g : Option Addr) (i j : Nat) (k : Int) (l : Option Addr) (m n : Nat) (w : World) (R : Value → WP) (h : vc_presageref11_Lookback a b c d e f g i j k l m n w R) : Run Tryz.prog 11 [(.agg #[(.slice a b c), (.slice d e f), (.slice g i j), (.int .i64 k), (.slice l m n)])] w R := rv Tryz.func11 ann_presageref11_Lookback (by kernel_rfl) h

abbrev n_presageref11_SameLists : FuncId := 15
def ann_presageref11_SameLists : Ann := { rngs := [], loops := [(4, [(5, (.one (.int .i64)))])], joins := [], blocks := [] }
set_option maxRecDepth 100000 in
def vc_presageref11_SameLists (a : Option Addr) (b c : Nat) (d : Option Addr) (e f : Nat) (w : World) (R : Value → WP) : Prop :=  br ((↑b : Int) != (↑e : Int)) (R (vB false) w) (∃ (x1 : lP [(5, shI)]), ∃ (x2 : lN [(5, shI)]), x1 0 w ∧ ∀ (I1 : Nat → Value) (n1 : Int) (w1 : World), x1 n1 w1 → br (decide (n1 < (↑b : Int))) (∀ w2, drawn w1 w2 → ∃ (I2 : World → Prop), I2 w2 ∧ idx a b n1 1 fun a1 => ∃ o1 k1 k2, (∀ w3, I2 w3 → World.cell? w3 a1 = some (vS o1 k1 k2)) ∧ idx d e n1 1 fun a2 => ∃ o2 k3 k4, (∀ w4, I2 w4 → World.cell? w4 a2 = some (vS o2 k3 k4)) ∧ RunE Proofs.Tryz.prog Ev 40 [vS o1 k1 k2, vS o2 k3 k4] w2 fun v1 w5 => ∃ b1, v1 = vB b1 ∧ I2 w5 ∧ br (!b1) (R (vB false) w5) (inI (n1 + 1) ∧ x1 (n1 + 1) w5 ∧ x2 (n1 + 1) w5 < x2 n1 w1)) (R (vB true) w1))
set_option maxRecDepth 100000 in
theorem run_presageref11_SameLists (a : Option Addr) (b c : Nat) (d : Option Addr) (e f : Nat) (w : World) (R : Value → WP) (h : vc_presageref11_SameLists a b c d e f w R) : Run Tryz.prog 15 [(.slice a b c), (.slice d e f)] w R := rv Tryz.func15 ann_presageref11_SameLists (by kernel_rfl) h

abbrev n_presageref11_SameBacks : FuncId := 16
def ann_presageref11_SameBacks : Ann := { rngs := [], loops := [(4, [(5, (.one (.int .i64)))])], joins := [], blocks := [] }
set_option maxRecDepth 100000 in
def vc_presageref11_SameBacks (a : Option Addr) (b c : Nat) (d : Option Addr) (e f : Nat) (w : World) (R : Value → WP) : Prop :=  br ((↑b : Int) != (↑e : Int)) (R (vB false) w) (∃ (x1 : lP [(5, shI)]), ∃ (x2 : lN [(5, shI)]), x1 0 w ∧ ∀ (I1 : Nat → Value) (n1 : Int) (w1 : World), x1 n1 w1 → br (decide (n1 < (↑b : Int))) (∀ w2, drawn w1 w2 → ∃ (I2 : World → Prop), I2 w2 ∧ idx a b n1 3 fun a1 => ∃ o1 k1 k2, (∀ w3, I2 w3 → World.cell? w3 (Addr.add a1 2) = some (vS o1 k1 k2)) ∧ idx d e n1 3 fun a2 => ∃ o2 k3 k4, (∀ w4, I2 w4 → World.cell? w4 (Addr.add a2 2) = some (vS o2 k3 k4)) ∧ RunE Proofs.Tryz.prog Ev 40 [vS o1 k1 k2, vS o2 k3 k4] w2 fun v1 w5 => ∃ b1, v1 = vB b1 ∧ I2 w5 ∧ ∀ w6, drawn w5 w6 → ∃ (I3 : World → Prop), I3 w6 ∧ br (!b1) (R (vB false) w6) (idx a b n1 3 fun a3 => ∃ n2, (∀ w7, I3 w7 → World.cell? w7 a3 = some (iI n2)) ∧ idx d e n1 3 fun a4 => ∃ n3, (∀ w8, I3 w8 → World.cell? w8 a4 = some (iI n3)) ∧ br (n2 != n3) (R (vB false) w6) (idx a b n1 3 fun a5 => ∃ n4, (∀ w9, I3 w9 → World.cell? w9 (Addr.add a5 1) = some (iI n4)) ∧ idx d e n1 3 fun a6 => ∃ n5, (∀ w10, I3 w10 → World.cell? w10 (Addr.add a6 1) = some (iI n5)) ∧ br (n4 != n5) (R (vB false) w6) (inI (n1 + 1) ∧ x1 (n1 + 1) w6 ∧ x2 (n1 + 1) w6 < x2 n1 w1)))) (R (vB true) w1))
set_option maxRecDepth 100000 in
theorem run_presageref11_SameBacks (a : Option Addr) (b c : Nat) (d : Option Addr) (e f : Nat) (w : World) (R : Value → WP) (h : vc_presageref11_SameBacks a b c d e f w R) : Run Tryz.prog 16 [(.slice a b c), (.slice d e f)] w R := rv Tryz.func16 ann_presageref11_SameBacks (by kernel_rfl) h

abbrev n_presageref11_Of : FuncId := 26
def ann_presageref11_Of : Ann := { rngs := [], loops := [], joins := [], blocks := [] }
set_option maxRecDepth 100000 in
def vc_presageref11_Of (a : Option Addr) (b c : Nat) (d : Option Addr) (e f : Nat) (g : Option Addr) (i j : Nat) (k : Int) (l : Option Addr) (m n : Nat) (w : World) (R : Value → WP) : Prop :=  new w (oC [vS a b c, vS d e f, vS g i j, iI k, vS l m n] 27) fun k1 w1 => new w1 (oC [vS none 0 0, vS none 0 0, vS none 0 0, iI 0, vS none 0 0, vS none 0 0, iI 0, iI 0, vS none 0 0, vS none 0 0] 75) fun k2 w2 => ∃ o1 k3 k4 o2 k5 k6 o3 k7 k8 n1 o4 k9 k10, V.rowAt w2 (aM k1) 0 5 = some [vS o1 k3 k4, vS o2 k5 k6, vS o3 k7 k8, iI n1, vS o4 k9 k10] ∧ RunE Proofs.Tryz.prog Ev 59 [vA (Array.mk [vS o1 k3 k4, vS o2 k5 k6, vS o3 k7 k8, iI n1, vS o4 k9 k10])] w2 fun v1 w3 => ∃ o5 k11 k12 n2 n3 n4, v1 = vT (Array.mk [vA (Array.mk [vS o5 k11 k12, iI n2, iI n3]), iI n4]) ∧ new w3 (oC [vS none 0 0, iI 0, iI 0] 48) fun k13 w4 => stR w4 (aM k13) [vS o5 k11 k12, iI n2, iI n3] fun w5 => br (n4 != 0) (stR w5 (aM k2) [vS none 0 0, vS none 0 0, vS none 0 0, iI 0, vS none 0 0, vS none 0 0, iI 0, iI 0, vS none 0 0, vS none 0 0] fun w6 => ∃ o6 k14 k15 o7 k16 k17 o8 k18 k19 n5 o9 k20 k21 o10 k22 k23 n6 n7 o11 k24 k25 o12 k26 k27, V.rowAt w6 (aM k2) 0 10 = some [vS o6 k14 k15, vS o7 k16 k17, vS o8 k18 k19, iI n5, vS o9 k20 k21, vS o10 k22 k23, iI n6, iI n7, vS o11 k24 k25, vS o12 k26 k27] ∧ R (vT (Array.mk [vA (Array.mk [vS o6 k14 k15, vS o7 k16 k17, vS o8 k18 k19, iI n5, vS o9 k20 k21, vS o10 k22 k23, iI n6, iI n7, vS o11 k24 k25, vS o12 k26 k27]), iI n4])) w6) (∀ w7, drawn w5 w7 → ∃ (I1 : World → Prop), I1 w7 ∧ ∃ o13 k28 k29 o14 k30 k31 o15 k32 k33 n8 o16 k34 k35, (∀ w8, I1 w8 → V.rowAt w8 (aM k1) 0 5 = some [vS o13 k28 k29, vS o14 k30 k31, vS o15 k32 k33, iI n8, vS o16 k34 k35]) ∧ ∃ o17 k36 k37 n9 n10, (∀ w9, I1 w9 → V.rowAt w9 (aM k13) 0 3 = some [vS o17 k36 k37, iI n9, iI n10]) ∧ ∃ o18 k38 k39 o19 k40 k41 o20 k42 k43 n11 o21 k44 k45, (∀ w10, I1 w10 → V.rowAt w10 (aM k1) 0 5 = some [vS o18 k38 k39, vS o19 k40 k41, vS o20 k42 k43, iI n11, vS o21 k44 k45]) ∧ ∃ o22 k46 k47 n12 n13, (∀ w11, I1 w11 → V.rowAt w11 (aM k13) 0 3 = some [vS o22 k46 k47, iI n12, iI n13]) ∧ ∃ o23 k48 k49 o24 k50 k51 o25 k52 k53 n14 o26 k54 k55, (∀ w12, I1 w12 → V.rowAt w12 (aM k1) 0 5 = some [vS o23 k48 k49, vS o24 k50 k51, vS o25 k52 k53, iI n14, vS o26 k54 k55]) ∧ RunE Proofs.Tryz.prog Ev 60 [vA (Array.mk [vS o18 k38 k39, vS o19 k40 k41, vS o20 k42 k43, iI n11, vS o21 k44 k45]), vA (Array.mk [vS o22 k46 k47, iI n12, iI n13])] w7 fun v2 w13 => ∃ o27 k56 k57, v2 = vS o27 k56 k57 ∧ I1 w13 ∧ RunE Proofs.Tryz.prog Ev 61 [vA (Array.mk [vS o23 k48 k49, vS o24 k50 k51, vS o25 k52 k53, iI n14, vS o26 k54 k55])] w13 fun v3 w14 => ∃ o28 k58 k59, v3 = vS o28 k58 k59 ∧ I1 w14 ∧ stR w14 (aM k2) [vS o13 k28 k29, vS o14 k30 k31, vS o15 k32 k33, iI n8, vS o16 k34 k35, vS o17 k36 k37, iI n9, iI n10, vS o27 k56 k57, vS o28 k58 k59] fun w15 => I1 w15 ∧ ∃ o29 k60 k61 o30 k62 k63 o31 k64 k65 n15 o32 k66 k67 o33 k68 k69 n16 n17 o34 k70 k71 o35 k72 k73, V.rowAt w15 (aM k2) 0 10 = some [vS o29 k60 k61, vS o30 k62 k63, vS o31 k64 k65, iI n15, vS o32 k66 k67, vS o33 k68 k69, iI n16, iI n17, vS o34 k70 k71, vS o35 k72 k73] ∧ R (vT (Array.mk [vA (Array.mk [vS o29 k60 k61, vS o30 k62 k63, vS o31 k64 k65, iI n15, vS o32 k66 k67, vS o33 k68 k69, iI n16, iI n17, vS o34 k70 k71, vS o35 k72 k73]), iI 0])) w15)
set_option maxRecDepth 100000 in
theorem run_presageref11_Of (a : Option Addr) (b c : Nat) (d : Option Addr) (e f : Nat) (g : Option Addr) (i j : Nat) (k : Int) (l : Option Addr) (m n : Nat) (w : World) (R : Value → WP) (h : vc_presageref11_Of a b c d e f g i j k l m n w R) : Run Tryz.prog 26 [(.agg #[(.slice a b c), (.slice d e f), (.slice g i j), (.int .i64 k), (.slice l m n)])] w R := rv Tryz.func26 ann_presageref11_Of (by kernel_rfl) h

abbrev n_presageref11_World_Reads : FuncId := 27
def ann_presageref11_World_Reads : Ann := { rngs := [], loops := [(3, [(4, (.one (.int .i64)))]), (7, [(6, (.one (.int .i64)))])], joins := [], blocks := [] }
set_option maxRecDepth 100000 in
def vc_presageref11_World_Reads (a : Option Addr) (w : World) (R : Value → WP) : Prop :=  nn a fun a1 => ∃ o1 k1 k2, World.cell? w (Addr.add a1 8) = some (vS o1 k1 k2) ∧ mkOk (↑k1 : Int) (↑k1 : Int) 24 ∧ new w (Obj.cells (Array.mk (reps (Int.toNat (↑k1 : Int)) [vS none 0 0])) 24) fun k3 w1 => ∃ (x1 : lP [(4, shI)]), ∃ (x2 : lN [(4, shI)]), x1 0 w1 ∧ ∀ (I1 : Nat → Value) (n1 : Int) (w2 : World), x1 n1 w2 → nn a fun a2 => ∃ o2 k4 k5, World.cell? w2 (Addr.add a2 8) = some (vS o2 k4 k5) ∧ br (decide (n1 < (↑k4 : Int))) (∀ w3, drawn w2 w3 → ∃ (I2 : World → Prop), I2 w3 ∧ nn a fun a3 => ∃ o3 k6 k7 n2 n3, (∀ w4, I2 w4 → V.rowAt w4 (Addr.add a3 5) 0 3 = some [vS o3 k6 k7, iI n2, iI n3]) ∧ nn a fun a4 => ∃ o4 k8 k9, (∀ w5, I2 w5 → World.cell? w5 (Addr.add a4 8) = some (vS o4 k8 k9)) ∧ idx o4 k8 n1 2 fun a5 => ∃ n4, (∀ w6, I2 w6 → World.cell? w6 a5 = some (iI n4)) ∧ nn a fun a6 => ∃ o5 k10 k11, (∀ w7, I2 w7 → World.cell? w7 (Addr.add a6 8) = some (vS o5 k10 k11)) ∧ idx o5 k10 n1 2 fun a7 => ∃ n5, (∀ w8, I2 w8 → World.cell? w8 (Addr.add a7 1) = some (iI n5)) ∧ RunE Proofs.Tryz.prog Ev 54 [vA (Array.mk [vS o3 k6 k7, iI n2, iI n3]), iI n4, iI n5] w3 fun v1 w9 => ∃ n6, v1 = iI n6 ∧ I2 w9 ∧ ∃ (x3 : lP [(6, shI)]), ∃ (x4 : lN [(6, shI)]), x3 0 w9 ∧ ∀ (I3 : Nat → Value) (n7 : Int) (w10 : World), x3 n7 w10 → nn a fun a8 => ∃ o6 k12 k13, World.cell? w10 (Addr.add a8 8) = some (vS o6 k12 k13) ∧ br (decide (n7 < (↑k12 : Int))) (∀ w11, drawn w10 w11 → ∃ (I4 : World → Prop), I4 w11 ∧ nn a fun a9 => ∃ o7 k14 k15, (∀ w12, I4 w12 → World.cell? w12 (Addr.add a9 8) = some (vS o7 k14 k15)) ∧ idx o7 k14 n7 2 fun a10 => ∃ n8, (∀ w13, I4 w13 → World.cell? w13 a10 = some (iI n8)) ∧ br (n8 == n6) (nn a fun a11 => ∃ o8 k16 k17, (∀ w14, I4 w14 → World.cell? w14 (Addr.add a11 9) = some (vS o8 k16 k17)) ∧ nn a fun a12 => ∃ o9 k18 k19, (∀ w15, I4 w15 → World.cell? w15 (Addr.add a12 8) = some (vS o9 k18 k19)) ∧ idx o9 k18 n7 2 fun a13 => ∃ n9, (∀ w16, I4 w16 → World.cell? w16 (Addr.add a13 1) = some (iI n9)) ∧ nn a fun a14 => ∃ o10 k20 k21, (∀ w17, I4 w17 → World.cell? w17 a14 = some (vS o10 k20 k21)) ∧ inI (n9 - (↑k20 : Int)) ∧ idx o8 k16 (n9 - (↑k20 : Int)) 1 fun a15 => ∃ b1, (∀ w18, I4 w18 → World.cell? w18 a15 = some (vB b1)) ∧ br b1 (idx (some (aM k3)) (Int.toNat (↑k1 : Int)) n1 1 fun a16 => ∃ o11 k22 k23, World.cell? w11 a16 = some (vS o11 k22 k23) ∧ new w11 (oC [iI n7] 3) fun k24 w19 => RunS Proofs.Tryz.prog (apB 24 (Array.mk [vS o11 k22 k23, vS (some (aM k24)) 1 1])) w19 fun v2 w20 => ∃ o12 k25 k26, v2 = vS o12 k25 k26 ∧ idx (some (aM k3)) (Int.toNat (↑k1 : Int)) n1 1 fun a17 => st1 w20 a17 (vS o12 k25 k26) fun w21 => inI (n7 + 1) ∧ x3 (n7 + 1) w21 ∧ x4 (n7 + 1) w21 < x4 n7 w10) (inI (n7 + 1) ∧ x3 (n7 + 1) w11 ∧ x4 (n7 + 1) w11 < x4 n7 w10)) (inI (n7 + 1) ∧ x3 (n7 + 1) w11 ∧ x4 (n7 + 1) w11 < x4 n7 w10)) (inI (n1 + 1) ∧ x1 (n1 + 1) w10 ∧ x2 (n1 + 1) w10 < x2 n1 w2)) (R (vS (some (aM k3)) (Int.toNat (↑k1 : Int)) (Int.toNat (↑k1 : Int))) w2)
set_option maxRecDepth 100000 in
theorem run_presageref11_World_Reads (a : Option Addr) (w : World) (R : Value → WP) (h : vc_presageref11_World_Reads a w R) : Run Tryz.prog 27 [(.pointer a)] w R := rv Tryz.func27 ann_presageref11_World_Reads (by kernel_rfl) h

abbrev n_presageref11_World_Includes : FuncId := 28
def ann_presageref11_World_Includes : Ann := { rngs := [], loops := [(3, [(4, (.one (.int .i64)))]), (6, [(5, (.one (.int .i64)))]), (12, [(7, (.one (.int .i64))), (8, (.one (.int .i64)))])], joins := [(19, [])], blocks := [] }
set_option maxRecDepth 100000 in
def vc_presageref11_World_Includes (a : Option Addr) (w : World) (R : Value → WP) : Prop :=  nn a fun a1 => ∃ o1 k1 k2, World.cell? w (Addr.add a1 8) = some (vS o1 k1 k2) ∧ mkOk (↑k1 : Int) (↑k1 : Int) 24 ∧ new w (Obj.cells (Array.mk (reps (Int.toNat (↑k1 : Int)) [vS none 0 0])) 24) fun k3 w1 => ∃ (x1 : lP [(4, shI)]), ∃ (x2 : lN [(4, shI)]), x1 0 w1 ∧ ∀ (I1 : Nat → Value) (n1 : Int) (w2 : World), x1 n1 w2 → nn a fun a2 => ∃ o2 k4 k5, World.cell? w2 (Addr.add a2 8) = some (vS o2 k4 k5) ∧ br (decide (n1 < (↑k4 : Int))) (∃ (x3 : lP [(5, shI)]), ∃ (x4 : lN [(5, shI)]), x3 1 w2 ∧ ∀ (I2 : Nat → Value) (n2 : Int) (w3 : World), x3 n2 w3 → nn a fun a3 => ∃ o3 k6 k7, World.cell? w3 (Addr.add a3 4) = some (vS o3 k6 k7) ∧ br (decide (n2 < (↑k6 : Int))) (nn a fun a4 => ∃ o4 k8 k9, World.cell? w3 (Addr.add a4 4) = some (vS o4 k8 k9) ∧ idx o4 k8 n2 3 fun a5 => ∃ o5 k10 k11, World.cell? w3 (Addr.add a5 1) = some (vS o5 k10 k11) ∧ ∀ w4, drawn w3 w4 → ∃ (I3 : World → Prop), I3 w4 ∧ nn a fun a6 => ∃ o6 k12 k13, (∀ w5, I3 w5 → World.cell? w5 (Addr.add a6 4) = some (vS o6 k12 k13)) ∧ idx o6 k12 n2 3 fun a7 => ∃ n3, (∀ w6, I3 w6 → World.cell? w6 a7 = some (iI n3)) ∧ nn a fun a8 => ∃ o7 k14 k15, (∀ w7, I3 w7 → World.cell? w7 (Addr.add a8 8) = some (vS o7 k14 k15)) ∧ idx o7 k14 n1 2 fun a9 => ∃ n4, (∀ w8, I3 w8 → World.cell? w8 (Addr.add a9 1) = some (iI n4)) ∧ br (n3 != n4) (inI (n2 + 1) ∧ x3 (n2 + 1) w4 ∧ x4 (n2 + 1) w4 < x4 n2 w3) (nn a fun a10 => ∃ o8 k16 k17, World.cell? w4 (Addr.add a10 8) = some (vS o8 k16 k17) ∧ idx o8 k16 n1 2 fun a11 => ∃ n5, World.cell? w4 a11 = some (iI n5) ∧ ∃ (x5 : lP [(7, shI), (8, shI)]), ∃ (x6 : lN [(7, shI), (8, shI)]), x5 n5 0 w4 ∧ ∀ (I4 : Nat → Value) (n6 n7 : Int) (w9 : World), x5 n6 n7 w9 → br (decide (n7 < (↑k10 : Int))) (br (decide (0 ≤ n6)) (∀ w10, drawn w9 w10 → ∃ (I5 : World → Prop), I5 w10 ∧ nn a fun a12 => ∃ o9 k18 k19, (∀ w11, I5 w11 → World.cell? w11 (Addr.add a12 8) = some (vS o9 k18 k19)) ∧ idx o5 k10 n7 1 fun a13 => ∃ n8, (∀ w12, I5 w12 → World.cell? w12 a13 = some (iI n8)) ∧ RunE Proofs.Tryz.prog Ev 62 [vS o9 k18 k19, iI n6, iI n8] w10 fun v1 w13 => ∃ n9, v1 = iI n9 ∧ I5 w13 ∧ ∃ (x7 : lP []), br (decide (0 ≤ n9)) (inI (n7 + 1) ∧ slc o5 k10 k11 (some (n7 + 1)) none none 1 fun (o10 : Option Addr) (k20 k21 : Nat) => RunE Proofs.Tryz.prog Ev 63 [vP a, vS o10 k20 k21] w13 fun v2 w14 => ∃ b1, v2 = vB b1 ∧ br b1 (idx (some (aM k3)) (Int.toNat (↑k1 : Int)) n9 1 fun a14 => ∃ o11 k22 k23, World.cell? w14 a14 = some (vS o11 k22 k23) ∧ RunE Proofs.Tryz.prog Ev 64 [vS o11 k22 k23, iI n1] w14 fun v3 w15 => ∃ o12 k24 k25, v3 = vS o12 k24 k25 ∧ idx (some (aM k3)) (Int.toNat (↑k1 : Int)) n9 1 fun a15 => st1 w15 a15 (vS o12 k24 k25) fun w16 => x7 w16) (x7 w14)) (x7 w13) ∧ ∀ (I6 : Nat → Value) (w17 : World), x7 w17 → ∀ w18, drawn w17 w18 → ∃ (I7 : World → Prop), I7 w18 ∧ nn a fun a16 => ∃ o13 k26 k27 n10 n11, (∀ w19, I7 w19 → V.rowAt w19 (Addr.add a16 5) 0 3 = some [vS o13 k26 k27, iI n10, iI n11]) ∧ idx o5 k10 n7 1 fun a17 => ∃ n12, (∀ w20, I7 w20 → World.cell? w20 a17 = some (iI n12)) ∧ RunE Proofs.Tryz.prog Ev 54 [vA (Array.mk [vS o13 k26 k27, iI n10, iI n11]), iI n6, iI n12] w18 fun v4 w21 => ∃ n13, v4 = iI n13 ∧ I7 w21 ∧ inI (n7 + 1) ∧ x5 n13 (n7 + 1) w21 ∧ x6 n13 (n7 + 1) w21 < x6 n6 n7 w9) (inI (n2 + 1) ∧ x3 (n2 + 1) w9 ∧ x4 (n2 + 1) w9 < x4 n2 w3)) (inI (n2 + 1) ∧ x3 (n2 + 1) w9 ∧ x4 (n2 + 1) w9 < x4 n2 w3))) (inI (n1 + 1) ∧ x1 (n1 + 1) w3 ∧ x2 (n1 + 1) w3 < x2 n1 w2)) (R (vS (some (aM k3)) (Int.toNat (↑k1 : Int)) (Int.toNat (↑k1 : Int))) w2)
set_option maxRecDepth 100000 in
theorem run_presageref11_World_Includes (a : Option Addr) (w : World) (R : Value → WP) (h : vc_presageref11_World_Includes a w R) : Run Tryz.prog 28 [(.pointer a)] w R := rv Tryz.func28 ann_presageref11_World_Includes (by kernel_rfl) h

abbrev n_presageref11_World_Lookback : FuncId := 29
def ann_presageref11_World_Lookback : Ann := { rngs := [], loops := [(3, [(3, (.one .slice)), (4, (.one (.int .i64)))]), (7, [(3, (.one .slice)), (6, (.one (.int .i64)))]), (13, [(9, (.one (.int .i64)))])], joins := [], blocks := [] }
set_option maxRecDepth 100000 in
def vc_presageref11_World_Lookback (a : Option Addr) (w : World) (R : Value → WP) : Prop :=  ∃ (x1 : lP [(3, shS), (4, shI)]), ∃ (x2 : lN [(3, shS), (4, shI)]), x1 none 0 0 0 w ∧ ∀ (I1 : Nat → Value) (o1 : Option Addr) (k1 k2 : Nat) (n1 : Int) (w1 : World), x1 o1 k1 k2 n1 w1 → nn a fun a1 => ∃ o2 k3 k4, World.cell? w1 (Addr.add a1 5) = some (vS o2 k3 k4) ∧ br (decide (n1 < (↑k3 : Int))) (∀ w2, drawn w1 w2 → ∃ (I2 : World → Prop), I2 w2 ∧ nn a fun a2 => ∃ o3 k5 k6 o4 k7 k8 o5 k9 k10 n2 o6 k11 k12, (∀ w3, I2 w3 → V.rowAt w3 a2 0 5 = some [vS o3 k5 k6, vS o4 k7 k8, vS o5 k9 k10, iI n2, vS o6 k11 k12]) ∧ nn a fun a3 => ∃ o7 k13 k14, (∀ w4, I2 w4 → World.cell? w4 (Addr.add a3 5) = some (vS o7 k13 k14)) ∧ idx o7 k13 n1 2 fun a4 => ∃ o8 k15 k16, (∀ w5, I2 w5 → World.cell? w5 a4 = some (vS o8 k15 k16)) ∧ RunE Proofs.Tryz.prog Ev 65 [vA (Array.mk [vS o3 k5 k6, vS o4 k7 k8, vS o5 k9 k10, iI n2, vS o6 k11 k12]), vS o8 k15 k16] w2 fun v1 w6 => ∃ o9 k17 k18, v1 = vS o9 k17 k18 ∧ I2 w6 ∧ ∃ (x3 : lP [(3, shS), (6, shI)]), ∃ (x4 : lN [(3, shS), (6, shI)]), x3 o1 k1 k2 0 w6 ∧ ∀ (I3 : Nat → Value) (o10 : Option Addr) (k19 k20 : Nat) (n3 : Int) (w7 : World), x3 o10 k19 k20 n3 w7 → br (decide (n3 < (↑k17 : Int))) (∀ w8, drawn w7 w8 → ∃ (I4 : World → Prop), I4 w8 ∧ nn a fun a5 => ∃ o11 k21 k22, (∀ w9, I4 w9 → World.cell? w9 (Addr.add a5 4) = some (vS o11 k21 k22)) ∧ idx o9 k17 n3 2 fun a6 => ∃ n4, (∀ w10, I4 w10 → World.cell? w10 a6 = some (iI n4)) ∧ idx o11 k21 n4 3 fun a7 => ∃ n5 o12 k23 k24 n6, (∀ w11, I4 w11 → V.rowAt w11 a7 0 3 = some [iI n5, vS o12 k23 k24, iI n6]) ∧ new w8 (oC [iI 0, vS none 0 0, iI 0] 60) fun k25 w12 => I4 w12 ∧ stR w12 (aM k25) [iI n5, vS o12 k23 k24, iI n6] fun w13 => ∀ w14, drawn w13 w14 → ∃ (I5 : World → Prop), I5 w14 ∧ idx o9 k17 n3 2 fun a8 => ∃ n7, (∀ w15, I5 w15 → World.cell? w15 a8 = some (iI n7)) ∧ br (n7 == 0) (inI (n3 + 1) ∧ x3 o10 k19 k20 (n3 + 1) w14 ∧ x4 o10 k19 k20 (n3 + 1) w14 < x4 o10 k19 k20 n3 w7) (idx o9 k17 n3 2 fun a9 => ∃ n8, (∀ w16, I5 w16 → World.cell? w16 (Addr.add a9 1) = some (iI n8)) ∧ ∃ o13 k26 k27, (∀ w17, I5 w17 → World.cell? w17 (Addr.add (aM k25) 1) = some (vS o13 k26 k27)) ∧ br (decide (n8 < (↑k26 : Int))) (inI (n3 + 1) ∧ x3 o10 k19 k20 (n3 + 1) w14 ∧ x4 o10 k19 k20 (n3 + 1) w14 < x4 o10 k19 k20 n3 w7) (idx o9 k17 n3 2 fun a10 => ∃ n9, World.cell? w14 a10 = some (iI n9) ∧ new w14 (oC [iI 0, iI 0, vS none 0 0] 40) fun k28 w18 => stR w18 (aM k28) [iI n1, iI n9, vS none 0 0] fun w19 => ∃ (x5 : lP [(9, shI)]), ∃ (x6 : lN [(9, shI)]), x5 0 w19 ∧ ∀ (I6 : Nat → Value) (n10 : Int) (w20 : World), x5 n10 w20 → nn a fun a11 => ∃ o14 k29 k30, World.cell? w20 (Addr.add a11 8) = some (vS o14 k29 k30) ∧ br (decide (n10 < (↑k29 : Int))) (∀ w21, drawn w20 w21 → ∃ (I7 : World → Prop), I7 w21 ∧ nn a fun a12 => ∃ o15 k31 k32, (∀ w22, I7 w22 → World.cell? w22 (Addr.add a12 8) = some (vS o15 k31 k32)) ∧ idx o15 k31 n10 2 fun a13 => ∃ n11, (∀ w23, I7 w23 → World.cell? w23 (Addr.add a13 1) = some (iI n11)) ∧ ∃ n12, (∀ w24, I7 w24 → World.cell? w24 (aM k25) = some (iI n12)) ∧ br (n11 == n12) (nn a fun a14 => ∃ o16 k33 k34 n13 n14, (∀ w25, I7 w25 → V.rowAt w25 (Addr.add a14 5) 0 3 = some [vS o16 k33 k34, iI n13, iI n14]) ∧ nn a fun a15 => ∃ o17 k35 k36, (∀ w26, I7 w26 → World.cell? w26 (Addr.add a15 8) = some (vS o17 k35 k36)) ∧ idx o17 k35 n10 2 fun a16 => ∃ n15, (∀ w27, I7 w27 → World.cell? w27 a16 = some (iI n15)) ∧ ∃ o18 k37 k38, (∀ w28, I7 w28 → World.cell? w28 (Addr.add (aM k25) 1) = some (vS o18 k37 k38)) ∧ RunE Proofs.Tryz.prog Ev 21 [vA (Array.mk [vS o16 k33 k34, iI n13, iI n14]), iI n15, vS o18 k37 k38] w21 fun v2 w29 => ∃ n16, v2 = iI n16 ∧ I7 w29 ∧ br (n16 == n1) (∃ o19 k39 k40, World.cell? w29 (Addr.add (aM k28) 2) = some (vS o19 k39 k40) ∧ new w29 (oC [iI n10] 3) fun k41 w30 => RunS Proofs.Tryz.prog (apB 24 (Array.mk [vS o19 k39 k40, vS (some (aM k41)) 1 1])) w30 fun v3 w31 => ∃ o20 k42 k43, v3 = vS o20 k42 k43 ∧ st1 w31 (Addr.add (aM k28) 2) (vS o20 k42 k43) fun w32 => inI (n10 + 1) ∧ x5 (n10 + 1) w32 ∧ x6 (n10 + 1) w32 < x6 n10 w20) (inI (n10 + 1) ∧ x5 (n10 + 1) w29 ∧ x6 (n10 + 1) w29 < x6 n10 w20)) (inI (n10 + 1) ∧ x5 (n10 + 1) w21 ∧ x6 (n10 + 1) w21 < x6 n10 w20)) (∃ n17 n18 o21 k44 k45, V.rowAt w20 (aM k28) 0 3 = some [iI n17, iI n18, vS o21 k44 k45] ∧ new w20 (oC [iI n17, iI n18, vS o21 k44 k45] 40) fun k46 w33 => RunS Proofs.Tryz.prog (apB 34 (Array.mk [vS o10 k19 k20, vS (some (aM k46)) 1 1])) w33 fun v4 w34 => ∃ o22 k47 k48, v4 = vS o22 k47 k48 ∧ inI (n3 + 1) ∧ x3 o22 k47 k48 (n3 + 1) w34 ∧ x4 o22 k47 k48 (n3 + 1) w34 < x4 o10 k19 k20 n3 w7)))) (inI (n1 + 1) ∧ x1 o10 k19 k20 (n1 + 1) w7 ∧ x2 o10 k19 k20 (n1 + 1) w7 < x2 o1 k1 k2 n1 w1)) (R (vS o1 k1 k2) w1)
set_option maxRecDepth 100000 in
theorem run_presageref11_World_Lookback (a : Option Addr) (w : World) (R : Value → WP) (h : vc_presageref11_World_Lookback a w R) : Run Tryz.prog 29 [(.pointer a)] w R := rv Tryz.func29 ann_presageref11_World_Lookback (by kernel_rfl) h

abbrev n_presageref11_World_empty : FuncId := 63
def ann_presageref11_World_empty : Ann := { rngs := [], loops := [(2, [(5, (.one (.int .i64)))])], joins := [], blocks := [] }
set_option maxRecDepth 100000 in
def vc_presageref11_World_empty (a b : Option Addr) (c d : Nat) (w : World) (R : Value → WP) : Prop :=  ∃ (x1 : lP [(5, shI)]), ∃ (x2 : lN [(5, shI)]), x1 0 w ∧ ∀ (I1 : Nat → Value) (n1 : Int) (w1 : World), x1 n1 w1 → br (decide (n1 < (↑c : Int))) (∀ w2, drawn w1 w2 → ∃ (I2 : World → Prop), I2 w2 ∧ nn a fun a1 => ∃ o1 k1 k2 o2 k3 k4 o3 k5 k6 n2 o4 k7 k8, (∀ w3, I2 w3 → V.rowAt w3 a1 0 5 = some [vS o1 k1 k2, vS o2 k3 k4, vS o3 k5 k6, iI n2, vS o4 k7 k8]) ∧ idx b c n1 1 fun a2 => ∃ n3, (∀ w4, I2 w4 → World.cell? w4 a2 = some (iI n3)) ∧ RunE Proofs.Tryz.prog Ev 90 [vA (Array.mk [vS o1 k1 k2, vS o2 k3 k4, vS o3 k5 k6, iI n2, vS o4 k7 k8]), iI n3] w2 fun v1 w5 => ∃ b1, v1 = vB b1 ∧ I2 w5 ∧ ∀ w6, drawn w5 w6 → ∃ (I3 : World → Prop), I3 w6 ∧ br (!b1) (R (vB false) w6) (nn a fun a3 => ∃ o5 k9 k10, (∀ w7, I3 w7 → World.cell? w7 (Addr.add a3 9) = some (vS o5 k9 k10)) ∧ idx b c n1 1 fun a4 => ∃ n4, (∀ w8, I3 w8 → World.cell? w8 a4 = some (iI n4)) ∧ nn a fun a5 => ∃ o6 k11 k12, (∀ w9, I3 w9 → World.cell? w9 a5 = some (vS o6 k11 k12)) ∧ inI (n4 - (↑k11 : Int)) ∧ idx o5 k9 (n4 - (↑k11 : Int)) 1 fun a6 => ∃ b2, (∀ w10, I3 w10 → World.cell? w10 a6 = some (vB b2)) ∧ br (!b2) (R (vB false) w6) (inI (n1 + 1) ∧ x1 (n1 + 1) w6 ∧ x2 (n1 + 1) w6 < x2 n1 w1))) (R (vB true) w1)
set_option maxRecDepth 100000 in
theorem run_presageref11_World_empty (a b : Option Addr) (c d : Nat) (w : World) (R : Value → WP) (h : vc_presageref11_World_empty a b c d w R) : Run Tryz.prog 63 [(.pointer a), (.slice b c d)] w R := rv Tryz.func63 ann_presageref11_World_empty (by kernel_rfl) h

abbrev n_presageref11_Put : FuncId := 64
def ann_presageref11_Put : Ann := { rngs := [], loops := [(2, [(5, (.one (.int .i64)))])], joins := [(4, [(5, (.one (.int .i64)))])], blocks := [] }
set_option maxRecDepth 100000 in
def vc_presageref11_Put (a : Option Addr) (b c : Nat) (d : Int) (w : World) (R : Value → WP) : Prop :=  ∃ (x1 : lP [(5, shI)]), (∃ (x2 : lP [(5, shI)]), ∃ (x3 : lN [(5, shI)]), x2 0 w ∧ ∀ (I1 : Nat → Value) (n1 : Int) (w1 : World), x2 n1 w1 → br (decide (n1 < (↑b : Int))) (idx a b n1 1 fun a1 => ∃ n2, World.cell? w1 a1 = some (iI n2) ∧ br (decide (n2 < d)) (inI (n1 + 1) ∧ x2 (n1 + 1) w1 ∧ x3 (n1 + 1) w1 < x3 n1 w1) (x1 n1 w1)) (x1 n1 w1)) ∧ ∀ (I2 : Nat → Value) (n3 : Int) (w2 : World), x1 n3 w2 → br (decide (n3 < (↑b : Int))) (idx a b n3 1 fun a2 => ∃ n4, World.cell? w2 a2 = some (iI n4) ∧ br (n4 == d) (R (vS a b c) w2) (slc a b c none (some n3) none 1 fun (o1 : Option Addr) (k1 k2 : Nat) => RunS Proofs.Tryz.prog (apB 24 (Array.mk [vS none 0 0, vS o1 k1 k2])) w2 fun v1 w3 => ∃ o2 k3 k4, v1 = vS o2 k3 k4 ∧ new w3 (oC [iI d] 3) fun k5 w4 => RunS Proofs.Tryz.prog (apB 24 (Array.mk [vS o2 k3 k4, vS (some (aM k5)) 1 1])) w4 fun v2 w5 => ∃ o3 k6 k7, v2 = vS o3 k6 k7 ∧ slc a b c (some n3) none none 1 fun (o4 : Option Addr) (k8 k9 : Nat) => RunS Proofs.Tryz.prog (apB 24 (Array.mk [vS o3 k6 k7, vS o4 k8 k9])) w5 fun v3 w6 => ∃ o5 k10 k11, v3 = vS o5 k10 k11 ∧ R (vS o5 k10 k11) w6)) (slc a b c none (some n3) none 1 fun (o6 : Option Addr) (k12 k13 : Nat) => RunS Proofs.Tryz.prog (apB 24 (Array.mk [vS none 0 0, vS o6 k12 k13])) w2 fun v4 w7 => ∃ o7 k14 k15, v4 = vS o7 k14 k15 ∧ new w7 (oC [iI d] 3) fun k16 w8 => RunS Proofs.Tryz.prog (apB 24 (Array.mk [vS o7 k14 k15, vS (some (aM k16)) 1 1])) w8 fun v5 w9 => ∃ o8 k17 k18, v5 = vS o8 k17 k18 ∧ slc a b c (some n3) none none 1 fun (o9 : Option Addr) (k19 k20 : Nat) => RunS Proofs.Tryz.prog (apB 24 (Array.mk [vS o8 k17 k18, vS o9 k19 k20])) w9 fun v6 w10 => ∃ o10 k21 k22, v6 = vS o10 k21 k22 ∧ R (vS o10 k21 k22) w10)
set_option maxRecDepth 100000 in
theorem run_presageref11_Put (a : Option Addr) (b c : Nat) (d : Int) (w : World) (R : Value → WP) (h : vc_presageref11_Put a b c d w R) : Run Tryz.prog 64 [(.slice a b c), (.int .i64 d)] w R := rv Tryz.func64 ann_presageref11_Put (by kernel_rfl) h

end Go.Proofs.YtkmjjnjngcpjmaaGreatDoor
set_option linter.unusedVariables false
set_option maxRecDepth 4000
namespace Go.V
abbrev wdC (x : GA) (o : Option Addr) (n c : Nat) (a int : Int) (ol : Option Addr) (nl cl : Nat) (on : Option Addr) (nn cn : Nat) : List Value := x.cells ++ [.slice o n c, .int .i64 a, .int .i64 int, .slice ol nl cl, .slice on nn cn]
def gaZ : GA := ⟨none, 0, 0, none, 0, 0, none, 0, 0, 0, none, 0, 0⟩
structure DwR (h : Hp) (g : GramT) (ss : List SQ) (nn : List Bool) (k : Nat) : Prop where
  ex : ∃ (x : GA) (o : Option Addr) (c : Nat) (a int : Int) (ol : Option Addr) (cl : Nat) (on : Option Addr) (cn : Nat), rowH h (aM k) (wdC x o ss.length c a int ol (TrL g ss).length cl on g.N cn) ∧ gR h g x ∧ stRd h ss o ∧ rdS h (TrL g ss) ol (TrL g ss).length ∧ rdS h nn on g.N
theorem DwR.mono {h h' : Hp} {g : GramT} {ss : List SQ} {nn : List Bool} {k : Nat} (s : sub h h') (r : DwR h g ss nn k) : DwR h' g ss nn k := by
  obtain ⟨x, o, c, a, int, ol, cl, on, cn, h1, h2, h3, h4, h5⟩ := r.ex
  exact ⟨x, o, c, a, int, ol, cl, on, cn, h1.mono s, h2.mono s, h3.mono s, h4.mono s, h5.mono s⟩
def RowsC (n : Nat) (f : Nat → List Int) (k : Nat) (L : List Asn) (w : World) : Prop := ∃ es : List (Lq Int), es.length = n ∧ (∀ j q, es[j]? = some q → q.2 = f j) ∧ St w (cel k (es.map slQ) :: sta (es.map (owQ 1 iv)) :: L)
theorem RowsC.gr {n k : Nat} {f : Nat → List Int} {L : List Asn} {w w' : World} (h : RowsC n f k L w) (g : Gr w w') : RowsC n f k L w' := by
  obtain ⟨es, h1, h2, h3⟩ := h
  exact ⟨es, h1, h2, h3.gr g⟩
theorem RowsC.gw {n k : Nat} {f : Nat → List Int} {w0 w : World} (h : RowsC n f k (all w0) w) : Gr w0 w := by
  obtain ⟨es, h1, h2, h3⟩ := h
  exact rdH 2 h3.l
theorem RowsC.iff {n k : Nat} {f f' : Nat → List Int} {L : List Asn} {w : World} (h : RowsC n f k L w) (e : ∀ j, j < n → f j = f' j) : RowsC n f' k L w := by
  obtain ⟨es, h1, h2, h3⟩ := h
  refine ⟨es, h1, fun j q hq => ?_, h3⟩
  rw [h2 j q hq, e j (by rw [← h1]; exact (List.getElem?_eq_some_iff.1 hq).1)]
theorem RowsC.take {n k i : Nat} {f : Nat → List Int} {L : List Asn} {w : World} (h : RowsC n f k L w) (hi : i < n) : ∃ (q : Lq Int) (es : List (Lq Int)), q.2 = f i ∧ es.length = n ∧ (es.map slQ)[i]? = some (slQ q) ∧ St w (own 1 q.1.1 q.2.length q.1.2 (iv q.2) :: sta ((es.map (owQ 1 iv)).eraseIdx i) :: cel k (es.map slQ) :: L) ∧
    ∀ (w' : World) (L' : List Asn) (o : Option Addr) (c : Nat) (xs : List Int), St w' (own 1 o xs.length c (iv xs) :: sta ((es.map (owQ 1 iv)).eraseIdx i) :: cel k ((es.map slQ).set i (.slice o xs.length c)) :: L') → RowsC n (fun j => if j = i then xs else f j) k L' w' := by
  obtain ⟨es, h1, h2, h3⟩ := h
  obtain ⟨q, hq⟩ : ∃ q, es[i]? = some q := ⟨_, List.getElem?_eq_getElem (by omega)⟩
  have hA : (es.map (owQ 1 iv))[i]? = some (owQ 1 iv q) := by rw [List.getElem?_map, hq]; rfl
  refine ⟨q, es, h2 i q hq, h1, by rw [List.getElem?_map, hq]; rfl, ?_, fun w' L' o c xs h => ?_⟩
  · have h := St.out (h3.pick 2 [1, 0]) hA
    exact h
  · refine ⟨es.set i ((o, c), xs), by rw [List.length_set]; exact h1, fun j r hr => ?_, ?_⟩
    · by_cases e : i = j
      · subst e
        rw [List.getElem?_set_self (by omega)] at hr
        cases hr
        show xs = if i = i then xs else f i
        rw [if_pos rfl]
      · rw [List.getElem?_set_ne e] at hr
        show r.2 = if j = i then xs else f j
        rw [if_neg (Ne.symm e)]
        exact h2 j r hr
    · have h := St.back (B := own 1 o xs.length c (iv xs)) h hA
      rw [show own 1 o xs.length c (iv xs) = owQ 1 iv (((o, c), xs) : Lq Int) from rfl, ← List.map_set, show (.slice o xs.length c : Value) = slQ (((o, c), xs) : Lq Int) from rfl, ← List.map_set] at h
      exact h.pick 2 [1, 0]
theorem RowsC.start {n k : Nat} {L : List Asn} {w : World} (h : St w (cel k ((List.replicate n (((none, 0), []) : Lq Int)).map slQ) :: L)) : RowsC n (fun _ => []) k L w := by
  have h := sta_reps (A := owQ 1 iv (((none, 0), []) : Lq Int)) (fun w L h => own_nil 1 h) n h
  rw [← List.map_replicate] at h
  refine ⟨_, by simp, fun j q hq => ?_, h.pick 2 [1, 0]⟩
  rw [List.getElem?_replicate] at hq
  split at hq
  · cases hq; rfl
  · cases hq
theorem RowsC.fin {n k : Nat} {f : Nat → List Int} {L : List Asn} {w : World} (h : RowsC n f k L w) : ∃ ds : List (Lq Int), ds.length = n ∧ ds.map (·.2) = (List.range n).map f ∧ St w (own 1 (some (aM k)) n n (ds.map slQ) :: sta (ds.map (owQ 1 iv)) :: L) := by
  obtain ⟨es, h1, h2, h3⟩ := h
  refine ⟨es, h1, ?_, own_some (cs := []) (by rw [List.append_nil]; exact h3) (by simp [h1]) (by simp [h1]) (Nat.le_refl _)⟩
  apply List.ext_getElem?
  intro i
  rw [List.getElem?_map, List.getElem?_map]
  by_cases hi : i < n
  · have hd : es[i]? = some es[i] := List.getElem?_eq_getElem (by omega)
    rw [hd, List.getElem?_range hi]
    exact congrArg some (h2 i _ hd)
  · rw [List.getElem?_eq_none (by omega), List.getElem?_eq_none (by simp; omega)]; rfl
end Go.V
namespace Go.Proofs.YtkmjjnjngcpjmaaGreatDoor
open Go.V
variable {w : World} {L : List Asn} {g : GramT} {x : GA} {ss : List SQ} {nn : List Bool}
set_option maxHeartbeats 1000000 in
theorem d_Of11 (hg : gR (hp w) g x) (hb : okG g) : Run Tryz.prog n_presageref11_Of [.agg ⟨x.cells⟩] w fun v w' => ∃ (ss : List SQ) (ask int f : Int) (nn : List Bool) (x' : GA) (o : Option Addr) (n c : Nat) (a i : Int) (ol : Option Addr) (nl cl : Nat) (on : Option Addr) (nN cn : Nat), v = .tuple #[.agg ⟨wdC x' o n c a i ol nl cl on nN cn⟩, .int .i64 f] ∧ Res g ss ask int f ∧ Gr w w' ∧
    (f = 0 → NnP g nn ∧ n = ss.length ∧ nl = (TrL g ss).length ∧ nN = g.N ∧ gR (hp w') g x' ∧ stRd (hp w') ss o ∧ rdS (hp w') (TrL g ss) ol (TrL g ss).length ∧ rdS (hp w') nn on g.N) := by
  refine run_presageref11_Of _ _ _ _ _ _ _ _ _ _ _ _ _ w _ (gbox hg fun k1 w1 gw hg B => ?_)
  refine newC_i (vs := wdC gaZ none 0 0 0 0 none 0 0 none 0 0) (St.all w1) fun k2 w2 h => ?_
  have g12 : Gr w1 w2 := rdH 1 h.l
  refine ⟨_, _, _, _, _, _, _, _, _, _, _, _, _, B.row g12, (d_BuildR (hg.mono g12) hb).mono ?_⟩
  rintro _ w3 ⟨o, c, ss, ask, int, f, rfl, hR, h3⟩
  have h : St w3 (own 2 o ss.length c (ssV ss) :: sta (kOw ss) :: sta (eOw ss) :: cel k2 (wdC gaZ none 0 0 0 0 none 0 0 none 0 0) :: all w1) := St.on (N := [_, _, _]) h3 h.l
  clear h3
  refine ⟨_, _, _, _, _, _, rfl, newC_i h fun k13 w4 h => stR_i h rfl (by simp [oneC]) fun w5 h => ?_⟩
  have h : St w5 (cel k13 [.slice o ss.length c, .int .i64 ask, .int .i64 int] :: own 2 o ss.length c (ssV ss) :: sta (kOw ss) :: sta (eOw ss) :: cel k2 (wdC gaZ none 0 0 0 0 none 0 0 none 0 0) :: all w1) := h
  obtain ⟨h0, hl0, s0, h⟩ := (h.pick 5 [4, 0, 1, 2, 3]).freeze
  have r13 : rowH h0 (aM k13) [.slice o ss.length c, .int .i64 ask, .int .i64 int] := rdCel 0 hl0
  have hs : stRd h0 ss o := stRd_of (starL_tail hl0)
  have g10 : sub (hp w1) h0 := rdH 4 hl0
  clear hl0 s0
  refine br_intro (fun h1 => ?_) fun h1 => ?_
  · have h1 : f ≠ 0 := by simpa using h1
    refine stR_i h rfl (by intro v hv; simp at hv; rcases hv with rfl | rfl | rfl | rfl | rfl | rfl | rfl | rfl | rfl | rfl <;> rfl) fun w6 h => ?_
    exact ⟨_, _, _, _, _, _, _, _, _, _, _, _, _, _, _, _, _, _, _, _, _, _, _, _, (rdCel 0 h.l).at (sub.refl _) rfl, ss, ask, int, f, [], gaZ, none, 0, 0, 0, 0, none, 0, 0, none, 0, 0, rfl, hR, gw.trans (sub.trans g10 (rdH 1 h.l)), fun h => absurd h h1⟩
  have h1 : f = 0 := by simpa using h1
  subst h1
  obtain ⟨hc, hA⟩ := hR.aut rfl
  intro w7 hd
  have h := h.eq (drawn_hp hd)
  have s7 : sub h0 (hp w7) := rdH 1 h.l
  refine ⟨fun u => sub h0 (hp u), s7, _, _, _, _, _, _, _, _, _, _, _, _, _, fun u s => B.row (sub.trans g10 s), _, _, _, _, _, fun u s => r13.at s rfl, _, _, _, _, _, _, _, _, _, _, _, _, _, fun u s => B.row (sub.trans g10 s), _, _, _, _, _, fun u s => r13.at s rfl, _, _, _, _, _, _, _, _, _, _, _, _, _, fun u s => B.row (sub.trans g10 s), (d_All (hg.mono (sub.trans g10 s7)) hb hc hA (hs.mono s7)).mono ?_⟩
  rintro _ w13 ⟨ol, cl, rfl, h2⟩
  have h : St w13 (own 2 ol (TrL g ss).length cl (trv (TrL g ss)) :: cel k2 (wdC gaZ none 0 0 0 0 none 0 0 none 0 0) :: [has h0]) := St.on1 h2 h.l
  clear h2
  have s13 : sub h0 (hp w13) := rdH 2 h.l
  refine ⟨_, _, _, rfl, s13, (d_Null (hg.mono (sub.trans g10 s13)) hb (.inr hc)).mono ?_⟩
  rintro _ w14 ⟨kn, nn, rfl, hnn, h2⟩
  have h : St w14 (cel kn (bv nn) :: own 2 ol (TrL g ss).length cl (trv (TrL g ss)) :: cel k2 (wdC gaZ none 0 0 0 0 none 0 0 none 0 0) :: [has h0]) := St.on1 h2 h.l
  clear h2
  refine ⟨_, _, _, rfl, rdH 3 h.l, stR_i (h.pick 3 [2, 0, 1]) rfl (by intro v hv; simp at hv; rcases hv with rfl | rfl | rfl | rfl | rfl | rfl | rfl | rfl | rfl | rfl <;> rfl) fun w15 h => ?_⟩
  have s15 : sub h0 (hp w15) := rdH 3 h.l
  refine ⟨s15, _, _, _, _, _, _, _, _, _, _, _, _, _, _, _, _, _, _, _, _, _, _, _, _, (rdCel 0 h.l).at (sub.refl _) rfl, ss, ask, int, 0, nn, x, o, _, c, ask, int, ol, _, cl, _, _, _, rfl, hR, gw.trans (sub.trans g10 s15), fun _ => ⟨hnn, rfl, rfl, rfl, hg.mono (sub.trans g10 s15), hs.mono s15, rdTr_of rfl (rdOv 2 h.l), rdB_of hnn.1 (.inr ⟨_, rfl, rdCel 1 h.l⟩)⟩⟩
theorem d_Number {a : Option Addr} {c : Nat} {st s : Int} (hA : AutI g ss) (rT : rdS (hp w) (TrL g ss) a (TrL g ss).length) (hn : (TrL g ss).length ≤ 33280) : Run Tryz.prog n_presageref10_Number [.slice a (TrL g ss).length c, .int .i64 st, .int .i64 s] w fun v w' => v = .int .i64 (numT g ss ⟨st, s⟩ - 1) ∧ w' = w := by
  refine run_presageref10_Number _ _ _ _ _ w _ ⟨fun z w' => ∃ j : Nat, z = j ∧ j ≤ (TrL g ss).length ∧ (∀ j', j' < j → (TrL g ss)[j']? ≠ some ⟨st, s⟩) ∧ w' = w, fun z _ => (TrL g ss).length - z.toNat, ⟨0, rfl, Nat.zero_le _, fun j' h => by omega, rfl⟩, ?_⟩
  rintro _ _ w1 ⟨j, rfl, hj, hno, rfl⟩
  refine br_intro (fun h1 => ?_) fun h1 => ?_
  rotate_left
  · have h1 : j = (TrL g ss).length := by have := of_decide_eq_false h1; omega
    refine ⟨?_, rfl⟩
    have : (⟨st, s⟩ : TransT) ∉ TrL g ss := fun hm => by
      obtain ⟨j', hj'⟩ := List.getElem?_of_mem hm
      exact hno j' (by have := (List.getElem?_eq_some_iff.1 hj').1; omega) hj'
    unfold numT
    rw [if_neg this]
    rfl
  have h1 : j < (TrL g ss).length := by have := of_decide_eq_true h1; omega
  obtain ⟨t, tad, ht, hta, rt⟩ := rdTr_get rT h1
  have next : t ≠ ⟨st, s⟩ → inI ((j : Int) + 1) ∧ (∃ j2 : Nat, (j : Int) + 1 = j2 ∧ j2 ≤ (TrL g ss).length ∧ (∀ j', j' < j2 → (TrL g ss)[j']? ≠ some ⟨st, s⟩) ∧ w1 = w1) ∧ (TrL g ss).length - ((j : Int) + 1).toNat < (TrL g ss).length - (j : Int).toNat := fun hne => by
    refine ⟨⟨by omega, by omega⟩, ⟨j + 1, by simp, h1, fun j' hj' e => ?_, rfl⟩, msr h1⟩
    by_cases e2 : j' = j
    · subst e2; rw [ht] at e; exact hne (Option.some.inj e)
    · exact hno j' (by omega) e
  refine idx_n hta h1 ⟨_, rt.cell0 (sub.refl _), br_intro (fun h2 => ?_) fun h2 => next fun e => by rw [e] at h2; simp at h2⟩
  have h2 : t.st = st := by simpa using h2
  refine idx_n hta h1 ⟨_, rt.cell (sub.refl _) (j := 1) rfl, br_intro (fun h3 => ?_) fun h3 => next fun e => by rw [e] at h3; simp at h3⟩
  have h3 : t.sym = s := by simpa using h3
  have e : t = ⟨st, s⟩ := by cases t; simp at *; exact ⟨h2, h3⟩
  subst e
  refine ⟨?_, rfl⟩
  rw [numT_at hA ht]
  congr 1
  omega
theorem d_empty11 {k l c : Nat} {a : Option Addr} {row : List Int} (hw : DwR (hp w) g ss nn k) (hb : okG g) (hnn : NnP g nn) (hc : ClosedP g) (hr : rdS (hp w) row a l) (hl : l ≤ 4611686018427387904) (hrow : ∀ s ∈ row, 0 ≤ s ∧ s < g.T + g.N) : Run Tryz.prog n_presageref11_World_empty [.pointer (some (aM k)), .slice a l c] w fun v w' => v = .bool (vanR g nn row) ∧ Gr w w' := by
  obtain ⟨x', o, c', a', int, ol, cl, on, cn, rk, hg, hs, rT, rN⟩ := hw.ex
  obtain ⟨sT, sN, sP, _, _, _⟩ := hc.sizes
  have hTl : g.T = x'.tl := hg.t.1
  have hrl := hr.1
  refine run_presageref11_World_empty _ _ _ _ w _ ⟨fun n w' => ∃ j : Nat, n = j ∧ j ≤ l ∧ vanR g nn (row.take j) = true ∧ Gr w w', fun n _ => l - n.toNat, ⟨0, rfl, Nat.zero_le _, rfl, Gr.refl _⟩, ?_⟩
  rintro _ _ w1 ⟨j, rfl, hj, ha, g1⟩
  refine br_intro (fun h1 => ?_) fun h1 => ?_
  rotate_left
  · have h1 : j = l := by have := of_decide_eq_false h1; omega
    subst h1
    rw [List.take_of_length_le (by omega)] at ha
    exact ⟨by rw [ha], g1⟩
  have h1 : j < l := by have := of_decide_eq_true h1; omega
  obtain ⟨y, ad, hy1, hya, hy2⟩ := hr.get1 h1
  have hym := List.mem_of_getElem? hy1
  obtain ⟨hy0, hyN⟩ := hrow y hym
  have no : vanB g nn y = false → vanR g nn row = false := fun hv => by
    unfold vanR
    refine Bool.eq_false_iff.2 fun h => ?_
    have := List.all_eq_true.1 h y hym
    rw [hv] at this; cases this
  intro w2 hd
  have g2 : Gr w w2 := g1.trans (Gr.drawn hd)
  refine ⟨fun u => Gr w2 u, Gr.refl _, _, _, _, _, _, _, _, _, _, _, _, _, _, fun u s => (rowH_pre rk).at (sub.trans g2 s) rfl, idx_i hya h1 ⟨y, fun u s => hy2 _ (sub.trans g2 s), (d_IsNon (hg.mono g2) hb).mono ?_⟩⟩
  rintro _ w5 ⟨rfl, g5⟩
  refine ⟨_, rfl, g5, ?_⟩
  intro w6 hd2
  have g6 : Gr w w6 := g2.trans (g5.trans (Gr.drawn hd2))
  refine ⟨fun u => Gr w6 u, Gr.refl _, br_intro (fun h3 => ?_) fun h3 => ?_⟩
  · have h3 : ¬(g.T : Int) ≤ y := fun h4 => by rw [decide_eq_true h4, decide_eq_true (show y < (g.T : Int) + g.N by omega)] at h3; cases h3
    refine ⟨?_, g6⟩
    rw [no (by unfold vanB; rw [decide_eq_false h3]; rfl)]
  have h3 : (g.T : Int) ≤ y := by
    have h4 : (decide ((g.T : Int) ≤ y) && decide (y < (g.T : Int) + g.N)) = true := by simpa using h3
    rw [Bool.and_eq_true] at h4
    exact of_decide_eq_true h4.1
  obtain ⟨m, hm⟩ : ∃ m : Nat, y - (x'.tl : Int) = m := ⟨(y - (x'.tl : Int)).toNat, by omega⟩
  have hmN : m < g.N := by omega
  obtain ⟨bb, bad, hb1, hba, hb2⟩ := rN.get1 hmN
  have hvan : vanB g nn y = bb := by
    unfold vanB
    rw [decide_eq_true h3, Bool.true_and, show y.toNat - g.T = m by omega]
    exact fnB_get hb1
  refine ⟨_, _, _, fun u s => rk.cell (sub.trans g6 s) (j := 9) rfl, idx_i hya h1 ⟨y, fun u s => hy2 _ (sub.trans g6 s), _, _, _, fun u s => rk.cell0 (sub.trans g6 s), ⟨by omega, by omega⟩, ?_⟩⟩
  rw [hm]
  refine idx_i hba hmN ⟨bb, fun u s => hb2 _ (sub.trans g6 s), br_intro (fun h4 => ?_) fun h4 => ⟨⟨by omega, by omega⟩, ⟨j + 1, by simp, by omega, ?_, g6⟩, msr h1⟩⟩
  · have h4 : bb = false := by simpa using h4
    exact ⟨by rw [no (by rw [hvan, h4])], g6⟩
  · have h4 : bb = true := by simpa using h4
    unfold vanR at ha ⊢
    rw [take_succ_get hy1, List.all_append, ha]
    simp [hvan, h4]
end Go.Proofs.YtkmjjnjngcpjmaaGreatDoor
set_option linter.unusedVariables false
set_option maxRecDepth 4000
namespace Go.V
theorem rowH_drop {h : Hp} {a : Addr} {vs : List Value} (r : rowH h a vs) (n : Nat) : rowH h (a.add n) (vs.drop n) := fun j v hv => by
  rw [List.getElem?_drop] at hv
  rw [add_add]
  exact r _ v hv
theorem DwR.aut {h : Hp} {k : Nat} {x : GA} {o ol on : Option Addr} {n c nl cl nN cn : Nat} {a int : Int} (r : rowH h (aM k) (wdC x o n c a int ol nl cl on nN cn)) : rowH h ((aM k).add 5) [.slice o n c, .int .i64 a, .int .i64 int] :=
  rowH_pre (us := [.slice ol nl cl, .slice on nN cn]) (rowH_drop r 5)
end Go.V
namespace Go.Proofs.YtkmjjnjngcpjmaaGreatDoor
open Go.V
variable {w : World} {L : List Asn} {g : GramT} {x : GA} {ss : List SQ} {nn : List Bool}
set_option maxHeartbeats 4000000 in
theorem d_wReads {k : Nat} (hw : DwR (hp w) g ss nn k) (hc : ClosedP g) (hA : AutI g ss) (hnn : NnP g nn) : Run Tryz.prog n_presageref11_World_Reads [.pointer (some (aM k))] w fun v w' => ∃ (o : Option Addr) (c : Nat) (ds : List (Lq Int)), v = .slice o ds.length c ∧ ds.map (·.2) = RdsL g nn ss ∧ St w' (own 1 o ds.length c (ds.map slQ) :: sta (ds.map (owQ 1 iv)) :: all w) := by
  obtain ⟨x', o, c', a', int, ol, cl, on, cn, rk, hg, hs, rT, rN⟩ := hw.ex
  have rA := DwR.aut rk
  have hkl := hA.klen hc
  obtain ⟨sT, sN, sP, _, _, _⟩ := hc.sizes
  have h256 := hA.dn.2.1
  have hnl := trl_le hc hA
  have hTl : g.T = x'.tl := hg.t.1
  have hke : ∀ q ∈ ss, q.2.2.length ≤ 130 := fun q hq => (hkl q hq).2
  generalize hTT : TrL g ss = T at *
  refine run_presageref11_World_Reads _ w _ ⟨_, _, _, rk.cell (sub.refl _) (j := 8) rfl, ⟨by omega, rfl, by omega⟩, ?_⟩
  rw [Int.toNat_natCast]
  have e0 : reps T.length [(Value.slice none 0 0 : Value)] = (List.replicate T.length (((none, 0), []) : Lq Int)).map slQ := by rw [reps_one]; simp [slQ]
  rw [e0]
  refine newC_i (St.all w) fun k3 w1 h => ?_
  have hR := RowsC.start h
  clear h
  refine ⟨fun z w' => ∃ i : Nat, z = i ∧ i ≤ T.length ∧ RowsC T.length (fun j => if j < i then rowF T.length (readB g nn ss j) else []) k3 (all w) w', fun z _ => T.length - z.toNat, ⟨0, rfl, Nat.zero_le _, hR.iff fun j _ => by simp⟩, ?_⟩
  clear hR
  rintro _ _ w2 ⟨i, rfl, hi, hR⟩
  have g2 := hR.gw
  refine ⟨_, _, _, rk.cell g2 (j := 8) rfl, br_intro (fun h1 => ?_) fun h1 => ?_⟩
  rotate_left
  · have h1 : i = T.length := by have := of_decide_eq_false h1; omega
    subst h1
    obtain ⟨ds, hdl, hds, h⟩ := hR.fin
    refine ⟨_, _, ds, by rw [hdl], ?_, by rw [hdl]; exact h⟩
    rw [hds]
    unfold RdsL
    rw [hTT]
    refine List.map_congr_left fun j hj => ?_
    rw [if_pos (List.mem_range.1 hj)]
  have h1 : i < T.length := by have := of_decide_eq_true h1; omega
  obtain ⟨t, tad, ht', hta, rt⟩ := rdTr_get rT h1
  have ht2 : (TrL g ss)[i]? = some t := by rw [hTT]; exact ht'
  obtain ⟨i0, q0, k0, e0', hi0, hq0, he0, hge, hte⟩ := TrN_mem (show t ∈ TrN g ss ss.length from List.mem_of_getElem? ht2)
  have hnx : nxt ss t.st.toNat t.sym = some e0'.to := by rw [hte]; exact nxt_edge hA hq0 he0
  obtain ⟨hto1, hto2⟩ := nxt_pos hc hA hnx
  obtain ⟨j0, hj0⟩ : ∃ j0 : Nat, e0'.to = j0 := ⟨e0'.to.toNat, by omega⟩
  rw [hj0] at hnx
  have hst : t.st = (i0 : Int) := by rw [hte]
  intro w3 hd
  have hR := hR.gr (Gr.drawn hd)
  have g3 := hR.gw
  refine ⟨fun u => Gr w3 u, Gr.refl _, _, _, _, _, _, fun u s => rA.at (sub.trans g3 s) rfl, _, _, _, fun u s => rk.cell (sub.trans g3 s) (j := 8) rfl, idx_n hta h1 ⟨_, fun u s => rt.cell0 (sub.trans g3 s), _, _, _, fun u s => rk.cell (sub.trans g3 s) (j := 8) rfl, idx_n hta h1 ⟨_, fun u s => rt.cell (sub.trans g3 s) (j := 1) rfl, ?_⟩⟩⟩
  rw [hst]
  refine (d_Next (i := i0) hA (hs.mono g3) hi0 hke h256).mono ?_
  rintro _ w9 ⟨rfl, g39⟩
  have en : nextS ss i0 t.sym = (j0 : Int) := by unfold nextS; rw [← show t.st.toNat = i0 by rw [hst]; rfl, hnx]; rfl
  rw [en]
  have hR := hR.gr g39
  refine ⟨_, rfl, g39, fun z w' => ∃ k : Nat, z = k ∧ k ≤ T.length ∧ RowsC T.length (fun j => if j < i then rowF T.length (readB g nn ss j) else if j = i then rowF k (readB g nn ss i) else []) k3 (all w) w', fun z _ => T.length - z.toNat, ⟨0, rfl, Nat.zero_le _, hR.iff fun j _ => by by_cases e : j < i <;> simp [e, rowF]⟩, ?_⟩
  clear hR
  rintro _ _ w10 ⟨m, rfl, hm, hR⟩
  have g10 := hR.gw
  refine ⟨_, _, _, rk.cell g10 (j := 8) rfl, br_intro (fun h2 => ?_) fun h2 => ?_⟩
  rotate_left
  · have h2 : m = T.length := by have := of_decide_eq_false h2; omega
    subst h2
    refine ⟨⟨by omega, by omega⟩, ⟨i + 1, by simp, h1, hR.iff fun j _ => ?_⟩, msr h1⟩
    by_cases e : j < i
    · rw [if_pos e, if_pos (by omega)]
    · by_cases e2 : j = i
      · subst e2; rw [if_neg e, if_pos rfl, if_pos (by omega)]
      · rw [if_neg e, if_neg e2, if_neg (by omega)]
  have h2 : m < T.length := by have := of_decide_eq_true h2; omega
  obtain ⟨u, uad, hu, hua, ru⟩ := rdTr_get rT h2
  rw [hta] at hua; cases hua
  have hu2 : (TrL g ss)[m]? = some u := by rw [hTT]; exact hu
  obtain ⟨i1, q1, k1', e1, hi1, hq1, he1, hge1, hue⟩ := TrN_mem (show u ∈ TrN g ss ss.length from List.mem_of_getElem? hu2)
  obtain ⟨hu1, hu2', _⟩ := aut_edge hc hA hq1 he1
  have husym : u.sym = e1.sym := by rw [hue]
  obtain ⟨v, hv⟩ : ∃ v : Nat, u.sym - (x'.tl : Int) = v := ⟨(u.sym - (x'.tl : Int)).toNat, by omega⟩
  have hvN : v < g.N := by omega
  have hvan : vanB g nn u.sym = fnB nn v := by
    unfold vanB
    rw [decide_eq_true (show (g.T : Int) ≤ u.sym by omega), Bool.true_and, show u.sym.toNat - g.T = v by omega]
  obtain ⟨bb, bad, hb1, hba, hb2⟩ := rN.get1 hvN
  have hfn : fnB nn v = bb := fnB_get hb1
  have hrd : readB g nn ss i m = (decide (u.st = (j0 : Int)) && bb) := by
    unfold readB
    rw [ht2, hu2]
    show (decide (nxt ss t.st.toNat t.sym = some u.st) && vanB g nn u.sym) = _
    rw [hnx, hvan, hfn]
    congr 1
    rw [decide_eq_decide]
    constructor
    · intro h; exact (Option.some.inj h).symm
    · intro h; rw [h]
  intro w11 hd2
  have hR := hR.gr (Gr.drawn hd2)
  have g11 := hR.gw
  have skip : readB g nn ss i m = false → inI ((m : Int) + 1) ∧ (∃ m' : Nat, (m : Int) + 1 = m' ∧ m' ≤ T.length ∧ RowsC T.length (fun j => if j < i then rowF T.length (readB g nn ss j) else if j = i then rowF m' (readB g nn ss i) else []) k3 (all w) w11) ∧ T.length - ((m : Int) + 1).toNat < T.length - (m : Int).toNat := fun e => by
    have e5 : rowF (m + 1) (readB g nn ss i) = rowF m (readB g nn ss i) := by rw [rowF_succ, e]; simp
    refine ⟨⟨by omega, by omega⟩, ⟨m + 1, by simp, h2, hR.iff fun j _ => ?_⟩, msr h2⟩
    rw [e5]
  refine ⟨fun u => Gr w11 u, Gr.refl _, _, _, _, fun u s => rk.cell (sub.trans g11 s) (j := 8) rfl, idx_n hta h2 ⟨_, fun u s => ru.cell0 (sub.trans g11 s), br_intro (fun h3 => ?_) fun h3 => skip ?_⟩⟩
  rotate_left
  · have h3 : u.st ≠ (j0 : Int) := by simpa using h3
    rw [hrd, decide_eq_false h3]; rfl
  have h3 : u.st = (j0 : Int) := by simpa using h3
  refine ⟨_, _, _, fun u s => rk.cell (sub.trans g11 s) (j := 9) rfl, _, _, _, fun u s => rk.cell (sub.trans g11 s) (j := 8) rfl, idx_n hta h2 ⟨_, fun u s => ru.cell (sub.trans g11 s) (j := 1) rfl, _, _, _, fun u s => rk.cell0 (sub.trans g11 s), ⟨by omega, by omega⟩, ?_⟩⟩
  rw [hv]
  refine idx_i hba hvN ⟨bb, fun u s => hb2 _ (sub.trans g11 s), br_intro (fun h4 => ?_) fun h4 => skip (by rw [hrd, h4, Bool.and_false])⟩
  obtain ⟨q, es, hqf, hesl, hV, h, back⟩ := hR.take h1
  simp only [if_neg (Nat.lt_irrefl i), if_true] at hqf
  have hql : q.2.length ≤ m := by rw [hqf]; exact rowF_len _ _
  refine idx_i rfl h1 ⟨_, _, _, (rdCel 2 h.l).cell (sub.refl _) (j := i) hV, newC_i h fun k24 w19 h => ?_⟩
  refine (app_one (us := iv q.2) tyOk (rfl : kdOfT Ty _ = .slice _) (rfl : kdOfT Ty _ = .slice _) rfl rfl rfl h rfl (by simp [oneC]) (by show (q.2.length + 1) * 8 ≤ _; omega) (by omega)).mono ?_
  rintro _ w20 ⟨o', c'', rfl, h⟩
  refine ⟨_, _, _, rfl, idx_i rfl h1 ?_⟩
  rw [add_lit0]
  refine st1_i (h.pick 4 [3, 0, 2]) (by rw [List.length_map]; omega) fun w21 h => ⟨⟨by omega, by omega⟩, ⟨m + 1, by simp, h2, ?_⟩, msr h2⟩
  have e2 : (q.2 ++ [(m : Int)]).length = q.2.length + 1 := by simp
  have h : St w21 (own 1 o' (q.2 ++ [(m : Int)]).length c'' (iv (q.2 ++ [(m : Int)])) :: sta ((es.map (owQ 1 iv)).eraseIdx i) :: cel k3 ((es.map slQ).set i (.slice o' (q.2 ++ [(m : Int)]).length c'')) :: all w) := by
    rw [e2, show iv (q.2 ++ [(m : Int)]) = iv q.2 ++ [.int .i64 (m : Int)] by simp [iv]]
    exact h.pick 3 [1, 2, 0]
  refine (back _ _ _ _ _ h).iff fun j _ => ?_
  by_cases e : j = i
  · subst e
    rw [if_pos rfl, if_neg (Nat.lt_irrefl j), if_pos rfl, rowF_succ, if_pos (by rw [hrd, h4, decide_eq_true h3]; rfl), hqf]
  · rw [if_neg e]
    by_cases e3 : j < i
    · rw [if_pos e3, if_pos e3]
    · rw [if_neg e3, if_neg e3, if_neg e, if_neg e]
theorem d_Reads11 (hg : gR (hp w) g x) (hb : okG g) : Run Tryz.prog n_presageref11_Reads [.agg ⟨x.cells⟩] w fun v w' => ∃ (ss : List SQ) (ask int f : Int) (nn : List Bool) (o : Option Addr) (c : Nat) (ds : List (Lq Int)), v = .tuple #[.slice o ds.length c, .int .i64 f] ∧ Res g ss ask int f ∧ (f = 0 → NnP g nn) ∧ ds.map (·.2) = RdsL g nn ss ∧ St w' (own 1 o ds.length c (ds.map slQ) :: sta (ds.map (owQ 1 iv)) :: all w) := by
  refine run_presageref11_Reads _ _ _ _ _ _ _ _ _ _ _ _ _ w _ (gbox hg fun k1 w1 gw hg B => ?_)
  refine ⟨_, _, _, _, _, _, _, _, _, _, _, _, _, B.row (sub.refl _), (d_Of11 hg hb).mono ?_⟩
  rintro _ w2 ⟨ss, ask, int, f, nn, x', o, n, c, a, i, ol, nl, cl, on, nN, cn, rfl, hR, g2, h0⟩
  refine ⟨_, _, _, _, _, _, _, _, _, _, _, _, _, _, _, _, _, _, _, _, _, _, _, _, _, rfl, newC_i (St.all w2) fun k24 w3 h => stR_i h rfl (by intro v hv; simp at hv; rcases hv with rfl | rfl | rfl | rfl | rfl | rfl | rfl | rfl | rfl | rfl <;> rfl) fun w4 h => ?_⟩
  have g24 : Gr w2 w4 := h.gone1
  have rk : rowH (hp w4) (aM k24) (wdC x' o n c a i ol nl cl on nN cn) := rdCel 0 h.l
  clear h
  have gw4 := gw.trans (g2.trans g24)
  refine br_intro (fun h1 => ?_) fun h1 => ?_
  · have h1 : f ≠ 0 := by simpa using h1
    have hz : ss = [] := by rcases hR with ⟨_, e, _⟩ | ⟨_, _, e, _⟩ | ⟨_, _, _, _, e⟩ <;> first | exact e | exact absurd e h1
    subst hz
    exact ⟨[], ask, int, f, [], none, 0, [], rfl, hR, fun h => absurd h h1, rfl, own_nil 1 ((St.flat (M := [])).2 (St.here gw4))⟩
  have h1 : f = 0 := by simpa using h1
  subst h1
  obtain ⟨hc, hA⟩ := hR.aut rfl
  obtain ⟨hnn, rfl, rfl, rfl, hg', hs, rT, rN⟩ := h0 rfl
  have hw : DwR (hp w4) g ss nn k24 := ⟨x', o, c, a, i, ol, cl, on, cn, rk, hg'.mono g24, hs.mono g24, rT.mono g24, rN.mono g24⟩
  refine (d_wReads hw hc hA hnn).mono ?_
  rintro _ w5 ⟨o5, c5, ds, rfl, hds, h⟩
  exact ⟨_, _, _, rfl, ss, ask, int, 0, nn, o5, c5, ds, rfl, hR, fun _ => hnn, hds, St.on2 h (has_i gw4)⟩
end Go.Proofs.YtkmjjnjngcpjmaaGreatDoor
set_option linter.unusedVariables false
set_option maxRecDepth 4000
namespace Go.V
theorem rise_put {xs : List Int} {n : Int} {at_ : Nat} (hs : Rise xs) (h1 : ∀ y ∈ xs.take at_, y < n) (h2 : ∀ y, xs[at_]? = some y → n < y) : Rise (xs.take at_ ++ n :: xs.drop at_) ∧ ∀ z, z ∈ xs.take at_ ++ n :: xs.drop at_ ↔ z ∈ xs ∨ z = n := by
  have hd : ∀ y ∈ xs.drop at_, n < y := fun y hy => by
    obtain ⟨j, hj⟩ := List.getElem?_of_mem hy
    rw [List.getElem?_drop] at hj
    have hlt := (List.getElem?_eq_some_iff.1 hj).1
    have ha : xs[at_]? = some xs[at_] := List.getElem?_eq_getElem (by omega)
    have h3 := h2 _ ha
    by_cases e : j = 0
    · subst e; rw [Nat.add_zero, ha] at hj; cases hj; exact h3
    · have := rise_at hs ha hj (by omega); omega
  refine ⟨?_, fun z => ?_⟩
  · unfold Rise at hs ⊢
    rw [List.pairwise_append, List.pairwise_cons]
    refine ⟨hs.sublist (List.take_sublist _ _), ⟨hd, hs.sublist (List.drop_sublist _ _)⟩, fun a ha b hb => ?_⟩
    have h3 := h1 a ha
    rcases List.mem_cons.1 hb with rfl | hb
    · exact h3
    · have := hd b hb; omega
  · rw [List.mem_append, List.mem_cons]
    have e : z ∈ xs ↔ z ∈ xs.take at_ ∨ z ∈ xs.drop at_ := by rw [← List.mem_append, List.take_append_drop]
    rw [e]
    constructor
    · rintro (h | h | h)
      · exact .inl (.inl h)
      · exact .inr h
      · exact .inl (.inr h)
    · rintro ((h | h) | h)
      · exact .inl h
      · exact .inr (.inr h)
      · exact .inr (.inl h)
end Go.V
namespace Go.Proofs.YtkmjjnjngcpjmaaGreatDoor
open Go.V
variable {w : World} {L : List Asn} {g : GramT} {x : GA} {ss : List SQ} {nn : List Bool}
set_option maxHeartbeats 1000000 in
theorem d_Put {a : Option Addr} {l c : Nat} {xs : List Int} {n : Int} (h : St w (own 1 a l c (iv xs) :: L)) (hs : Rise xs) (hb : (l + 1) * 8 ≤ 140737488355328) : Run Tryz.prog n_presageref11_Put [.slice a l c, .int .i64 n] w fun v w' => ∃ (a' : Option Addr) (c' : Nat) (xs' : List Int), v = .slice a' xs'.length c' ∧ Rise xs' ∧ (∀ z, z ∈ xs' ↔ z ∈ xs ∨ z = n) ∧ xs'.length ≤ xs.length + 1 ∧ St w' (own 1 a' xs'.length c' (iv xs') :: L) := by
  have hln : xs.length = l := by have := own_len h; rw [iv_len] at this; omega
  have hlc := own_le h
  have rx : rdS (hp w) xs a l := rdI_of hln (rdOv 0 h.l)
  refine run_presageref11_Put _ _ _ _ w _ ⟨fun z w' => ∃ at_ : Nat, z = at_ ∧ at_ ≤ l ∧ (∀ y ∈ xs.take at_, y < n) ∧ (∀ y, xs[at_]? = some y → n ≤ y) ∧ w' = w, ⟨fun z w' => ∃ at_ : Nat, z = at_ ∧ at_ ≤ l ∧ (∀ y ∈ xs.take at_, y < n) ∧ w' = w, fun z _ => l - z.toNat, ⟨0, rfl, Nat.zero_le _, by simp, rfl⟩, ?_⟩, ?_⟩
  · rintro _ _ w1 ⟨at_, rfl, hat, h1, rfl⟩
    refine br_intro (fun h2 => ?_) fun h2 => ?_
    · have h2 : at_ < l := by have := of_decide_eq_true h2; omega
      obtain ⟨y, ad, hy1, hya, hy2⟩ := rx.get1 h2
      refine idx_i hya h2 ⟨y, hy2 _ (sub.refl _), br_intro (fun h3 => ?_) fun h3 => ?_⟩
      · have h3 := of_decide_eq_true h3
        refine ⟨⟨by omega, by omega⟩, ⟨at_ + 1, by simp, h2, fun z hz => ?_, rfl⟩, msr h2⟩
        rw [take_succ_get hy1, List.mem_append, List.mem_singleton] at hz
        rcases hz with hz | rfl
        · exact h1 z hz
        · exact h3
      · have h3 := of_decide_eq_false h3
        refine ⟨at_, rfl, hat, h1, fun z hz => ?_, rfl⟩
        rw [hy1] at hz; cases hz; omega
    · have h2 : at_ = l := by have := of_decide_eq_false h2; omega
      refine ⟨at_, rfl, hat, h1, fun z hz => ?_, rfl⟩
      have := (List.getElem?_eq_some_iff.1 hz).1
      omega
  rintro _ _ w2 ⟨at_, rfl, hat, h1, h2, e2⟩
  have h := h.eq (by rw [e2] : hp w2 = hp w)
  have rx : rdS (hp w2) xs a l := by rw [e2]; exact rx
  have fin : (∀ y, xs[at_]? = some y → n < y) → ∀ {w6 : World} {o5 : Option Addr} {c5 : Nat}, St w6 (own 1 o5 (0 + at_ + 1 + (l - at_)) c5 ([] ++ (xs.take at_).map Rep1.val ++ [.int .i64 n] ++ (xs.drop at_).map Rep1.val) :: L) → ∃ (a' : Option Addr) (c' : Nat) (xs' : List Int), (.slice o5 (0 + at_ + 1 + (l - at_)) c5 : Value) = .slice a' xs'.length c' ∧ Rise xs' ∧ (∀ z, z ∈ xs' ↔ z ∈ xs ∨ z = n) ∧ xs'.length ≤ xs.length + 1 ∧ St w6 (own 1 a' xs'.length c' (iv xs') :: L) := fun h3 {w6 o5 c5} h => by
    obtain ⟨r1, r2⟩ := rise_put hs h1 h3
    have el : (xs.take at_ ++ n :: xs.drop at_).length = 0 + at_ + 1 + (l - at_) := by simp; omega
    refine ⟨o5, c5, xs.take at_ ++ n :: xs.drop at_, by rw [el], r1, r2, by rw [el]; omega, ?_⟩
    rw [el]
    have e : iv (xs.take at_ ++ n :: xs.drop at_) = [] ++ (xs.take at_).map Rep1.val ++ [.int .i64 n] ++ (xs.drop at_).map Rep1.val := by
      unfold iv
      rw [List.map_append, List.map_cons, List.nil_append, List.append_assoc]
      rfl
    rw [e]
    exact h
  refine br_intro (fun h3 => ?_) fun h3 => ?_
  · have h3 : at_ < l := by have := of_decide_eq_true h3; omega
    obtain ⟨y, ad, hy1, hya, hy2⟩ := rx.get1 h3
    refine idx_i hya h3 ⟨y, hy2 _ (sub.refl _), br_intro (fun h4 => ?_) fun h4 => ?_⟩
    · have h4 : y = n := by simpa using h4
      subst h4
      refine ⟨a, c, xs, by rw [hln], hs, fun z => ⟨.inl, fun h => h.elim id fun h => by rw [h]; exact List.mem_of_getElem? hy1⟩, by omega, by rw [hln]; exact h⟩
    have h4 : y ≠ n := by simpa using h4
    have hne : ∀ z, xs[at_]? = some z → n < z := fun z hz => by
      have := h2 z hz
      rw [hy1] at hz; cases hz
      omega
    refine slc_hiN (by omega) ?_
    rw [slP0]
    refine (app_rd (us := []) (xs := xs.take at_) tyOk (rfl : kdOfT Ty _ = .slice _) (rfl : kdOfT Ty _ = .slice _) rfl rfl rfl (own_nil 1 h) rfl (rx.take (k := at_) (by omega)) (fun x => rfl) (by show (0 + at_) * 8 ≤ _; omega) (by omega)).mono ?_
    rintro _ w3 ⟨o2, c2, rfl, h⟩
    refine ⟨_, _, _, rfl, newC_i h fun k5 w4 h => ?_⟩
    refine (app_one (us := [] ++ (xs.take at_).map Rep1.val) tyOk (rfl : kdOfT Ty _ = .slice _) (rfl : kdOfT Ty _ = .slice _) rfl rfl rfl h rfl (by simp [oneC]) (by show (0 + at_ + 1) * 8 ≤ _; omega) (by omega)).mono ?_
    rintro _ w5 ⟨o3, c3, rfl, h⟩
    have rx5 : rdS (hp w5) xs a l := rdI_of hln (rdOv 2 h.l)
    refine ⟨_, _, _, rfl, slc_from (by omega) hlc ?_⟩
    refine (app_rd (xs := xs.drop at_) tyOk (rfl : kdOfT Ty _ = .slice _) (rfl : kdOfT Ty _ = .slice _) rfl rfl rfl h rfl (rx5.drop (k := at_) (m := c) (by omega) hlc) (fun x => rfl) (by show (0 + at_ + 1 + (l - at_)) * 8 ≤ _; omega) (by omega)).mono ?_
    rintro _ w6 ⟨o5, c5, rfl, h⟩
    exact ⟨_, _, _, rfl, fin hne (h.pick 3 [0])⟩
  · have hne : ∀ z, xs[at_]? = some z → n < z := fun z hz => by
      have := (List.getElem?_eq_some_iff.1 hz).1
      have := of_decide_eq_false h3
      omega
    refine slc_hiN (by omega) ?_
    rw [slP0]
    refine (app_rd (us := []) (xs := xs.take at_) tyOk (rfl : kdOfT Ty _ = .slice _) (rfl : kdOfT Ty _ = .slice _) rfl rfl rfl (own_nil 1 h) rfl (rx.take (k := at_) (by omega)) (fun x => rfl) (by show (0 + at_) * 8 ≤ _; omega) (by omega)).mono ?_
    rintro _ w3 ⟨o2, c2, rfl, h⟩
    refine ⟨_, _, _, rfl, newC_i h fun k5 w4 h => ?_⟩
    refine (app_one (us := [] ++ (xs.take at_).map Rep1.val) tyOk (rfl : kdOfT Ty _ = .slice _) (rfl : kdOfT Ty _ = .slice _) rfl rfl rfl h rfl (by simp [oneC]) (by show (0 + at_ + 1) * 8 ≤ _; omega) (by omega)).mono ?_
    rintro _ w5 ⟨o3, c3, rfl, h⟩
    have rx5 : rdS (hp w5) xs a l := rdI_of hln (rdOv 2 h.l)
    refine ⟨_, _, _, rfl, slc_from (by omega) hlc ?_⟩
    refine (app_rd (xs := xs.drop at_) tyOk (rfl : kdOfT Ty _ = .slice _) (rfl : kdOfT Ty _ = .slice _) rfl rfl rfl h rfl (rx5.drop (k := at_) (m := c) (by omega) hlc) (fun x => rfl) (by show (0 + at_ + 1 + (l - at_)) * 8 ≤ _; omega) (by omega)).mono ?_
    rintro _ w6 ⟨o5, c5, rfl, h⟩
    exact ⟨_, _, _, rfl, fin hne (h.pick 3 [0])⟩
end Go.Proofs.YtkmjjnjngcpjmaaGreatDoor
set_option linter.unusedVariables false
set_option maxRecDepth 4000
namespace Go.V
def RowsD (n : Nat) (P : Nat → Int → Prop) (B k : Nat) (L : List Asn) (w : World) : Prop := ∃ f : Nat → List Int, (∀ j, j < n → Rise (f j) ∧ (∀ z, z ∈ f j ↔ P j z) ∧ (f j).length ≤ B) ∧ RowsC n f k L w
theorem RowsD.gr {n B k : Nat} {P : Nat → Int → Prop} {L : List Asn} {w w' : World} (h : RowsD n P B k L w) (g : Gr w w') : RowsD n P B k L w' := by
  obtain ⟨f, h1, h2⟩ := h
  exact ⟨f, h1, h2.gr g⟩
theorem RowsD.gw {n B k : Nat} {P : Nat → Int → Prop} {w0 w : World} (h : RowsD n P B k (all w0) w) : Gr w0 w := by
  obtain ⟨f, h1, h2⟩ := h
  exact h2.gw
theorem RowsD.iff {n B k : Nat} {P Q : Nat → Int → Prop} {L : List Asn} {w : World} (h : RowsD n P B k L w) (e : ∀ j z, j < n → (P j z ↔ Q j z)) : RowsD n Q B k L w := by
  obtain ⟨f, h1, h2⟩ := h
  exact ⟨f, fun j hj => ⟨(h1 j hj).1, fun z => by rw [(h1 j hj).2.1 z, e j z hj], (h1 j hj).2.2⟩, h2⟩
end Go.V
namespace Go.Proofs.YtkmjjnjngcpjmaaGreatDoor
open Go.V
variable {w : World} {L : List Asn} {g : GramT} {x : GA} {ss : List SQ} {nn : List Bool}
set_option maxHeartbeats 4000000 in
theorem d_wIncludes {k : Nat} (hw : DwR (hp w) g ss nn k) (hb : okG g) (hc : ClosedP g) (hA : AutI g ss) (hnn : NnP g nn) : Run Tryz.prog n_presageref11_World_Includes [.pointer (some (aM k))] w fun v w' => ∃ (o : Option Addr) (c : Nat) (ds : List (Lq Int)), v = .slice o ds.length c ∧ ds.map (·.2) = IncL g nn ss ∧ St w' (own 1 o ds.length c (ds.map slQ) :: sta (ds.map (owQ 1 iv)) :: all w) := by
  obtain ⟨x', o, c', a', int, ol, cl, on, cn, rk, hg, hs, rT, rN⟩ := hw.ex
  have rA := DwR.aut rk
  have hkl := hA.klen hc
  obtain ⟨sT, sN, sP, sP2, _, _⟩ := hc.sizes
  have h256 := hA.dn.2.1
  have hnl := trl_le hc hA
  have pl := hg.p.1
  have hke : ∀ q ∈ ss, q.2.2.length ≤ 130 := fun q hq => (hkl q hq).2
  have hnx : ∀ i s j, nxt ss i s = some j → 0 ≤ j ∧ j < ss.length := fun i s j h => nxt_pos hc hA h
  obtain ⟨n, hn⟩ : ∃ n, (TrL g ss).length = n := ⟨_, rfl⟩
  have rT0 := rT
  rw [hn] at rk rT hnl
  refine run_presageref11_World_Includes _ w _ ⟨_, _, _, rk.cell (sub.refl _) (j := 8) rfl, ⟨by omega, rfl, by omega⟩, ?_⟩
  rw [Int.toNat_natCast]
  have e0 : reps n [(Value.slice none 0 0 : Value)] = (List.replicate n (((none, 0), []) : Lq Int)).map slQ := by rw [reps_one]; simp [slQ]
  rw [e0]
  refine newC_i (St.all w) fun k3 w1 h => ?_
  have hR : RowsD n (IncI g nn ss 0) 0 k3 (all w) w1 := ⟨_, fun j _ => ⟨by simp [Rise], fun z => ⟨fun h => by simp at h, fun h => by obtain ⟨_, _, h, _⟩ := h; omega⟩, by simp⟩, RowsC.start h⟩
  clear h
  refine ⟨fun z w' => ∃ (i B : Nat), z = i ∧ i ≤ n ∧ B ≤ i * 30000 ∧ RowsD n (IncI g nn ss i) B k3 (all w) w', fun z _ => n - z.toNat, ⟨0, 0, rfl, Nat.zero_le _, Nat.zero_le _, hR⟩, ?_⟩
  clear hR
  rintro _ _ w2 ⟨i, B0, rfl, hi, hB0, hR⟩
  have g2 := hR.gw
  refine ⟨_, _, _, rk.cell g2 (j := 8) rfl, br_intro (fun h1 => ?_) fun h1 => ?_⟩
  rotate_left
  · have h1 : i = n := by have := of_decide_eq_false h1; omega
    subst h1
    obtain ⟨f, hf, hC⟩ := hR
    obtain ⟨ds, hdl, hds, h⟩ := hC.fin
    refine ⟨_, _, ds, by rw [hdl], ?_, by rw [hdl]; exact h⟩
    rw [hds]
    unfold IncL
    rw [hn]
    refine List.map_congr_left fun j hj => ?_
    obtain ⟨r1, r2, _⟩ := hf j (List.mem_range.1 hj)
    refine rise_eq r1 (rowF_rise _ _) fun z => ?_
    rw [r2 z, ← hn]
    exact IncI.all hA
  have h1 : i < n := by have := of_decide_eq_true h1; omega
  obtain ⟨t, tad, ht, hta, rt⟩ := rdTr_get rT h1
  obtain ⟨i0, q0, k0, e0', hi0, hq0, he0, hge, hte⟩ := TrN_mem (List.mem_of_getElem? ht)
  have hst0 : 0 ≤ t.st := by rw [hte]; exact Int.natCast_nonneg _
  have hst1 : t.st < ss.length := by rw [hte]; show (i0 : Int) < _; omega
  refine ⟨fun z w' => ∃ (m B : Nat), z = ((m + 1 : Nat) : Int) ∧ m + 1 ≤ x'.pl ∧ B ≤ B0 + m * 300 ∧ RowsD n (fun j z => IncI g nn ss i j z ∨ z = i ∧ IncM g nn ss t (byR g (m + 1) t.sym) j) B k3 (all w) w', fun z _ => x'.pl - z.toNat,
    ⟨0, B0, rfl, by omega, by omega, hR.iff fun j z _ => ⟨.inl, fun h => h.elim id fun h => by
      obtain ⟨_, m', hm', _⟩ := h
      have := (List.mem_filter.1 hm')
      have h2 := this.1
      unfold byN at h2
      have h3 := List.mem_range.1 (List.mem_filter.1 h2).1
      have h4 := of_decide_eq_true this.2
      omega⟩⟩, ?_⟩
  clear hR
  rintro _ _ w3 ⟨m, B1, rfl, hm, hB1, hR⟩
  have g3 := hR.gw
  refine ⟨_, _, _, rk.cell g3 (j := 4) rfl, br_intro (fun h2 => ?_) fun h2 => ?_⟩
  rotate_left
  · have h2 : m + 1 = x'.pl := by have := of_decide_eq_false h2; omega
    refine ⟨⟨by omega, by omega⟩, ⟨i + 1, B1, by simp, h1, by omega, hR.iff fun j z _ => ?_⟩, msr h1⟩
    rw [IncI.succ ht, h2, ← pl]
  have h2 : m + 1 < x'.pl := by have := of_decide_eq_true h2; omega
  obtain ⟨p, pad, pvs, hp1, hpa, hp2, ra, rl, rc, rfl, hrc, hp3⟩ := hg.p.get h2
  have hpr := List.mem_of_getElem? hp1
  have rl1 := hp3.1
  have b7 := hb.2.2.2.2.2.2 p hpr
  refine ⟨_, _, _, rk.cell g3 (j := 4) rfl, idx_n hpa h2 ⟨_, _, _, hp2.cell g3 (j := 1) rfl, ?_⟩⟩
  intro w4 hd
  have hR := hR.gr (Gr.drawn hd)
  have g4 := hR.gw
  refine ⟨fun u => Gr w4 u, Gr.refl _, _, _, _, fun u s => rk.cell (sub.trans g4 s) (j := 4) rfl, idx_n hpa h2 ⟨_, fun u s => hp2.cell0 (sub.trans g4 s), _, _, _, fun u s => rk.cell (sub.trans g4 s) (j := 8) rfl, idx_n hta h1 ⟨_, fun u s => rt.cell (sub.trans g4 s) (j := 1) rfl, br_intro (fun h3 => ?_) fun h3 => ?_⟩⟩⟩
  · have h3 : p.left ≠ t.sym := by simpa using h3
    refine ⟨⟨by omega, by omega⟩, ⟨m + 1, B1, by simp, by omega, by omega, hR.iff fun j z _ => ?_⟩, msr h2⟩
    rw [byR_succ hp1, if_neg (fun h => h3 h.1.symm), List.append_nil]
  have h3 : p.left = t.sym := by simpa using h3
  obtain ⟨i0', q', e1', hq', hcl'⟩ := tr_prods hc hA ht hp1 h3
  have hrl := right_len hc hA hq' hp1 hcl'
  obtain ⟨jw, _, hjw, hjl, _⟩ := walk_right hc hA hp1 p.right.length 0 (by omega) i0' q' hq' (by simpa using hcl')
  rw [List.drop_zero, ← e1'] at hjw
  have hway : ∀ k, 0 ≤ wayN ss t.st (p.right.take k) ∧ wayN ss t.st (p.right.take k) < ss.length := fun k => by
    rcases wayN_rng hnx (p.right.take k) t.st hst0 hst1 with e | e
    · have h5 := wayN_app hnx (p.right.drop k) (p.right.take k) t.st hst0 hst1
      rw [List.take_append_drop, if_pos e, hjw] at h5
      omega
    · exact e
  have hrow : ∀ s ∈ p.right, 0 ≤ s ∧ s < g.T + g.N := fun s hs => by have := hc.sym hpr hs; omega
  refine ⟨_, _, _, rk.cell g4 (j := 8) rfl, idx_n hta h1 ⟨_, rt.cell0 g4, fun a z w' => ∃ (k B : Nat), a = wayN ss t.st (p.right.take k) ∧ z = k ∧ k ≤ rl ∧ B ≤ B1 + k ∧ RowsD n (fun j z => (IncI g nn ss i j z ∨ z = i ∧ IncM g nn ss t (byR g (m + 1) t.sym) j) ∨ z = i ∧ IncP g nn ss t p k j) B k3 (all w) w', fun _ z _ => rl - z.toNat,
    ⟨0, B1, rfl, rfl, Nat.zero_le _, by omega, hR.iff fun j z _ => ⟨.inl, fun h => h.elim id fun h => by obtain ⟨_, _, _, h, _⟩ := h; omega⟩⟩, ?_⟩⟩
  clear hR
  rintro _ _ _ w9 ⟨kk, B2, rfl, rfl, hkk, hB2, hR⟩
  have g9 := hR.gw
  refine br_intro (fun h4 => br_t (decide_eq_true (hway kk).1) ?_) fun h4 => ?_
  rotate_left
  · have h4 : kk = rl := by have := of_decide_eq_false h4; omega
    subst h4
    refine ⟨⟨by omega, by omega⟩, ⟨m + 1, B2, by simp, by omega, by omega, hR.iff fun j z _ => ?_⟩, msr h2⟩
    rw [byR_succ hp1, if_pos ⟨h3.symm, by omega⟩, IncM.snoc hp1, ← rl1]
    constructor
    · rintro ((h | h) | h)
      · exact .inl h
      · exact .inr ⟨h.1, .inl h.2⟩
      · exact .inr ⟨h.1, .inr h.2⟩
    · rintro (h | ⟨h, h2 | h2⟩)
      · exact .inl (.inl h)
      · exact .inl (.inr ⟨h, h2⟩)
      · exact .inr ⟨h, h2⟩
  have h4 : kk < rl := by have := of_decide_eq_true h4; omega
  obtain ⟨y, ad, hy1, hya, hy2⟩ := hp3.get1 h4
  obtain ⟨wq, hwq⟩ : ∃ wq : Nat, wayN ss t.st (p.right.take kk) = wq := ⟨(wayN ss t.st (p.right.take kk)).toNat, by have := (hway kk).1; omega⟩
  have hwql : wq < ss.length := by have := (hway kk).2; omega
  have hsucc : ∀ (P : Nat → Int → Prop) j z, ((IncI g nn ss i j z ∨ z = i ∧ IncM g nn ss t (byR g (m + 1) t.sym) j) ∨ z = i ∧ IncP g nn ss t p (kk + 1) j) ↔ (((IncI g nn ss i j z ∨ z = i ∧ IncM g nn ss t (byR g (m + 1) t.sym) j) ∨ z = i ∧ IncP g nn ss t p kk j) ∨ (z = i ∧ numT g ss ⟨wayN ss t.st (p.right.take kk), y⟩ = (j : Int) + 1 ∧ vanR g nn (p.right.drop (kk + 1)) = true)) := fun _ j z => by
    rw [IncP.succ hy1]
    constructor
    · rintro (h | ⟨h, h2 | h2⟩)
      · exact .inl (.inl h)
      · exact .inl (.inr ⟨h, h2⟩)
      · exact .inr ⟨h, h2⟩
    · rintro ((h | h) | h)
      · exact .inl h
      · exact .inr ⟨h.1, .inl h.2⟩
      · exact .inr ⟨h.1, .inr h.2⟩
  intro w10 hd2
  have hR := hR.gr (Gr.drawn hd2)
  have g10 := hR.gw
  refine ⟨fun u => Gr w10 u, Gr.refl _, _, _, _, fun u s => rk.cell (sub.trans g10 s) (j := 8) rfl, idx_i hya h4 ⟨y, fun u s => hy2 _ (sub.trans g10 s), ?_⟩⟩
  rw [← hn]
  refine (d_Number hA (rT0.mono g10) (by omega)).mono ?_
  rintro _ w13 ⟨rfl, e13⟩
  rw [hn]
  refine ⟨_, rfl, by rw [e13]; exact Gr.refl _, fun w' => ∃ B', B' ≤ B2 + 1 ∧ RowsD n (fun j z => (IncI g nn ss i j z ∨ z = i ∧ IncM g nn ss t (byR g (m + 1) t.sym) j) ∨ z = i ∧ IncP g nn ss t p (kk + 1) j) B' k3 (all w) w', ?_, ?_⟩
  · rw [e13]
    have nop : (∀ j : Nat, ¬(numT g ss ⟨wayN ss t.st (p.right.take kk), y⟩ = (j : Int) + 1 ∧ vanR g nn (p.right.drop (kk + 1)) = true)) → ∀ {u : World}, Gr w10 u → ∃ B', B' ≤ B2 + 1 ∧ RowsD n (fun j z => (IncI g nn ss i j z ∨ z = i ∧ IncM g nn ss t (byR g (m + 1) t.sym) j) ∨ z = i ∧ IncP g nn ss t p (kk + 1) j) B' k3 (all w) u := fun hno {u} gu => by
      refine ⟨B2, by omega, (hR.gr gu).iff fun j z _ => ?_⟩
      rw [hsucc (fun _ _ => True)]
      exact ⟨.inl, fun h => h.elim id fun h => absurd h.2 (hno j)⟩
    refine br_intro (fun h5 => ?_) fun h5 => nop (fun j h => by have := of_decide_eq_false h5; omega) (Gr.refl _)
    have h5 := of_decide_eq_true h5
    obtain ⟨u0, hu0, hu1⟩ := numT_pos hA (t := ⟨wayN ss t.st (p.right.take kk), y⟩) (by omega)
    have hul : u0 < n := by rw [← hn]; exact (List.getElem?_eq_some_iff.1 hu1).1
    have ek : (kk : Int) + 1 = ((kk + 1 : Nat) : Int) := by omega
    have eu : numT g ss ⟨wayN ss t.st (p.right.take kk), y⟩ - 1 = (u0 : Int) := by omega
    refine ⟨⟨by omega, by omega⟩, ?_⟩
    rw [ek]
    refine slc_from (by omega) hrc ((d_empty11 (hw.mono g10) hb hnn hc ((hp3.drop (k := kk + 1) (m := rc) (by omega) hrc).mono g10) (by omega) fun s hs => hrow s (List.mem_of_mem_drop hs)).mono ?_)
    rintro _ w14 ⟨rfl, g14⟩
    refine ⟨_, rfl, br_intro (fun h6 => ?_) fun h6 => nop (fun j h => by rw [h.2] at h6; cases h6) g14⟩
    obtain ⟨f, hf, hC⟩ := hR.gr g14
    obtain ⟨q, es, hqf, hesl, hV, h, back⟩ := hC.take hul
    obtain ⟨f1, f2, f3⟩ := hf u0 hul
    rw [eu]
    refine idx_i rfl hul ⟨_, _, _, (rdCel 2 h.l).cell (sub.refl _) (j := u0) hV, (d_Put (n := (i : Int)) h (by rw [hqf]; exact f1) (by rw [hqf]; omega)).mono ?_⟩
    rintro _ w15 ⟨a2, c2, xs', rfl, hx1, hx2, hx3, h⟩
    refine ⟨_, _, _, rfl, idx_i rfl hul ?_⟩
    rw [add_lit0]
    refine st1_i (h.pick 3 [2, 0, 1]) (by rw [List.length_map]; omega) fun w16 h => ?_
    have hC := back _ _ _ _ _ (h.pick 3 [1, 2, 0])
    refine ⟨B2 + 1, Nat.le_refl _, _, fun j hj => ?_, hC⟩
    by_cases e : j = u0
    · subst e
      simp only [if_true]
      refine ⟨hx1, fun z => ?_, by rw [hqf] at hx3; omega⟩
      rw [hx2 z, hqf, f2 z, hsucc (fun _ _ => True)]
      constructor
      · rintro (h | h)
        · exact .inl h
        · exact .inr ⟨h, hu0, h6⟩
      · rintro (h | h)
        · exact .inl h
        · exact .inr h.1
    · simp only [if_neg e]
      obtain ⟨r1, r2, r3⟩ := hf j hj
      refine ⟨r1, fun z => ?_, by omega⟩
      rw [r2 z, hsucc (fun _ _ => True)]
      exact ⟨.inl, fun h => h.elim id fun h => absurd (by have := h.2.1; omega : j = u0) e⟩
  rintro _ w17 ⟨B3, hB3, hR⟩
  intro w18 hd3
  have hR := hR.gr (Gr.drawn hd3)
  have g18 := hR.gw
  rw [hwq]
  refine ⟨fun u => Gr w18 u, Gr.refl _, _, _, _, _, _, fun u s => rA.at (sub.trans g18 s) rfl, idx_i hya h4 ⟨y, fun u s => hy2 _ (sub.trans g18 s), (d_Next (i := wq) (s := y) hA (hs.mono g18) hwql hke h256).mono ?_⟩⟩
  rintro _ w21 ⟨rfl, g21⟩
  refine ⟨_, rfl, g21, ⟨by omega, by omega⟩, ⟨kk + 1, B3, ?_, by simp, h4, by omega, hR.gr g21⟩, msr h4⟩
  rw [take_succ_get hy1, wayN_app hnx _ _ _ hst0 hst1, hwq, if_neg (by omega), wayN_cons, Int.toNat_natCast]
  unfold nextS
  cases nxt ss wq y with
  | none => rfl
  | some j => rfl
theorem d_Includes11 (hg : gR (hp w) g x) (hb : okG g) : Run Tryz.prog n_presageref11_Includes [.agg ⟨x.cells⟩] w fun v w' => ∃ (ss : List SQ) (ask int f : Int) (nn : List Bool) (o : Option Addr) (c : Nat) (ds : List (Lq Int)), v = .tuple #[.slice o ds.length c, .int .i64 f] ∧ Res g ss ask int f ∧ (f = 0 → NnP g nn) ∧ ds.map (·.2) = IncL g nn ss ∧ St w' (own 1 o ds.length c (ds.map slQ) :: sta (ds.map (owQ 1 iv)) :: all w) := by
  refine run_presageref11_Includes _ _ _ _ _ _ _ _ _ _ _ _ _ w _ (gbox hg fun k1 w1 gw hg B => ?_)
  refine ⟨_, _, _, _, _, _, _, _, _, _, _, _, _, B.row (sub.refl _), (d_Of11 hg hb).mono ?_⟩
  rintro _ w2 ⟨ss, ask, int, f, nn, x', o, n, c, a, i, ol, nl, cl, on, nN, cn, rfl, hR, g2, h0⟩
  refine ⟨_, _, _, _, _, _, _, _, _, _, _, _, _, _, _, _, _, _, _, _, _, _, _, _, _, rfl, newC_i (St.all w2) fun k24 w3 h => stR_i h rfl (by intro v hv; simp at hv; rcases hv with rfl | rfl | rfl | rfl | rfl | rfl | rfl | rfl | rfl | rfl <;> rfl) fun w4 h => ?_⟩
  have g24 : Gr w2 w4 := h.gone1
  have rk : rowH (hp w4) (aM k24) (wdC x' o n c a i ol nl cl on nN cn) := rdCel 0 h.l
  clear h
  have gw4 := gw.trans (g2.trans g24)
  refine br_intro (fun h1 => ?_) fun h1 => ?_
  · have h1 : f ≠ 0 := by simpa using h1
    have hz : ss = [] := by rcases hR with ⟨_, e, _⟩ | ⟨_, _, e, _⟩ | ⟨_, _, _, _, e⟩ <;> first | exact e | exact absurd e h1
    subst hz
    exact ⟨[], ask, int, f, [], none, 0, [], rfl, hR, fun h => absurd h h1, rfl, own_nil 1 ((St.flat (M := [])).2 (St.here gw4))⟩
  have h1 : f = 0 := by simpa using h1
  subst h1
  obtain ⟨hc, hA⟩ := hR.aut rfl
  obtain ⟨hnn, rfl, rfl, rfl, hg', hs, rT, rN⟩ := h0 rfl
  have hw : DwR (hp w4) g ss nn k24 := ⟨x', o, c, a, i, ol, cl, on, cn, rk, hg'.mono g24, hs.mono g24, rT.mono g24, rN.mono g24⟩
  refine (d_wIncludes hw hb hc hA hnn).mono ?_
  rintro _ w5 ⟨o5, c5, ds, rfl, hds, h⟩
  exact ⟨_, _, _, rfl, ss, ask, int, 0, nn, o5, c5, ds, rfl, hR, fun _ => hnn, hds, St.on2 h (has_i gw4)⟩
end Go.Proofs.YtkmjjnjngcpjmaaGreatDoor
set_option linter.unusedVariables false
set_option maxRecDepth 4000
namespace Go.V
section
variable {g : GramT} {ss : List SQ}
def mkBk (g : GramT) (ss : List SQ) (q : Nat) (z : Int) : BackT := ⟨(q : Int), z, rowF (TrL g ss).length (backB g ss q z.toNat)⟩
theorem bkRow_mk (q j : Nat) : ((bkRow g ss q j).map (·.prod)).map (mkBk g ss q) = bkRow g ss q j := by
  rw [List.map_map]
  conv => rhs; rw [← List.map_id (bkRow g ss q j)]
  refine List.map_congr_left fun b hb => ?_
  obtain ⟨m, _, _, rfl⟩ := bkRow_mem.1 hb
  show mkBk g ss q (m : Int) = _
  unfold mkBk
  rw [Int.toNat_natCast]
  rfl
def cmpL (g : GramT) (ss : List SQ) (q : Nat) (l : List ItemT) : List BackT := ((l.filter (compB g)).map (·.prod)).map (mkBk g ss q)
theorem cmpL_all (hc : ClosedP g) (hA : AutI g ss) {q : Nat} {r : SQ} (hr : ss[q]? = some r) : cmpL g ss q (cls g r.1.2) = bkRow g ss q g.prods.length := by
  unfold cmpL
  rw [comp_row hc hA hr, bkRow_mk]
theorem cmpL_no {q : Nat} {l : List ItemT} {y : ItemT} (h : compB g y = false) : cmpL g ss q (l ++ [y]) = cmpL g ss q l := by
  unfold cmpL
  rw [List.filter_append, List.filter_cons, if_neg (by rw [h]; simp)]
  simp
theorem cmpL_yes {q : Nat} {l : List ItemT} {y : ItemT} (h : compB g y = true) : cmpL g ss q (l ++ [y]) = cmpL g ss q l ++ [mkBk g ss q y.prod] := by
  unfold cmpL
  rw [List.filter_append, List.filter_cons, if_pos h]
  simp
theorem cmpL_len (q : Nat) (l : List ItemT) : (cmpL g ss q l).length ≤ l.length := by
  unfold cmpL
  rw [List.length_map, List.length_map]
  exact List.length_filter_le _ _
end
end Go.V
namespace Go.Proofs.YtkmjjnjngcpjmaaGreatDoor
open Go.V
variable {w : World} {L : List Asn} {g : GramT} {x : GA} {ss : List SQ} {nn : List Bool}
set_option maxHeartbeats 8000000 in
theorem d_wLookback {k : Nat} (hw : DwR (hp w) g ss nn k) (hb : okG g) (hc : ClosedP g) (hA : AutI g ss) : Run Tryz.prog n_presageref11_World_Lookback [.pointer (some (aM k))] w fun v w' => ∃ (o : Option Addr) (c : Nat) (ds : List BkQ), v = .slice o ds.length c ∧ ds.map toBk = BksL g ss ∧ St w' (own 3 o ds.length c (bkV ds) :: sta (bkO ds) :: all w) := by
  obtain ⟨x', o, c', a', int, ol, cl, on, cn, rk, hg, hs, rT, rN⟩ := hw.ex
  have rA := DwR.aut rk
  have hkl := hA.klen hc
  obtain ⟨sT, sN, sP, sP2, _, _⟩ := hc.sizes
  have h256 := hA.dn.2.1
  have hnl := trl_le hc hA
  have pl := hg.p.1
  have hKf : ∀ {i : Nat} {r : SQ}, ss[i]? = some r → fitsB g r.1.2 := fun {i r} hr => (bst_inv (g := g) (by omega) i).fit _ (List.mem_of_getElem? (aut_at hA hr).1)
  have hlenB : ∀ q, q ≤ ss.length → (BksN g ss q).length ≤ 24832 := fun q hq => by
    have h1 := BksN_len g ss q
    have h2 : q * g.prods.length ≤ 256 * 97 := Nat.mul_le_mul (by omega) sP
    omega
  refine run_presageref11_World_Lookback _ w _ ⟨fun o n c z w' => ∃ (q : Nat) (bs : List BkQ), z = q ∧ q ≤ ss.length ∧ n = bs.length ∧ bs.map toBk = BksN g ss q ∧ St w' (own 3 o n c (bkV bs) :: sta (bkO bs) :: all w), fun _ _ _ z _ => ss.length - z.toNat,
    ⟨0, [], rfl, Nat.zero_le _, rfl, rfl, own_nil 3 ((St.flat (M := [])).2 (St.all w))⟩, ?_⟩
  rintro _ o1 _ c1 _ w1 ⟨q, bs, rfl, hq, rfl, hbs, h⟩
  have g1 : Gr w w1 := rdH 2 h.l
  refine ⟨_, _, _, rk.cell g1 (j := 5) rfl, br_intro (fun h1 => ?_) fun h1 => ?_⟩
  rotate_left
  · have h1 : q = ss.length := by have := of_decide_eq_false h1; omega
    subst h1
    exact ⟨_, _, bs, rfl, hbs, h⟩
  have h1 : q < ss.length := by have := of_decide_eq_true h1; omega
  have hBq := hlenB q hq
  obtain ⟨r, hr⟩ : ∃ r, ss[q]? = some r := ⟨_, List.getElem?_eq_getElem h1⟩
  obtain ⟨ad, eo, rs, rkn, _⟩ := hs q r hr
  have hkr := (hkl r (List.mem_of_getElem? hr)).1
  have hcl : (cls g r.1.2).length ≤ 29197 := by have := cls_len g r.1.2; omega
  intro w2 hd
  have h := h.eq (drawn_hp hd)
  have g2 : Gr w w2 := rdH 2 h.l
  refine ⟨fun u => sub (hp w) (hp u), g2, _, _, _, _, _, _, _, _, _, _, _, _, _, fun u s => (rowH_pre rk).at s rfl, _, _, _, fun u s => rk.cell s (j := 5) rfl, idx_n eo h1 ⟨_, _, _, fun u s => rs.cell0 s, (d_ClosedI (hg.mono g2) hb hc (rkn.mono g2) (hKf hr) (by omega)).mono ?_⟩⟩
  rintro _ w6 ⟨o9, c9, rfl, h2⟩
  have h : St w6 (own 2 o9 (cls g r.1.2).length c9 (tv (cls g r.1.2)) :: own 3 o1 bs.length c1 (bkV bs) :: sta (bkO bs) :: all w) := St.on1 h2 h.l
  clear h2
  have hfit : ∀ y, y ∈ cls g r.1.2 → fitI g y := fun y hy => (cls_mem.1 hy).fit (hKf hr)
  have hall := cmpL_all hc hA hr
  obtain ⟨C, hC⟩ : ∃ C, C = cls g r.1.2 := ⟨_, rfl⟩
  rw [← hC] at h hcl hfit hall ⊢
  refine ⟨_, _, _, rfl, rdH 3 h.l, fun o n c z w' => ∃ (i : Nat) (bs : List BkQ), z = i ∧ i ≤ C.length ∧ n = bs.length ∧ bs.map toBk = BksN g ss q ++ cmpL g ss q (C.take i) ∧ St w' (own 3 o n c (bkV bs) :: sta (bkO bs) :: own 2 o9 C.length c9 (tv C) :: all w), fun _ _ _ z _ => C.length - z.toNat,
    ⟨0, bs, rfl, Nat.zero_le _, rfl, by rw [hbs]; simp [cmpL], h.pick 3 [1, 2, 0]⟩, ?_⟩
  clear h hbs g1 g2
  rintro _ o10 _ c10 _ w7 ⟨i, bs, rfl, hi, rfl, hbs, h⟩
  have hbl : bs.length ≤ 60000 := by
    have h3 := congrArg List.length hbs
    have h4 := cmpL_len (g := g) (ss := ss) q (C.take i)
    rw [List.length_map, List.length_append] at h3
    rw [List.length_take] at h4
    omega
  refine br_intro (fun h2 => ?_) fun h2 => ?_
  rotate_left
  · have h2 : i = C.length := by have := of_decide_eq_false h2; omega
    rw [h2, List.take_length, hall, ← BksN_succ] at hbs
    exact ⟨⟨by omega, by omega⟩, ⟨q + 1, bs, by simp, h1, rfl, hbs, h.pick 3 [0, 1]⟩, msr h1⟩
  have h2 : i < C.length := by have := of_decide_eq_true h2; omega
  intro w8 hd2
  have h := h.eq (drawn_hp hd2)
  obtain ⟨h0, hl0, s0, h⟩ := h.freeze2
  have g8 : sub (hp w) h0 := rdH 1 hl0
  have rC : rdS h0 C o9 C.length := rdIt_of rfl (rdOv 0 hl0)
  obtain ⟨y, yad, hy, hya, ry⟩ := rdIt_getR rC h2
  have hyC := List.mem_of_getElem? hy
  have htk : C.take (i + 1) = C.take i ++ [y] := by rw [List.take_add_one, hy]; rfl
  obtain ⟨f0, f1, p, hp1', f2⟩ := hfit y hyC
  obtain ⟨m, hm⟩ : ∃ m : Nat, y.prod = m := ⟨y.prod.toNat, by omega⟩
  rw [hm, Int.toNat_natCast] at hp1'
  have hml : m < x'.pl := by have := (List.getElem?_eq_some_iff.1 hp1').1; omega
  obtain ⟨p', pad, pvs, hp1, hpa, hp2, ra, rl, rc, rfl, hrc, hp3⟩ := hg.p.get hml
  rw [hp1'] at hp1; cases hp1
  have hpr := List.mem_of_getElem? hp1'
  have rl1 := hp3.1
  have b7 := hb.2.2.2.2.2.2 p hpr
  have skip : compB g y = false → ∀ {u : World}, St u (own 3 o10 bs.length c10 (bkV bs) :: sta (bkO bs) :: [has h0]) → inI ((i : Int) + 1) ∧ (∃ (i' : Nat) (bs' : List BkQ), (i : Int) + 1 = i' ∧ i' ≤ C.length ∧ bs.length = bs'.length ∧ bs'.map toBk = BksN g ss q ++ cmpL g ss q (C.take i') ∧ St u (own 3 o10 bs.length c10 (bkV bs') :: sta (bkO bs') :: own 2 o9 C.length c9 (tv C) :: all w)) ∧ C.length - ((i : Int) + 1).toNat < C.length - (i : Int).toNat := fun hno {u} hu => by
    refine ⟨⟨by omega, by omega⟩, ⟨i + 1, bs, by simp, h2, rfl, ?_, St.on (N := [_, _]) hu hl0⟩, msr h2⟩
    rw [htk, cmpL_no hno]; exact hbs
  refine ⟨fun u => sub h0 (hp u), s0, _, _, _, fun u s => rk.cell (sub.trans g8 s) (j := 4) rfl, idx_n hya h2 ⟨_, fun u s => ry.cell0 s, ?_⟩⟩
  rw [hm]
  refine idx_n hpa hml ⟨_, _, _, _, _, fun u s => hp2.at (sub.trans g8 s) rfl, newC_i h fun k25 w12 h => ⟨rdH 3 h.l, stR_i h rfl (by simp [oneC]) fun w13 h => ?_⟩⟩
  intro w14 hd3
  have h := h.eq (drawn_hp hd3)
  have h : St w14 (cel k25 [.int .i64 p.left, .slice ra rl rc, .int .i64 p.level] :: own 3 o10 bs.length c10 (bkV bs) :: sta (bkO bs) :: [has h0]) := h
  have s14 : sub h0 (hp w14) := rdH 3 h.l
  have r25 : rowH (hp w14) (aM k25) [.int .i64 p.left, .slice ra rl rc, .int .i64 p.level] := rdCel 0 h.l
  refine ⟨fun u => Gr w14 u, Gr.refl _, idx_n hya h2 ⟨_, fun u s => ry.cell0 (sub.trans s14 s), br_intro (fun h3 => skip ?_ (h.pick 3 [1, 2])) fun h3 => idx_n hya h2 ⟨_, fun u s => ry.cell (sub.trans s14 s) (j := 1) rfl, _, _, _, fun u s => r25.cell s (j := 1) rfl, br_intro (fun h4 => skip ?_ (h.pick 3 [1, 2])) fun h4 => ?_⟩⟩⟩
  · have h3 : y.prod = 0 := by simpa using h3
    unfold compB
    rw [h3]; rfl
  · have h4 := of_decide_eq_true h4
    unfold compB
    rw [hm, Int.toNat_natCast, hp1']
    simp
    omega
  have h3 : y.prod ≠ 0 := by simpa using h3
  have h4 := of_decide_eq_false h4
  have hm0 : 0 < m := by omega
  have hcomp : compB g y = true := by
    unfold compB
    rw [hm, Int.toNat_natCast, hp1', decide_eq_true (show (1 : Int) ≤ m by omega), decide_eq_true (show (m : Int) < g.prods.length by omega)]
    simp
    omega
  have hbk : ∀ (u : Nat) (t : TransT), (TrL g ss)[u]? = some t → (backB g ss q m u = true ↔ t.sym = p.left ∧ wayN ss t.st p.right = (q : Int)) := fun u t ht => by
    rw [backB_iff ht, byR_mem]
    constructor
    · rintro ⟨⟨_, p2, e2, e3⟩, p3, e4, e5⟩
      rw [hp1'] at e2 e4; cases e2; cases e4
      exact ⟨e3.symm, e5⟩
    · rintro ⟨e1, e2⟩
      exact ⟨⟨hm0, p, hp1', e1.symm⟩, p, hp1', e2⟩
  refine idx_n hya h2 ⟨_, ry.cell0 s14, ?_⟩
  rw [hm]
  refine newC_i h fun k28 w18 h => stR_i h rfl (by simp [oneC]) fun w19 h => ?_
  have h : St w19 (cel k28 [.int .i64 (q : Int), .int .i64 (m : Int), .slice none 0 0] :: cel k25 [.int .i64 p.left, .slice ra rl rc, .int .i64 p.level] :: own 3 o10 bs.length c10 (bkV bs) :: sta (bkO bs) :: [has h0]) := h
  refine ⟨fun z w' => ∃ (u : Nat) (o' : Option Addr) (c2 : Nat), z = u ∧ u ≤ (TrL g ss).length ∧ St w' (cel k28 [.int .i64 (q : Int), .int .i64 (m : Int), .slice o' (rowF u (backB g ss q m)).length c2] :: own 1 o' (rowF u (backB g ss q m)).length c2 (iv (rowF u (backB g ss q m))) :: cel k25 [.int .i64 p.left, .slice ra rl rc, .int .i64 p.level] :: own 3 o10 bs.length c10 (bkV bs) :: sta (bkO bs) :: [has h0]), fun z _ => (TrL g ss).length - z.toNat,
    ⟨0, none, 0, rfl, Nat.zero_le _, (own_nil 1 h).pick 2 [1, 0]⟩, ?_⟩
  clear h r25 s14
  rintro _ _ w20 ⟨u, o', c2, rfl, hu, h⟩
  have s20 : sub h0 (hp w20) := rdH 5 h.l
  have hul2 := rowF_len u (backB g ss q m)
  refine ⟨_, _, _, rk.cell (sub.trans g8 s20) (j := 8) rfl, br_intro (fun h5 => ?_) fun h5 => ?_⟩
  · have h5 : u < (TrL g ss).length := by have := of_decide_eq_true h5; omega
    obtain ⟨t, tad, ht, hta, rt⟩ := rdTr_get rT h5
    obtain ⟨i1, q1, _, _, hi1, _, _, _, hue⟩ := TrN_mem (List.mem_of_getElem? ht)
    have ht0 : t.st = (i1 : Int) := by rw [hue]
    intro w21 hd4
    have h := h.eq (drawn_hp hd4)
    have s21 : sub h0 (hp w21) := rdH 5 h.l
    have g21 := sub.trans g8 s21
    have r25 : rowH (hp w21) (aM k25) [.int .i64 p.left, .slice ra rl rc, .int .i64 p.level] := rdCel 2 h.l
    have skip2 : backB g ss q m u ≠ true → ∀ {v : World}, Gr w21 v → inI ((u : Int) + 1) ∧ (∃ (u' : Nat) (o' : Option Addr) (c2 : Nat), (u : Int) + 1 = u' ∧ u' ≤ (TrL g ss).length ∧ St v (cel k28 [.int .i64 (q : Int), .int .i64 (m : Int), .slice o' (rowF u' (backB g ss q m)).length c2] :: own 1 o' (rowF u' (backB g ss q m)).length c2 (iv (rowF u' (backB g ss q m))) :: cel k25 [.int .i64 p.left, .slice ra rl rc, .int .i64 p.level] :: own 3 o10 bs.length c10 (bkV bs) :: sta (bkO bs) :: [has h0])) ∧ (TrL g ss).length - ((u : Int) + 1).toNat < (TrL g ss).length - (u : Int).toNat := fun hno {v} gv => by
      refine ⟨⟨by omega, by omega⟩, ⟨u + 1, o', c2, by simp, h5, ?_⟩, msr h5⟩
      rw [rowF_succ, if_neg hno, List.append_nil]
      exact h.gr gv
    refine ⟨fun v => Gr w21 v, Gr.refl _, _, _, _, fun v s => rk.cell (sub.trans g21 s) (j := 8) rfl, idx_n hta h5 ⟨_, fun v s => rt.cell (sub.trans g21 s) (j := 1) rfl, _, fun v s => r25.cell0 s, br_intro (fun h6 => ?_) fun h6 => skip2 (fun e => by have := ((hbk u t ht).1 e).1; rw [this] at h6; simp at h6) (Gr.refl _)⟩⟩
    have h6 : t.sym = p.left := by simpa using h6
    refine ⟨_, _, _, _, _, fun v s => rA.at (sub.trans g21 s) rfl, _, _, _, fun v s => rk.cell (sub.trans g21 s) (j := 8) rfl, idx_n hta h5 ⟨_, fun v s => rt.cell0 (sub.trans g21 s), _, _, _, fun v s => r25.cell s (j := 1) rfl, ?_⟩⟩
    rw [ht0]
    refine (d_Way (i := i1) hc hA (hs.mono g21) hi1 (hp3.mono g21) (by omega)).mono ?_
    rintro _ w29 ⟨rfl, g29⟩
    refine ⟨_, rfl, g29, br_intro (fun h7 => ?_) fun h7 => skip2 (fun e => by have := ((hbk u t ht).1 e).2; rw [ht0] at this; rw [this] at h7; simp at h7) g29⟩
    have h7 : wayN ss (i1 : Int) p.right = (q : Int) := by simpa using h7
    have hyes : backB g ss q m u = true := (hbk u t ht).2 ⟨h6, by rw [ht0]; exact h7⟩
    have h := h.gr g29
    refine ⟨_, _, _, (rdCel 0 h.l).cell (sub.refl _) (j := 2) rfl, newC_i h fun k41 w30 h => ?_⟩
    refine (app_one (us := iv (rowF u (backB g ss q m))) tyOk (rfl : kdOfT Ty _ = .slice _) (rfl : kdOfT Ty _ = .slice _) rfl rfl rfl (h.pick 3 [0, 2, 1]) rfl (by simp [oneC]) (by show ((rowF u (backB g ss q m)).length + 1) * 8 ≤ _; omega) (by omega)).mono ?_
    rintro _ w31 ⟨o2, c3, rfl, h⟩
    refine ⟨_, _, _, rfl, st1_i (h.pick 3 [2, 0]) (show 2 < 3 by decide) fun w32 h => ⟨⟨by omega, by omega⟩, ⟨u + 1, o2, c3, by simp, h5, ?_⟩, msr h5⟩⟩
    have e1 : (rowF (u + 1) (backB g ss q m)) = rowF u (backB g ss q m) ++ [(u : Int)] := by rw [rowF_succ, if_pos hyes]
    have e2 : iv (rowF u (backB g ss q m) ++ [(u : Int)]) = iv (rowF u (backB g ss q m)) ++ [.int .i64 (u : Int)] := by simp [iv]
    have e3 : (rowF u (backB g ss q m) ++ [(u : Int)]).length = (rowF u (backB g ss q m)).length + 1 := by simp
    rw [e1, e2, e3]
    exact h
  have h5 : u = (TrL g ss).length := by have := of_decide_eq_false h5; omega
  subst h5
  refine ⟨_, _, _, _, _, (rdCel 0 h.l).at (sub.refl _) rfl, newC_i h fun k46 w33 h => ?_⟩
  have z1 : (bs.length + 1) * 40 ≤ 140737488355328 ∧ bs.length < 9223372036854775807 := by omega
  refine (app_one (us := bkV bs) tyOk (rfl : kdOfT Ty _ = .slice _) (rfl : kdOfT Ty _ = .slice _) rfl rfl rfl (h.pick 6 [0, 4, 2, 5]) rfl (by simp [oneC]) z1.1 z1.2).mono ?_
  rintro _ w34 ⟨o22, c22, rfl, h⟩
  have h := St.snoc (h.pick 4 [2, 3, 0])
  generalize hrw : rowF (TrL g ss).length (backB g ss q m) = rw_ at h
  have h3' : St w34 (own 3 o22 (bs.length + 1) c22 (bkV bs ++ [.int .i64 (q : Int), .int .i64 (m : Int), .slice o' rw_.length c2]) :: sta (bkO bs ++ [own 1 o' rw_.length c2 (iv rw_)]) :: [has h0]) := h.pick 2 [1, 0]
  refine ⟨_, _, _, rfl, ⟨by omega, by omega⟩, ⟨i + 1, bs ++ [(((q : Int), (m : Int)), ((o', c2), rw_))], by simp, h2, by simp, ?_, ?_⟩, msr h2⟩
  · rw [List.map_append, hbs, htk, cmpL_yes hcomp, ← List.append_assoc]
    congr 1
    show [toBk _] = [mkBk g ss q y.prod]
    unfold mkBk toBk
    rw [hm, Int.toNat_natCast, hrw]
  · rw [bkV_app, show bkO (bs ++ [(((q : Int), (m : Int)), ((o', c2), rw_))]) = bkO bs ++ [own 1 o' rw_.length c2 (iv rw_)] by unfold bkO; rw [List.map_append]; rfl]
    exact St.on (N := [_, _]) h3' hl0
theorem d_Lookback11 (hg : gR (hp w) g x) (hb : okG g) : Run Tryz.prog n_presageref11_Lookback [.agg ⟨x.cells⟩] w fun v w' => ∃ (ss : List SQ) (ask int f : Int) (o : Option Addr) (c : Nat) (ds : List BkQ), v = .tuple #[.slice o ds.length c, .int .i64 f] ∧ Res g ss ask int f ∧ ds.map toBk = BksL g ss ∧ St w' (own 3 o ds.length c (bkV ds) :: sta (bkO ds) :: all w) := by
  refine run_presageref11_Lookback _ _ _ _ _ _ _ _ _ _ _ _ _ w _ (gbox hg fun k1 w1 gw hg B => ?_)
  refine ⟨_, _, _, _, _, _, _, _, _, _, _, _, _, B.row (sub.refl _), (d_Of11 hg hb).mono ?_⟩
  rintro _ w2 ⟨ss, ask, int, f, nn, x', o, n, c, a, i, ol, nl, cl, on, nN, cn, rfl, hR, g2, h0⟩
  refine ⟨_, _, _, _, _, _, _, _, _, _, _, _, _, _, _, _, _, _, _, _, _, _, _, _, _, rfl, newC_i (St.all w2) fun k24 w3 h => stR_i h rfl (by intro v hv; simp at hv; rcases hv with rfl | rfl | rfl | rfl | rfl | rfl | rfl | rfl | rfl | rfl <;> rfl) fun w4 h => ?_⟩
  have g24 : Gr w2 w4 := h.gone1
  have rk : rowH (hp w4) (aM k24) (wdC x' o n c a i ol nl cl on nN cn) := rdCel 0 h.l
  clear h
  have gw4 := gw.trans (g2.trans g24)
  refine br_intro (fun h1 => ?_) fun h1 => ?_
  · have h1 : f ≠ 0 := by simpa using h1
    have hz : ss = [] := by rcases hR with ⟨_, e, _⟩ | ⟨_, _, e, _⟩ | ⟨_, _, _, _, e⟩ <;> first | exact e | exact absurd e h1
    subst hz
    exact ⟨[], ask, int, f, none, 0, [], rfl, hR, rfl, own_nil 3 ((St.flat (M := [])).2 (St.here gw4))⟩
  have h1 : f = 0 := by simpa using h1
  subst h1
  obtain ⟨hc, hA⟩ := hR.aut rfl
  obtain ⟨hnn, rfl, rfl, rfl, hg', hs, rT, rN⟩ := h0 rfl
  have hw : DwR (hp w4) g ss nn k24 := ⟨x', o, c, a, i, ol, cl, on, cn, rk, hg'.mono g24, hs.mono g24, rT.mono g24, rN.mono g24⟩
  refine (d_wLookback hw hb hc hA).mono ?_
  rintro _ w5 ⟨o5, c5, ds, rfl, hds, h⟩
  exact ⟨_, _, _, rfl, ss, ask, int, 0, o5, c5, ds, rfl, hR, hds, St.on2 h (has_i gw4)⟩
end Go.Proofs.YtkmjjnjngcpjmaaGreatDoor
set_option linter.unusedVariables false
set_option maxRecDepth 4000
namespace Go.V
theorem bkV_split {bs : List BkQ} {i : Nat} {b : BkQ} (h : bs[i]? = some b) : bkV bs = bkV (bs.take i) ++ (bkE b ++ bkV (bs.drop (i + 1))) := by
  have hi := (List.getElem?_eq_some_iff.1 h).1
  have e : bs = bs.take i ++ b :: bs.drop (i + 1) := by
    have h1 := List.take_append_drop i bs
    rw [List.drop_eq_getElem_cons hi, (List.getElem?_eq_some_iff.1 h).2] at h1
    exact h1.symm
  have e2 : bkV bs = bkV (bs.take i ++ b :: bs.drop (i + 1)) := congrArg bkV e
  rw [e2, bkV_app]
  rfl
theorem bkV_at {bs : List BkQ} {i : Nat} {b : BkQ} (h : bs[i]? = some b) : (bkV bs)[i * 3 + 2]? = some (slQ b.2) := by
  have hi := (List.getElem?_eq_some_iff.1 h).1
  have hl : (bkV (bs.take i)).length = i * 3 := by rw [bkV_len, List.length_take]; omega
  rw [bkV_split h, List.getElem?_append_right (by omega), hl, Nat.add_sub_cancel_left]
  rfl
theorem bkV_set {bs : List BkQ} {i : Nat} {b : BkQ} (h : bs[i]? = some b) (q : Lq Int) : (bkV bs).set (i * 3 + 2) (slQ q) = bkV (bs.set i (b.1, q)) := by
  have hi := (List.getElem?_eq_some_iff.1 h).1
  have hl : (bkV (bs.take i)).length = i * 3 := by rw [bkV_len, List.length_take]; omega
  have h2 : (bs.set i (b.1, q))[i]? = some (b.1, q) := by rw [List.getElem?_set_self hi]
  rw [bkV_split h2, bkV_split h, List.set_append_right _ _ (by omega), hl, Nat.add_sub_cancel_left]
  rw [List.take_set_of_le (Nat.le_refl _), List.drop_set_of_lt (by omega)]
  rfl
end Go.V
namespace Go.Proofs.YtkmjjnjngcpjmaaGreatDoor
open Go.V
variable {w : World} {L : List Asn} {a a2 : Option Addr} {l c c2 : Nat}
theorem d_SameLists {xss : List (List Int)} (hx : rdS (hp w) xss a l) (hy : rdS (hp w) xss a2 l) (hb : l ≤ 4611686018427387904) (hbs : ∀ xs ∈ xss, xs.length ≤ 4611686018427387904) : Run Tryz.prog n_presageref11_SameLists [.slice a l c, .slice a2 l c2] w fun v w' => v = .bool true ∧ Gr w w' := by
  refine run_presageref11_SameLists _ _ _ _ _ _ w _ (br_f (by simp) ⟨fun z w' => ∃ j : Nat, z = j ∧ j ≤ l ∧ Gr w w', fun z _ => l - z.toNat, ⟨0, rfl, Nat.zero_le _, Gr.refl _⟩, ?_⟩)
  rintro _ _ w1 ⟨j, rfl, hj, g1⟩
  refine br_intro (fun h1 => ?_) fun h1 => ⟨rfl, g1⟩
  have h1 : j < l := by have := of_decide_eq_true h1; omega
  intro w2 hd
  have g2 : Gr w w2 := g1.trans (Gr.drawn hd)
  obtain ⟨x1, ad1, b1, d1, hx1, e1, cx1, rx1⟩ := rdLq_row hx h1
  obtain ⟨x2, ad2, b2, d2, hx2, e2, cx2, rx2⟩ := rdLq_row hy h1
  rw [hx1] at hx2; cases hx2
  refine ⟨fun u => Gr w2 u, Gr.refl _, idx_i e1 h1 ⟨_, _, _, fun u s => cx1 _ (sub.trans g2 s), idx_i e2 h1 ⟨_, _, _, fun u s => cx2 _ (sub.trans g2 s), (d_SameInts (rx1.mono g2) (rx2.mono g2) (hbs _ (List.mem_of_getElem? hx1))).mono ?_⟩⟩⟩
  rintro _ w5 ⟨rfl, e5⟩
  have g5 : Gr w2 w5 := Gr.of_eq e5
  exact ⟨_, rfl, g5, br_f rfl ⟨⟨by omega, by omega⟩, ⟨j + 1, by simp, h1, g2.trans g5⟩, msr h1⟩⟩
theorem d_SameBacks {xs : List BackT} (hx : rdS (hp w) xs a l) (hy : rdS (hp w) xs a2 l) (hb : l ≤ 4611686018427387904) (hbs : ∀ x ∈ xs, x.tr.length ≤ 4611686018427387904) : Run Tryz.prog n_presageref11_SameBacks [.slice a l c, .slice a2 l c2] w fun v w' => v = .bool true ∧ Gr w w' := by
  refine run_presageref11_SameBacks _ _ _ _ _ _ w _ (br_f (by simp) ⟨fun z w' => ∃ j : Nat, z = j ∧ j ≤ l ∧ Gr w w', fun z _ => l - z.toNat, ⟨0, rfl, Nat.zero_le _, Gr.refl _⟩, ?_⟩)
  rintro _ _ w1 ⟨j, rfl, hj, g1⟩
  refine br_intro (fun h1 => ?_) fun h1 => ⟨rfl, g1⟩
  have h1 : j < l := by have := of_decide_eq_true h1; omega
  intro w2 hd
  have g2 : Gr w w2 := g1.trans (Gr.drawn hd)
  obtain ⟨x1, ad1, b1, d1, hx1, e1, cx1, rx1⟩ := rdBk_get hx h1
  obtain ⟨x2, ad2, b2, d2, hx2, e2, cx2, rx2⟩ := rdBk_get hy h1
  rw [hx1] at hx2; cases hx2
  refine ⟨fun u => Gr w2 u, Gr.refl _, idx_n e1 h1 ⟨_, _, _, fun u s => cx1.cell (sub.trans g2 s) (j := 2) rfl, idx_n e2 h1 ⟨_, _, _, fun u s => cx2.cell (sub.trans g2 s) (j := 2) rfl, (d_SameInts (rx1.mono g2) (rx2.mono g2) (hbs _ (List.mem_of_getElem? hx1))).mono ?_⟩⟩⟩
  rintro _ w5 ⟨rfl, e5⟩
  have g25 : Gr w2 w5 := Gr.of_eq e5
  refine ⟨_, rfl, g25, ?_⟩
  intro w6 hd2
  have g6 : Gr w w6 := g2.trans (g25.trans (Gr.drawn hd2))
  exact ⟨fun u => Gr w6 u, Gr.refl _, br_f rfl (idx_n e1 h1 ⟨_, fun u s => cx1.cell0 (sub.trans g6 s), idx_n e2 h1 ⟨_, fun u s => cx2.cell0 (sub.trans g6 s), br_f (by simp) (idx_n e1 h1 ⟨_, fun u s => cx1.cell (sub.trans g6 s) (j := 1) rfl, idx_n e2 h1 ⟨_, fun u s => cx2.cell (sub.trans g6 s) (j := 1) rfl, br_f (by simp) ⟨⟨by omega, by omega⟩, ⟨j + 1, by simp, h1, g6⟩, msr h1⟩⟩⟩)⟩⟩)⟩
end Go.Proofs.YtkmjjnjngcpjmaaGreatDoor
set_option linter.unusedVariables false
set_option maxRecDepth 4000
namespace Go.V
section
variable {g : GramT} {nn nn' : List Bool} {ss ss' : List SQ}
theorem Res.nil {a i f : Int} (h : Res g ss a i f) (hf : f ≠ 0) : ss = [] := by
  rcases h with ⟨_, e, _⟩ | ⟨_, _, e, _⟩ | ⟨_, _, _, _, e⟩ <;> first | exact e | exact absurd e hf
theorem RdsL_res {a i f a' i' : Int} (h : Res g ss a i f) (h' : Res g ss' a' i' f) (hn : f = 0 → NnP g nn) (hn' : f = 0 → NnP g nn') : RdsL g nn ss = RdsL g nn' ss' ∧ IncL g nn ss = IncL g nn' ss' := by
  by_cases hf : f = 0
  · rw [(hn hf).inj (hn' hf)]
    obtain ⟨_, e, _⟩ := h.one h'
    exact ⟨RdsL_es e, IncL_es e⟩
  · rw [h.nil hf, h'.nil hf]
    exact ⟨rfl, rfl⟩
theorem rel_sizes {a i f : Int} (h : Res g ss a i f) : (RdsL g nn ss).length ≤ 33280 ∧ (IncL g nn ss).length = (RdsL g nn ss).length ∧ (∀ xs ∈ RdsL g nn ss, xs.length ≤ 33280) ∧ (∀ xs ∈ IncL g nn ss, xs.length ≤ 33280) ∧ (BksL g ss).length ≤ 24832 ∧ ∀ b ∈ BksL g ss, b.tr.length ≤ 33280 := by
  have hl : (TrL g ss).length ≤ 33280 ∧ (BksL g ss).length ≤ 24832 := by
    by_cases hf : f = 0
    · obtain ⟨hc, hA⟩ := h.aut hf
      refine ⟨Go.Proofs.YtkmjjnjngcpjmaaGreatDoor.trl_le hc hA, ?_⟩
      have h1 := BksN_len g ss ss.length
      have h256 := hA.dn.2.1
      obtain ⟨sT, sN, sP, _⟩ := hc.sizes
      have h2 : ss.length * g.prods.length ≤ 256 * 97 := Nat.mul_le_mul h256 sP
      show (BksN g ss ss.length).length ≤ _
      omega
    · rw [h.nil hf]
      exact ⟨by simp [TrL, TrN], by simp [BksL]⟩
  have e1 : (RdsL g nn ss).length = (TrL g ss).length := by unfold RdsL; simp
  have e2 : (IncL g nn ss).length = (TrL g ss).length := by unfold IncL; simp
  refine ⟨by omega, by omega, fun xs hx => ?_, fun xs hx => ?_, hl.2, fun b hb => ?_⟩
  · unfold RdsL at hx
    obtain ⟨j, _, rfl⟩ := List.mem_map.1 hx
    exact Nat.le_trans (rowF_len _ _) hl.1
  · unfold IncL at hx
    obtain ⟨j, _, rfl⟩ := List.mem_map.1 hx
    exact Nat.le_trans (rowF_len _ _) hl.1
  · unfold BksL at hb
    obtain ⟨q, _, hb⟩ := List.mem_flatMap.1 hb
    obtain ⟨m, _, _, rfl⟩ := bkRow_mem.1 hb
    exact Nat.le_trans (rowF_len _ _) hl.1
theorem BksL_res {a i f a' i' : Int} (h : Res g ss a i f) (h' : Res g ss' a' i' f) : BksL g ss = BksL g ss' := by
  obtain ⟨_, e, _⟩ := h.one h'
  exact BksL_es e
end
end Go.V
namespace Go.Proofs.YtkmjjnjngcpjmaaGreatDoor
open Go.V
variable {w : World} {L : List Asn} {g : GramT} {x : GA}
set_option maxHeartbeats 16000000 in
theorem l_RelateExact (hg : gR (hp w) g x) (hb : okG g) (hbT : g.terms.length * 24 ≤ 140737488355328) (hbN : g.nons.length * 16 ≤ 140737488355328) (ht : tabA (hp w)) : Run Tryz.prog n_presagelaw11_RelateExact [.agg ⟨x.cells⟩] w fun v w' => v = .bool true ∧ Gr w w' := by
  refine run_presagelaw11_RelateExact _ _ _ _ _ _ _ _ _ _ _ _ _ w _ (gbox hg fun k1 w1 gw hg B => (l_awake11 (rdV.mono gw ht)).mono ?_)
  rintro _ w2 ⟨rfl, g2⟩
  refine ⟨_, rfl, _, _, _, _, _, _, _, _, _, _, _, _, _, B.row g2, (d_Copy (x := x) (hg.mono g2) hb hbT hbN).mono ?_⟩
  rintro _ w3 ⟨y, os, rfl, hy, hos, h3⟩
  have hk3 : gR (hp w3) g y := ownG_gR hy hos h3
  have g3 : Gr w2 w3 := rdH 5 h3.l
  refine ⟨_, _, _, _, _, _, _, _, _, _, _, _, _, rfl, newC_i (St.all w3) fun k18 w4 h4 => stR_i h4 rfl (by intro v hv; simp at hv; rcases hv with rfl | rfl | rfl | rfl | rfl <;> rfl) fun w5 h5 => ?_⟩
  have C : GB (hp w5) k18 y := gb_of h5.row
  have g5 : Gr w3 w5 := h5.gone1
  have s5 : Gr w1 w5 := (g2.trans g3).trans g5
  have hk5 : gR (hp w5) g y := hk3.mono g5
  have hg5 : gR (hp w5) g x := hg.mono s5
  have gw5 : Gr w w5 := gw.trans s5
  have ht5 : tabA (hp w5) := rdV.mono gw5 ht
  clear h3 h4 h5
  refine ⟨_, _, _, _, _, _, _, _, _, _, _, _, _, C.row (sub.refl _), (d_Reads11 hk5 hb).mono ?_⟩
  rintro _ w6 ⟨ss, ask, int, f, nn, oR, cR, dsR, rfl, hR, hnn, hdsR, h⟩
  have g56 : Gr w5 w6 := rdH 2 h.l
  have rR := rdLq h
  clear h
  refine ⟨_, _, _, _, rfl, _, _, _, _, _, _, _, _, _, _, _, _, _, C.row g56, (d_Includes11 (hk5.mono g56) hb).mono ?_⟩
  rintro _ w7 ⟨ss2, ask2, int2, f2, nn2, oI, cI, dsI, rfl, hR2, hnn2, hdsI, h⟩
  obtain ⟨_, _, _, _, rfl, _⟩ := hR.one hR2
  have g67 : Gr w6 w7 := rdH 2 h.l
  have rI := rdLq h
  clear h
  have g57 := g56.trans g67
  refine ⟨_, _, _, _, rfl, _, _, _, _, _, _, _, _, _, _, _, _, _, C.row g57, (d_Lookback11 (hk5.mono g57) hb).mono ?_⟩
  rintro _ w8 ⟨ss3, ask3, int3, f3, oK, cK, dsK, rfl, hR3, hdsK, h⟩
  obtain ⟨_, _, _, _, rfl, _⟩ := hR.one hR3
  have g78 : Gr w7 w8 := rdH 2 h.l
  have rK := rdBk h
  clear h
  have g58 := g57.trans g78
  rw [← (RdsL_res hR hR2 hnn hnn2).2] at hdsI
  rw [← BksL_res hR hR3] at hdsK
  obtain ⟨z1, z2, z3, z4, z5, z6⟩ := rel_sizes (nn := nn) hR
  have hlR : dsR.length = (RdsL g nn ss).length := by have := congrArg List.length hdsR; rwa [List.length_map] at this
  have hlI : dsI.length = (RdsL g nn ss).length := by have := congrArg List.length hdsI; rw [List.length_map] at this; rw [this, z2]
  have hlK : dsK.length = (BksL g ss).length := by have := congrArg List.length hdsK; rwa [List.length_map] at this
  rw [hdsR, hlR] at rR
  rw [hdsI, hlI] at rI
  rw [hdsK, hlK] at rK
  rw [hlR, hlI, hlK]
  have rR := (rR.mono g67).mono g78
  have rI := rI.mono g78
  refine ⟨_, _, _, _, rfl, fun n w' => ∃ j : Nat, n = j ∧ j ≤ 2 ∧ Gr w8 w', fun n _ => 2 - n.toNat, ⟨0, rfl, by omega, Gr.refl _⟩, ?_⟩
  rintro _ _ w9 ⟨j, rfl, hj, g89⟩
  have g59 := g58.trans g89
  refine br_intro (fun hlt => ?_) fun _ => ?_
  rotate_left
  · refine ⟨_, _, _, _, _, _, _, _, _, _, _, _, _, B.row (s5.trans g59), _, _, _, _, _, _, _, _, _, _, _, _, _, C.row g59, (d_Same (x := x) (y := y) (hg5.mono g59) (hk5.mono g59) hb).mono ?_⟩
    rintro _ w29 ⟨rfl, g29⟩
    exact ⟨_, rfl, br_t rfl ⟨rfl, gw5.trans (g59.trans g29)⟩⟩
  have hlt : j < 2 := by have := of_decide_eq_true hlt; omega
  refine ⟨_, _, _, _, _, _, _, _, _, _, _, _, _, B.row (s5.trans g59), (y_Reads (hg5.mono g59) hb (rdV.mono g59 ht5)).mono ?_⟩
  rintro _ w10 ⟨ss4, ask4, int4, f4, nn4, oA, cA, dsA, rfl, hR4, hnn4, hdsA, h⟩
  obtain ⟨_, _, _, _, rfl, _⟩ := hR.one hR4
  have g910 : Gr w9 w10 := rdH 2 h.l
  have g510 := g59.trans g910
  refine ⟨_, _, _, _, rfl, _, _, _, _, _, _, _, _, _, _, _, _, _, B.row (s5.trans g510), (y_Includes (hg5.mono g510) hb (rdV.mono g510 ht5)).mono ?_⟩
  rintro _ w11 ⟨ss5, ask5, int5, f5, nn5, oB, cB, dsB, rfl, hR5, hnn5, hdsB, h2⟩
  obtain ⟨_, _, _, _, rfl, _⟩ := hR.one hR5
  have h : St w11 (own 1 oB dsB.length cB (dsB.map slQ) :: sta (dsB.map (owQ 1 iv)) :: own 1 oA dsA.length cA (dsA.map slQ) :: sta (dsA.map (owQ 1 iv)) :: all w9) := St.on2 h2 h.l
  clear h2
  have g911 : Gr w9 w11 := rdH 4 h.l
  have g511 := g59.trans g911
  refine ⟨_, _, _, _, rfl, _, _, _, _, _, _, _, _, _, _, _, _, _, B.row (s5.trans g511), (y_Lookback (hg5.mono g511) hb (rdV.mono g511 ht5)).mono ?_⟩
  rintro _ w12 ⟨ss6, ask6, int6, f6, oC, cC, dsC, rfl, hR6, hdsC, h2⟩
  obtain ⟨_, _, _, _, rfl, _⟩ := hR.one hR6
  have h : St w12 (own 3 oC dsC.length cC (bkV dsC) :: sta (bkO dsC) :: own 1 oB dsB.length cB (dsB.map slQ) :: sta (dsB.map (owQ 1 iv)) :: own 1 oA dsA.length cA (dsA.map slQ) :: sta (dsA.map (owQ 1 iv)) :: all w9) := St.on2 h2 h.l
  clear h2
  have g912 : Gr w9 w12 := rdH 6 h.l
  rw [← (RdsL_res hR hR4 hnn hnn4).1] at hdsA
  rw [← (RdsL_res hR hR5 hnn hnn5).2] at hdsB
  rw [← BksL_res hR hR6] at hdsC
  have hlA : dsA.length = (RdsL g nn ss).length := by have := congrArg List.length hdsA; rwa [List.length_map] at this
  have hlB : dsB.length = (RdsL g nn ss).length := by have := congrArg List.length hdsB; rw [List.length_map] at this; rw [this, z2]
  have hlC : dsC.length = (BksL g ss).length := by have := congrArg List.length hdsC; rwa [List.length_map] at this
  have rA := rdLq (h.pick 6 [4, 5])
  have rB := rdLq (h.pick 4 [2, 3])
  have rC := rdBk h
  rw [hdsA, hlA] at rA
  rw [hdsB, hlB] at rB
  rw [hdsC, hlC] at rC
  have hA0 : ∀ (k : Nat) q, dsA[k]? = some q → q.2.length ≤ 33280 := fun k q hq => z3 _ (by rw [← hdsA]; exact List.mem_map.2 ⟨q, List.mem_of_getElem? hq, rfl⟩)
  have hB0 : ∀ (k : Nat) q, dsB[k]? = some q → q.2.length ≤ 33280 := fun k q hq => z4 _ (by rw [← hdsB]; exact List.mem_map.2 ⟨q, List.mem_of_getElem? hq, rfl⟩)
  have hC0 : ∀ (k : Nat) b, dsC[k]? = some b → b.2.2.length ≤ 33280 := fun k b hq => z6 (toBk b) (by rw [← hdsC]; exact List.mem_map.2 ⟨b, List.mem_of_getElem? hq, rfl⟩)
  rw [hlA, hlB, hlC] at h
  rw [hlA, hlB, hlC]
  have g812 := g89.trans g912
  refine ⟨_, _, _, _, rfl, (d_SameLists rA (rR.mono g812) (by omega) fun xs hx => by have := z3 xs hx; omega).mono ?_⟩
  rintro _ w13 ⟨rfl, g1213⟩
  refine ⟨_, rfl, (d_SameLists (rB.mono g1213) ((rI.mono g812).mono g1213) (by omega) fun xs hx => by have := z4 xs hx; omega).mono ?_⟩
  rintro _ w14 ⟨rfl, g1314⟩
  have g1214 := g1213.trans g1314
  refine ⟨_, rfl, (d_SameBacks (rC.mono g1214) ((rK.mono g812).mono g1214) (by omega) fun b hx => by have := z6 b hx; omega).mono ?_⟩
  rintro _ w15 ⟨rfl, g1415⟩
  have h := h.gr (g1214.trans g1415)
  clear rA rB rC rR rI rK
  refine ⟨_, rfl, fun b w' => b = false ∧ w' = w15, br_f rfl (br_f rfl (br_f rfl (br_f (by simp) (br_f (by simp) ⟨by simp, rfl⟩)))), ?_⟩
  rintro _ b w16 ⟨rfl, e16⟩
  rw [e16]
  refine br_f rfl ?_
  obtain ⟨N, hN⟩ : ∃ N, N = (RdsL g nn ss).length := ⟨_, rfl⟩
  obtain ⟨K, hK⟩ : ∃ K, K = (BksL g ss).length := ⟨_, rfl⟩
  rw [← hN] at h hlA hlB z1 ⊢
  rw [← hK] at h hlC z5 ⊢
  clear hdsA hdsB hdsC z2 z3 z4 z6 hlR hlI hlK hdsR hdsI hdsK
  refine ⟨fun z w' => ∃ (i : Nat) (es fs : List (Lq Int)), z = i ∧ i ≤ N ∧ es.length = N ∧ fs.length = N ∧ (∀ k q, i ≤ k → es[k]? = some q → q.2.length ≤ 33280) ∧ (∀ k q, i ≤ k → fs[k]? = some q → q.2.length ≤ 33280) ∧ St w' (own 1 oA N cA (es.map slQ) :: sta (es.map (owQ 1 iv)) :: own 1 oB N cB (fs.map slQ) :: sta (fs.map (owQ 1 iv)) :: own 3 oC K cC (bkV dsC) :: sta (bkO dsC) :: all w9), fun z _ => N - z.toNat,
    ⟨0, dsA, dsB, rfl, Nat.zero_le _, hlA, hlB, fun k q _ hq => hA0 k q hq, fun k q _ hq => hB0 k q hq, h.pick 6 [4, 5, 2, 3, 0, 1]⟩, ?_⟩
  clear h hA0 hB0 hlA hlB e16
  rintro _ _ w17 ⟨i, es, fs, rfl, hi, hes, hfs, hei, hfi, h⟩
  refine br_intro (fun h1 => ?_) fun h1 => ?_
  · have h1 : i < N := by have := of_decide_eq_true h1; omega
    obtain ⟨q, hq⟩ : ∃ q, es[i]? = some q := ⟨_, List.getElem?_eq_getElem (by omega)⟩
    obtain ⟨r, hr⟩ : ∃ r, fs[i]? = some r := ⟨_, List.getElem?_eq_getElem (by omega)⟩
    have hq3 := hei i q (Nat.le_refl _) hq
    have hr3 := hfi i r (Nat.le_refl _) hr
    have hOA : (es.map (owQ 1 iv))[i]? = some (owQ 1 iv q) := by rw [List.getElem?_map, hq]; rfl
    have hVA : (es.map slQ)[i]? = some (slQ q) := by rw [List.getElem?_map, hq]; rfl
    have hOB : (fs.map (owQ 1 iv))[i]? = some (owQ 1 iv r) := by rw [List.getElem?_map, hr]; rfl
    have hVB : (fs.map slQ)[i]? = some (slQ r) := by rw [List.getElem?_map, hr]; rfl
    have h := St.out (h.pick 2 [1, 0]) hOA
    have h := St.out (h.pick 5 [4, 0, 1, 2, 3]) hOB
    have h : St w17 (own 1 r.1.1 r.2.length r.1.2 (iv r.2) :: sta ((fs.map (owQ 1 iv)).eraseIdx i) :: own 1 q.1.1 q.2.length q.1.2 (iv q.2) :: sta ((es.map (owQ 1 iv)).eraseIdx i) :: own 1 oA N cA (es.map slQ) :: own 1 oB N cB (fs.map slQ) :: own 3 oC K cC (bkV dsC) :: sta (bkO dsC) :: all w9) := h
    refine ⟨fun z w' => ∃ (m : Nat) (vs : List Int), z = m ∧ m ≤ q.2.length ∧ vs.length = q.2.length ∧ St w' (own 1 q.1.1 q.2.length q.1.2 (iv vs) :: sta ((es.map (owQ 1 iv)).eraseIdx i) :: own 1 oA N cA (es.map slQ) :: own 1 r.1.1 r.2.length r.1.2 (iv r.2) :: sta ((fs.map (owQ 1 iv)).eraseIdx i) :: own 1 oB N cB (fs.map slQ) :: own 3 oC K cC (bkV dsC) :: sta (bkO dsC) :: all w9), fun z _ => q.2.length - z.toNat, ⟨0, q.2, rfl, Nat.zero_le _, rfl, h.pick 6 [2, 3, 4, 0, 1, 5]⟩, ?_⟩
    clear h
    rintro _ _ w18 ⟨m, vs, rfl, hm, hvs, h⟩
    obtain ⟨adA, hadA, hcoA⟩ := own_cell (h.pick 3 [2]) hVA
    refine idx_i hadA h1 ⟨_, _, _, hcoA, br_intro (fun h2 => ?_) fun h2 => ?_⟩
    · have h2 : m < q.2.length := by have := of_decide_eq_true h2; omega
      obtain ⟨adr, hadr⟩ := own_addr h (by rw [iv_len]; omega)
      refine idx_i hadA h1 ⟨_, _, _, hcoA, idx_i hadr h2 (own_st1 h hadr (by rw [iv_len]; omega) fun w19 h => ⟨⟨by omega, by omega⟩, ⟨m + 1, vs.set m (-9), by simp, h2, by rw [List.length_set]; exact hvs, ?_⟩, msr h2⟩)⟩
      rw [iv_setL] at h
      exact h
    clear hcoA
    refine ⟨fun z w' => ∃ (m : Nat) (us : List Int), z = m ∧ m ≤ r.2.length ∧ us.length = r.2.length ∧ St w' (own 1 r.1.1 r.2.length r.1.2 (iv us) :: sta ((fs.map (owQ 1 iv)).eraseIdx i) :: own 1 oB N cB (fs.map slQ) :: own 1 q.1.1 q.2.length q.1.2 (iv vs) :: sta ((es.map (owQ 1 iv)).eraseIdx i) :: own 1 oA N cA (es.map slQ) :: own 3 oC K cC (bkV dsC) :: sta (bkO dsC) :: all w9), fun z _ => r.2.length - z.toNat, ⟨0, r.2, rfl, Nat.zero_le _, rfl, h.pick 6 [3, 4, 5, 0, 1, 2]⟩, ?_⟩
    clear h
    rintro _ _ w20 ⟨m2, us, rfl, hm2, hus, h⟩
    obtain ⟨adB, hadB, hcoB⟩ := own_cell (h.pick 3 [2]) hVB
    refine idx_i hadB h1 ⟨_, _, _, hcoB, br_intro (fun h3 => ?_) fun h3 => ?_⟩
    · have h3 : m2 < r.2.length := by have := of_decide_eq_true h3; omega
      obtain ⟨adr, hadr⟩ := own_addr h (by rw [iv_len]; omega)
      refine idx_i hadB h1 ⟨_, _, _, hcoB, idx_i hadr h3 (own_st1 h hadr (by rw [iv_len]; omega) fun w21 h => ⟨⟨by omega, by omega⟩, ⟨m2 + 1, us.set m2 (-9), by simp, h3, by rw [List.length_set]; exact hus, ?_⟩, msr h3⟩)⟩
      rw [iv_setL] at h
      exact h
    obtain ⟨adA', hadA', hcoA⟩ := own_cell (h.pick 6 [5]) hVA
    rw [hadA] at hadA'; cases hadA'
    refine idx_i hadA h1 ⟨_, _, _, hcoA, newC_i h fun k89 w22 h => ?_⟩
    refine (app_one (us := iv vs) tyOk (rfl : kdOfT Ty _ = .slice _) (rfl : kdOfT Ty _ = .slice _) rfl rfl rfl (h.pick 7 [0, 4, 1, 2, 3, 5, 6]) rfl (by simp [oneC]) (by show (_ + 1) * 8 ≤ _; omega) (by omega)).mono ?_
    rintro _ w23 ⟨oq, cq, rfl, h⟩
    refine ⟨_, _, _, rfl, idx_i hadA h1 (own_st1 (h.pick 7 [6, 0, 2, 3, 4, 5]) hadA (by rw [List.length_map]; omega) fun w24 h => ?_)⟩
    obtain ⟨adB', hadB', hcoB⟩ := own_cell (h.pick 5 [4]) hVB
    rw [hadB] at hadB'; cases hadB'
    refine idx_i hadB h1 ⟨_, _, _, hcoB, newC_i h fun k94 w25 h => ?_⟩
    refine (app_one (us := iv us) tyOk (rfl : kdOfT Ty _ = .slice _) (rfl : kdOfT Ty _ = .slice _) rfl rfl rfl (h.pick 7 [0, 3, 1, 2, 4, 5, 6]) rfl (by simp [oneC]) (by show (_ + 1) * 8 ≤ _; omega) (by omega)).mono ?_
    rintro _ w26 ⟨orr, cr, rfl, h⟩
    refine ⟨_, _, _, rfl, idx_i hadB h1 (own_st1 (h.pick 7 [5, 0, 2, 3, 4, 6]) hadB (by rw [List.length_map]; omega) fun w27 h => ⟨⟨by omega, by omega⟩, ⟨i + 1, es.set i ((oq, cq), vs ++ [-8]), fs.set i ((orr, cr), us ++ [-8]), by simp, h1, by rw [List.length_set]; exact hes, by rw [List.length_set]; exact hfs, fun k q' hk hq' => ?_, fun k q' hk hq' => ?_, ?_⟩, msr h1⟩)⟩
    · rw [List.getElem?_set_ne (by omega)] at hq'
      exact hei k q' (by omega) hq'
    · rw [List.getElem?_set_ne (by omega)] at hq'
      exact hfi k q' (by omega) hq'
    · have eqs : (.slice oq (q.2.length + 1) cq : Value) = slQ (((oq, cq), vs ++ [-8]) : Lq Int) := by simp [slQ, hvs]
      have eqo : own 1 oq (q.2.length + 1) cq (iv vs ++ [.int .i64 (-8)]) = owQ 1 iv (((oq, cq), vs ++ [-8]) : Lq Int) := by simp [owQ, hvs, iv]
      have ers : (.slice orr (r.2.length + 1) cr : Value) = slQ (((orr, cr), us ++ [-8]) : Lq Int) := by simp [slQ, hus]
      have ero : own 1 orr (r.2.length + 1) cr (iv us ++ [.int .i64 (-8)]) = owQ 1 iv (((orr, cr), us ++ [-8]) : Lq Int) := by simp [owQ, hus, iv]
      have h : St w27 (own 1 oB N cB ((fs.map slQ).set i (.slice orr (r.2.length + 1) cr)) :: own 1 orr (r.2.length + 1) cr (iv us ++ [.int .i64 (-8)]) :: own 1 oA N cA ((es.map slQ).set i (.slice oq (q.2.length + 1) cq)) :: own 1 oq (q.2.length + 1) cq (iv vs ++ [.int .i64 (-8)]) :: sta ((fs.map (owQ 1 iv)).eraseIdx i) :: sta ((es.map (owQ 1 iv)).eraseIdx i) :: own 3 oC K cC (bkV dsC) :: sta (bkO dsC) :: all w9) := h
      rw [eqs, ers, ← List.map_set, ← List.map_set] at h
      have h := St.back (B := own 1 orr (r.2.length + 1) cr (iv us ++ [.int .i64 (-8)])) (h.pick 6 [1, 4, 0, 2, 3, 5]) hOB
      rw [ero, ← List.map_set] at h
      have h := St.back (B := own 1 oq (q.2.length + 1) cq (iv vs ++ [.int .i64 (-8)])) (h.pick 5 [3, 4, 2, 0, 1]) hOA
      rw [eqo, ← List.map_set] at h
      exact h.pick 4 [1, 0, 3, 2]
  refine ⟨fun z w' => ∃ (i : Nat) (bs : List BkQ), z = i ∧ i ≤ K ∧ bs.length = K ∧ (∀ k b, i ≤ k → bs[k]? = some b → b.2.2.length ≤ 33280) ∧ St w' (own 3 oC K cC (bkV bs) :: sta (bkO bs) :: all w9), fun z _ => K - z.toNat,
    ⟨0, dsC, rfl, Nat.zero_le _, hlC, fun k b _ hq => hC0 k b hq, h.pick 6 [4, 5]⟩, ?_⟩
  clear h hC0 hlC
  rintro _ _ w28 ⟨i, bs, rfl, hi, hbs, hbi, h⟩
  refine br_intro (fun h1 => ?_) fun h1 => ?_
  rotate_left
  · exact ⟨⟨by omega, by omega⟩, ⟨j + 1, by simp, by omega, g89.trans (rdH 2 h.l)⟩, msr hlt⟩
  have h1 : i < K := by have := of_decide_eq_true h1; omega
  obtain ⟨b, hbq⟩ : ∃ b, bs[i]? = some b := ⟨_, List.getElem?_eq_getElem (by omega)⟩
  have hb3 := hbi i b (Nat.le_refl _) hbq
  have hO : (bkO bs)[i]? = some (owQ 1 iv b.2) := by unfold bkO; rw [List.getElem?_map, hbq]; rfl
  have hV := bkV_at hbq
  have h := St.out (h.pick 2 [1, 0]) hO
  have h : St w28 (own 1 b.2.1.1 b.2.2.length b.2.1.2 (iv b.2.2) :: sta ((bkO bs).eraseIdx i) :: own 3 oC K cC (bkV bs) :: all w9) := h
  refine ⟨fun z w' => ∃ (m : Nat) (us : List Int), z = m ∧ m ≤ b.2.2.length ∧ us.length = b.2.2.length ∧ St w' (own 1 b.2.1.1 b.2.2.length b.2.1.2 (iv us) :: sta ((bkO bs).eraseIdx i) :: own 3 oC K cC (bkV bs) :: all w9), fun z _ => b.2.2.length - z.toNat, ⟨0, b.2.2, rfl, Nat.zero_le _, rfl, h⟩, ?_⟩
  clear h
  rintro _ _ w29 ⟨m, us, rfl, hm, hus, h⟩
  obtain ⟨adC, hadC, hcoC⟩ := own_cell (h.pick 3 [2]) hV
  have ead : (adC.add (mulS i 3)).add 2 = adC.add (i * 3 + 2) := by rw [add_add, mulS_eq]
  refine idx_n hadC h1 ⟨_, _, _, by rw [ead]; exact hcoC, br_intro (fun h2 => ?_) fun h2 => ?_⟩
  · have h2 : m < b.2.2.length := by have := of_decide_eq_true h2; omega
    obtain ⟨adr, hadr⟩ := own_addr h (by rw [iv_len]; omega)
    refine idx_n hadC h1 ⟨_, _, _, by rw [ead]; exact hcoC, idx_i hadr h2 (own_st1 h hadr (by rw [iv_len]; omega) fun w30 h => ⟨⟨by omega, by omega⟩, ⟨m + 1, us.set m (-9), by simp, h2, by rw [List.length_set]; exact hus, ?_⟩, msr h2⟩)⟩
    rw [iv_setL] at h
    exact h
  refine idx_n hadC h1 ⟨_, _, _, by rw [ead]; exact hcoC, newC_i h fun k103 w31 h => ?_⟩
  refine (app_one (us := iv us) tyOk (rfl : kdOfT Ty _ = .slice _) (rfl : kdOfT Ty _ = .slice _) rfl rfl rfl h rfl (by simp [oneC]) (by show (_ + 1) * 8 ≤ _; omega) (by omega)).mono ?_
  rintro _ w32 ⟨ob, cb, rfl, h⟩
  refine ⟨_, _, _, rfl, idx_n hadC h1 ?_⟩
  rw [ead]
  refine own_st1 (h.pick 4 [3, 0, 2]) hadC (by rw [bkV_len]; omega) fun w33 h => ⟨⟨by omega, by omega⟩, ⟨i + 1, bs.set i (b.1, ((ob, cb), us ++ [-8])), by simp, h1, by rw [List.length_set]; exact hbs, fun k b' hk hb' => ?_, ?_⟩, msr h1⟩
  · rw [List.getElem?_set_ne (by omega)] at hb'
    exact hbi k b' (by omega) hb'
  · have es : (.slice ob (b.2.2.length + 1) cb : Value) = slQ (((ob, cb), us ++ [-8]) : Lq Int) := by simp [slQ, hus]
    have eo : own 1 ob (b.2.2.length + 1) cb (iv us ++ [.int .i64 (-8)]) = owQ 1 iv (((ob, cb), us ++ [-8]) : Lq Int) := by simp [owQ, hus, iv]
    have h : St w33 (own 3 oC K cC ((bkV bs).set (i * 3 + 2) (.slice ob (b.2.2.length + 1) cb)) :: own 1 ob (b.2.2.length + 1) cb (iv us ++ [.int .i64 (-8)]) :: sta ((bkO bs).eraseIdx i) :: all w9) := h
    rw [es, bkV_set hbq] at h
    have h := St.back (B := own 1 ob (b.2.2.length + 1) cb (iv us ++ [.int .i64 (-8)])) (h.pick 3 [1, 2, 0]) hO
    rw [eo, show (bkO bs).set i (owQ 1 iv (((ob, cb), us ++ [-8]) : Lq Int)) = bkO (bs.set i (b.1, ((ob, cb), us ++ [-8]))) by unfold bkO; rw [List.map_set]] at h
    exact h.pick 2 [1, 0]
end Go.Proofs.YtkmjjnjngcpjmaaGreatDoor
set_option linter.unusedVariables false
set_option maxRecDepth 4000
namespace Go.V
open Go.RowKit Go.WideShapes Go.ChangeShapes
theorem cellH_of {w : World} {a : Addr} {v : Value} (h : w.cell? a = some v) : cellH (hp w) a = some v := by
  unfold World.cell? at h
  unfold cellH hp
  cases ho : w.heap[a.block]? with
  | none => rw [ho] at h; cases h
  | some o => rw [ho] at h; cases o <;> first | exact h | cases h
theorem mapM_get' {α β : Type} {f : α → Option β} : ∀ {l : List α} {r : List β}, l.mapM f = some r → r.length = l.length ∧ ∀ (i : Nat) (a : α) (b : β), l[i]? = some a → r[i]? = some b → f a = some b
  | [], r, h => by
    simp at h; subst h; exact ⟨rfl, fun i a b ha => by simp at ha⟩
  | x :: l, r, h => by
    simp only [List.mapM_cons, Option.bind_eq_bind, Option.bind_eq_some_iff, Option.pure_def, Option.some.injEq] at h
    obtain ⟨b, hb, r', hr', rfl⟩ := h
    obtain ⟨h1, h2⟩ := mapM_get' hr'
    refine ⟨by simp [h1], fun i a b' ha hb' => ?_⟩
    cases i with
    | zero => simp at ha hb'; subst ha; subst hb'; exact hb
    | succ i => exact h2 i a b' (by simpa using ha) (by simpa using hb')
theorem cells_row {w : World} {base n : Nat} {a : Addr} {vs : List Value} (h : w.cells? base a n = some vs) : rowH (hp w) a vs := by
  unfold World.cells? at h
  split at h
  · obtain ⟨h1, h2⟩ := mapM_get' h
    intro j v hj
    have hlt := (List.getElem?_eq_some_iff.1 hj).1
    rw [h1, List.length_range] at hlt
    exact cellH_of (h2 j j v (by simp [hlt]) hj)
  · cases h
theorem weightsAll_get {H : Type} {P : Program} {e : TypeId} {N : Nat} : ∀ {l : List (DataW H)}, (DataW.weightsAll P e l).all (· ≤ N) = true → ∀ d ∈ l, (d.weights P e).all (· ≤ N) = true
  | [], _, d, hd => by simp at hd
  | x :: l, h, d, hd => by
    rw [DataW.weightsAll, List.all_append, Bool.and_eq_true] at h
    rcases List.mem_cons.1 hd with rfl | hd
    · exact h.1
    · exact weightsAll_get h.2 d hd
theorem weightsEach_get {H : Type} {P : Program} {N : Nat} : ∀ {ts : List TypeId} {l : List (DataW H)}, (DataW.weightsEach P ts l).all (· ≤ N) = true → ∀ (i : Nat) t d, ts[i]? = some t → l[i]? = some d → (d.weights P t).all (· ≤ N) = true
  | [], l, _, i, t, d, ht, _ => by simp at ht
  | _ :: _, [], _, i, t, d, _, hd => by simp at hd
  | t0 :: ts, x :: l, h, i, t, d, ht, hd => by
    rw [DataW.weightsEach, List.all_append, Bool.and_eq_true] at h
    cases i with
    | zero => simp at ht hd; subst ht; subst hd; exact h.1
    | succ i => exact weightsEach_get h.2 i t d (by simpa using ht) (by simpa using hd)
def Opn (P : Program) (α : Type) [Rep α] (bd : α → Prop) (t : TypeId) : Prop :=
  ∀ {H : Type} (enc : TypeId × Value → H) (W : World) (n : Nat) (cs : List Value) (x : DataW H × List MemPlace), DataW.trod enc P W 0 (fun _ => true) true n t cs = some x → (x.1.weights P t).all (· ≤ reachBytes) = true → ∃ y : α, rd (hp W) y cs ∧ bd y
def anyS : ByteArray → Prop := fun s => s.size ≤ reachBytes
def anyL {α : Type} (bytes : Nat) (bd : α → Prop) : List α → Prop := fun xs => xs.length * bytes ≤ reachBytes ∧ ∀ x ∈ xs, bd x
section
variable {P : Program} {t e : TypeId}
theorem opn_int (ht : P.underlying t = some (.int .i64)) : Opn P Int anyI t := by
  intro H enc W n cs x h hw
  obtain ⟨z, rfl, _, hwf⟩ := DataW.trod_int ht h
  refine ⟨z, rfl, ?_⟩
  have : IntKind.i64.min ≤ z ∧ z ≤ IntKind.i64.max := by simpa [Lit.wf] using hwf
  exact this
theorem opn_str (ht : P.underlying t = some .string) : Opn P ByteArray anyS t := by
  intro H enc W n cs x h hw
  obtain ⟨z, rfl, rfl, _⟩ := DataW.trod_string ht h
  refine ⟨z, rfl, ?_⟩
  simpa [DataW.weights, anyS] using hw
theorem opn_slice {α : Type} [Rep α] {bd : α → Prop} {bb : Nat} (ht : P.underlying t = some (.slice e)) (hc : P.cellsOf e = Rep.n α) (hb : P.bytesOf e = bb) (he : Opn P α bd e) : Opn P (List α) (anyL bb bd) t := by
  intro H enc W n cs x h hw
  rcases DataW.trod_slice ht h with ⟨rfl, rfl⟩ | ⟨a, len, cap, elems, rest, m, rfl, rfl, rfl, _, hlc, hcm, hel, hg, _, _⟩
  · exact ⟨[], ⟨none, 0, 0, rfl, Nat.le_refl _, rdS.nil⟩, by simp [reachBytes], fun x hx => by simp at hx⟩
  · simp only [DataW.weights, ht, List.all_cons, List.all_append, Bool.and_eq_true, decide_eq_true_eq, List.length_map] at hw
    obtain ⟨hw1, hw2, _⟩ := hw
    have key : ∀ k, k ≤ len → ∃ ys : List α, ys.length = k ∧ (∀ i y, ys[i]? = some y → ∃ vs, rowH (hp W) (a.add (mulS i (Rep.n α))) vs ∧ rd (hp W) y vs) ∧ ∀ y ∈ ys, bd y := by
      intro k
      induction k with
      | zero => exact fun _ => ⟨[], rfl, fun i y hy => by simp at hy, fun y hy => by simp at hy⟩
      | succ k ih =>
        intro hk
        obtain ⟨ys, h1, h2, h3⟩ := ih (by omega)
        have hgk := hg k (by omega)
        obtain ⟨d, hd⟩ : ∃ d, elems[k]? = some d := ⟨elems[k]'(by omega), List.getElem?_eq_getElem _⟩
        rw [hd, Option.bind_eq_some_iff] at hgk
        obtain ⟨vs, hv1, hv2⟩ := hgk
        obtain ⟨y, hy1, hy2⟩ := he enc W m vs d hv2 (weightsAll_get hw2 _ (by
          have := List.mem_of_getElem? hd
          exact List.mem_map_of_mem this))
        refine ⟨ys ++ [y], by simp [h1], fun i z hz => ?_, fun z hz => ?_⟩
        · by_cases hi : i < k
          · rw [List.getElem?_append_left (by omega)] at hz
            exact h2 i z hz
          · have : i = k := by
              have := (List.getElem?_eq_some_iff.1 hz).1
              simp at this; omega
            subst this
            rw [List.getElem?_append_right (by omega), h1, Nat.sub_self] at hz
            cases hz
            refine ⟨vs, ?_, hy1⟩
            rw [mulS_eq, ← hc]
            exact cells_row hv1
        · rcases List.mem_append.1 hz with hz | hz
          · exact h3 z hz
          · simp at hz; subst hz; exact hy2
    obtain ⟨ys, h1, h2, h3⟩ := key len (Nat.le_refl _)
    refine ⟨ys, ⟨some a, len, cap, rfl, hlc, h1, fun i y hy => ?_⟩, ?_, h3⟩
    · obtain ⟨vs, h4, h5⟩ := h2 i y hy
      exact ⟨a, vs, rfl, h4, h5⟩
    · rw [h1, ← hb, ← hel]
      exact Nat.le_trans (Nat.mul_le_mul_right _ (Nat.le_add_right _ _)) hw1
theorem opn_struct {fs : Array Field} (ht : P.underlying t = some (.struct fs)) {H : Type} {enc : TypeId × Value → H} {W : World} {n : Nat} {cs : List Value} {x : DataW H × List MemPlace} (h : DataW.trod enc P W 0 (fun _ => true) true n t cs = some x) (hw : (x.1.weights P t).all (· ≤ reachBytes) = true) :
    cs.length = P.cellsOf t ∧ ∀ (i : Nat) (f : Field) (ty k o : Nat), fs[i]? = some f → P.cellsOf ty = k → f.type = ty → f.offset = o → ∃ (m : Nat) (d : DataW H × List MemPlace), DataW.trod enc P W 0 (fun _ => true) true m ty ((cs.drop o).take k) = some d ∧ (d.1.weights P ty).all (· ≤ reachBytes) = true := by
  obtain ⟨xs, m, rfl, rfl, hl, hxs, hf⟩ := DataW.trod_struct ht h
  refine ⟨hl, ?_⟩
  rintro i f _ _ _ hi rfl rfl rfl
  have hlt := (Array.getElem?_eq_some_iff.1 hi).1
  obtain ⟨d, hd⟩ : ∃ d, xs[i]? = some d := ⟨xs[i]'(by omega), List.getElem?_eq_getElem _⟩
  refine ⟨m, d, by rw [hf i f hi, hd], ?_⟩
  simp only [DataW.weights, ht] at hw
  exact weightsEach_get hw i f.type d.1 (by simp [hi]) (by simp [hd])
theorem opn_arg {α : Type} [Rep α] {bd : α → Prop} (ho : Opn P α bd t) {H : Type} {enc : TypeId × Value → H} {W : World} {v : Value} {d : DataW H} {ps : List MemPlace} (h : DataW.Trod enc P W 0 (fun _ => true) true t v d ps)
    (hw : (d.weights P t).all (· ≤ reachBytes) = true) : ∃ y : α, rd (hp W) y v.cells.toList ∧ bd y := by
  obtain ⟨n, h⟩ := h
  exact ho enc W n _ _ h hw
theorem arg_struct {α : Type} [Rep α] {bd : α → Prop} {fs : Array Field} (ho : Opn P α bd t) (ht : P.underlying t = some (.struct fs)) {H : Type} {enc : TypeId × Value → H} {W : World} {b : Nat} {v : Value} {d : DataW H} {ps : List MemPlace}
    (hval : Value.okWide P W .any b t v) (h : DataW.Trod enc P W 0 (fun _ => true) true t v d ps) (hw : (d.weights P t).all (· ≤ reachBytes) = true) : ∃ (x : α) (cs : List Value), v = .agg ⟨cs⟩ ∧ rd (hp W) x cs ∧ bd x := by
  obtain ⟨x, hr, hb⟩ := opn_arg ho h hw
  simp only [Value.okWide, ht] at hval
  obtain ⟨cs, rfl, _⟩ := hval
  exact ⟨x, cs.toList, rfl, hr, hb⟩
theorem below_of {w w' : World} (h : Ev w w') (g : Gr w w') : Below w.heap.size w w' := by
  refine ⟨h.os, h.tape, h.output, h.size, fun k hk => ?_⟩
  cases ho : w.heap[k]? with
  | none => rw [Array.getElem?_eq_none_iff] at ho; omega
  | some o =>
    by_cases hd : notD o = true
    · have : hp w k = some o := by unfold hp; rw [ho, hidD_not hd]
      exact hidD_some (g k o this)
    · cases o <;> first | exact absurd rfl hd | exact h.dfr _ _ ho
theorem trodAll_below (hl : laidOutB P = true) {H : Type} {enc : TypeId × Value → H} {W W' : World} (hb : Below W.heap.size W W') {sp : Nat → Bool} : ∀ {ts : List TypeId} {vs : List Value} {ds : List (DataW H)} {ps : List MemPlace},
    (ts.all fun t => P.readableRec t && decide (t < P.types.size)) = true → DataW.TrodAll enc P W 0 (fun _ => true) true ts vs ds ps → (∀ x ∈ ps, x.block < W.heap.size) → (∀ x ∈ ps, sp x.block = true) →
    DataW.TrodAll enc P W' 0 sp true ts vs ds ps
  | [], [], [], ps, _, h, _, _ => h
  | [], _ :: _, _, _, _, h, _, _ => h.elim
  | [], [], _ :: _, _, _, h, _, _ => h.elim
  | _ :: _, [], _, _, _, h, _, _ => h.elim
  | _ :: _, _ :: _, [], _, _, h, _, _ => h.elim
  | t :: ts, v :: vs, d :: ds, ps, ht, h, hlt, hsp => by
    obtain ⟨p, q, h1, h2, rfl⟩ := h
    rw [List.all_cons, Bool.and_eq_true, Bool.and_eq_true, decide_eq_true_eq] at ht
    exact ⟨p, q, WideElems.Trod_stays hl ht.1.1 ht.1.2 h1 (fun x hx => hb.same (hlt x (by simp [hx]))) (fun x hx => hsp x (by simp [hx])), trodAll_below hl hb ht.2 h2 (fun x hx => hlt x (by simp [hx])) (fun x hx => hsp x (by simp [hx])), rfl⟩
theorem law_post {H : Type} {enc : TypeId × Value → H} {s : ChangeSpec} {f : Func} {W W' : World} {args : Array Value} {ds gs : List (DataW H)} {before : List MemPlace} {tb : TypeId} (hv : s.vars = []) (hrt : f.resultTypes = #[tb]) (htb : P.underlying tb = some .bool)
    (hsp : s.fn H (ds ++ gs) = { results := [.lit (.bool true)], args := ds }) (hl : laidOutB P = true) (hrd : (f.params.toList.all fun t => P.readableRec t && decide (t < P.types.size)) = true)
    (hW : DataW.Whole enc P f.params.toList s.vars false W args.toList ds gs before) (hE : Ev W W') (hg : Gr W W') : s.post enc P f false true false false W args (.bool true) W' := by
  have hb := below_of hE hg
  have hlt : ∀ p ∈ before, p.block < W.heap.size := fun p hp => hW.lt p hp
  have hold : ∀ p ∈ before, (fun b => decide (b < W.heap.size)) p.block = true := fun p hp => by simpa using hlt p hp
  have hW' := hW
  obtain ⟨p, q, h1, h2, rfl, h3, h4⟩ := hW
  have hq : q = [] := by
    rw [hv] at h2
    cases gs with
    | nil => exact h2
    | cons _ _ => exact h2.elim
  subst hq
  rw [List.append_nil] at *
  have hargs : ∀ sp : Nat → Bool, (∀ x ∈ p, sp x.block = true) → DataW.TrodAll enc P W' 0 sp true f.params.toList args.toList (s.fn H (ds ++ gs)).args p := fun sp hs => by
    rw [hsp]; exact trodAll_below hl hb hrd h1 hlt hs
  have hvars : ∀ sp : Nat → Bool, DataW.TrodVars enc P W' sp s.vars (s.fn H (ds ++ gs)).vars [] := fun sp => by
    rw [hsp, hv]; exact rfl
  have hres : ∀ (b : Nat) (sp : Nat → Bool) (hd : Bool), DataW.TrodAll enc P W' b sp hd f.resultTypes.toList ((Value.bool true).resultList f.resultTypes.size) (s.fn H (ds ++ gs)).results [] := fun b sp hd => by
    rw [hsp, hrt]; exact trodAll_cons_mk (shut_bool htb _) trodAll_mk0
  have hok : ∀ (j : Nat) (t : TypeId) (r : Value), f.resultTypes[j]? = some t → ((Value.bool true).resultList f.resultTypes.size)[j]? = some r → Value.okWide P W' .any 0 t r := ok_one hrt rfl (okWide_bool_mk htb _)
  refine ⟨ds, gs, p, [], p, [], hW', hres _ _ _, hargs _ hold, hvars _, World.keptBut_mono (fun x hx => ⟨hx, ?_⟩) (hb.frame (· ∈ p)), fun _ => ?_⟩
  · exact Or.inr (by simpa using hx)
  · refine ⟨hok, _, _, ([] ++ p) ++ [], ⟨[] ++ p, [], trodAll_append (hargs _ (fun _ _ => rfl)) (hres _ _ _), hvars _, rfl, ?_, ?_⟩, ?_⟩
    · intro b off hp
      have hin : MemPlace.cell b off ∈ p := by simpa using hp
      rw [hb.frozen (hlt _ hin)]
      exact h3 b off hin
    · intro ha; cases ha
    · intro x hx _
      simpa using hx
end
end Go.V
set_option linter.unusedVariables false
namespace Go.Proofs.YtkmjjnjngcpjmaaGreatDoor
open Go.V Go.RowKit Go.WideShapes Go.ChangeShapes Go.ChangeAt
theorem ownK : ownKnob Tryz.prog.godebug = none := by kernel_rfl
theorem laidO : laidOutB Tryz.prog = true := by kernel_rfl
theorem cellsI : Tryz.prog.cellsOf 3 = 1 := by kernel_rfl
theorem bytesI : Tryz.prog.bytesOf 3 = 8 := by kernel_rfl
theorem cellsStr : Tryz.prog.cellsOf 9 = 1 := by kernel_rfl
theorem bytesStr : Tryz.prog.bytesOf 9 = 16 := by kernel_rfl
theorem cellsS24 : Tryz.prog.cellsOf 24 = 1 := by kernel_rfl
theorem cellsS22 : Tryz.prog.cellsOf 22 = 1 := by kernel_rfl
theorem cellsS23 : Tryz.prog.cellsOf 23 = 1 := by kernel_rfl
theorem cellsS25 : Tryz.prog.cellsOf 25 = 1 := by kernel_rfl
theorem cellsT : Tryz.prog.cellsOf 99 = 2 := by kernel_rfl
theorem bytesT : Tryz.prog.bytesOf 99 = 24 := by kernel_rfl
theorem cellsP : Tryz.prog.cellsOf 60 = 3 := by kernel_rfl
theorem bytesP : Tryz.prog.bytesOf 60 = 40 := by kernel_rfl
theorem cellsG : Tryz.prog.cellsOf 27 = 5 := by kernel_rfl
theorem oInt : Opn Tryz.prog Int anyI 3 := opn_int Tryz.underlying3
theorem oInts : Opn Tryz.prog (List Int) (anyL 8 anyI) 24 := opn_slice Tryz.underlying24 cellsI bytesI oInt
theorem oStr : Opn Tryz.prog ByteArray anyS 9 := opn_str Tryz.underlying9
theorem oStrs : Opn Tryz.prog (List ByteArray) (anyL 16 anyS) 23 := opn_slice Tryz.underlying23 cellsStr bytesStr oStr
theorem oTerm : Opn Tryz.prog TermT (fun t => anyS t.name ∧ anyI t.level) 99 := by
  intro H enc W n cs x h hw
  obtain ⟨hl, hf⟩ := opn_struct Tryz.underlying99 h hw
  rw [cellsT] at hl
  obtain ⟨_, _, t0, w0⟩ := hf 0 _ 9 1 0 rfl cellsStr rfl rfl
  obtain ⟨_, _, t1, w1⟩ := hf 1 _ 3 1 1 rfl cellsI rfl rfl
  obtain ⟨y0, r0, b0⟩ := oStr enc W _ _ _ t0 w0
  obtain ⟨y1, r1, b1⟩ := oInt enc W _ _ _ t1 w1
  match cs, hl with
  | [c0, c1], _ =>
    have e0 : [c0] = [.string y0] := r0
    have e1 : [c1] = [.int .i64 y1] := r1
    cases e0; cases e1
    exact ⟨⟨y0, y1⟩, rfl, b0, b1⟩
theorem oTerms : Opn Tryz.prog (List TermT) (anyL 24 fun t => anyS t.name ∧ anyI t.level) 22 := opn_slice Tryz.underlying22 cellsT bytesT oTerm
theorem oProd : Opn Tryz.prog ProdT (fun p => anyI p.left ∧ anyL 8 anyI p.right ∧ anyI p.level) 60 := by
  intro H enc W n cs x h hw
  obtain ⟨hl, hf⟩ := opn_struct Tryz.underlying60 h hw
  rw [cellsP] at hl
  obtain ⟨_, _, t0, w0⟩ := hf 0 _ 3 1 0 rfl cellsI rfl rfl
  obtain ⟨_, _, t1, w1⟩ := hf 1 _ 24 1 1 rfl cellsS24 rfl rfl
  obtain ⟨_, _, t2, w2⟩ := hf 2 _ 3 1 2 rfl cellsI rfl rfl
  obtain ⟨y0, r0, b0⟩ := oInt enc W _ _ _ t0 w0
  obtain ⟨y1, ⟨a, l, c, r1, hlc, r1'⟩, b1⟩ := oInts enc W _ _ _ t1 w1
  obtain ⟨y2, r2, b2⟩ := oInt enc W _ _ _ t2 w2
  match cs, hl with
  | [c0, c1, c2], _ =>
    have e0 : [c0] = [.int .i64 y0] := r0
    have e1 : [c1] = [.slice a l c] := r1
    have e2 : [c2] = [.int .i64 y2] := r2
    cases e0; cases e1; cases e2
    exact ⟨⟨y0, y1, y2⟩, ⟨a, l, c, rfl, hlc, r1'⟩, b0, b1, b2⟩
theorem oProds : Opn Tryz.prog (List ProdT) (anyL 40 fun p => anyI p.left ∧ anyL 8 anyI p.right ∧ anyI p.level) 25 := opn_slice Tryz.underlying25 cellsP bytesP oProd
def okG2 (g : GramT) : Prop := okG g ∧ g.terms.length * 24 ≤ 140737488355328 ∧ g.nons.length * 16 ≤ 140737488355328
theorem oGram : Opn Tryz.prog GramT okG2 27 := by
  intro H enc W n cs x h hw
  obtain ⟨hl, hf⟩ := opn_struct Tryz.underlying27 h hw
  rw [cellsG] at hl
  obtain ⟨_, _, t0, w0⟩ := hf 0 _ 22 1 0 rfl cellsS22 rfl rfl
  obtain ⟨_, _, t1, w1⟩ := hf 1 _ 23 1 1 rfl cellsS23 rfl rfl
  obtain ⟨_, _, t2, w2⟩ := hf 2 _ 24 1 2 rfl cellsS24 rfl rfl
  obtain ⟨_, _, t3, w3⟩ := hf 3 _ 3 1 3 rfl cellsI rfl rfl
  obtain ⟨_, _, t4, w4⟩ := hf 4 _ 25 1 4 rfl cellsS25 rfl rfl
  obtain ⟨y0, ⟨a0, l0, c0', r0, k0, q0⟩, b0⟩ := oTerms enc W _ _ _ t0 w0
  obtain ⟨y1, ⟨a1, l1, c1', r1, k1, q1⟩, b1⟩ := oStrs enc W _ _ _ t1 w1
  obtain ⟨y2, ⟨a2, l2, c2', r2, k2, q2⟩, b2⟩ := oInts enc W _ _ _ t2 w2
  obtain ⟨y3, r3, b3⟩ := oInt enc W _ _ _ t3 w3
  obtain ⟨y4, ⟨a4, l4, c4', r4, k4, q4⟩, b4⟩ := oProds enc W _ _ _ t4 w4
  match cs, hl with
  | [c0, c1, c2, c3, c4], _ =>
    have e0 : [c0] = [.slice a0 l0 c0'] := r0
    have e1 : [c1] = [.slice a1 l1 c1'] := r1
    have e2 : [c2] = [.slice a2 l2 c2'] := r2
    have e3 : [c3] = [.int .i64 y3] := r3
    have e4 : [c4] = [.slice a4 l4 c4'] := r4
    cases e0; cases e1; cases e2; cases e3; cases e4
    refine ⟨⟨y0, y1, y2, y3, y4⟩, ⟨⟨a0, l0, c0', a1, l1, c1', a2, l2, c2', y3, a4, l4, c4'⟩, rfl, q0, q1, q2, rfl, q4, k0, k1, k2, k4⟩, ?_⟩
    have z0 := b0.1
    have z1 := b1.1
    have z2 := b2.1
    have z4 := b4.1
    unfold reachBytes at z0 z1 z2 z4
    refine ⟨⟨by show y0.length ≤ _; omega, by show y1.length ≤ _; omega, by show y2.length ≤ _; omega, by show y4.length * 40 ≤ _; omega, fun t ht => ⟨?_, (b0.2 t ht).2⟩, fun s hs => ?_, fun p hp => ?_⟩, by show y0.length * 24 ≤ _; omega, by show y1.length * 16 ≤ _; omega⟩
    · have := (b0.2 t ht).1; unfold anyS reachBytes at this; omega
    · have := b1.2 s hs; unfold anyS reachBytes at this; omega
    · have := (b4.2 p hp).2.1.1; unfold reachBytes at this; omega

theorem gTab : Tryz.prog.globalNamed "math/bits.deBruijn64tab" = some 0 := by kernel_rfl
theorem gTabType : (Tryz.prog.globals[0]?).map (·.type) = some 217 := by kernel_rfl
theorem cellsTab : Tryz.prog.cellsOf 217 = 64 := by kernel_rfl
theorem cellsTabE : Tryz.prog.cellsOf 5 = 1 := by kernel_rfl
theorem table {W : World} (h : laidMetH Tryz.prog [("math/bits.deBruijn64tab", Rows.laid_math_bits_deBruijn64tab)] W) : tabA (hp W) := by
  have ht : Lib.TabIs Tryz.prog W "math/bits.deBruijn64tab" .u8 (Lib.deBruijn64tab.map fun (k : Nat) => (k : Int)) :=
    Lib.tabIs_of_head (rest := []) gTab gTabType Tryz.underlying217 Tryz.underlying5 cellsTabE cellsTab h
  refine .inr ⟨_, rfl, fun j v hj => ?_⟩
  have hlt := (List.getElem?_eq_some_iff.1 hj).1
  have hc := ht.cell gTab j (by simpa [tabV] using hlt)
  rw [add_lit0]
  refine cellH_of (hc.trans ?_)
  rw [← hj]
  simp only [tabV, List.getElem?_map, List.length_map] at hj hlt ⊢
  rw [List.getElem?_eq_getElem hlt]
  simp [hlt]
noncomputable def laidWorld (os : Os) : World :=
  { World.holding Tryz.prog os ⟨#[], #[], []⟩ with heap := (World.holding Tryz.prog os ⟨#[], #[], []⟩).heap.modify 0 fun
      | .cells _ t frozen => .cells ⟨tabV⟩ t frozen
      | o => o }
end Go.Proofs.YtkmjjnjngcpjmaaGreatDoor
