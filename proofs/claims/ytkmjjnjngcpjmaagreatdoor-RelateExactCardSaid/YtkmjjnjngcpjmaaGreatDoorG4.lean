/- Texts of this claim, one behind the other. -/
import Derived.Test.YtkmjjnjngcpjmaaGreatDoorG3
import Derived.Test.YtkmjjnjngcpjmaaGreatDoorG1
import Derived.Laws.StructEq
import Derived.Test.YtkmjjnjngcpjmaaGreatDoorG2
set_option linter.unusedVariables false
set_option maxRecDepth 4000
namespace Go.V
section
variable {g : GramT} {I ls : List ItemT} {bs : List Bool} {i : Nat} {x y : ItemT}
theorem ClosedP.left (h : ClosedP g) {p : ProdT} (hp : p ∈ g.prods) : (g.T : Int) ≤ p.left := by
  obtain ⟨_, h1, h2, p0, hp0, hl, _⟩ := h
  obtain ⟨n, hn⟩ := List.getElem?_of_mem hp
  cases n with
  | zero => rw [hp0] at hn; cases hn; omega
  | succ n =>
    have hm : p ∈ g.prods.drop 1 := by
      refine List.mem_of_getElem? (i := n) ?_
      rw [List.getElem?_drop, Nat.add_comm]; exact hn
    have := ((h2.2.2.1 p hm).1).1
    omega
theorem aft_sym (hc : ClosedP g) (hf : fitI g x) (h0 : 0 ≤ aft g x) : 1 ≤ aft g x ∧ aft g x < g.T + g.N := by
  obtain ⟨p, hp, _, h3⟩ := aft_lt hf rfl h0
  exact hc.sym (List.mem_of_getElem? hp) (List.mem_of_getElem? h3)
structure DclI (g : GramT) (I : List ItemT) (bs : List Bool) (i : Nat) (ls : List ItemT) : Prop where
  nd : ls.Nodup
  sb : ∀ x ∈ I, x ∈ ls
  ok : ∀ x ∈ ls, ClM g I x
  ln : bs.length = g.T + g.N
  bt : ∀ s : Nat, bs[s]? = some true → ∀ k ∈ byL g s, it0 k ∈ ls
  dn : ∀ (j : Nat) y, j < i → ls[j]? = some y → (g.T : Int) ≤ aft g y → bs[(aft g y).toNat]? = some true
theorem DclI.start : DclI g I (List.replicate (g.T + g.N) false) 0 (lay I) :=
  ⟨(lay_srt I).nodup, fun x hx => lay_mem.2 hx, fun x hx => .base (lay_mem.1 hx), by simp, fun s hs => by rw [List.getElem?_replicate] at hs; split at hs <;> simp at hs, fun j y hj => by omega⟩
theorem item_len (h1 : ls.Nodup) (h2 : ∀ x ∈ ls, ClM g I x) : ls.length ≤ I.length + g.prods.length := by
  have := nodup_len (m := I ++ (List.range g.prods.length).map it0) h1 fun x hx => by
    rw [List.mem_append]
    rcases (h2 x hx).or with h | ⟨i, hi, rfl⟩
    · exact .inl h
    · exact .inr (List.mem_map.2 ⟨i, List.mem_range.2 hi, rfl⟩)
  simpa using this
theorem DclI.len (h : DclI g I bs i ls) : ls.length ≤ I.length + g.prods.length := item_len h.nd h.ok
theorem DclI.skip (h : DclI g I bs i ls) (hy : ls[i]? = some y) (hs : aft g y < g.T ∨ bs[(aft g y).toNat]? = some true) : DclI g I bs (i + 1) ls :=
  ⟨h.nd, h.sb, h.ok, h.ln, h.bt, fun j z hj hz h0 => by
    by_cases e : j = i
    · subst e; rw [hy] at hz; cases hz
      rcases hs with hs | hs
      · omega
      · exact hs
    · exact h.dn j z (by omega) hz h0⟩
structure DclJ (g : GramT) (I : List ItemT) (s : Int) (ls : List ItemT) (j : Nat) (ms : List ItemT) : Prop where
  nd : ms.Nodup
  pre : ∃ ex, ms = ls ++ ex
  ok : ∀ x ∈ ms, ClM g I x
  al : ∀ k ∈ byN g j s, it0 k ∈ ms
theorem DclI.inner (h : DclI g I bs i ls) (s : Int) : DclJ g I s ls 0 ls := ⟨h.nd, ⟨[], by simp⟩, h.ok, fun k hk => by simp [byN] at hk⟩
theorem DclI.more {ms : List ItemT} (h : DclI g I bs i ls) (hy : ls[i]? = some y) (h0 : 0 ≤ aft g y) (hl : (aft g y).toNat < bs.length) (hJ : DclJ g I (aft g y) ls g.prods.length ms) : DclI g I (bs.set (aft g y).toNat true) (i + 1) ms := by
  obtain ⟨ex, rfl⟩ := hJ.pre
  refine ⟨hJ.nd, fun x hx => List.mem_append_left _ (h.sb x hx), hJ.ok, by rw [List.length_set]; exact h.ln, fun s hs k hk => ?_, fun j z hj hz h1 => ?_⟩
  · by_cases e : (aft g y).toNat = s
    · have e2 : (s : Int) = aft g y := by omega
      rw [e2] at hk
      exact hJ.al k hk
    · rw [List.getElem?_set_ne e] at hs
      exact List.mem_append_left _ (h.bt s hs k hk)
  · have hjl : j < ls.length := by have := (List.getElem?_eq_some_iff.1 hy).1; omega
    rw [List.getElem?_append_left hjl] at hz
    by_cases e : (aft g y).toNat = (aft g z).toNat
    · rw [← e, List.getElem?_set_self hl]
    · rw [List.getElem?_set_ne e]
      by_cases e2 : j = i
      · subst e2; rw [hy] at hz; cases hz; exact absurd rfl e
      · exact h.dn j z (by omega) hz h1
theorem DclI.fin (h : DclI g I bs i ls) (hc : ClosedP g) (hi : i = ls.length) : lay ls = cls g I := by
  refine cls_one (lay_srt _) fun x => ?_
  rw [lay_mem]
  refine ⟨h.ok x, fun hx => ?_⟩
  induction hx with
  | base hx => exact h.sb _ hx
  | @step y k p _ h1 h2 h3 ih =>
    obtain ⟨j, hj⟩ := List.getElem?_of_mem ih
    have hl := hc.left (List.mem_of_getElem? h2)
    have := h.dn j y (by have := (List.getElem?_eq_some_iff.1 hj).1; omega) hj (by omega)
    exact h.bt _ this k (byL_mem.2 ⟨p, h2, by rw [h3]; omega⟩)
theorem DclJ.skip {s : Int} {j : Nat} {ms : List ItemT} {p : ProdT} (h : DclJ g I s ls j ms) (hp : g.prods[j]? = some p) (hs : p.left ≠ s ∨ it0 j ∈ ms) : DclJ g I s ls (j + 1) ms :=
  ⟨h.nd, h.pre, h.ok, fun k hk => by
    rw [byN_succ hp, List.mem_append] at hk
    rcases hk with hk | hk
    · exact h.al k hk
    · split at hk
      · rename_i e
        simp at hk; subst hk
        rcases hs with hs | hs
        · exact absurd e.symm hs
        · exact hs
      · simp at hk⟩
theorem DclJ.put {s : Int} {j : Nat} {ms : List ItemT} {p : ProdT} (h : DclJ g I s ls j ms) (hp : g.prods[j]? = some p) (hs : p.left = s) (hn : it0 j ∉ ms) (hy : ClM g I y) (ha : aft g y = s) (h0 : 0 ≤ s) : DclJ g I s ls (j + 1) (ms ++ [it0 j]) := by
  obtain ⟨ex, rfl⟩ := h.pre
  refine ⟨?_, ⟨ex ++ [it0 j], by simp⟩, fun x hx => ?_, fun k hk => ?_⟩
  · rw [List.nodup_append]
    exact ⟨h.nd, by simp, fun a ha b hb e => by simp at hb; subst hb; subst e; exact hn (by simpa using ha)⟩
  · rw [List.mem_append, List.mem_singleton] at hx
    rcases hx with hx | rfl
    · exact h.ok x hx
    · exact .step hy (by omega) hp (by omega)
  · rw [byN_succ hp, List.mem_append] at hk
    rcases hk with hk | hk
    · exact List.mem_append_left _ (h.al k hk)
    · split at hk
      · simp at hk; subst hk; simp
      · simp at hk
end
end Go.V
namespace Go.Proofs.YtkmjjnjngcpjmaaGreatDoor
open Go.V
variable {w : World} {L : List Asn} {g : GramT} {x : GA} {a a2 : Option Addr} {l c l2 c2 : Nat} {I J : List ItemT}
set_option maxHeartbeats 1000000 in
theorem d_ClosedI (hg : gR (hp w) g x) (hb : okG g) (hc : ClosedP g) (hx : rdS (hp w) I a l) (hf : fitsB g I) (hl : l * 16 ≤ 140737488351232) : Run Tryz.prog n_presageref09_Closed [.agg ⟨x.cells⟩, .slice a l c] w fun v w' => ∃ o c', v = .slice o (cls g I).length c' ∧ St w' (own 2 o (cls g I).length c' (tv (cls g I)) :: all w) := by
  have hll := hx.1
  obtain ⟨hT, hN, hP, hP2, hT1, hN2⟩ := hc.sizes
  refine run_presageref09_Closed _ _ _ _ _ _ _ _ _ _ _ _ _ _ _ _ w _ (gbox hg fun k1 w1 gw hg B => ?_)
  refine (d_Laid (hx.mono gw) (by omega)).mono ?_
  rintro _ w2 ⟨o1, c1, rfl, h⟩
  refine ⟨_, _, _, rfl, _, _, _, _, _, _, _, _, _, _, _, _, _, B.row h.gone1, (d_Symbols (hg.mono h.gone1) hb).mono ?_⟩
  rintro _ w3 ⟨rfl, g3⟩
  have h := h.gr g3
  have en : ((g.T : Int) + g.N) = ((g.T + g.N : Nat) : Int) := by omega
  rw [en]
  refine ⟨_, rfl, ⟨by omega, rfl, by omega⟩, ?_⟩
  have e0 : reps (Int.toNat ((g.T + g.N : Nat) : Int)) [Value.bool false] = bv (List.replicate (g.T + g.N) false) := by rw [reps_one, Int.toNat_natCast]; simp [bv]
  rw [e0, Int.toNat_natCast]
  refine newC_i h fun k12 w4 h => ?_
  have hll2 := hll
  refine ⟨fun o n c' z w' => ∃ (i : Nat) (ls : List ItemT) (bs : List Bool), z = i ∧ n = ls.length ∧ i ≤ ls.length ∧ DclI g I bs i ls ∧ St w' (own 2 o n c' (tv ls) :: cel k12 (bv bs) :: all w1), fun _ _ _ z _ => (l + g.prods.length) - z.toNat,
    ⟨0, lay I, _, rfl, rfl, Nat.zero_le _, .start, h.pick 2 [1, 0]⟩, ?_⟩
  clear h
  rintro _ o _ c2 _ w5 ⟨i, ls, bs, rfl, rfl, hi, hD, h⟩
  have hlen := hD.len
  rw [hll] at hlen
  have hfin : l + g.prods.length ≤ 8796093022100 := by omega
  refine br_intro (fun h1 => ?_) fun h1 => ?_
  rotate_left
  · have h1 : i = ls.length := by have := of_decide_eq_false h1; omega
    have e := hD.fin hc h1
    have hr : rdS (hp w5) ls o ls.length := own_rdI2 h
    refine (d_Laid hr (by omega)).mono ?_
    rintro _ w17 ⟨o7, c7, rfl, h7⟩
    rw [e] at h7 ⊢
    exact ⟨_, _, _, rfl, _, _, rfl, h7.on1 (starL_sub (has_i gw) (rdH 2 h.l))⟩
  have h1 : i < ls.length := by have := of_decide_eq_true h1; omega
  obtain ⟨y, ad, hy, rfl, cy⟩ := rdIt_get (own_rdI2 h) h1
  have hyo := hD.ok y (List.mem_of_getElem? hy)
  have hyf : fitI g y := hyo.fit hf
  intro w6 hd
  have h := h.eq (drawn_hp hd)
  have s6 : sub (hp w1) (hp w6) := rdH 2 h.l
  refine ⟨fun u => Gr w6 u, Gr.refl _, _, _, _, _, _, _, _, _, _, _, _, _, _, fun u s => B.row (sub.trans s6 s), idx_n rfl h1 ⟨_, _, fun u s => cy u (sub.trans (Gr.drawn hd) s), (d_After (hg.mono s6) hyf).mono ?_⟩⟩
  rintro _ w9 ⟨rfl, g9⟩
  have h := h.gr g9
  have s9 : sub (hp w1) (hp w9) := rdH 2 h.l
  have hTl : g.T = x.tl := hg.t.1
  refine ⟨_, rfl, g9, _, _, _, B.c0 s9, br_intro (fun h2 => ?_) fun h2 => ?_⟩
  · have h2 := of_decide_eq_true h2
    exact ⟨⟨by omega, by omega⟩, ⟨i + 1, ls, bs, by simp, rfl, h1, hD.skip hy (.inl (by omega)), h⟩, msr (Nat.lt_of_lt_of_le h1 hlen)⟩
  have h2 : (g.T : Int) ≤ aft g y := by have := of_decide_eq_false h2; omega
  obtain ⟨_, ha2⟩ := aft_sym hc hyf (by omega)
  obtain ⟨s, hs⟩ : ∃ s : Nat, aft g y = s := ⟨(aft g y).toNat, by omega⟩
  have hsl : s < bs.length := by have := hD.ln; omega
  rw [hs]
  have hb0 : (bv bs)[s]? = some (.bool bs[s]) := by unfold bv; rw [List.getElem?_map, List.getElem?_eq_getElem hsl]; rfl
  refine idx_i rfl (by have := hD.ln; omega) ⟨_, (rdCel 1 h.l).cell (sub.refl _) (j := s) hb0, br_intro (fun h3 => ?_) fun h3 => ?_⟩
  · exact ⟨⟨by omega, by omega⟩, ⟨i + 1, ls, bs, by simp, rfl, h1, hD.skip hy (.inr (by rw [hs, Int.toNat_natCast, List.getElem?_eq_getElem hsl, h3])), h⟩, msr (Nat.lt_of_lt_of_le h1 hlen)⟩
  refine idx_i rfl (by have := hD.ln; omega) ?_
  rw [add_lit0]
  refine st1_i (h.pick 2 [1, 0]) (by rw [bv_len]; exact hsl) fun w10 h => ?_
  rw [bv_setC] at h
  have pl := hg.p.1
  refine ⟨fun o n c' z w' => ∃ (j : Nat) (ms : List ItemT), z = j ∧ n = ms.length ∧ j ≤ x.pl ∧ DclJ g I s ls j ms ∧ St w' (own 2 o n c' (tv ms) :: cel k12 (bv (bs.set s true)) :: all w1), fun _ _ _ z _ => x.pl - z.toNat,
    ⟨0, ls, rfl, rfl, Nat.zero_le _, hD.inner s, h.pick 2 [1, 0]⟩, ?_⟩
  clear h cy
  rintro _ o _ c4 _ w11 ⟨j, ms, rfl, rfl, hj, hJ, h⟩
  have hml := item_len hJ.nd hJ.ok
  rw [hll] at hml
  have s11 : sub (hp w1) (hp w11) := rdH 2 h.l
  refine ⟨_, _, _, B.c4 s11, br_intro (fun h4 => ?_) fun h4 => ?_⟩
  rotate_left
  · have h4 : j = g.prods.length := by have := of_decide_eq_false h4; omega
    rw [h4] at hJ
    have hD2 := hD.more hy (by omega) (by rw [hs]; exact hsl) (by rw [hs]; exact hJ)
    rw [hs, Int.toNat_natCast] at hD2
    obtain ⟨ex, hex⟩ := hJ.pre
    refine ⟨⟨by omega, by omega⟩, ⟨i + 1, ms, _, by simp, rfl, ?_, hD2, h⟩, msr (Nat.lt_of_lt_of_le h1 hlen)⟩
    rw [hex, List.length_append]; exact Nat.le_add_right_of_le h1
  have h4 : j < x.pl := by have := of_decide_eq_true h4; omega
  refine newC_i h fun k29 w12 h => stR_i h rfl (by simp [oneC]) fun w13 h => ?_
  obtain ⟨p, pad, vs, hp1, hpa, hp2, ra, rl, rc, rfl, hrc, hp3⟩ := hg.p.get h4
  have s13 : sub (hp w1) (hp w13) := rdH 3 h.l
  have hj1 : inI ((j : Int) + 1) := ⟨by omega, by omega⟩
  refine ⟨_, _, _, B.c4 s13, idx_n hpa h4 ⟨_, hp2.cell0 s13, br_intro (fun h5 => ?_) fun h5 => ?_⟩⟩
  · have h5 : p.left ≠ s := bne_iff_ne.1 h5
    exact ⟨hj1, ⟨j + 1, ms, by simp, rfl, h4, hJ.skip hp1 (.inl h5), h.pick 4 [1, 2, 3]⟩, msr h4⟩
  have h5 : p.left = s := bne_eq_false_iff_eq.1 h5
  refine ⟨_, _, (rdCel 0 h.l).at (sub.refl _) rfl, (d_has (y := it0 j) (own_rdI2 (h.pick 2 [1])) (by omega)).mono ?_⟩
  rintro _ w14 ⟨rfl, g14⟩
  have h := h.gr g14
  refine ⟨_, rfl, br_intro (fun h6 => ?_) fun h6 => ?_⟩
  rotate_left
  · have h6 : it0 j ∈ ms := by simpa using h6
    exact ⟨hj1, ⟨j + 1, ms, by simp, rfl, h4, hJ.skip hp1 (.inr h6), h.pick 4 [1, 2, 3]⟩, msr h4⟩
  have h6 : it0 j ∉ ms := by simpa using h6
  have hJ2 := hJ.put hp1 h5 h6 hyo hs (Int.natCast_nonneg _)
  have z1 : (ms.length + 1) * 16 ≤ 140737488355328 ∧ ms.length < 9223372036854775807 := by omega
  refine ⟨_, _, (rdCel 0 h.l).at (sub.refl _) rfl, newC_i h fun k32 w15 h => ?_⟩
  refine (app_one (us := tv ms) tyOk (rfl : kdOfT Ty _ = .slice _) (rfl : kdOfT Ty _ = .slice _) rfl rfl rfl (h.pick 3 [0, 2]) rfl (by simp [oneC]) z1.1 z1.2).mono ?_
  rintro _ w16 ⟨o15, c15, rfl, h⟩
  have e : tv (ms ++ [it0 j]) = tv ms ++ [.int .i64 (j : Int), .int .i64 0] := by rw [tv_app]; rfl
  refine ⟨_, _, _, rfl, hj1, ⟨j + 1, ms ++ [it0 j], by simp, by simp, h4, hJ2, ?_⟩, msr h4⟩
  rw [e]
  exact h.pick 4 [0, 2, 3]
theorem d_from {s : Int} (hg : gR (hp w) g x) (hb : okG g) (hx : rdS (hp w) I a l) (hf : fitsB g I) (hl : l ≤ 8796093022100) : Run Tryz.prog n_presageref09_from [.agg ⟨x.cells⟩, .int .i64 s, .slice a l c] w fun v w' => ∃ o c', v = .slice o (lay (kernN g I s)).length c' ∧ St w' (own 2 o (lay (kernN g I s)).length c' (tv (lay (kernN g I s))) :: all w) := by
  have hll := hx.1
  obtain ⟨_, _, _, _, _, _, hbr⟩ := id hb
  refine run_presageref09_from _ _ _ _ _ _ _ _ _ _ _ _ _ _ _ _ _ w _ (gbox hg fun k1 w1 gw hg B => ?_)
  have hx := hx.mono gw
  refine ⟨fun o n c' z w' => ∃ j : Nat, z = j ∧ j ≤ l ∧ n = (kernN g (I.take j) s).length ∧ St w' (own 2 o n c' (tv (kernN g (I.take j) s)) :: all w1), fun _ _ _ z _ => l - z.toNat, ⟨0, rfl, Nat.zero_le _, rfl, own_nil 2 (St.all w1)⟩, ?_⟩
  rintro _ o _ c1 _ w2 ⟨j, rfl, hj, rfl, h⟩
  have hkl : (kernN g (I.take j) s).length ≤ j := by have := kernN_len g (I.take j) s; rw [List.length_take] at this; omega
  refine br_intro (fun h1 => ?_) fun h1 => ?_
  rotate_left
  · have h1 : j = l := by have := of_decide_eq_false h1; omega
    rw [h1, List.take_of_length_le (by omega)] at h hkl
    rw [h1, List.take_of_length_le (by omega)]
    refine (d_Laid (own_rdI2 h) (by omega)).mono ?_
    rintro _ w12 ⟨o7, c7, rfl, h7⟩
    exact ⟨_, _, _, rfl, _, _, rfl, h7.on1 (starL_sub (has_i gw) (rdH 1 h.l))⟩
  have h1 : j < l := by have := of_decide_eq_true h1; omega
  obtain ⟨y, ad, hy, rfl, cy⟩ := rdIt_get hx h1
  have row : rowH (hp w1) (ad.add (mulS j 2)) (encT y) := by
    obtain ⟨ad', vs, e, r, e2⟩ := hx.2 j y hy
    cases e; rw [show vs = encT y from e2] at r; exact r
  have hyf := hf y (List.mem_of_getElem? hy)
  have hyd : 0 ≤ y.dot ∧ y.dot ≤ 17592186043904 := by
    obtain ⟨_, h2, p, hp, h3⟩ := hyf
    have := hbr p (List.mem_of_getElem? hp); omega
  have hk1 : kernN g (I.take (j + 1)) s = if s = aft g y then kernN g (I.take j) s ++ [⟨y.prod, y.dot + 1⟩] else kernN g (I.take j) s := by
    rw [List.take_add_one, hy, Option.toList_some, kernN_snoc]
  have hj1 : inI ((j : Int) + 1) := ⟨by omega, by omega⟩
  have z1 : ((kernN g (I.take j) s).length + 1) * 16 ≤ 140737488355328 ∧ (kernN g (I.take j) s).length < 9223372036854775807 := ⟨Nat.le_trans (Nat.mul_le_mul_right 16 (Nat.succ_le_succ hkl)) (by omega), Nat.lt_of_le_of_lt hkl (by omega)⟩
  generalize kernN g (I.take j) s = K at h hk1 z1 hkl
  intro w3 hd
  have h := h.eq (drawn_hp hd)
  have s3 : sub (hp w1) (hp w3) := rdH 1 h.l
  refine ⟨fun u => sub (hp w1) (hp u), s3, _, _, _, _, _, _, _, _, _, _, _, _, _, fun u s => B.row s, idx_n rfl h1 ⟨_, _, fun u s => cy u s, (d_After (hg.mono s3) hyf).mono ?_⟩⟩
  rintro _ w6 ⟨rfl, g6⟩
  have h := h.gr g6
  refine ⟨_, rfl, rdH 1 h.l, br_intro (fun h2 => ?_) fun h2 => ?_⟩
  · have h2 : s = aft g y := (beq_iff_eq.1 h2).symm
    rw [if_pos h2] at hk1
    intro w7 hd7
    have h := h.eq (drawn_hp hd7)
    refine ⟨fun u => sub (hp w1) (hp u), rdH 1 h.l, idx_n rfl h1 ⟨_, fun u s => row.cell0 s, idx_n rfl h1 ⟨_, fun u s => row.cell s (j := 1) rfl, ⟨by omega, by omega⟩, newC_i h fun k12 w10 h => ⟨rdH 2 h.l, ?_⟩⟩⟩⟩
    refine (app_one (us := tv K) tyOk (rfl : kdOfT Ty _ = .slice _) (rfl : kdOfT Ty _ = .slice _) rfl rfl rfl h rfl (by simp [oneC]) z1.1 z1.2).mono ?_
    rintro _ w11 ⟨o6, c6, rfl, h⟩
    have e : tv (K ++ [⟨y.prod, y.dot + 1⟩]) = tv K ++ [.int .i64 y.prod, .int .i64 (y.dot + 1)] := by rw [tv_app]; rfl
    refine ⟨_, _, _, rfl, rdH 2 h.l, hj1, ⟨j + 1, by simp, h1, by rw [hk1]; simp, ?_⟩, msr h1⟩
    rw [hk1, e]
    exact h.pick 3 [0, 2]
  · have h2 : s ≠ aft g y := fun e => by rw [e] at h2; simp at h2
    rw [if_neg h2] at hk1
    exact ⟨hj1, ⟨j + 1, by simp, h1, by rw [hk1], by rw [hk1]; exact h⟩, msr h1⟩
theorem cls_fit (hf : fitsB g I) : fitsB g (cls g I) := fun x hx => (cls_mem.1 hx).fit hf
end Go.Proofs.YtkmjjnjngcpjmaaGreatDoor
set_option linter.unusedVariables false
set_option maxRecDepth 4000
namespace Go.V
def stRd (h : Hp) (ss : List SQ) (o : Option Addr) : Prop := ∀ (i : Nat) q, ss[i]? = some q → ∃ ad, o = some ad ∧ rowH h (ad.add (mulS i 2)) (stV q) ∧ rdS h q.1.2 q.1.1.1 q.1.2.length ∧ rdS h q.2.2 q.2.1.1 q.2.2.length
theorem stRd.mono {h h' : Hp} {ss : List SQ} {o : Option Addr} (s : sub h h') (r : stRd h ss o) : stRd h' ss o := fun i q hq => by
  obtain ⟨ad, h1, h2, h3, h4⟩ := r i q hq
  exact ⟨ad, h1, h2.mono s, h3.mono s, h4.mono s⟩
theorem rdEd_of {h : Hp} {xs : List EdgeT} {a : Option Addr} {l : Nat} (hl : xs.length = l) (r : rdV a (ev2 xs) h) : rdS h xs a l := by
  refine ⟨hl, fun i x hx => ?_⟩
  rcases r with e | ⟨ad, rfl, hc⟩
  · have h1 := congrArg List.length e
    rw [ev2_len, List.length_nil] at h1
    have := (List.getElem?_eq_some_iff.1 hx).1; omega
  · exact ⟨ad, encE x, rfl, rowH_unflat (n := 2) (fun _ => rfl) xs ad hc i x hx, rfl⟩
theorem rdEd_get {h : Hp} {xs : List EdgeT} {a : Option Addr} {l : Nat} (r : rdS h xs a l) {i : Nat} (hi : i < l) : ∃ x ad, xs[i]? = some x ∧ a = some ad ∧ rowH h (ad.add (mulS i 2)) (encE x) := by
  obtain ⟨x, ad, vs, hx, ha, hr, e⟩ := r.get hi
  rw [show vs = encE x from e] at hr
  exact ⟨x, ad, hx, ha, hr⟩
theorem stRd_of {h : Hp} {L : List Asn} {ss : List SQ} {o : Option Addr} {n c : Nat} (hs : starL (own 2 o n c (ssV ss) :: sta (kOw ss) :: sta (eOw ss) :: L) h) : stRd h ss o := fun i q hq => by
  obtain ⟨ad, e, r⟩ := st_row (rdOv 0 hs) hq
  obtain ⟨h1, s1, a1⟩ := staRead (starL_tail hs) (kOw_get hq)
  obtain ⟨h2, s2, a2⟩ := staRead (starL_tail (starL_tail hs)) (eOw_get hq)
  exact ⟨ad, e, r, (owQ_rdI a1).mono s1, (rdEd_of rfl (own_rdVh a2)).mono s2⟩
def symsTo (g : GramT) (K : Kern) (s : Nat) : List Nat := (List.range s).filter fun s => decide (kern g K s ≠ [])
section
variable {g : GramT} {K : Kern} {ss : List SQ} {asked : Int} {i s : Nat} {es : List EdgeT}
theorem symsTo_succ : symsTo g K (s + 1) = symsTo g K s ++ if kern g K (s : Int) ≠ [] then [s] else [] := by
  unfold symsTo
  rw [List.range_succ, List.filter_append]
  congr 1
  by_cases h : kern g K (s : Int) ≠ []
  · simp [h]
  · simp [h]
theorem symsTo_pre : ∀ (s n : Nat), s ≤ n → ∃ t, symsTo g K n = symsTo g K s ++ t
  | s, 0, h => ⟨[], by have : s = 0 := by omega
                       subst this; simp⟩
  | s, n + 1, h => by
    by_cases e : s = n + 1
    · subst e; exact ⟨[], by simp⟩
    · obtain ⟨t, ht⟩ := symsTo_pre s n (by omega)
      exact ⟨t ++ if kern g K (n : Int) ≠ [] then [n] else [], by rw [symsTo_succ, ht, List.append_assoc]⟩
theorem symsTo_take (h : s ≤ g.T + g.N) : symsTo g K s = (symsOf g K).take (symsTo g K s).length := by
  obtain ⟨t, ht⟩ := symsTo_pre (g := g) (K := K) s _ h
  rw [show symsOf g K = symsTo g K (g.T + g.N) from rfl, ht, List.take_left' rfl]
theorem kern_0 (hc : ClosedP g) (hf : ∀ x ∈ K, fitI g x) : kern g K 0 = [] := by
  refine Classical.byContradiction fun h => ?_
  have := kern_sym (s := 0) hc hf (Int.le_refl _) h
  omega
structure RldI (g : GramT) (ss : List SQ) (asked : Int) (i : Nat) : Prop where
  ks : ksOf ss = (bst g i).1
  es : esOf ss = (bst g i).2 ++ List.replicate (ss.length - i) []
  lt : ∀ j, j < i → j < (bst g j).1.length
  le : ss.length ≤ 256
  ask : asked = 1 + (totE (bst g i).2 : Int)
structure RltI (g : GramT) (K : Kern) (ss : List SQ) (asked : Int) (i s : Nat) (es : List EdgeT) : Prop where
  ks : ksOf ss = (bsy g K (symsTo g K s) ((bst g i).1, [])).1
  ed : es = (bsy g K (symsTo g K s) ((bst g i).1, [])).2
  eL : esOf ss = (bst g i).2 ++ es :: List.replicate (ss.length - i - 1) []
  le : ss.length ≤ 256
  ask : asked = 1 + (totE (bst g i).2 : Int) + es.length
theorem RldI.start {b : Option Addr} {d : Nat} : RldI g [(((b, d), [⟨0, 0⟩]), ((none, 0), []))] 1 0 := ⟨rfl, rfl, fun j hj => by omega, by simp, rfl⟩
theorem RldI.inner (h : RldI g ss asked i) (hi : i < ss.length) (h0 : kern g K 0 = []) : RltI g K ss asked i 1 [] := by
  have e : symsTo g K 1 = [] := by rw [show (1 : Nat) = 0 + 1 from rfl, symsTo_succ]; simp [h0, symsTo]
  refine ⟨by rw [e]; exact h.ks, by rw [e]; rfl, ?_, h.le, by rw [h.ask]; simp⟩
  rw [h.es, show ss.length - i = (ss.length - i - 1) + 1 by omega, List.replicate_succ]; simp
theorem RltI.skip (h : RltI g K ss asked i s es) (hk : kern g K (s : Int) = []) : RltI g K ss asked i (s + 1) es := by
  have e : symsTo g K (s + 1) = symsTo g K s := by rw [symsTo_succ]; simp [hk]
  exact ⟨by rw [e]; exact h.ks, by rw [e]; exact h.ed, h.eL, h.le, h.ask⟩
theorem newS_es (ss : List SQ) (b : Option Addr) (d : Nat) (K : Kern) : esOf (newS ss b d K) = esOf ss ++ List.replicate ((newS ss b d K).length - ss.length) [] := by
  unfold newS
  split
  · simp
  · simp [esOf]
theorem RltI.next (h : RltI g K ss asked i s es) (hk : kern g K (s : Int) ≠ []) (hi : i < ss.length) (hes : (bst g i).2.length = i) {b : Option Addr} {d : Nat} (hle : (newS ss b d (kern g K s)).length ≤ 256) {q : SQ} (hq : (newS ss b d (kern g K s))[i]? = some q) (E : Lq EdgeT)
    (hE : E.2 = es ++ [⟨(s : Int), (((ksOf ss).idxOf (kern g K s) : Nat) : Int)⟩]) : RltI g K ((newS ss b d (kern g K s)).set i (q.1, E)) (asked + 1) i (s + 1) E.2 := by
  have e : symsTo g K (s + 1) = symsTo g K s ++ [s] := by rw [symsTo_succ, if_pos hk]
  have hs := ks_set hq E
  have hnl := newS_len ss b d (kern g K s)
  refine ⟨?_, ?_, ?_, by rw [List.length_set]; exact hle, by rw [h.ask, hE]; simp; omega⟩
  · rw [hs.1, newS_ks, e, bsy_snoc, h.ks]
  · rw [hE, e, bsy_snoc, h.ed, h.ks]
  · rw [hs.2.2.1, newS_es, h.eL, List.length_set, List.append_assoc, List.set_append_right _ _ (by omega), hes, Nat.sub_self, List.cons_append, List.set_cons_zero, List.replicate_append_replicate]
    congr 3
    omega
theorem RltI.done (h : RltI g K ss asked i (g.T + g.N) es) (hb : ∀ j, j < i → j < (bst g j).1.length) (hK : (bst g i).1[i]? = some K) : RldI g ss asked (i + 1) := by
  have hb1 := bst_succ hK
  refine ⟨by rw [hb1]; exact h.ks, ?_, fun j hj => ?_, h.le, ?_⟩
  · rw [hb1, h.eL, h.ed, List.append_assoc]; rfl
  · by_cases e2 : j = i
    · subst e2; exact (List.getElem?_eq_some_iff.1 hK).1
    · exact hb j (by omega)
  · rw [hb1, totE_snoc, h.ask, h.ed]
    show _ = 1 + ((totE (bst g i).2 + (bsy g K (symsOf g K) ((bst g i).1, [])).2.length : Nat) : Int)
    rw [show symsOf g K = symsTo g K (g.T + g.N) from rfl]
    omega
theorem RltI.len (h : RltI g K ss asked i s es) (hs : s ≤ g.T + g.N) : es.length ≤ s := by
  rw [h.ed, bsy_len2]
  have := List.length_filter_le (fun s => decide (kern g K (s : Nat) ≠ [])) (List.range s)
  rw [List.length_range] at this
  simpa [symsTo] using this
theorem RltI.get (h : RltI g K ss asked i s es) (hes : (bst g i).2.length = i) {q : SQ} (hq : ss[i]? = some q) : q.2.2 = es := by
  have h1 : (esOf ss)[i]? = some q.2.2 := by unfold esOf; rw [List.getElem?_map, hq]; rfl
  rw [h.eL, List.getElem?_append_right (by omega), hes, Nat.sub_self] at h1
  simpa using h1.symm
end
end Go.V
namespace Go.Proofs.YtkmjjnjngcpjmaaGreatDoor
open Go.V
variable {w : World} {L : List Asn} {g : GramT} {x : GA} {a a2 : Option Addr} {l c l2 c2 : Nat} {I J : List ItemT}
theorem d_place {ss : List SQ} {o : Option Addr} (hs : stRd (hp w) ss o) (hx : rdS (hp w) I a l) (hn : ss.length ≤ 300) (hk : ∀ q ∈ ss, q.1.2.length ≤ 4611686018427387904) : Run Tryz.prog n_presageref09_place [.slice o ss.length c, .slice a l c2] w fun v w' => v = .int .i64 (if I ∈ ksOf ss then (((ksOf ss).idxOf I : Nat) : Int) else -1) ∧ hp w' = hp w := by
  refine run_presageref09_place _ _ _ _ _ _ w _ ⟨fun z w' => ∃ j : Nat, z = j ∧ j ≤ ss.length ∧ I ∉ (ksOf ss).take j ∧ hp w' = hp w, fun z _ => ss.length - z.toNat, ⟨0, rfl, Nat.zero_le _, by simp, rfl⟩, ?_⟩
  rintro _ _ w1 ⟨j, rfl, hj, hni, e1⟩
  refine br_intro (fun h1 => ?_) fun h1 => ?_
  rotate_left
  · have h1 : j = ss.length := by have := of_decide_eq_false h1; omega
    rw [h1, List.take_of_length_le (by rw [ksOf_len]; exact Nat.le_refl _)] at hni
    exact ⟨by rw [if_neg hni], e1⟩
  have h1 : j < ss.length := by have := of_decide_eq_true h1; omega
  have hq : ss[j]? = some ss[j] := List.getElem?_eq_getElem h1
  obtain ⟨ad, rfl, r, rk, _⟩ := hs j _ hq
  have hkj : (ksOf ss)[j]? = some (ss[j]).1.2 := by unfold ksOf; rw [List.getElem?_map, hq]; rfl
  refine idx_n rfl h1 ⟨_, _, _, r.cell0 (hp_sub e1), (d_SameItems (by rw [e1]; exact rk) (by rw [e1]; exact hx) (hk _ (List.mem_of_getElem? hq))).mono ?_⟩
  rintro _ w2 ⟨rfl, e2⟩
  refine ⟨_, rfl, br_intro (fun h2 => ?_) fun h2 => ?_⟩
  · have h2 : (ss[j]).1.2 = I := of_decide_eq_true h2
    rw [h2] at hkj
    have hm := List.mem_of_getElem? hkj
    rw [if_pos hm]
    have hjl : j < (ksOf ss).length := (List.getElem?_eq_some_iff.1 hkj).1
    have : (ksOf ss).idxOf I = j := by
      refine Nat.le_antisymm (Nat.le_of_not_lt fun hlt => ?_) (Nat.le_of_not_lt fun hlt => hni ?_)
      · have e3 : (ksOf ss).idxOf I ≤ j := by
          have e4 : ksOf ss = (ksOf ss).take j ++ I :: (ksOf ss).drop (j + 1) := by
            rw [← (List.getElem?_eq_some_iff.1 hkj).2, ← List.drop_eq_getElem_cons hjl, List.take_append_drop]
          rw [e4, List.idxOf_append, if_neg hni]
          simp; omega
        omega
      · have := List.getElem_idxOf (List.idxOf_lt_length_of_mem hm)
        refine List.mem_of_getElem? (i := (ksOf ss).idxOf I) ?_
        rw [List.getElem?_take, if_pos hlt, List.getElem?_eq_getElem (List.idxOf_lt_length_of_mem hm), this]
    rw [this]
    exact ⟨rfl, e2.trans e1⟩
  · have h2 : (ss[j]).1.2 ≠ I := of_decide_eq_false h2
    exact ⟨⟨by omega, by omega⟩, ⟨j + 1, by simp, h1, by rw [List.take_add_one, hkj, List.mem_append]; simp [hni, Ne.symm h2], e2.trans e1⟩, msr h1⟩
theorem d_edge {kt c i : Nat} {s t : Int} {o : Option Addr} {rest : List Value} {ss : List SQ} {q : SQ} {X : World → Prop} (h : St w (cel kt (.slice o ss.length c :: rest) :: own 2 o ss.length c (ssV ss) :: sta (eOw ss) :: L)) (hq : ss[i]? = some q) (hsz : q.2.2.length ≤ 1000)
    (hX : ∀ (w' : World) (E : Lq EdgeT), E.2 = q.2.2 ++ [⟨s, t⟩] → St w' (cel kt (.slice o ss.length c :: rest) :: own 2 o ss.length c (ssV (ss.set i (q.1, E))) :: sta (eOw (ss.set i (q.1, E))) :: L) → X w') :
    ∀ w1, drawn w w1 → ∃ C : World → Prop, C w1 ∧ ∃ o1 k1 k2, (∀ u, C u → u.cell? (aM kt) = some (vS o1 k1 k2)) ∧ ∃ o2 k3 k4, (∀ u, C u → u.cell? (aM kt) = some (vS o2 k3 k4)) ∧ idx o2 k3 (i : Int) 2 fun a2 => ∃ o3 k5 k6, (∀ u, C u → u.cell? (Addr.add a2 1) = some (vS o3 k5 k6)) ∧
      new w1 (oC [.int .i64 s, .int .i64 t] ty_api_Edge) fun k7 w2 => C w2 ∧ RunS Tryz.prog (apB ty_s_api_Edge (Array.mk [vS o3 k5 k6, vS (some (aM k7)) 1 1])) w2 fun v w3 => ∃ o4 k8 k9, v = vS o4 k8 k9 ∧ C w3 ∧ idx o1 k1 (i : Int) 2 fun a3 => st1 w3 (Addr.add a3 1) (vS o4 k8 k9) X := by
  intro w1 hd
  have h := h.eq (drawn_hp hd)
  have hil := (List.getElem?_eq_some_iff.1 hq).1
  obtain ⟨ad, rfl, _⟩ := st_row (rdOv 1 h.l) hq
  have cA : ∀ {u : World} {L' : List Asn}, St u (cel kt (.slice (some ad) ss.length c :: rest) :: L') → u.cell? (aM kt) = some (vS (some ad) ss.length c) := fun h => (rdCel 0 h.l).cell0 (sub.refl _)
  have cB : ∀ {u : World} {L' : List Asn}, St u (own 2 (some ad) ss.length c (ssV ss) :: L') → u.cell? ((ad.add (mulS i 2)).add 1) = some (slQ q.2) := fun h => by
    obtain ⟨ad', e, r⟩ := st_row (rdOv 0 h.l) hq
    cases e
    exact r.cell (sub.refl _) (j := 1) rfl
  refine ⟨fun u => u.cell? (aM kt) = some (vS (some ad) ss.length c) ∧ u.cell? ((ad.add (mulS i 2)).add 1) = some (slQ q.2), ⟨cA h, cB (h.pick 2 [1])⟩, _, _, _, fun u hu => hu.1, _, _, _, fun u hu => hu.1, idx_n rfl hil ⟨_, _, _, fun u hu => hu.2, ?_⟩⟩
  have h := St.staGet (h.pick 3 [2, 0, 1]) (eOw_get hq)
  refine newC_i h fun k7 w2 h => ⟨⟨cA (h.pick 4 [3]), cB (h.pick 5 [4])⟩, ?_⟩
  have z1 : (q.2.2.length + 1) * 16 ≤ 140737488355328 ∧ q.2.2.length < 9223372036854775807 := by omega
  refine (app_one (us := ev2 q.2.2) tyOk (rfl : kdOfT Ty _ = .slice _) (rfl : kdOfT Ty _ = .slice _) rfl rfl rfl h rfl (by simp [oneC]) z1.1 z1.2).mono ?_
  rintro _ w3 ⟨o4, c4, rfl, h⟩
  refine ⟨_, _, _, rfl, ⟨cA (h.pick 4 [3]), cB (h.pick 5 [4])⟩, idx_n rfl hil ?_⟩
  rw [add_add, mulS_eq]
  refine own_st1 (h.pick 5 [4, 0, 2, 3]) rfl (by rw [ssV_len]; omega) fun w4 h => ?_
  have e1 := ssV_set hq ((o4, c4), q.2.2 ++ [⟨s, t⟩])
  have e2 := ks_set hq ((o4, c4), q.2.2 ++ [⟨s, t⟩])
  have e3 : (q.2.2 ++ [(⟨s, t⟩ : EdgeT)]).length = q.2.2.length + 1 := by simp
  have e4 : ev2 (q.2.2 ++ [⟨s, t⟩]) = ev2 q.2.2 ++ [.int .i64 s, .int .i64 t] := by unfold ev2; rw [List.flatMap_append]; rfl
  refine hX w4 ((o4, c4), q.2.2 ++ [⟨s, t⟩]) rfl ?_
  rw [← e1, e2.2.2.2]
  have h := St.staPut (M := eOw ss) (n := i) (by unfold eOw; rw [List.length_map]; exact hil) (h.pick 4 [1, 2, 0, 3])
  unfold owQ slQ
  rw [e3, e4]
  exact h.pick 3 [2, 1, 0]
end Go.Proofs.YtkmjjnjngcpjmaaGreatDoor
set_option linter.unusedVariables false
set_option maxRecDepth 4000
namespace Go.Proofs.YtkmjjnjngcpjmaaGreatDoor
open Go.V
variable {w : World} {L : List Asn} {g : GramT} {x : GA}
set_option maxHeartbeats 4000000 in
theorem d_Build (hg : gR (hp w) g x) (hb : okG g) : Run Tryz.prog n_presageref09_Build [.agg ⟨x.cells⟩] w fun v w' =>
    (¬ClosedP g ∧ v = .tuple #[.agg #[.slice none 0 0, .int .i64 0, .int .i64 0], .int .i64 1] ∧ Gr w w') ∨
    (ClosedP g ∧ BigP g ∧ v = .tuple #[.agg #[.slice none 0 0, .int .i64 0, .int .i64 0], .int .i64 11] ∧ Gr w w') ∨
    (ClosedP g ∧ ∃ (o : Option Addr) (c : Nat) (ss : List SQ), AutI g ss ∧ v = .tuple #[.agg #[.slice o ss.length c, .int .i64 (1 + (totE (esOf ss) : Int)), .int .i64 (ss.length : Int)], .int .i64 0] ∧
      St w' (own 2 o ss.length c (ssV ss) :: sta (kOw ss) :: sta (eOw ss) :: all w)) := by
  refine run_presageref09_Build _ _ _ _ _ _ _ _ _ _ _ _ _ w _ (gbox hg fun k1 w1 gw hg B => ?_)
  refine newC_i (St.all w1) fun k2 w2 h => ?_
  refine ⟨_, _, _, _, _, _, _, _, _, _, _, _, _, B.row h.gone1, (d_Closed (hg.mono h.gone1) hb).mono ?_⟩
  rintro _ w3 ⟨⟨rb, rfl, hrb⟩, g3⟩
  have h := h.gr g3
  refine ⟨_, rfl, br_intro (fun h1 => ?_) fun h1 => ?_⟩
  · have hn : ¬ClosedP g := fun hc => by rw [hrb.2 hc] at h1; simp at h1
    exact stR_i h rfl (by simp [oneC]) fun w4 h => ⟨_, _, _, _, _, (rdCel 0 h.l).at (sub.refl _) rfl, .inl ⟨hn, rfl, gw.trans h.gone1⟩⟩
  have hc : ClosedP g := hrb.1 (by simpa using h1)
  obtain ⟨hT, hN, hP, hP2, hT1, hN2⟩ := hc.sizes
  refine newC_i h fun kt w5 h => stR_i h rfl (by simp [oneC]) fun w6 h => ⟨_, _, _, (rdCel 0 h.l).cell0 (sub.refl _), newC_i h fun k16 w7 h => newC_i h fun k17 w8 h => ?_⟩
  refine (app_one (us := []) tyOk (rfl : kdOfT Ty _ = .slice _) (rfl : kdOfT Ty _ = .slice _) rfl rfl rfl ((own_nil 2 h).pick 2 [1, 0]) rfl (by simp [oneC]) (by decide) (by decide)).mono ?_
  rintro _ w9 ⟨o7, c7, rfl, h⟩
  refine ⟨_, _, _, rfl, st1_i (h.pick 4 [3, 0, 2]) (by simp) fun w10 h => ?_⟩
  have h : St w10 (cel kt [.slice o7 1 c7, .int .i64 1, .int .i64 1] :: own 2 o7 1 c7 [.slice (some (aM k16)) 1 1, .slice none 0 0] :: cel k16 [.int .i64 0, .int .i64 0] :: cel k2 z3 :: all w1) := h
  have h : St w10 (own 2 (some (aM k16)) 1 1 (tv [⟨0, 0⟩]) :: cel kt [.slice o7 1 c7, .int .i64 1, .int .i64 1] :: own 2 o7 1 c7 [.slice (some (aM k16)) 1 1, .slice none 0 0] :: cel k2 z3 :: all w1) := own_some (cs := []) (h.pick 3 [2, 0, 1]) rfl rfl (Nat.le_refl _)
  have h := St.snoc (M := []) (((St.flat (M := [])).2 h).pick 2 [1, 0])
  have h := St.snoc (M := []) ((own_nil 2 ((St.flat (M := [])).2 h)).pick 2 [0, 1])
  refine ⟨fun z w' => ∃ (i : Nat) (ss : List SQ) (o : Option Addr) (c : Nat) (asked : Int), z = i ∧ i ≤ ss.length ∧ RldI g ss asked i ∧ St w' (cel kt [.slice o ss.length c, .int .i64 asked, .int .i64 (ss.length : Int)] :: own 2 o ss.length c (ssV ss) :: sta (kOw ss) :: sta (eOw ss) :: cel k2 z3 :: all w1), fun z _ => 300 - z.toNat,
    ⟨0, [(((some (aM k16), 1), [⟨0, 0⟩]), ((none, 0), []))], o7, c7, 1, rfl, Nat.zero_le _, .start, h.pick 5 [2, 3, 1, 0, 4]⟩, ?_⟩
  clear h
  rintro _ _ w11 ⟨i, ss, o, c, asked, rfl, hi, hB, h⟩
  have hlen : ss.length ≤ 256 := hB.le
  refine ⟨_, _, _, (rdCel 0 h.l).cell0 (sub.refl _), br_intro (fun h1 => ?_) fun h1 => ?_⟩
  rotate_left
  · have h1 : i = ss.length := by have := of_decide_eq_false h1; omega
    subst h1
    have hkl := ksOf_len ss
    have hes := hB.es
    rw [Nat.sub_self, List.replicate_zero, List.append_nil] at hes
    have hA : AutI g ss := ⟨⟨by rw [← hB.ks, hkl], hlen, hB.lt⟩, hB.ks, hes⟩
    have r0 : rowH (hp w11) (aM kt) [.slice o ss.length c, .int .i64 asked, .int .i64 (ss.length : Int)] := rdCel 0 h.l
    refine ⟨_, _, _, _, _, r0.at (sub.refl _) rfl, stR_i (h.pick 6 [4, 1, 2, 3, 5]) rfl (by simp [oneC]) fun w32 h => ⟨_, _, _, _, _, (rdCel 0 h.l).at (sub.refl _) rfl, .inr (.inr ⟨hc, o, c, ss, hA, ?_, ?_⟩)⟩⟩
    · rw [hes, ← hB.ask]
    · exact St.on (N := [_, _, _]) (h.pick 5 [1, 2, 3, 4]) (has_i gw)
  have h1 : i < ss.length := by have := of_decide_eq_true h1; omega
  obtain ⟨q, hq⟩ : ∃ q, ss[i]? = some q := ⟨_, List.getElem?_eq_getElem h1⟩
  obtain ⟨K, hKq⟩ : ∃ K, K = q.1.2 := ⟨_, rfl⟩
  have hK : (bst g i).1[i]? = some K := by rw [← hB.ks]; unfold ksOf; rw [List.getElem?_map, hq, hKq]; rfl
  have hI := bst_inv (g := g) (by omega) i
  have hKm := List.mem_of_getElem? hK
  have hKf := hI.fit K hKm
  have hKd : ∀ x ∈ K, x.dot ≤ i := hI.dots i K hK
  have hKl := kern_len hP (hI.srt K hKm) hKf fun x hx => by have := hKd x hx; omega
  have htot := totE_le (g := g) i
  have htot2 : totE (bst g i).2 ≤ 33280 := Nat.le_trans htot (Nat.mul_le_mul (show i ≤ 256 by omega) (show g.T + g.N ≤ 130 by omega))
  have hes := bst_es (g := g) i (by rw [← hB.ks, ksOf_len]; omega)
  have hkap : ∀ q ∈ ss, q.1.2.length ≤ 29100 := fun q hq => by
    obtain ⟨j, hj⟩ := List.getElem?_of_mem hq
    have e : (bst g i).1[j]? = some q.1.2 := by rw [← hB.ks]; unfold ksOf; rw [List.getElem?_map, hj]; rfl
    have hm := List.mem_of_getElem? e
    have hjl := (List.getElem?_eq_some_iff.1 hj).1
    exact kern_len hP (hI.srt _ hm) (hI.fit _ hm) fun x hx => by have := hI.dots j _ e x hx; omega
  have hql : q.1.2.length = K.length := by rw [hKq]
  have hz16 : q.1.2.length * 16 ≤ 140737488351232 := by rw [hql]; omega
  intro w12 hd
  have h := h.eq (drawn_hp hd)
  have s12 : sub (hp w1) (hp w12) := rdH 5 h.l
  have rt : rowH (hp w12) (aM kt) [.slice o ss.length c, .int .i64 asked, .int .i64 (ss.length : Int)] := rdCel 0 h.l
  obtain ⟨ad, rfl, rs, rk0, _⟩ := stRd_of (h.pick 4 [1, 2, 3]).l i q hq
  have rk : rdS (hp w12) K q.1.1.1 q.1.2.length := by rw [hKq]; exact rk0
  clear rk0
  refine ⟨fun u => Gr w12 u, Gr.refl _, _, _, _, _, _, _, _, _, _, _, _, _, _, fun u s => B.row (sub.trans s12 s), _, _, _, fun u s => rt.cell0 s, idx_n rfl h1 ⟨_, _, _, fun u s => rs.cell0 s, (d_ClosedI (hg.mono s12) hb hc rk hKf hz16).mono ?_⟩⟩
  rintro _ w16 ⟨oc, cc, rfl, h16⟩
  have h := h16.on1 h.l
  have hcl := cls_len g K
  refine ⟨_, _, _, rfl, h16.gone1, fun z w' => ∃ (s : Nat) (ss' : List SQ) (es : List EdgeT) (o' : Option Addr) (c' : Nat) (asked' : Int), z = s ∧ 1 ≤ s ∧ s ≤ g.T + g.N ∧ RltI g K ss' asked' i s es ∧ ss.length ≤ ss'.length ∧ (∀ q ∈ ss', q.1.2.length ≤ 29300) ∧
      St w' (cel kt [.slice o' ss'.length c', .int .i64 asked', .int .i64 (ss'.length : Int)] :: own 2 o' ss'.length c' (ssV ss') :: sta (kOw ss') :: sta (eOw ss') :: own 2 oc (cls g K).length cc (tv (cls g K)) :: cel k2 z3 :: all w1), fun z _ => 200 - z.toNat,
    ⟨1, ss, [], some ad, c, asked, rfl, Nat.le_refl _, by omega, hB.inner h1 (kern_0 hc hKf), Nat.le_refl _, fun q hq => Nat.le_trans (hkap q hq) (by omega), h.pick 5 [1, 2, 3, 4, 0]⟩, ?_⟩
  clear h h16 rs rk rt hq hKq hql
  rintro _ _ w17 ⟨s, ss', es, o', c', asked', rfl, hs1, hs2, hL, hle, hkap, h⟩
  have hle2 : ss'.length ≤ 256 := hL.le
  have hesl := hL.len hs2
  have s17 : sub (hp w1) (hp w17) := rdH 6 h.l
  refine ⟨_, _, _, _, _, _, _, _, _, _, _, _, _, B.row s17, (d_Symbols (hg.mono s17) hb).mono ?_⟩
  rintro _ w18 ⟨rfl, g18⟩
  have h := h.gr g18
  refine ⟨_, rfl, br_intro (fun h2 => ?_) fun h2 => ?_⟩
  rotate_left
  · have h2 : s = g.T + g.N := by have := of_decide_eq_false h2; omega
    rw [h2] at hL
    exact ⟨⟨by omega, by omega⟩, ⟨i + 1, ss', o', c', asked', by simp, by omega, hL.done hB.lt hK, h.pick 6 [0, 1, 2, 3, 5]⟩, by dsimp only; omega⟩
  have h2 : s < g.T + g.N := by have := of_decide_eq_true h2; omega
  have s18 : sub (hp w1) (hp w18) := rdH 6 h.l
  have hsI : inI ((s : Int) + 1) := ⟨by omega, by omega⟩
  have hms : 200 - ((s : Int) + 1).toNat < 200 - (s : Int).toNat := by omega
  have hKk : ∀ x ∈ kern g K (s : Int), fitI g x := kern_fit hKf (Int.natCast_nonneg _)
  have hkl2 : (kern g K (s : Int)).length ≤ (cls g K).length := kernN_len g _ _
  have hkl3 : (kern g K (s : Int)).length ≤ 29300 := Nat.le_trans hkl2 (Nat.le_trans hcl (by omega))
  have hcf : fitsB g (cls g K) := cls_fit hKf
  refine ⟨_, _, _, _, _, _, _, _, _, _, _, _, _, B.row s18, (d_from (s := (s : Int)) (hg.mono s18) hb (own_rdI2 (h.pick 5 [4])) hcf (Nat.le_trans hcl (by omega))).mono ?_⟩
  rintro _ w19 ⟨o24, c24, rfl, h19⟩
  have h := h19.on1 h.l
  have elk : lay (kernN g (cls g K) (s : Int)) = kern g K (s : Int) := lay_same kern_srt
  rw [elk] at h ⊢
  clear h19
  refine ⟨_, _, _, rfl, br_intro (fun h3 => ?_) fun h3 => ?_⟩
  · have h3 : kern g K (s : Int) = [] := by
      have := eq_of_beq h3
      exact List.eq_nil_of_length_eq_zero (by omega)
    exact ⟨hsI, ⟨s + 1, ss', es, o', c', asked', by simp, by omega, h2, hL.skip h3, hle, hkap, h.pick 8 [1, 2, 3, 4, 5, 6, 7]⟩, hms⟩
  have h3 : kern g K (s : Int) ≠ [] := fun e => by rw [e] at h3; simp at h3
  have hask := hL.ask
  refine ⟨_, (rdCel 1 h.l).cell (sub.refl _) (j := 1) rfl, ⟨by omega, by omega⟩, ?_⟩
  rw [add_lit0]
  refine st1_i (h.pick 2 [1, 0]) (by simp) fun w20 h => ?_
  have h : St w20 (cel kt [.slice o' ss'.length c', .int .i64 (asked' + 1), .int .i64 (ss'.length : Int)] :: own 2 o24 (kern g K (s : Int)).length c24 (tv (kern g K (s : Int))) :: own 2 o' ss'.length c' (ssV ss') :: sta (kOw ss') :: sta (eOw ss') :: own 2 oc (cls g K).length cc (tv (cls g K)) :: cel k2 z3 :: all w1) := h
  refine ⟨_, _, _, (rdCel 0 h.l).cell0 (sub.refl _), (d_place (c := c') (c2 := c24) (stRd_of (h.pick 5 [2, 3, 4]).l) (own_rdI2 (h.pick 2 [1])) (by omega) fun q hq => Nat.le_trans (hkap q hq) (by decide)).mono ?_⟩
  rintro _ w21 ⟨rfl, e21⟩
  have h := h.eq e21
  have hnl := newS_len ss' o24 c24 (kern g K (s : Int))
  obtain ⟨q, hq⟩ : ∃ q, ss'[i]? = some q := ⟨_, List.getElem?_eq_getElem (by omega)⟩
  have hqe := hL.get hes hq
  refine ⟨_, rfl, br_intro (fun h4 => ?_) fun h4 => ?_⟩
  rotate_left
  · have hm : kern g K (s : Int) ∈ ksOf ss' := Classical.byContradiction fun hn => by rw [if_neg hn] at h4; exact absurd (of_decide_eq_false h4) (by decide)
    have hnS : newS ss' o24 c24 (kern g K (s : Int)) = ss' := by unfold newS; rw [if_pos hm]
    rw [if_pos hm]
    refine d_edge (h.pick 5 [0, 2, 4, 3]) hq (by rw [hqe]; omega) fun w40 E hE h => ?_
    have hn := hL.next (b := o24) (d := c24) (q := q) h3 (by omega) hes (by rw [hnS]; exact hle2) (by rw [hnS]; exact hq) E (by rw [hE, hqe])
    rw [hnS] at hn
    have e2 := ks_set hq E
    refine ⟨hsI, ⟨s + 1, ss'.set i (q.1, E), E.2, o', c', asked' + 1, by simp, by omega, h2, hn, by rw [List.length_set]; exact hle, fun r hr => ?_, ?_⟩, hms⟩
    · rcases List.mem_or_eq_of_mem_set hr with hr | rfl
      · exact hkap r hr
      · exact hkap q (List.mem_of_getElem? hq)
    · rw [List.length_set, e2.2.1]
      exact h.pick 4 [0, 1, 3, 2]
  have hm : kern g K (s : Int) ∉ ksOf ss' := fun hm => by
    rw [if_pos hm] at h4
    have := of_decide_eq_true h4; omega
  have hnS : newS ss' o24 c24 (kern g K (s : Int)) = ss' ++ [(((o24, c24), kern g K (s : Int)), ((none, 0), []))] := by unfold newS; rw [if_neg hm]
  refine ⟨_, _, _, (rdCel 0 h.l).cell0 (sub.refl _), br_intro (fun h5 => ?_) fun h5 => ?_⟩
  · have h5 : 256 ≤ ss'.length := by have := of_decide_eq_true h5; omega
    refine stR_i (h.pick 8 [6, 7]) rfl (by simp [oneC]) fun w22 h => ⟨_, _, _, _, _, (rdCel 0 h.l).at (sub.refl _) rfl, .inr (.inl ⟨hc, ⟨i, K, (symsTo g K (s + 1)).length, hK, fun j hj => ?_, ?_⟩, rfl, sub.trans gw (rdH 1 h.l)⟩)⟩
    · by_cases e : j = i
      · subst e; exact (List.getElem?_eq_some_iff.1 hK).1
      · exact hB.lt j (by omega)
    · rw [← symsTo_take (g := g) (K := K) (s := s + 1) h2, symsTo_succ, if_pos h3, bsy_snoc, ← hL.ks]
      show 256 < (inK _ _).length
      unfold inK
      rw [if_neg hm, List.length_append, ksOf_len]; simp; omega
  have h5 : ss'.length < 256 := by have := of_decide_eq_false h5; omega
  refine ⟨_, (rdCel 0 h.l).cell (sub.refl _) (j := 2) rfl, ⟨by omega, by omega⟩, ?_⟩
  rw [add_lit0]
  refine st1_i h (by simp) fun w23 h => ⟨_, _, _, (rdCel 0 h.l).cell0 (sub.refl _), newC_i h fun k62 w24 h => ?_⟩
  have z1 : (ss'.length + 1) * 48 ≤ 140737488355328 ∧ ss'.length < 9223372036854775807 := by omega
  refine (app_one (us := ssV ss') tyOk (rfl : kdOfT Ty _ = .slice _) (rfl : kdOfT Ty _ = .slice _) rfl rfl rfl (h.pick 4 [0, 3, 1, 2]) rfl (by simp [oneC]) z1.1 z1.2).mono ?_
  rintro _ w25 ⟨o29, c29, rfl, h⟩
  refine ⟨_, _, _, rfl, st1_i (h.pick 4 [2, 0, 3]) (by simp) fun w26 h => ?_⟩
  have h : St w26 (cel kt [.slice o29 (ss'.length + 1) c29, .int .i64 (asked' + 1), .int .i64 ((ss'.length : Int) + 1)] :: own 2 o29 (ss'.length + 1) c29 (ssV ss' ++ [.slice o24 (kern g K (s : Int)).length c24, .slice none 0 0]) :: own 2 o24 (kern g K (s : Int)).length c24 (tv (kern g K (s : Int))) :: sta (kOw ss') :: sta (eOw ss') :: own 2 oc (cls g K).length cc (tv (cls g K)) :: cel k2 z3 :: all w1) := h
  have h := St.snoc (h.pick 4 [2, 3, 0, 1])
  have h := St.snoc ((own_nil 2 h).pick 5 [0, 4, 1, 2, 3])
  have h : St w26 (sta (eOw ss' ++ [own 2 none 0 0 []]) :: sta (kOw ss' ++ [own 2 o24 (kern g K (s : Int)).length c24 (tv (kern g K (s : Int)))]) :: cel kt [.slice o29 (ss'.length + 1) c29, .int .i64 (asked' + 1), .int .i64 ((ss'.length : Int) + 1)] :: own 2 o29 (ss'.length + 1) c29 (ssV ss' ++ [.slice o24 (kern g K (s : Int)).length c24, .slice none 0 0]) :: own 2 oc (cls g K).length cc (tv (cls g K)) :: cel k2 z3 :: all w1) := h
  have e3 : ssV (ss' ++ [(((o24, c24), kern g K (s : Int)), ((none, 0), []))]) = ssV ss' ++ [.slice o24 (kern g K (s : Int)).length c24, .slice none 0 0] := by rw [ssV_snoc]; rfl
  have e4 : kOw (ss' ++ [(((o24, c24), kern g K (s : Int)), ((none, 0), []))]) = kOw ss' ++ [own 2 o24 (kern g K (s : Int)).length c24 (tv (kern g K (s : Int)))] := by simp [kOw, owQ]
  have e5 : eOw (ss' ++ [(((o24, c24), kern g K (s : Int)), ((none, 0), []))]) = eOw ss' ++ [own 2 none 0 0 []] := by simp [eOw, owQ, ev2]
  have e6 : (ss' ++ [(((o24, c24), kern g K (s : Int)), (((none, 0), []) : Lq EdgeT))]).length = ss'.length + 1 := by simp
  have e7 : ((ss'.length : Int) + 1) = ((ss'.length + 1 : Nat) : Int) := by omega
  have eix : ((ksOf ss').idxOf (kern g K (s : Int)) : Nat) = ss'.length := by rw [List.idxOf_eq_length hm, ksOf_len]
  rw [← e3, ← e4, ← e5, e7, ← e6] at h
  obtain ⟨q2, hq2⟩ : ∃ q2, (newS ss' o24 c24 (kern g K (s : Int)))[i]? = some q2 := ⟨_, List.getElem?_eq_getElem (by omega)⟩
  have hq3 := hq2
  rw [hnS] at hq3
  have e8 : q2 = q := by rw [List.getElem?_append_left (by omega), hq] at hq3; exact (Option.some.inj hq3).symm
  subst e8
  refine d_edge (t := (ss'.length : Int)) (h.pick 4 [2, 3, 0, 1]) hq3 (by rw [hqe]; omega) fun w40 E hE h => ?_
  have hn := hL.next (b := o24) (d := c24) (q := q2) h3 (by omega) hes (by rw [hnS, e6]; omega) hq2 E (by rw [hE, hqe, eix])
  rw [hnS] at hn
  have e2 := ks_set hq3 E
  refine ⟨hsI, ⟨s + 1, _, E.2, o29, c29, asked' + 1, by simp, by omega, h2, hn, by rw [List.length_set, e6]; omega, fun r hr => ?_, ?_⟩, hms⟩
  · rcases List.mem_or_eq_of_mem_set hr with hr | rfl
    · rcases List.mem_append.1 hr with hr | hr
      · exact hkap r hr
      · rw [List.mem_singleton] at hr; subst hr; exact hkl3
    · exact hkap q2 (List.mem_of_getElem? hq)
  · rw [List.length_set, e2.2.1]
    exact h.pick 4 [0, 1, 3, 2]
end Go.Proofs.YtkmjjnjngcpjmaaGreatDoor

set_option linter.unusedVariables false
set_option maxRecDepth 4000
namespace Go.V
theorem rdS_lit9 {α : Type} [Rep α] {h : Hp} {xs : List α} {b : Nat} {vs : List Value} (r : rowH h ⟨b, 0, none⟩ vs) (hx : ∀ (i : Nat) x, xs[i]? = some x → rd h x ((vs.drop (i * Rep.n α)).take (Rep.n α))) : rdS h xs (some ⟨b, 0, none⟩) xs.length :=
  ⟨rfl, fun i x hi => by
    refine ⟨_, _, rfl, fun j v hj => ?_, hx i x hi⟩
    rw [List.getElem?_take] at hj
    split at hj
    · rw [List.getElem?_drop] at hj
      rw [add_add, mulS_eq]
      exact r _ v hj
    · cases hj⟩
end Go.V
namespace Go.Proofs.YtkmjjnjngcpjmaaGreatDoor
open Go.V
variable {w : World} {L : List Asn} {g : GramT} {x : GA} {a a2 : Option Addr} {l c l2 c2 : Nat} {I J : List ItemT}
end Go.Proofs.YtkmjjnjngcpjmaaGreatDoor
set_option linter.unusedVariables false
set_option maxRecDepth 4000
namespace Go.Proofs.YtkmjjnjngcpjmaaGreatDoor
open Go.V
section
variable {g : GramT} {I J : List ItemT} {x : ItemT} {s : Int}
open Classical
end
section
variable {w : World} {L : List Asn} {g : GramT} {x : GA} {a a2 : Option Addr} {l c l2 c2 : Nat} {I J : List ItemT} {s : Int}
end
end Go.Proofs.YtkmjjnjngcpjmaaGreatDoor
set_option linter.unusedVariables false
set_option maxRecDepth 4000
namespace Go.Proofs.YtkmjjnjngcpjmaaGreatDoor
open Go.V
section
variable {w : World} {L : List Asn} {g : GramT} {x : GA} {a a2 : Option Addr} {l c l2 c2 : Nat} {I J : List ItemT} {s : Int}
end
end Go.Proofs.YtkmjjnjngcpjmaaGreatDoor
namespace Go.Proofs.YtkmjjnjngcpjmaaGreatDoor
open Go.V
section
variable {w : World} {L : List Asn} {g : GramT} {x : GA} {a a2 : Option Addr} {l c l2 c2 : Nat} {I J : List ItemT} {s : Int}
end
end Go.Proofs.YtkmjjnjngcpjmaaGreatDoor
set_option linter.unusedVariables false
set_option maxRecDepth 4000
namespace Go.V
def Res (g : GramT) (ss : List SQ) (ask int f : Int) : Prop :=
  (¬ClosedP g ∧ ss = [] ∧ ask = 0 ∧ int = 0 ∧ f = 1) ∨ (ClosedP g ∧ BigP g ∧ ss = [] ∧ ask = 0 ∧ int = 0 ∧ f = 11) ∨ (ClosedP g ∧ AutI g ss ∧ ask = 1 + (totE (esOf ss) : Int) ∧ int = (ss.length : Int) ∧ f = 0)
theorem Res.one {g : GramT} {ss ss' : List SQ} {a i f a' i' f' : Int} (h : Res g ss a i f) (h' : Res g ss' a' i' f') : ksOf ss = ksOf ss' ∧ esOf ss = esOf ss' ∧ a = a' ∧ i = i' ∧ f = f' ∧ ss.length = ss'.length := by
  rcases h with ⟨h1, rfl, rfl, rfl, rfl⟩ | ⟨h1, hb, rfl, rfl, rfl, rfl⟩ | ⟨h1, hA, rfl, rfl, rfl⟩
  · rcases h' with ⟨h2, rfl, rfl, rfl, rfl⟩ | ⟨h2, _⟩ | ⟨h2, _⟩
    · exact ⟨rfl, rfl, rfl, rfl, rfl, rfl⟩
    · exact absurd h2 h1
    · exact absurd h2 h1
  · rcases h' with ⟨h2, _⟩ | ⟨h2, _, rfl, rfl, rfl, rfl⟩ | ⟨h2, hA, _⟩
    · exact absurd h1 h2
    · exact ⟨rfl, rfl, rfl, rfl, rfl, rfl⟩
    · exact (done_big hA.dn hb).elim
  · rcases h' with ⟨h2, _⟩ | ⟨h2, hb, _⟩ | ⟨h2, hA', rfl, rfl, rfl⟩
    · exact absurd h1 h2
    · exact (done_big hA.dn hb).elim
    · have e := done_one hA.dn hA'.dn
      have e2 : esOf ss = esOf ss' := by rw [hA.es, hA'.es, e]
      refine ⟨by rw [hA.ks, hA'.ks, e], e2, by rw [e2], by rw [e], rfl, e⟩
theorem AutI.klen {g : GramT} {ss : List SQ} (hc : ClosedP g) (h : AutI g ss) : ∀ q ∈ ss, q.1.2.length ≤ 29100 ∧ q.2.2.length ≤ 130 := fun q hq => by
  obtain ⟨hT, hN, hP, hP2, _, _⟩ := hc.sizes
  have hI := bst_inv (g := g) (by omega) ss.length
  obtain ⟨j, hj⟩ := List.getElem?_of_mem hq
  have e : (bst g ss.length).1[j]? = some q.1.2 := by rw [← h.ks]; unfold ksOf; rw [List.getElem?_map, hj]; rfl
  have e2 : (bst g ss.length).2[j]? = some q.2.2 := by rw [← h.es]; unfold esOf; rw [List.getElem?_map, hj]; rfl
  have hm := List.mem_of_getElem? e
  have hjl := (List.getElem?_eq_some_iff.1 hj).1
  have h256 := h.dn.2.1
  refine ⟨kern_len hP (hI.srt _ hm) (hI.fit _ hm) fun x hx => by have := hI.dots j _ e x hx; omega, ?_⟩
  have key : ∀ i, ∀ es ∈ (bst g i).2, es.length ≤ g.T + g.N := by
    intro i
    induction i with
    | zero => intro es hes; simp [bst] at hes
    | succ i ih =>
      intro es hes
      cases hi : (bst g i).1[i]? with
      | none => rw [bst_none hi] at hes; exact ih es hes
      | some K =>
        rw [bst_succ hi] at hes
        rcases List.mem_append.1 hes with hes | hes
        · exact ih es hes
        · rw [List.mem_singleton] at hes
          subst hes
          rw [bsy_len2]
          have := List.length_filter_le (fun s => decide (kern g K (s : Nat) ≠ [])) (List.range (g.T + g.N))
          rw [List.length_range] at this
          simpa [symsOf] using this
  have := key _ _ (List.mem_of_getElem? e2)
  omega
theorem Res.klen {g : GramT} {ss : List SQ} {a i f : Int} (h : Res g ss a i f) : (∀ q ∈ ss, q.1.2.length ≤ 29100 ∧ q.2.2.length ≤ 130) ∧ ss.length ≤ 256 := by
  rcases h with ⟨_, rfl, _⟩ | ⟨_, _, rfl, _⟩ | ⟨hc, hA, _⟩
  · exact ⟨fun q hq => by simp at hq, by simp⟩
  · exact ⟨fun q hq => by simp at hq, by simp⟩
  · exact ⟨hA.klen hc, hA.dn.2.1⟩
end Go.V
namespace Go.Proofs.YtkmjjnjngcpjmaaGreatDoor
open Go.V
section
variable {w : World} {L : List Asn} {g : GramT} {x : GA}
theorem y_BuildR (hg : gR (hp w) g x) (hb : okG g) : Run Tryz.prog n_lr0_Build [.agg ⟨x.cells⟩] w fun v w' => ∃ (o : Option Addr) (c : Nat) (ss : List SQ) (ask int f : Int), v = .tuple #[.agg #[.slice o ss.length c, .int .i64 ask, .int .i64 int], .int .i64 f] ∧ Res g ss ask int f ∧ St w' (own 2 o ss.length c (ssV ss) :: sta (kOw ss) :: sta (eOw ss) :: all w) := by
  refine (y_Build hg hb).mono ?_
  have z : ∀ {w' : World}, Gr w w' → St w' (own 2 none 0 0 (ssV []) :: sta (kOw []) :: sta (eOw []) :: all w) := fun gr => own_nil 2 ((St.flat (M := [])).2 ((St.flat (M := [])).2 (St.here gr)))
  rintro _ w' (⟨hn, rfl, gr⟩ | ⟨hc, hbig, rfl, gr⟩ | ⟨hc, o, ss, hA, rfl, h⟩)
  · exact ⟨none, 0, [], 0, 0, 1, rfl, .inl ⟨hn, rfl, rfl, rfl, rfl⟩, z gr⟩
  · exact ⟨none, 0, [], 0, 0, 11, rfl, .inr (.inl ⟨hc, hbig, rfl, rfl, rfl, rfl⟩), z gr⟩
  · exact ⟨o, _, ss, _, _, 0, rfl, .inr (.inr ⟨hc, hA, rfl, rfl, rfl⟩), h⟩
theorem d_BuildR (hg : gR (hp w) g x) (hb : okG g) : Run Tryz.prog n_presageref09_Build [.agg ⟨x.cells⟩] w fun v w' => ∃ (o : Option Addr) (c : Nat) (ss : List SQ) (ask int f : Int), v = .tuple #[.agg #[.slice o ss.length c, .int .i64 ask, .int .i64 int], .int .i64 f] ∧ Res g ss ask int f ∧ St w' (own 2 o ss.length c (ssV ss) :: sta (kOw ss) :: sta (eOw ss) :: all w) := by
  refine (d_Build hg hb).mono ?_
  have z : ∀ {w' : World}, Gr w w' → St w' (own 2 none 0 0 (ssV []) :: sta (kOw []) :: sta (eOw []) :: all w) := fun gr => own_nil 2 ((St.flat (M := [])).2 ((St.flat (M := [])).2 (St.here gr)))
  rintro _ w' (⟨hn, rfl, gr⟩ | ⟨hc, hbig, rfl, gr⟩ | ⟨hc, o, c, ss, hA, rfl, h⟩)
  · exact ⟨none, 0, [], 0, 0, 1, rfl, .inl ⟨hn, rfl, rfl, rfl, rfl⟩, z gr⟩
  · exact ⟨none, 0, [], 0, 0, 11, rfl, .inr (.inl ⟨hc, hbig, rfl, rfl, rfl, rfl⟩), z gr⟩
  · exact ⟨o, _, ss, _, _, 0, rfl, .inr (.inr ⟨hc, hA, rfl, rfl, rfl⟩), h⟩
end
end Go.Proofs.YtkmjjnjngcpjmaaGreatDoor
set_option linter.unusedVariables false
set_option maxRecDepth 4000
namespace Go.Proofs.YtkmjjnjngcpjmaaGreatDoor
open Go.V
section
variable {w : World} {L : List Asn} {g : GramT} {x : GA}
end
end Go.Proofs.YtkmjjnjngcpjmaaGreatDoor
set_option linter.unusedVariables false
set_option maxRecDepth 4000
namespace Go.Proofs.YtkmjjnjngcpjmaaGreatDoor
open Go.V
section
variable {w : World} {L : List Asn} {g : GramT} {x : GA}
end
end Go.Proofs.YtkmjjnjngcpjmaaGreatDoor
set_option linter.unusedVariables false
set_option maxRecDepth 4000
namespace Go.V
section
variable {g : GramT} {K : Kern} {st : List Kern} {n i j : Nat}
theorem idx_inK {k : Kern} : (inK st k)[st.idxOf k]? = some k := by
  unfold inK
  split
  · rename_i h
    rw [List.getElem?_eq_getElem (List.idxOf_lt_length_of_mem h), List.getElem_idxOf]
  · rename_i h
    rw [List.idxOf_eq_length h, List.getElem?_append_right (Nat.le_refl _), Nat.sub_self]; rfl
theorem bsy_edge : ∀ (l : List Nat) (st : List Kern) (es : List EdgeT) (k s : Nat), l[k]? = some s → ∃ to : Nat, (bsy g K l (st, es)).2[es.length + k]? = some ⟨(s : Int), (to : Int)⟩ ∧ (bsy g K l (st, es)).1[to]? = some (kern g K (s : Int))
  | [], _, _, _, _, h => by simp at h
  | a :: l, st, es, 0, s, h => by
    simp at h; subst h
    refine ⟨st.idxOf (kern g K (a : Int)), ?_, ?_⟩
    · show (bsy g K l (inK st (kern g K (a : Int)), es ++ [⟨(a : Int), _⟩])).2[es.length + 0]? = _
      have pre : ∀ (l : List Nat) (st : List Kern) (es : List EdgeT) (k : Nat) e, es[k]? = some e → (bsy g K l (st, es)).2[k]? = some e := by
        intro l
        induction l with
        | nil => exact fun st es k e h => h
        | cons b l ih =>
          intro st es k e h
          exact ih _ _ k e (by rw [List.getElem?_append_left (List.getElem?_eq_some_iff.1 h).1]; exact h)
      exact pre l _ _ _ _ (by rw [Nat.add_zero, List.getElem?_append_right (Nat.le_refl _), Nat.sub_self]; rfl)
    · show (bsy g K l (inK st (kern g K (a : Int)), es ++ [⟨(a : Int), _⟩])).1[_]? = _
      exact bsy_mono l _ _ _ _ idx_inK
  | a :: l, st, es, k + 1, s, h => by
    obtain ⟨to, h1, h2⟩ := bsy_edge l (inK st (kern g K (a : Int))) (es ++ [⟨(a : Int), ((st.idxOf (kern g K (a : Int)) : Nat) : Int)⟩]) k s (by simpa using h)
    refine ⟨to, ?_, h2⟩
    rw [List.length_append, List.length_singleton] at h1
    rw [show es.length + (k + 1) = es.length + 1 + k by omega]
    exact h1
theorem bst_emono {i n : Nat} (h : i ≤ n) (j : Nat) (e : List EdgeT) (he : (bst g i).2[j]? = some e) : (bst g n).2[j]? = some e := by
  induction h with
  | refl => exact he
  | @step m _ ih =>
    cases hi : (bst g m).1[m]? with
    | none => rw [bst_none hi]; exact ih
    | some K => rw [bst_succ hi, List.getElem?_append_left (List.getElem?_eq_some_iff.1 ih).1]; exact ih
theorem aut_at {ss : List SQ} (h : AutI g ss) {i : Nat} {q : SQ} (hq : ss[i]? = some q) : (bst g i).1[i]? = some q.1.2 ∧ q.2.2 = (bsy g q.1.2 (symsOf g q.1.2) ((bst g i).1, [])).2 ∧ ∀ (j : Nat) K, (bst g (i + 1)).1[j]? = some K → ∃ r, ss[j]? = some r ∧ r.1.2 = K := by
  have hil := (List.getElem?_eq_some_iff.1 hq).1
  have hlt := h.dn.2.2 i hil
  have e1 : (bst g ss.length).1[i]? = some q.1.2 := by rw [← h.ks]; unfold ksOf; rw [List.getElem?_map, hq]; rfl
  obtain ⟨K, hK⟩ : ∃ K, (bst g i).1[i]? = some K := ⟨_, List.getElem?_eq_getElem hlt⟩
  have e2 := bst_mono (Nat.le_of_lt hil) i K hK
  rw [e1] at e2
  cases e2
  refine ⟨hK, ?_, fun j K' hj => ?_⟩
  · have hb := bst_succ hK
    have hes := bst_es (g := g) i (by omega)
    have e3 : (bst g (i + 1)).2[i]? = some (bsy g q.1.2 (symsOf g q.1.2) ((bst g i).1, [])).2 := by
      rw [hb, List.getElem?_append_right (by omega), hes, Nat.sub_self]; rfl
    have e4 := bst_emono hil i _ e3
    rw [← h.es] at e4
    unfold esOf at e4
    rw [List.getElem?_map, hq] at e4
    exact Option.some.inj e4
  · have e5 := bst_mono hil j K' hj
    rw [← h.ks] at e5
    unfold ksOf at e5
    rw [List.getElem?_map] at e5
    cases hr : ss[j]? with
    | none => rw [hr] at e5; cases e5
    | some r => rw [hr] at e5; exact ⟨r, rfl, Option.some.inj e5⟩
theorem AutI.pos {ss : List SQ} (h : AutI g ss) : 0 < ss.length := by
  refine Nat.pos_of_ne_zero fun h0 => ?_
  have := h.dn.1
  rw [h0] at this
  simp [bst] at this
end
end Go.V
namespace Go.Proofs.YtkmjjnjngcpjmaaGreatDoor
open Go.V
section
variable {w : World} {L : List Asn} {g : GramT} {x : GA} {st : Int}
end
end Go.Proofs.YtkmjjnjngcpjmaaGreatDoor
set_option linter.unusedVariables false
set_option maxRecDepth 4000
namespace Go.V
section
variable {g : GramT} {K K' : Kern} {s s' : Int} {ss : List SQ}
theorem kern_one (h : kern g K s = kern g K' s') (hne : kern g K s ≠ []) : s = s' := by
  obtain ⟨x, hx⟩ := List.exists_mem_of_ne_nil _ hne
  have hx' := hx
  rw [h] at hx'
  obtain ⟨y, _, h1, rfl⟩ := kern_mem.1 hx
  obtain ⟨z, _, h2, e⟩ := kern_mem.1 hx'
  injection e with e1 e2
  have : y = z := ItemT.ext' e1 (by omega)
  rw [← h1, ← h2, this]
theorem bsy_new : ∀ (l : List Nat) (st : List Kern) (es : List EdgeT) (j : Nat) (L : Kern), st.length ≤ j → (bsy g K l (st, es)).1[j]? = some L → ∃ k s : Nat, l[k]? = some s ∧ L = kern g K (s : Int) ∧ (bsy g K l (st, es)).2[es.length + k]? = some ⟨(s : Int), (j : Int)⟩
  | [], st, es, j, L, hj, h => by
    have := (List.getElem?_eq_some_iff.1 h).1
    have h2 : (bsy g K [] (st, es)).1.length = st.length := rfl
    omega
  | a :: l, st, es, j, L, hj, h => by
    by_cases hlt : (inK st (kern g K (a : Int))).length ≤ j
    · obtain ⟨k, s, h1, h2, h3⟩ := bsy_new l (inK st (kern g K (a : Int))) (es ++ [(⟨(a : Int), ((st.idxOf (kern g K (a : Int)) : Nat) : Int)⟩ : EdgeT)]) j L hlt h
      refine ⟨k + 1, s, by simpa using h1, h2, ?_⟩
      rw [List.length_append, List.length_singleton] at h3
      rw [show es.length + (k + 1) = es.length + 1 + k by omega]
      exact h3
    · have hn : kern g K (a : Int) ∉ st := fun hm => by
        have : (inK st (kern g K (a : Int))).length = st.length := by unfold inK; rw [if_pos hm]
        omega
      have hlen : (inK st (kern g K (a : Int))).length = st.length + 1 := by unfold inK; rw [if_neg hn]; simp
      have hjs : j = st.length := by omega
      obtain ⟨to, h1, h2⟩ := bsy_edge (g := g) (K := K) (a :: l) st es 0 a rfl
      have e : st.idxOf (kern g K (a : Int)) = st.length := List.idxOf_eq_length hn
      have hj2 : (inK st (kern g K (a : Int)))[j]? = some (kern g K (a : Int)) := by rw [hjs, ← e]; exact idx_inK
      have hL := bsy_mono l (inK st (kern g K (a : Int))) (es ++ [(⟨(a : Int), ((st.idxOf (kern g K (a : Int)) : Nat) : Int)⟩ : EdgeT)]) j _ hj2 (g := g) (K := K)
      have h : (bsy g K l (inK st (kern g K (a : Int)), es ++ [(⟨(a : Int), ((st.idxOf (kern g K (a : Int)) : Nat) : Int)⟩ : EdgeT)])).1[j]? = some L := h
      rw [hL] at h
      refine ⟨0, a, rfl, (Option.some.inj h).symm, ?_⟩
      have pre : ∀ (l : List Nat) (st : List Kern) (es : List EdgeT) (k : Nat) e, es[k]? = some e → (bsy g K l (st, es)).2[k]? = some e := by
        intro l
        induction l with
        | nil => exact fun st es k e h => h
        | cons b l ih =>
          intro st es k e h
          exact ih _ _ k e (by rw [List.getElem?_append_left (List.getElem?_eq_some_iff.1 h).1]; exact h)
      show (bsy g K l (inK st (kern g K (a : Int)), es ++ [⟨(a : Int), _⟩])).2[es.length + 0]? = _
      exact pre l _ _ _ _ (by rw [Nat.add_zero, List.getElem?_append_right (Nat.le_refl _), Nat.sub_self, hjs, e]; rfl)
theorem aut_edge (hc : ClosedP g) (h : AutI g ss) {i : Nat} {q : SQ} (hq : ss[i]? = some q) {m : Nat} {e : EdgeT} (he : q.2.2[m]? = some e) : 1 ≤ e.sym ∧ e.sym < g.T + g.N ∧ ∃ (j : Nat) (r : SQ), e.to = j ∧ 1 ≤ j ∧ ss[j]? = some r ∧ r.1.2 = kern g q.1.2 e.sym ∧ kern g q.1.2 e.sym ≠ [] := by
  obtain ⟨hK, hE, hto⟩ := aut_at h hq
  obtain ⟨_, _, _, hP2, _, _⟩ := hc.sizes
  have hI := bst_inv (g := g) (by omega) i
  have hKf := hI.fit _ (List.mem_of_getElem? hK)
  have hml : m < (symsOf g q.1.2).length := by
    have := (List.getElem?_eq_some_iff.1 he).1
    rw [hE, bsy_len2] at this
    simpa using this
  obtain ⟨to, h1, h2⟩ := bsy_edge (g := g) (K := q.1.2) (symsOf g q.1.2) (bst g i).1 [] m _ (List.getElem?_eq_getElem hml)
  rw [← hE] at h1
  have h1 : q.2.2[m]? = some ⟨(((symsOf g q.1.2)[m] : Nat) : Int), (to : Int)⟩ := by simpa using h1
  rw [he] at h1
  have h1 := Option.some.inj h1
  have hne := symsOf_ne (g := g) (K := q.1.2) _ (List.getElem_mem hml)
  obtain ⟨r, hr, hrK⟩ := hto to _ (by rw [bst_succ hK]; exact h2)
  have hsy := kern_sym hc hKf (Int.natCast_nonneg _) hne
  rw [h1]
  refine ⟨hsy.1, hsy.2, to, r, rfl, Nat.pos_of_ne_zero fun h0 => ?_, hr, hrK, hne⟩
  subst h0
  have e0 : (bst g ss.length).1[0]? = some [⟨0, 0⟩] := bst_mono (Nat.zero_le _) 0 _ rfl
  rw [← h.ks] at e0
  unfold ksOf at e0
  rw [List.getElem?_map, hr] at e0
  have e0 : r.1.2 = [⟨0, 0⟩] := Option.some.inj e0
  rw [hrK] at e0
  have hm : (⟨0, 0⟩ : ItemT) ∈ kern g q.1.2 (((symsOf g q.1.2)[m] : Nat) : Int) := by rw [e0]; simp
  obtain ⟨y, hy, _, e⟩ := kern_mem.1 hm
  injection e with _ e2
  have := (hy.fit hKf).2.1
  omega
theorem aut_from (hc : ClosedP g) (h : AutI g ss) {j : Nat} (hj : 1 ≤ j) (hjl : j < ss.length) : ∃ (i : Nat) (q : SQ) (m : Nat) (e : EdgeT), i < j ∧ ss[i]? = some q ∧ q.2.2[m]? = some e ∧ e.to = j := by
  have key : ∀ n, n ≤ ss.length → j < (bst g n).1.length → ∃ (i : Nat) (K : Kern), i < n ∧ (bst g i).1[i]? = some K ∧ (bst g i).1.length ≤ j ∧ j < (bst g (i + 1)).1.length := by
    intro n
    induction n with
    | zero => intro _ h2; have : (bst g 0).1.length = 1 := rfl; omega
    | succ n ih =>
      intro hn h2
      by_cases h3 : j < (bst g n).1.length
      · obtain ⟨i, K, h4, h5⟩ := ih (by omega) h3
        exact ⟨i, K, by omega, h5⟩
      · exact ⟨n, _, Nat.lt_succ_self n, List.getElem?_eq_getElem (h.dn.2.2 n (by omega)), by omega, h2⟩
  obtain ⟨i, K, h1, h2, h3, h4⟩ := key ss.length (Nat.le_refl _) (by rw [h.dn.1]; exact hjl)
  have hil : i < ss.length := h1
  obtain ⟨q, hq⟩ : ∃ q, ss[i]? = some q := ⟨_, List.getElem?_eq_getElem hil⟩
  obtain ⟨hK, hE, _⟩ := aut_at h hq
  rw [h2] at hK
  cases hK
  have hlt := h.dn.2.2 i hil
  rw [bst_succ h2] at h4
  obtain ⟨m, s, h5, h6, h7⟩ := bsy_new (g := g) (symsOf g q.1.2) (bst g i).1 [] j _ h3 (List.getElem?_eq_getElem h4)
  exact ⟨i, q, m, _, by omega, hq, by rw [hE]; simpa using h7, rfl⟩
noncomputable def syAt (g : GramT) (ss : List SQ) (j : Nat) : Int := Classical.epsilon fun s : Int => ∃ (r : SQ) (K : Kern), ss[j]? = some r ∧ (∀ x ∈ K, fitI g x) ∧ r.1.2 = kern g K s ∧ kern g K s ≠ [] ∧ 1 ≤ s
theorem sy_spec {j : Nat} {r : SQ} {K : Kern} {s : Int} (hr : ss[j]? = some r) (hf : ∀ x ∈ K, fitI g x) (hk : r.1.2 = kern g K s) (hne : kern g K s ≠ []) (hs : 1 ≤ s) : syAt g ss j = s := by
  obtain ⟨r', K', h1, _, h2, h3, _⟩ := Classical.epsilon_spec (p := fun s : Int => ∃ (r : SQ) (K : Kern), ss[j]? = some r ∧ (∀ x ∈ K, fitI g x) ∧ r.1.2 = kern g K s ∧ kern g K s ≠ [] ∧ 1 ≤ s) ⟨s, r, K, hr, hf, hk, hne, hs⟩
  rw [hr] at h1
  cases h1
  show Classical.epsilon _ = s
  exact kern_one (h2.symm.trans hk) h3
theorem sy_item (hc : ClosedP g) (h : AutI g ss) {j : Nat} (hj : 1 ≤ j) {r : SQ} (hr : ss[j]? = some r) {x : ItemT} (hx : x ∈ r.1.2) : 0 ≤ x.prod ∧ 1 ≤ x.dot ∧ ∃ p, g.prods[x.prod.toNat]? = some p ∧ x.dot ≤ p.right.length ∧ p.right[(x.dot - 1).toNat]? = some (syAt g ss j) := by
  obtain ⟨i, q, m, e, hij, hq, he, hto⟩ := aut_from hc h hj (List.getElem?_eq_some_iff.1 hr).1
  obtain ⟨h1, h2, j', r', e1, _, hr', hk, hne⟩ := aut_edge hc h hq he
  have : j' = j := by omega
  subst this
  rw [hr] at hr'
  cases hr'
  obtain ⟨hK, _⟩ := aut_at h hq
  obtain ⟨_, _, _, hP2, _, _⟩ := hc.sizes
  have hKf := (bst_inv (g := g) (by omega) i).fit _ (List.mem_of_getElem? hK)
  rw [sy_spec hr hKf hk hne h1]
  rw [hk] at hx
  obtain ⟨y, hy, ha, rfl⟩ := kern_mem.1 hx
  obtain ⟨p, hp, h3, h4⟩ := aft_lt (hy.fit hKf) ha (by omega)
  have hyf := hy.fit hKf
  refine ⟨hyf.1, by have := hyf.2.1; show 1 ≤ y.dot + 1; omega, p, hp, by show y.dot + 1 ≤ _; omega, ?_⟩
  show p.right[(y.dot + 1 - 1).toNat]? = _
  rw [show y.dot + 1 - 1 = y.dot by omega]
  exact h4
theorem AutI.two (hc : ClosedP g) (h : AutI g ss) : 2 ≤ ss.length := by
  have hp := h.pos
  refine Classical.byContradiction fun hlt => ?_
  have h1 : ss.length = 1 := by omega
  obtain ⟨q, hq⟩ : ∃ q, ss[0]? = some q := ⟨_, List.getElem?_eq_getElem hp⟩
  obtain ⟨hK, hE, _⟩ := aut_at h hq
  have e0 : q.1.2 = [⟨0, 0⟩] := by
    have : (bst g 0).1[0]? = some [⟨0, 0⟩] := rfl
    rw [this] at hK
    exact (Option.some.inj hK).symm
  obtain ⟨_, h2, h3, p0, hp0, hl, hr, _⟩ := id hc
  obtain ⟨hT, hN, _, _, hT1, _⟩ := hc.sizes
  have hgT : g.T = g.terms.length := rfl
  have hst := h3.2.2.2
  have ha : aft g ⟨0, 0⟩ = g.start := by rw [aft_some hp0, hr]; rfl
  have hne : kern g q.1.2 (((g.start).toNat : Nat) : Int) ≠ [] := by
    refine List.ne_nil_of_mem (a := (⟨0, 1⟩ : ItemT)) (kern_mem.2 ⟨⟨0, 0⟩, .base (by rw [e0]; simp), ?_, rfl⟩)
    rw [ha]; omega
  have hm : (g.start).toNat ∈ symsOf g q.1.2 := List.mem_filter.2 ⟨List.mem_range.2 (by omega), decide_eq_true hne⟩
  obtain ⟨k, hk⟩ := List.getElem?_of_mem hm
  have hkl : k < q.2.2.length := by
    rw [hE, bsy_len2]
    have := (List.getElem?_eq_some_iff.1 hk).1
    simpa using this
  obtain ⟨_, _, j, r, _, hj, hr, _⟩ := aut_edge hc h hq (List.getElem?_eq_getElem hkl)
  have := (List.getElem?_eq_some_iff.1 hr).1
  omega
structure RchI (g : GramT) (ss : List SQ) (ins : List Bool) (bys : List Int) (todo : List Nat) (q0 k : Nat) : Prop where
  li : ins.length = ss.length
  lb : bys.length = ss.length
  z : ins[0]? = some true
  td : ∀ q ∈ todo, q < ss.length
  by' : ∀ (j : Nat) b, bys[j]? = some b → b = 0 ∨ b = syAt g ss j
  bt : ∀ j, ins[j]? = some true → 1 ≤ j → bys[j]? = some (syAt g ss j)
  cl : ∀ (q : Nat) r, ins[q]? = some true → ss[q]? = some r → q ∈ todo ∨ (∀ (m : Nat) e, r.2.2[m]? = some e → (q = q0 → m < k) → ins[e.to.toNat]? = some true)
theorem RchI.all {ins : List Bool} {bys : List Int} {q0 k : Nat} (hc : ClosedP g) (hA : AutI g ss) (h : RchI g ss ins bys [] q0 k) (hk : q0 = ss.length) : ∀ j, j < ss.length → ins[j]? = some true := by
  intro j
  induction j using Nat.strongRecOn with
  | ind j ih =>
    intro hj
    cases j with
    | zero => exact h.z
    | succ j =>
      obtain ⟨i, q, m, e, hij, hq, he, hto⟩ := aut_from hc hA (by omega) hj
      have hil := (List.getElem?_eq_some_iff.1 hq).1
      rcases h.cl i q (ih i hij hil) hq with hm | hm
      · simp at hm
      · have := hm m e he (fun e => by omega)
        rw [hto, Int.toNat_natCast] at this
        exact this
theorem RchI.fin {ins : List Bool} {bys : List Int} {q0 k : Nat} {todo : List Nat} {r : SQ} (h : RchI g ss ins bys todo q0 k) (hr : ss[q0]? = some r) (hk : r.2.2.length ≤ k) : RchI g ss ins bys todo ss.length 0 :=
  ⟨h.li, h.lb, h.z, h.td, h.by', h.bt, fun x r' hx hr' => by
    rcases h.cl x r' hx hr' with hm | hm
    · exact .inl hm
    · refine .inr fun m e he _ => hm m e he fun e2 => ?_
      subst e2
      rw [hr] at hr'; cases hr'
      have := (List.getElem?_eq_some_iff.1 he).1; omega⟩
theorem RchI.step {ins : List Bool} {bys : List Int} {q0 k : Nat} {todo : List Nat} {r : SQ} (hc : ClosedP g) (hA : AutI g ss) (h : RchI g ss ins bys todo q0 k) (hr : ss[q0]? = some r) {e : EdgeT} (he : r.2.2[k]? = some e) {j : Nat} (hj : e.to = j) (hjl : j < ss.length) (hsy : syAt g ss j = e.sym) :
    (ins[j]? = some true → RchI g ss ins (bys.set j e.sym) todo q0 (k + 1)) ∧ (ins[j]? = some false → RchI g ss (ins.set j true) (bys.set j e.sym) (todo ++ [j]) q0 (k + 1)) := by
  have hby : ∀ (i : Nat) b, (bys.set j e.sym)[i]? = some b → b = 0 ∨ b = syAt g ss i := fun i b hb => by
    by_cases e2 : j = i
    · subst e2
      rw [List.getElem?_set_self (by rw [h.lb]; exact hjl)] at hb
      cases hb; exact .inr hsy.symm
    · rw [List.getElem?_set_ne e2] at hb; exact h.by' i b hb
  refine ⟨fun hin => ?_, fun hin => ?_⟩
  · refine ⟨h.li, by rw [List.length_set]; exact h.lb, h.z, h.td, hby, fun i hi h1 => ?_, fun x r' hx hr' => ?_⟩
    · by_cases e2 : j = i
      · subst e2; rw [List.getElem?_set_self (by rw [h.lb]; exact hjl), hsy]
      · rw [List.getElem?_set_ne e2]; exact h.bt i hi h1
    · rcases h.cl x r' hx hr' with hm | hm
      · exact .inl hm
      · refine .inr fun m e' he' hlt => ?_
        by_cases e2 : x = q0 ∧ m = k
        · obtain ⟨rfl, rfl⟩ := e2
          rw [hr] at hr'; cases hr'
          rw [he] at he'; cases he'
          rw [hj, Int.toNat_natCast]; exact hin
        · exact hm m e' he' fun e3 => by have := hlt e3; rcases Nat.lt_or_ge m k with h5 | h5; exact h5; exact absurd ⟨e3, by omega⟩ e2
  · have hge : ∀ i, ins[i]? = some true → (ins.set j true)[i]? = some true := fun i hi => by
      by_cases e2 : j = i
      · subst e2; rw [hin] at hi; cases hi
      · rw [List.getElem?_set_ne e2]; exact hi
    refine ⟨by rw [List.length_set]; exact h.li, by rw [List.length_set]; exact h.lb, hge 0 h.z, fun x hx => ?_, hby, fun i hi h1 => ?_, fun x r' hx hr' => ?_⟩
    · rw [List.mem_append, List.mem_singleton] at hx
      rcases hx with hx | rfl
      · exact h.td x hx
      · exact hjl
    · by_cases e2 : j = i
      · subst e2; rw [List.getElem?_set_self (by rw [h.lb]; exact hjl), hsy]
      · rw [List.getElem?_set_ne e2] at hi ⊢; exact h.bt i hi h1
    · by_cases e2 : j = x
      · subst e2; exact .inl (by simp)
      · rw [List.getElem?_set_ne e2] at hx
        rcases h.cl x r' hx hr' with hm | hm
        · exact .inl (by simp [hm])
        · refine .inr fun m e' he' hlt => ?_
          by_cases e3 : x = q0 ∧ m = k
          · obtain ⟨rfl, rfl⟩ := e3
            rw [hr] at hr'; cases hr'
            rw [he] at he'; cases he'
            rw [hj, Int.toNat_natCast, List.getElem?_set_self (by rw [h.li]; exact hjl)]
          · exact hge _ (hm m e' he' fun e4 => by have := hlt e4; rcases Nat.lt_or_ge m k with h5 | h5; exact h5; exact absurd ⟨e4, by omega⟩ e3)
theorem RchI.start (hp : 0 < ss.length) : RchI g ss ((List.replicate ss.length false).set 0 true) (List.replicate ss.length 0) [0] ss.length 0 := by
  have hi : ∀ i, ((List.replicate ss.length false).set 0 true)[i]? = some true → i = 0 := fun i h => by
    by_cases e : 0 = i
    · exact e.symm
    · rw [List.getElem?_set_ne e, List.getElem?_replicate] at h
      split at h <;> simp at h
  refine ⟨by simp, by simp, by rw [List.getElem?_set_self (by simpa using hp)], fun q hq => by simp at hq; omega, fun j b hb => ?_, fun j hj h1 => by have := hi j hj; omega, fun q r hq hr => .inl (by rw [hi q hq]; simp)⟩
  rw [List.getElem?_replicate] at hb
  split at hb
  · cases hb; exact .inl rfl
  · cases hb
end
end Go.V
set_option linter.unusedVariables false
set_option maxRecDepth 4000
namespace Go.V
variable {w : World} {L : List Asn}
end Go.V
namespace Go.Proofs.YtkmjjnjngcpjmaaGreatDoor
open Go.V
section
variable {w : World} {L : List Asn} {g : GramT} {x : GA}
end
end Go.Proofs.YtkmjjnjngcpjmaaGreatDoor
set_option linter.unusedVariables false
set_option maxRecDepth 4000
namespace Go.Proofs.YtkmjjnjngcpjmaaGreatDoor
open Go.V
section
variable {w : World} {L : List Asn} {g : GramT} {x : GA}
end
end Go.Proofs.YtkmjjnjngcpjmaaGreatDoor
set_option linter.unusedVariables false
set_option maxRecDepth 4000
namespace Go.V
class MKey2 (κ : Type) extends MVal κ where
  a : κ → Int
  b : κ → Int
  val2 : ∀ k, toMVal.val k = .agg ⟨[.int .i64 (a k), .int .i64 (b k)]⟩
  ext : ∀ k l, a k = a l → b k = b l → k = l
section
variable {P : Program} {κ : Type} [DecidableEq κ] [MKey2 κ] {kt ti : TypeId} {f0 f1 : Field}
structure Two (P : Program) (kt ti : TypeId) (f0 f1 : Field) : Prop where
  ht : P.underlying kt = some (.struct (P.fieldsOf kt))
  hf : P.fieldsOf kt = #[f0, f1]
  hi : P.underlying ti = some (.int .i64)
  ht0 : f0.type = ti
  ht1 : f1.type = ti
  n0 : f0.name ≠ "_"
  n1 : f1.name ≠ "_"
  o0 : f0.offset = 0
  o1 : f1.offset = 1
  sih : P.stoodInHeld kt = false
theorem two_eq (T : Two P kt ti f0 f1) (w : World) (x y u v : Int) : (Op.equal kt (.agg #[.int .i64 x, .int .i64 y]) (.agg #[.int .i64 u, .int .i64 v])).run P w = .ok (decide (x = u ∧ y = v)) w := by
  have p0 : ∀ (v u : Value) (w : World), (part ti #[v, u] 0).run P w = .ok v w := fun v u w => by simp [part, run_isAgg T.hi, kdOf, Kd.isAgg]
  have p1 : ∀ (v u : Value) (w : World), (part ti #[v, u] 1).run P w = .ok u w := fun v u w => by simp [part, run_isAgg T.hi, kdOf, Kd.isAgg]
  have eqI : ∀ n m d w, (Op.equalIn (d + 1) ti (.int .i64 n) (.int .i64 m)).run P w = .ok (n == m) w := fun n m d w => run_equalIn_int w d _ _ _ _ _ T.hi
  show (Op.equalIn (9998 + 1 + 1) kt _ _).run P w = _
  rw [run_equalIn_agg w (9998 + 1) kt _ _ T.ht T.sih, T.hf]
  have n0 := T.n0
  have n1 := T.n1
  have e : decide (x = u ∧ y = v) = (x == u && y == v) := by
    rw [Bool.eq_iff_iff]; simp
  rw [e]
  unfold Op.eqFields
  simp only [ne_eq, n0, not_false_eq_true, if_true, Sem.run_bind, T.ht0, T.o0, p0, Result.andThen_ok, eqI]
  cases hq : (x == u)
  · simp
  · unfold Op.eqFields
    simp only [ne_eq, n1, not_false_eq_true, if_true, Sem.run_bind, T.ht1, T.o1, p1, Result.andThen_ok, eqI, Bool.not_true, Bool.false_eq_true, if_false]
    cases hn : (y == v)
    · simp
    · unfold Op.eqFields; simp
theorem two_find (T : Two P kt ti f0 f1) (w : World) (k : κ) : ∀ (es : List MapEntry) (m : List (κ × Value)) (i : Nat), es.map (fun e => (e.key, e.val)) = m.map (fun x => (MVal.val x.1, x.2)) →
    ∃ r, (Instr.findAsking kt (MVal.val k) es i).run P w = .ok r w ∧ (r.map (·.2)) = assoc k m ∧ (∀ j v, r = some (j, v) → i ≤ j ∧ j < i + m.length ∧ (m[j - i]?).map (·.1) = some k ∧ ∀ u, aput k u m = m.set (j - i) (k, u)) ∧ (r = none → ∀ u, aput k u m = m ++ [(k, u)])
  | [], [], i, _ => ⟨none, rfl, rfl, fun j v h => (by cases h), fun _ u => rfl⟩
  | [], _ :: _, i, h => by simp at h
  | _ :: _, [], i, h => by simp at h
  | e :: es, (a, v) :: m, i, h => by
    simp only [List.map_cons, List.cons.injEq, Prod.mk.injEq] at h
    obtain ⟨⟨h1, h2⟩, h3⟩ := h
    have he : (Op.equal kt (MVal.val k) e.key).run P w = .ok (decide (k = a)) w := by
      rw [h1, MKey2.val2, MKey2.val2]
      have := two_eq T w (MKey2.a k) (MKey2.b k) (MKey2.a a) (MKey2.b a)
      have e2 : decide (MKey2.a k = MKey2.a a ∧ MKey2.b k = MKey2.b a) = decide (k = a) := decide_eq_decide.2 ⟨fun ⟨h1, h2⟩ => MKey2.ext k a h1 h2, fun h => by rw [h]; exact ⟨rfl, rfl⟩⟩
      rw [e2] at this
      exact this
    unfold Instr.findAsking
    simp only [Sem.run_bind, he, Result.andThen_ok]
    by_cases hk : k = a
    · subst hk
      refine ⟨some (i, e.val), by simp, by simp [assoc, h2], fun j u hj => ?_, fun hn => by cases hn⟩
      cases hj
      simp [aput]
    · obtain ⟨r, q1, q2, q3, q4⟩ := two_find T w k es m (i + 1) h3
      refine ⟨r, by simp [hk, q1], by simp [assoc, hk, q2], fun j u hj => ?_, fun hn u => by simp [aput, hk, q4 hn u]⟩
      obtain ⟨p1, p2, p3, p4⟩ := q3 j u hj
      have e1 : j - i = (j - (i + 1)) + 1 := by omega
      refine ⟨by omega, by simp; omega, by rw [e1]; simpa using p3, fun u => by rw [e1]; simp [aput, hk, p4 u]⟩
theorem KeyP.two (T : Two P kt ti f0 f1) : KeyP P kt κ where
  check := fun w em k => by
    rw [MKey2.val2]
    have hd := T.ht
    rw [T.hf] at hd
    have p0 : ∀ (v u : Value) (w : World), (part ti #[v, u] 0).run P w = .ok v w := fun v u w => by simp [part, run_isAgg T.hi, kdOf, Kd.isAgg]
    have p1 : ∀ (v u : Value) (w : World), (part ti #[v, u] 1).run P w = .ok u w := fun v u w => by simp [part, run_isAgg T.hi, kdOf, Kd.isAgg]
    have ci : ∀ (n : Nat) (z : Int) (w : World), (Instr.checkKey em (n + 1) ti (.int .i64 z)).run P w = .ok () w := fun n z w => MapKept.run_checkKey (P := P) (w := w) T.hi (by exact rfl) em n
    show (Instr.checkKey em (9998 + 1 + 1) kt _).run P w = _
    unfold Instr.checkKey
    simp only [Sem.run_bind, run_underlying hd, Result.andThen_ok]
    have n0 := T.n0
    have n1 := T.n1
    simp [n0, n1, T.ht0, T.ht1, T.o0, T.o1, Sem.run_bind, p0, p1, ci]
  find := fun w k es m he => by
    obtain ⟨r, q1, q2, q3, q4⟩ := two_find T w k es m 0 he
    refine ⟨r, ?_, q2, fun j v hj => ?_, q4⟩
    · have hd := T.ht
      cases es with
      | nil =>
        cases m with
        | nil => simp [Instr.findKey, run_underlying hd, Instr.findNow]; unfold Instr.findAsking at q1; simpa using q1
        | cons _ _ => simp at he
      | cons e es =>
        have hn : Instr.findNow (.struct (P.fieldsOf kt)) (MVal.val k) (e :: es) 0 = none := by
          unfold Instr.findNow
          simp [Instr.sameNow]
        simp only [Instr.findKey, Sem.run_bind, run_underlying hd, Result.andThen_ok, hn]
        exact q1
    · obtain ⟨_, p2, p3, p4⟩ := q3 j v hj
      rw [Nat.sub_zero] at p3 p4
      exact ⟨by omega, p3, p4⟩
  bits := fun k => by rw [MKey2.val2]; simp [Instr.sameBits]
end
end Go.V
set_option linter.unusedVariables false
set_option maxRecDepth 4000
namespace Go.V
structure TransT where
  st : Int
  sym : Int
deriving DecidableEq
instance : Inhabited TransT := ⟨⟨0, 0⟩⟩
instance : Rep TransT := { n := 2, rd := fun _ x vs => vs = [.int .i64 x.st, .int .i64 x.sym], mono := fun _ h => h, len := fun h => by rw [h]; rfl }
instance : MKey2 TransT := { val := fun k => .agg ⟨[.int .i64 k.st, .int .i64 k.sym]⟩, inj := fun a b h => by cases a; cases b; simp at h; obtain ⟨h1, h2⟩ := h; subst h1; subst h2; rfl, a := TransT.st, b := TransT.sym, val2 := fun _ => rfl, ext := fun k l h1 h2 => by cases k; cases l; cases h1; cases h2; rfl }
def encR (x : TransT) : List Value := [.int .i64 x.st, .int .i64 x.sym]
def trv (xs : List TransT) : List Value := xs.flatMap encR
theorem trv_len (xs : List TransT) : (trv xs).length = xs.length * 2 := fm_len (f := encR) (n := 2) (fun _ => rfl) xs
theorem trv_app (xs ys : List TransT) : trv (xs ++ ys) = trv xs ++ trv ys := List.flatMap_append
theorem rdTr_of {h : Hp} {xs : List TransT} {a : Option Addr} {l : Nat} (hl : xs.length = l) (r : rdV a (trv xs) h) : rdS h xs a l := by
  refine ⟨hl, fun i x hx => ?_⟩
  rcases r with e | ⟨ad, rfl, hc⟩
  · have h1 := congrArg List.length e
    rw [trv_len, List.length_nil] at h1
    have := (List.getElem?_eq_some_iff.1 hx).1; omega
  · exact ⟨ad, encR x, rfl, rowH_unflat (n := 2) (fun _ => rfl) xs ad hc i x hx, rfl⟩
theorem rdTr_get {h : Hp} {xs : List TransT} {a : Option Addr} {l : Nat} (r : rdS h xs a l) {i : Nat} (hi : i < l) : ∃ x ad, xs[i]? = some x ∧ a = some ad ∧ rowH h (ad.add (mulS i 2)) (encR x) := by
  obtain ⟨x, ad, vs, hx, ha, hr, e⟩ := r.get hi
  rw [show vs = encR x from e] at hr
  exact ⟨x, ad, hx, ha, hr⟩
def nxt (ss : List SQ) (i : Nat) (s : Int) : Option Int := match ss[i]? with
  | none => none
  | some q => (q.2.2.find? fun e => decide (e.sym = s)).map (·.to)
def trAt (g : GramT) (i : Nat) (es : List EdgeT) : List TransT := (es.filter fun e => decide ((g.T : Int) ≤ e.sym)).map fun e => ⟨(i : Int), e.sym⟩
def TrN (g : GramT) (ss : List SQ) : Nat → List TransT
  | 0 => []
  | i + 1 => TrN g ss i ++ (match ss[i]? with | some q => trAt g i q.2.2 | none => [])
def TrL (g : GramT) (ss : List SQ) : List TransT := TrN g ss ss.length
def wayN (ss : List SQ) : Int → List Int → Int
  | q, [] => q
  | q, s :: l => match nxt ss q.toNat s with
    | none => -1
    | some j => wayN ss j l
section
variable {g : GramT} {ss : List SQ}
theorem TrN_succ {i : Nat} {q : SQ} (hq : ss[i]? = some q) : TrN g ss (i + 1) = TrN g ss i ++ trAt g i q.2.2 := by
  show TrN g ss i ++ (match ss[i]? with | some q => trAt g i q.2.2 | none => []) = _
  rw [hq]
theorem trAt_snoc {i : Nat} {es : List EdgeT} {e : EdgeT} : trAt g i (es ++ [e]) = if (g.T : Int) ≤ e.sym then trAt g i es ++ [⟨(i : Int), e.sym⟩] else trAt g i es := by
  unfold trAt
  rw [List.filter_append, List.map_append]
  by_cases h : (g.T : Int) ≤ e.sym <;> simp [h]
theorem nxt_some {i : Nat} {q : SQ} (hq : ss[i]? = some q) (s : Int) : nxt ss i s = (q.2.2.find? fun e => decide (e.sym = s)).map (·.to) := by unfold nxt; rw [hq]
theorem aut_rise (h : AutI g ss) {i : Nat} {q : SQ} (hq : ss[i]? = some q) : q.2.2.map (·.sym) = (symsOf g q.1.2).map Int.ofNat := by
  obtain ⟨hK, hE, _⟩ := aut_at h hq
  have key : ∀ (l : List Nat) (st : List Kern) (es : List EdgeT), (bsy g q.1.2 l (st, es)).2.map (·.sym) = es.map (·.sym) ++ l.map Int.ofNat := by
    intro l
    induction l with
    | nil => intro st es; simp [bsy]
    | cons a l ih =>
      intro st es
      show (bsy g q.1.2 l _).2.map _ = _
      rw [ih]; simp
  have := key (symsOf g q.1.2) (bst g i).1 []
  rw [← hE] at this
  simpa using this
theorem find_at : ∀ {es : List EdgeT} {k : Nat} {e : EdgeT}, (es.map (·.sym)).Nodup → es[k]? = some e → (es.find? fun x => decide (x.sym = e.sym)) = some e
  | [], k, e, _, h => by simp at h
  | x :: es, 0, e, _, h => by simp at h; subst h; simp
  | x :: es, k + 1, e, hn, h => by
    rw [List.map_cons, List.nodup_cons] at hn
    have h : es[k]? = some e := by simpa using h
    have hne : x.sym ≠ e.sym := fun e2 => hn.1 (by rw [e2]; exact List.mem_map.2 ⟨e, List.mem_of_getElem? h, rfl⟩)
    rw [List.find?_cons, decide_eq_false hne]
    exact find_at hn.2 h
theorem aut_nd (h : AutI g ss) {i : Nat} {q : SQ} (hq : ss[i]? = some q) : (q.2.2.map (·.sym)).Nodup := by
  rw [aut_rise h hq, List.nodup_iff_pairwise_ne, List.pairwise_map]
  exact (symsOf_srt g q.1.2).imp fun h e => by simp at e; omega
theorem nxt_edge (h : AutI g ss) {i : Nat} {q : SQ} (hq : ss[i]? = some q) {k : Nat} {e : EdgeT} (he : q.2.2[k]? = some e) : nxt ss i e.sym = some e.to := by
  rw [nxt_some hq, find_at (aut_nd h hq) he]; rfl
theorem nxt_inv {i : Nat} {s : Int} {j : Int} (h : nxt ss i s = some j) : ∃ (q : SQ) (k : Nat) (e : EdgeT), ss[i]? = some q ∧ q.2.2[k]? = some e ∧ e.sym = s ∧ e.to = j := by
  unfold nxt at h
  cases hq : ss[i]? with
  | none => rw [hq] at h; cases h
  | some q =>
    rw [hq] at h
    simp only [Option.map_eq_some_iff] at h
    obtain ⟨e, he, rfl⟩ := h
    obtain ⟨k, hk⟩ := List.getElem?_of_mem (List.mem_of_find?_eq_some he)
    have := List.find?_some he
    exact ⟨q, k, e, rfl, hk, of_decide_eq_true this, rfl⟩
end
end Go.V
set_option linter.unusedVariables false
namespace Go.Proofs.YtkmjjnjngcpjmaaGreatDoor
open Go.V
def ann_slices_Clip_int_int_ : Ann := { rngs := [], loops := [], joins := [], blocks := [] }
set_option maxRecDepth 100000 in
def vc_slices_Clip_int_int_ (a : Option Addr) (b c : Nat) (w : World) (R : Value → WP) : Prop :=  slc a b c none (some (↑b : Int)) (some (↑b : Int)) 1 fun (o1 : Option Addr) (k1 k2 : Nat) => R (vS o1 k1 k2) w
set_option maxRecDepth 100000 in
theorem run_slices_Clip_int_int_ (a : Option Addr) (b c : Nat) (w : World) (R : Value → WP) (h : vc_slices_Clip_int_int_ a b c w R) : Run Tryz.prog 38 [(.slice a b c)] w R := rv Tryz.func38 ann_slices_Clip_int_int_ (by kernel_rfl) h

def ann_slices_Clip_api_Back_api_Back_ : Ann := { rngs := [], loops := [], joins := [], blocks := [] }
set_option maxRecDepth 100000 in
def vc_slices_Clip_api_Back_api_Back_ (a : Option Addr) (b c : Nat) (w : World) (R : Value → WP) : Prop :=  slc a b c none (some (↑b : Int)) (some (↑b : Int)) 3 fun (o1 : Option Addr) (k1 k2 : Nat) => R (vS o1 k1 k2) w
set_option maxRecDepth 100000 in
theorem run_slices_Clip_api_Back_api_Back_ (a : Option Addr) (b c : Nat) (w : World) (R : Value → WP) (h : vc_slices_Clip_api_Back_api_Back_ a b c w R) : Run Tryz.prog 39 [(.slice a b c)] w R := rv Tryz.func39 ann_slices_Clip_api_Back_api_Back_ (by kernel_rfl) h

abbrev n_trans_List : FuncId := 41
def ann_trans_List : Ann := { rngs := [], loops := [], joins := [], blocks := [] }
set_option maxRecDepth 100000 in
def vc_trans_List (a : Option Addr) (b c : Nat) (d : Option Addr) (e f : Nat) (g : Option Addr) (i j : Nat) (k : Int) (l : Option Addr) (m n : Nat) (w : World) (R : Value → WP) : Prop :=  new w (oC [vS a b c, vS d e f, vS g i j, iI k, vS l m n] 27) fun k1 w1 => ∃ o1 k2 k3 o2 k4 k5 o3 k6 k7 n1 o4 k8 k9, V.rowAt w1 (aM k1) 0 5 = some [vS o1 k2 k3, vS o2 k4 k5, vS o3 k6 k7, iI n1, vS o4 k8 k9] ∧ RunE Proofs.Tryz.prog Ev 55 [vA (Array.mk [vS o1 k2 k3, vS o2 k4 k5, vS o3 k6 k7, iI n1, vS o4 k8 k9])] w1 fun v1 w2 => ∃ o5 n2, v1 = vT (Array.mk [vP o5, iI n2]) ∧ br (n2 != 0) (R (vT (Array.mk [vS none 0 0, iI n2])) w2) (RunE Proofs.Tryz.prog Ev 69 [vP o5] w2 fun v2 w3 => ∃ o6 k10 k11, v2 = vS o6 k10 k11 ∧ R (vT (Array.mk [vS o6 k10 k11, iI 0])) w3)
set_option maxRecDepth 100000 in
theorem run_trans_List (a : Option Addr) (b c : Nat) (d : Option Addr) (e f : Nat) (g : Option Addr) (i j : Nat) (k : Int) (l : Option Addr) (m n : Nat) (w : World) (R : Value → WP) (h : vc_trans_List a b c d e f g i j k l m n w R) : Run Tryz.prog 41 [(.agg #[(.slice a b c), (.slice d e f), (.slice g i j), (.int .i64 k), (.slice l m n)])] w R := rv Tryz.func41 ann_trans_List (by kernel_rfl) h

abbrev n_trans_of : FuncId := 55
def ann_trans_of : Ann := { rngs := [], loops := [(6, [(27, (.one (.int .i64)))]), (9, [(35, (.one (.int .i64)))])], joins := [], blocks := [] }
set_option maxRecDepth 100000 in
def vc_trans_of (a : Option Addr) (b c : Nat) (d : Option Addr) (e f : Nat) (g : Option Addr) (i j : Nat) (k : Int) (l : Option Addr) (m n : Nat) (w : World) (R : Value → WP) : Prop :=  new w (oC [vS a b c, vS d e f, vS g i j, iI k, vS l m n] 27) fun k1 w1 => ∃ o1 k2 k3 o2 k4 k5 o3 k6 k7 n1 o4 k8 k9, V.rowAt w1 (aM k1) 0 5 = some [vS o1 k2 k3, vS o2 k4 k5, vS o3 k6 k7, iI n1, vS o4 k8 k9] ∧ RunE Proofs.Tryz.prog Ev 19 [vA (Array.mk [vS o1 k2 k3, vS o2 k4 k5, vS o3 k6 k7, iI n1, vS o4 k8 k9])] w1 fun v1 w2 => ∃ o5 k10 k11 n2 n3 n4, v1 = vT (Array.mk [vA (Array.mk [vS o5 k10 k11, iI n2, iI n3]), iI n4]) ∧ new w2 (oC [vS none 0 0, iI 0, iI 0] 48) fun k12 w3 => stR w3 (aM k12) [vS o5 k10 k11, iI n2, iI n3] fun w4 => br (n4 != 0) (R (vT (Array.mk [vP none, iI n4])) w4) (∃ o6 k13 k14 o7 k15 k16 o8 k17 k18 n5 o9 k19 k20, V.rowAt w4 (aM k1) 0 5 = some [vS o6 k13 k14, vS o7 k15 k16, vS o8 k17 k18, iI n5, vS o9 k19 k20] ∧ ∃ o10 k21 k22 n6 n7, V.rowAt w4 (aM k12) 0 3 = some [vS o10 k21 k22, iI n6, iI n7] ∧ new w4 (Obj.map (Array.mk []) 0) fun k23 w5 => new w5 (oC [vS o6 k13 k14, vS o7 k15 k16, vS o8 k17 k18, iI n5, vS o9 k19 k20, vS o10 k21 k22, iI n6, iI n7, Value.map (some k23)] 123) fun k24 w6 => ∃ o11 k25 k26, World.cell? w6 (aM k12) = some (vS o11 k25 k26) ∧ ∃ (x1 : lP [(27, shI)]), ∃ (x2 : lN [(27, shI)]), x1 0 w6 ∧ ∀ (I1 : Nat → Value) (n8 : Int) (w7 : World), x1 n8 w7 → br (decide (n8 < (↑k25 : Int))) (idx o11 k25 n8 2 fun a1 => ∃ o12 k27 k28 o13 k29 k30, V.rowAt w7 a1 0 2 = some [vS o12 k27 k28, vS o13 k29 k30] ∧ new w7 (oC [vS none 0 0, vS none 0 0] 56) fun k31 w8 => stR w8 (aM k31) [vS o12 k27 k28, vS o13 k29 k30] fun w9 => ∃ o14 k32 k33, World.cell? w9 (Addr.add (aM k31) 1) = some (vS o14 k32 k33) ∧ ∃ (x3 : lP [(35, shI)]), ∃ (x4 : lN [(35, shI)]), x3 0 w9 ∧ ∀ (I2 : Nat → Value) (n9 : Int) (w10 : World), x3 n9 w10 → br (decide (n9 < (↑k32 : Int))) (idx o14 k32 n9 2 fun a2 => ∃ n10 n11, V.rowAt w10 a2 0 2 = some [iI n10, iI n11] ∧ new w10 (oC [iI 0, iI 0] 90) fun k34 w11 => stR w11 (aM k34) [iI n10, iI n11] fun w12 => ∀ w13, drawn w12 w13 → ∃ (I3 : World → Prop), I3 w13 ∧ ∃ o15, (∀ w14, I3 w14 → World.cell? w14 (Addr.add (aM k24) 8) = some (Value.map o15)) ∧ ∃ n12, (∀ w15, I3 w15 → World.cell? w15 (aM k34) = some (iI n12)) ∧ ∃ n13, (∀ w16, I3 w16 → World.cell? w16 (Addr.add (aM k34) 1) = some (iI n13)) ∧ RunS Proofs.Tryz.prog (Instr.mapUpdate 85 (Value.map o15) (vG [iI n8, iI n12]) (iI n13)) w13 fun (x5 : Unit) (w17 : World) => inI (n9 + 1) ∧ x3 (n9 + 1) w17 ∧ x4 (n9 + 1) w17 < x4 n9 w10) (inI (n8 + 1) ∧ x1 (n8 + 1) w10 ∧ x2 (n8 + 1) w10 < x2 n8 w7)) (R (vT (Array.mk [vP (some (aM k24)), iI 0])) w7))
set_option maxRecDepth 100000 in
theorem run_trans_of (a : Option Addr) (b c : Nat) (d : Option Addr) (e f : Nat) (g : Option Addr) (i j : Nat) (k : Int) (l : Option Addr) (m n : Nat) (w : World) (R : Value → WP) (h : vc_trans_of a b c d e f g i j k l m n w R) : Run Tryz.prog 55 [(.agg #[(.slice a b c), (.slice d e f), (.slice g i j), (.int .i64 k), (.slice l m n)])] w R := rv Tryz.func55 ann_trans_of (by kernel_rfl) h

abbrev n_slices_Compact_int_int_ : FuncId := 67
def ann_slices_Compact_int_int_ : Ann := { rngs := [], loops := [(4, [(3, (.one (.int .i64)))]), (9, [(3, (.one (.int .i64))), (5, (.one (.int .i64)))])], joins := [], blocks := [] }
set_option maxRecDepth 100000 in
def vc_slices_Compact_int_int_ (a : Option Addr) (b c : Nat) (w : World) (R : Value → WP) : Prop :=  br (decide ((↑b : Int) < 2)) (R (vS a b c) w) (∃ (x1 : lP [(3, shI)]), ∃ (x2 : lN [(3, shI)]), x1 1 w ∧ ∀ (I1 : Nat → Value) (n1 : Int) (w1 : World), x1 n1 w1 → br (decide (n1 < (↑b : Int))) (∀ w2, drawn w1 w2 → ∃ (I2 : World → Prop), I2 w2 ∧ idx a b n1 1 fun a1 => ∃ n2, (∀ w3, I2 w3 → World.cell? w3 a1 = some (iI n2)) ∧ inI (n1 - 1) ∧ idx a b (n1 - 1) 1 fun a2 => ∃ n3, (∀ w4, I2 w4 → World.cell? w4 a2 = some (iI n3)) ∧ br (n2 == n3) (slc a b c (some n1) none none 1 fun (o1 : Option Addr) (k1 k2 : Nat) => ∃ (x3 : lP [(3, shI), (5, shI)]), ∃ (x4 : lN [(3, shI), (5, shI)]), x3 n1 1 w2 ∧ ∀ (I3 : Nat → Value) (n4 n5 : Int) (w5 : World), x3 n4 n5 w5 → br (decide (n5 < (↑k1 : Int))) (∀ w6, drawn w5 w6 → ∃ (I4 : World → Prop), I4 w6 ∧ idx o1 k1 n5 1 fun a3 => ∃ n6, (∀ w7, I4 w7 → World.cell? w7 a3 = some (iI n6)) ∧ inI (n5 - 1) ∧ idx o1 k1 (n5 - 1) 1 fun a4 => ∃ n7, (∀ w8, I4 w8 → World.cell? w8 a4 = some (iI n7)) ∧ br (n6 != n7) (idx o1 k1 n5 1 fun a5 => ∃ n8, World.cell? w6 a5 = some (iI n8) ∧ idx a b n4 1 fun a6 => st1 w6 a6 (iI n8) fun w9 => inI (n4 + 1) ∧ inI (n5 + 1) ∧ x3 (n4 + 1) (n5 + 1) w9 ∧ x4 (n4 + 1) (n5 + 1) w9 < x4 n4 n5 w5) (inI (n5 + 1) ∧ x3 n4 (n5 + 1) w6 ∧ x4 n4 (n5 + 1) w6 < x4 n4 n5 w5)) (slc a b c (some n4) none none 1 fun (o2 : Option Addr) (k3 k4 : Nat) => RunS Proofs.Tryz.prog (Builtin.clear_ (Array.mk [24]) 0 (Array.mk [vS o2 k3 k4])) w5 fun v1 w10 => slc a b c none (some n4) none 1 fun (o3 : Option Addr) (k5 k6 : Nat) => R (vS o3 k5 k6) w10)) (inI (n1 + 1) ∧ x1 (n1 + 1) w2 ∧ x2 (n1 + 1) w2 < x2 n1 w1)) (R (vS a b c) w1))
set_option maxRecDepth 100000 in
theorem run_slices_Compact_int_int_ (a : Option Addr) (b c : Nat) (w : World) (R : Value → WP) (h : vc_slices_Compact_int_int_ a b c w R) : Run Tryz.prog 67 [(.slice a b c)] w R := rv Tryz.func67 ann_slices_Compact_int_int_ (by kernel_rfl) h

abbrev n_trans_ways_list : FuncId := 69
def ann_trans_ways_list : Ann := { rngs := [], loops := [(3, [(3, (.one .slice)), (14, (.one (.int .i64)))]), (6, [(3, (.one .slice)), (22, (.one (.int .i64)))])], joins := [], blocks := [] }
set_option maxRecDepth 100000 in
def vc_trans_ways_list (a : Option Addr) (w : World) (R : Value → WP) : Prop :=  nn a fun a1 => ∃ o1 k1 k2, World.cell? w (Addr.add a1 5) = some (vS o1 k1 k2) ∧ ∃ (x1 : lP [(3, shS), (14, shI)]), ∃ (x2 : lN [(3, shS), (14, shI)]), x1 none 0 0 0 w ∧ ∀ (I1 : Nat → Value) (o2 : Option Addr) (k3 k4 : Nat) (n1 : Int) (w1 : World), x1 o2 k3 k4 n1 w1 → br (decide (n1 < (↑k1 : Int))) (idx o1 k1 n1 2 fun a2 => ∃ o3 k5 k6 o4 k7 k8, V.rowAt w1 a2 0 2 = some [vS o3 k5 k6, vS o4 k7 k8] ∧ new w1 (oC [vS none 0 0, vS none 0 0] 56) fun k9 w2 => stR w2 (aM k9) [vS o3 k5 k6, vS o4 k7 k8] fun w3 => ∃ o5 k10 k11, World.cell? w3 (Addr.add (aM k9) 1) = some (vS o5 k10 k11) ∧ ∃ (x3 : lP [(3, shS), (22, shI)]), ∃ (x4 : lN [(3, shS), (22, shI)]), x3 o2 k3 k4 0 w3 ∧ ∀ (I2 : Nat → Value) (o6 : Option Addr) (k12 k13 : Nat) (n2 : Int) (w4 : World), x3 o6 k12 k13 n2 w4 → br (decide (n2 < (↑k10 : Int))) (idx o5 k10 n2 2 fun a3 => ∃ n3 n4, V.rowAt w4 a3 0 2 = some [iI n3, iI n4] ∧ new w4 (oC [iI 0, iI 0] 90) fun k14 w5 => stR w5 (aM k14) [iI n3, iI n4] fun w6 => ∀ w7, drawn w6 w7 → ∃ (I3 : World → Prop), I3 w7 ∧ ∃ n5, (∀ w8, I3 w8 → World.cell? w8 (aM k14) = some (iI n5)) ∧ nn a fun a4 => ∃ o7 k15 k16, (∀ w9, I3 w9 → World.cell? w9 a4 = some (vS o7 k15 k16)) ∧ br (decide ((↑k15 : Int) ≤ n5)) (∃ n6, World.cell? w7 (aM k14) = some (iI n6) ∧ new w7 (oC [iI n1, iI n6] 66) fun k17 w10 => RunS Proofs.Tryz.prog (apB 61 (Array.mk [vS o6 k12 k13, vS (some (aM k17)) 1 1])) w10 fun v1 w11 => ∃ o8 k18 k19, v1 = vS o8 k18 k19 ∧ inI (n2 + 1) ∧ x3 o8 k18 k19 (n2 + 1) w11 ∧ x4 o8 k18 k19 (n2 + 1) w11 < x4 o6 k12 k13 n2 w4) (inI (n2 + 1) ∧ x3 o6 k12 k13 (n2 + 1) w7 ∧ x4 o6 k12 k13 (n2 + 1) w7 < x4 o6 k12 k13 n2 w4)) (inI (n1 + 1) ∧ x1 o6 k12 k13 (n1 + 1) w4 ∧ x2 o6 k12 k13 (n1 + 1) w4 < x2 o2 k3 k4 n1 w1)) (RunE Proofs.Tryz.prog Ev 95 [vS o2 k3 k4] w1 fun v2 w12 => ∃ o9 k20 k21, v2 = vS o9 k20 k21 ∧ R (vS o9 k20 k21) w12)
set_option maxRecDepth 100000 in
theorem run_trans_ways_list (a : Option Addr) (w : World) (R : Value → WP) (h : vc_trans_ways_list a w R) : Run Tryz.prog 69 [(.pointer a)] w R := rv Tryz.func69 ann_trans_ways_list (by kernel_rfl) h

def ann_slices_Clip_api_Trans_api_Trans_ : Ann := { rngs := [], loops := [], joins := [], blocks := [] }
set_option maxRecDepth 100000 in
def vc_slices_Clip_api_Trans_api_Trans_ (a : Option Addr) (b c : Nat) (w : World) (R : Value → WP) : Prop :=  slc a b c none (some (↑b : Int)) (some (↑b : Int)) 2 fun (o1 : Option Addr) (k1 k2 : Nat) => R (vS o1 k1 k2) w
set_option maxRecDepth 100000 in
theorem run_slices_Clip_api_Trans_api_Trans_ (a : Option Addr) (b c : Nat) (w : World) (R : Value → WP) (h : vc_slices_Clip_api_Trans_api_Trans_ a b c w R) : Run Tryz.prog 95 [(.slice a b c)] w R := rv Tryz.func95 ann_slices_Clip_api_Trans_api_Trans_ (by kernel_rfl) h

end Go.Proofs.YtkmjjnjngcpjmaaGreatDoor
set_option linter.unusedVariables false
set_option maxRecDepth 4000
namespace Go.V
section
variable {κ : Type} [DecidableEq κ] [MVal κ] {P : Program} {Ty : TypeId → Option TyI} {w : World} {L : List Asn} {b : Nat} {m : List (κ × Value)} {h : Hp}
end
def WayI (ss : List SQ) (m : List (TransT × Value)) (i : Nat) (es : List EdgeT) : Prop := ∀ k : TransT, assoc k m =
  if k.st < 0 then none else if k.st.toNat < i then (nxt ss k.st.toNat k.sym).map (Value.int .i64) else if k.st.toNat = i then (es.find? fun e => decide (e.sym = k.sym)).map (fun e => Value.int .i64 e.to) else none
section
variable {ss : List SQ} {m : List (TransT × Value)} {i : Nat}
theorem WayI.start : WayI ss [] 0 [] := fun k => by simp [assoc]
theorem find_snoc {es : List EdgeT} {e : EdgeT} (hn : e.sym ∉ es.map (·.sym)) (s : Int) : ((es ++ [e]).find? fun x => decide (x.sym = s)) = if s = e.sym then some e else es.find? fun x => decide (x.sym = s) := by
  rw [List.find?_append]
  by_cases h : s = e.sym
  · subst h
    have : (es.find? fun x => decide (x.sym = e.sym)) = none := List.find?_eq_none.2 fun x hx h2 => hn (List.mem_map.2 ⟨x, hx, by simpa using h2⟩)
    rw [this]; simp
  · rw [if_neg h]
    have : ([e].find? fun x => decide (x.sym = s)) = none := by simp [Ne.symm h]
    rw [this]; simp
theorem WayI.step {es : List EdgeT} (h : WayI ss m i es) {e : EdgeT} (hn : e.sym ∉ es.map (·.sym)) : WayI ss (aput ⟨(i : Int), e.sym⟩ (.int .i64 e.to) m) i (es ++ [e]) := fun k => by
  rw [assoc_put, h k, find_snoc hn]
  by_cases hk : k = ⟨(i : Int), e.sym⟩
  · subst hk
    simp
  · rw [if_neg hk]
    split
    · rfl
    · split
      · rfl
      · split
        · have : k.sym ≠ e.sym := fun h => hk (by cases k; simp at *; omega)
          rw [if_neg this]
        · rfl
theorem WayI.next {q : SQ} (hq : ss[i]? = some q) (h : WayI ss m i q.2.2) : WayI ss m (i + 1) [] := fun k => by
  rw [h k]
  split
  · rfl
  · by_cases h1 : k.st.toNat < i
    · rw [if_pos h1, if_pos (by omega)]
    · rw [if_neg h1]
      by_cases h2 : k.st.toNat = i
      · rw [if_pos h2, if_pos (by omega), h2, nxt_some hq, Option.map_map]; rfl
      · rw [if_neg h2, if_neg (by omega)]; simp
theorem WayI.all (h : WayI ss m ss.length []) {k : TransT} (hk : 0 ≤ k.st) : assoc k m = (nxt ss k.st.toNat k.sym).map (Value.int .i64) := by
  rw [h k, if_neg (by omega)]
  split
  · rfl
  · have : nxt ss k.st.toNat k.sym = none := by unfold nxt; rw [List.getElem?_eq_none (by omega)]
    rw [this]; simp
end
abbrev wyC (x : GA) (o : Option Addr) (n c : Nat) (a int : Int) (kb : Nat) : List Value := x.cells ++ [.slice o n c, .int .i64 a, .int .i64 int, .map (some kb)]
structure WyR (h : Hp) (g : GramT) (ss : List SQ) (k : Nat) : Prop where
  ex : ∃ (x : GA) (o : Option Addr) (c kb : Nat) (a int : Int) (m : List (TransT × Value)), rowH h (aM k) (wyC x o ss.length c a int kb) ∧ gR h g x ∧ stRd h ss o ∧ mapA kb m h ∧ WayI ss m ss.length []
theorem WyR.mono {h h' : Hp} {g : GramT} {ss : List SQ} {k : Nat} (s : sub h h') (r : WyR h g ss k) : WyR h' g ss k := by
  obtain ⟨x, o, c, kb, a, int, m, h1, h2, h3, h4, h5⟩ := r.ex
  exact ⟨x, o, c, kb, a, int, m, h1.mono s, h2.mono s, h3.mono s, mapA_mono s h4, h5⟩
end Go.V
namespace Go.Proofs.YtkmjjnjngcpjmaaGreatDoor
open Go.V
variable {w : World} {L : List Asn} {g : GramT} {x : GA}
theorem two_Trans : Two Tryz.prog ty_api_Trans ty_int { name := "State", type := ty_int, offset := 0, embedded := false, tag := "", pkgPath := "", byteOffset := 0 } { name := "Sym", type := ty_int, offset := 1, embedded := false, tag := "", pkgPath := "", byteOffset := 8 } where
  ht := by kernel_rfl
  hf := by kernel_rfl
  hi := und_int
  ht0 := rfl
  ht1 := rfl
  n0 := by decide
  n1 := by decide
  o0 := rfl
  o1 := rfl
  sih := sih_api_Trans
theorem key_Trans : KeyP Tryz.prog ty_api_Trans TransT := KeyP.two two_Trans
theorem y_trof (hg : gR (hp w) g x) (hb : okG g) : Run Tryz.prog n_trans_of [.agg ⟨x.cells⟩] w fun v w' => ∃ (ss : List SQ) (ask int f : Int) (p : Option Addr), v = .tuple #[.pointer p, .int .i64 f] ∧ Res g ss ask int f ∧ Gr w w' ∧ (f = 0 → ∃ k, p = some (aM k) ∧ WyR (hp w') g ss k) ∧ (f ≠ 0 → p = none) := by
  refine run_trans_of _ _ _ _ _ _ _ _ _ _ _ _ _ w _ (gbox hg fun k1 w1 gw hg B => ?_)
  refine ⟨_, _, _, _, _, _, _, _, _, _, _, _, _, B.row (sub.refl _), (y_BuildR hg hb).mono ?_⟩
  rintro _ w2 ⟨o, c, ss, ask, int, f, rfl, hR, h⟩
  have g12 : Gr w1 w2 := rdH 3 h.l
  have hg := hg.mono g12
  have hs := stRd_of h.l
  refine ⟨_, _, _, _, _, _, rfl, newC_i (St.all w2) fun k12 w3 h => stR_i h rfl (by simp [oneC]) fun w4 h => br_intro (fun h1 => ?_) fun h1 => ?_⟩
  · have h1 : f ≠ 0 := by simpa using h1
    exact ⟨ss, ask, int, f, none, rfl, hR, gw.trans (g12.trans h.gone1), fun h => absurd h h1, fun _ => rfl⟩
  have h1 : f = 0 := by simpa using h1
  subst h1
  obtain ⟨hc, hA⟩ : ClosedP g ∧ AutI g ss := by
    rcases hR with ⟨_, _, _, _, e⟩ | ⟨_, _, _, _, _, e⟩ | ⟨hc, hA, _⟩
    · omega
    · omega
    · exact ⟨hc, hA⟩
  have hkl := hA.klen hc
  have h256 := hA.dn.2.1
  have g24 : Gr w2 w4 := h.gone1
  have hg := hg.mono g24
  have hs := hs.mono g24
  have r12 : rowH (hp w4) (aM k12) [.slice o ss.length c, .int .i64 ask, .int .i64 int] := rdCel 0 h.l
  clear h
  refine ⟨_, _, _, _, _, _, _, _, _, _, _, _, _, B.row (g12.trans g24), _, _, _, _, _, r12.at (sub.refl _) rfl, new_i (St.all w4) fun kb w5 h => ?_⟩
  have h := mapA_new (κ := TransT) h
  refine newC_i (vs := wyC x o ss.length c ask int kb) h fun km w6 h => ?_
  refine ⟨_, _, _, r12.cell0 (rdH 2 h.l), fun z w' => ∃ (i : Nat) (m : List (TransT × Value)), z = i ∧ i ≤ ss.length ∧ WayI ss m i [] ∧ St w' (cel km (wyC x o ss.length c ask int kb) :: mapA kb m :: all w4), fun z _ => ss.length - z.toNat,
    ⟨0, [], rfl, Nat.zero_le _, .start, h⟩, ?_⟩
  clear h
  rintro _ _ w7 ⟨i, m, rfl, hi, hW, h⟩
  have s7 : sub (hp w4) (hp w7) := rdH 2 h.l
  refine br_intro (fun h1 => ?_) fun h1 => ?_
  rotate_left
  · have h1 : i = ss.length := by have := of_decide_eq_false h1; omega
    subst h1
    obtain ⟨hm, sm, hA2⟩ := rdA 1 h.l
    exact ⟨ss, ask, int, 0, some (aM km), rfl, hR, gw.trans (g12.trans (g24.trans s7)), fun _ => ⟨km, rfl, x, o, c, kb, ask, int, m, rdCel 0 h.l, hg.mono s7, hs.mono s7, mapA_mono sm hA2, hW⟩, fun h => absurd rfl h⟩
  have h1 : i < ss.length := by have := of_decide_eq_true h1; omega
  obtain ⟨q, hq⟩ : ∃ q, ss[i]? = some q := ⟨_, List.getElem?_eq_getElem h1⟩
  obtain ⟨ad, rfl, rs, _, re⟩ := hs i q hq
  have hql := (hkl q (List.mem_of_getElem? hq)).2
  have hnd := aut_nd hA hq
  refine idx_n rfl h1 ⟨_, _, _, _, _, _, rs.at s7 rfl, newC_i h fun k31 w8 h => stR_i h rfl (by simp [oneC]) fun w9 h => ?_⟩
  have r31 : rowH (hp w9) (aM k31) (stV q) := rdCel 0 h.l
  refine ⟨_, _, _, r31.cell (sub.refl _) (j := 1) rfl, fun z w' => ∃ (k : Nat) (m : List (TransT × Value)), z = k ∧ k ≤ q.2.2.length ∧ WayI ss m i (q.2.2.take k) ∧ St w' (cel km (wyC x (some ad) ss.length c ask int kb) :: mapA kb m :: all w4), fun z _ => q.2.2.length - z.toNat,
    ⟨0, m, rfl, Nat.zero_le _, hW, h.pick 3 [1, 2]⟩, ?_⟩
  clear h hW
  rintro _ _ w10 ⟨k, m, rfl, hk, hW, h⟩
  have s10 : sub (hp w4) (hp w10) := rdH 2 h.l
  refine br_intro (fun h2 => ?_) fun h2 => ?_
  rotate_left
  · have h2 : k = q.2.2.length := by have := of_decide_eq_false h2; omega
    subst h2
    rw [List.take_length] at hW
    exact ⟨⟨by omega, by omega⟩, ⟨i + 1, m, by simp, h1, hW.next hq, h⟩, msr h1⟩
  have h2 : k < q.2.2.length := by have := of_decide_eq_true h2; omega
  obtain ⟨e, ead, he, hea, red⟩ := rdEd_get re h2
  refine idx_n hea h2 ⟨_, _, red.at s10 rfl, newC_i h fun k34 w11 h => stR_i h rfl (by simp [oneC]) fun w12 h => ?_⟩
  intro w13 hd
  have h := h.eq (drawn_hp hd)
  have r34 : rowH (hp w13) (aM k34) [.int .i64 e.sym, .int .i64 e.to] := rdCel 0 h.l
  have rm : rowH (hp w13) (aM km) (wyC x (some ad) ss.length c ask int kb) := rdCel 1 h.l
  refine ⟨fun u => Gr w13 u, Gr.refl _, _, fun u s => rm.cell s (j := 8) rfl, _, fun u s => r34.cell0 s, _, fun u s => r34.cell s (j := 1) rfl, (map_updateP (κ := TransT) tyOk (rfl : kdOfT Ty _ = .map _ _) key_Trans (h.pick 3 [2, 0, 1]) ⟨(i : Int), e.sym⟩ _).mono ?_⟩
  rintro _ w17 h
  have ht : q.2.2.take (k + 1) = q.2.2.take k ++ [e] := by rw [List.take_add_one, he]; rfl
  have hn : e.sym ∉ (q.2.2.take k).map (·.sym) := fun hm => by
    have e1 : q.2.2.map (·.sym) = (q.2.2.take k).map (·.sym) ++ e.sym :: (q.2.2.drop (k + 1)).map (·.sym) := by
      rw [← List.map_cons, ← List.map_append]
      congr 1
      have := List.take_append_drop (k + 1) q.2.2
      rw [ht] at this
      simpa using this.symm
    rw [e1, List.nodup_append] at hnd
    exact hnd.2.2 _ hm _ (by simp) rfl
  have hW := hW.step hn
  rw [← ht] at hW
  exact ⟨⟨by omega, by omega⟩, ⟨k + 1, _, by simp, h2, hW, h.pick 3 [2, 0]⟩, msr h2⟩
end Go.Proofs.YtkmjjnjngcpjmaaGreatDoor
set_option linter.unusedVariables false
set_option maxRecDepth 4000
namespace Go.V
section
variable {g : GramT} {ss : List SQ}
theorem trAt_len (g : GramT) (i : Nat) (es : List EdgeT) : (trAt g i es).length ≤ es.length := by
  unfold trAt; rw [List.length_map]; exact List.length_filter_le _ _
theorem TrN_len (hk : ∀ q ∈ ss, q.2.2.length ≤ 130) : ∀ i, (TrN g ss i).length ≤ i * 130
  | 0 => by simp [TrN]
  | i + 1 => by
    have := TrN_len hk i
    cases hq : ss[i]? with
    | none => simp [TrN, hq]; omega
    | some q =>
      rw [TrN_succ hq, List.length_append]
      have h1 := trAt_len g i q.2.2
      have h2 := hk q (List.mem_of_getElem? hq)
      omega
theorem Res.aut {a i f : Int} (h : Res g ss a i f) (hf : f = 0) : ClosedP g ∧ AutI g ss := by
  subst hf
  rcases h with ⟨_, _, _, _, e⟩ | ⟨_, _, _, _, _, e⟩ | ⟨hc, hA, _⟩
  · omega
  · omega
  · exact ⟨hc, hA⟩
def nextS (ss : List SQ) (i : Nat) (s : Int) : Int := (nxt ss i s).getD (-1)
end
end Go.V
namespace Go.Proofs.YtkmjjnjngcpjmaaGreatDoor
open Go.V
variable {w : World} {L : List Asn} {g : GramT} {x : GA} {ss : List SQ}
theorem y_trlist {k : Nat} (hw : WyR (hp w) g ss k) (hn : ss.length ≤ 256) (hk : ∀ q ∈ ss, q.2.2.length ≤ 130) : Run Tryz.prog n_trans_ways_list [.pointer (some (aM k))] w fun v w' => ∃ (o : Option Addr) (c : Nat), v = .slice o (TrL g ss).length c ∧ St w' (own 2 o (TrL g ss).length c (trv (TrL g ss)) :: all w) := by
  obtain ⟨x, oa, ca, kb, a, int, m, rk, hg, hs, hm, hW⟩ := hw.ex
  have hTl : g.T = x.tl := hg.t.1
  refine run_trans_ways_list _ w _ ⟨_, _, _, rk.cell (sub.refl _) (j := 5) rfl, fun o n c z w' => ∃ i : Nat, z = i ∧ i ≤ ss.length ∧ n = (TrN g ss i).length ∧ St w' (own 2 o n c (trv (TrN g ss i)) :: all w), fun _ _ _ z _ => ss.length - z.toNat,
    ⟨0, rfl, Nat.zero_le _, rfl, own_nil 2 (St.all w)⟩, ?_⟩
  rintro _ o2 _ c2 _ w1 ⟨i, rfl, hi, rfl, h⟩
  have s1 : sub (hp w) (hp w1) := rdH 1 h.l
  refine br_intro (fun h1 => ?_) fun h1 => ?_
  rotate_left
  · have h1 : i = ss.length := by have := of_decide_eq_false h1; omega
    subst h1
    refine run_slices_Clip_api_Trans_api_Trans_ _ _ _ w1 _ (slc_clip (own_le h) ⟨_, _, _, rfl, _, _, rfl, own_clip h⟩)
  have h1 : i < ss.length := by have := of_decide_eq_true h1; omega
  obtain ⟨q, hq⟩ : ∃ q, ss[i]? = some q := ⟨_, List.getElem?_eq_getElem h1⟩
  obtain ⟨ad, rfl, rs, _, re⟩ := hs i q hq
  have hql := hk q (List.mem_of_getElem? hq)
  have hNl := TrN_len (g := g) hk i
  refine idx_n rfl h1 ⟨_, _, _, _, _, _, rs.at s1 rfl, newC_i h fun k9 w2 h => stR_i h rfl (by simp [oneC]) fun w3 h => ?_⟩
  have r9 : rowH (hp w3) (aM k9) (stV q) := rdCel 0 h.l
  refine ⟨_, _, _, r9.cell (sub.refl _) (j := 1) rfl, fun o n c z w' => ∃ (j : Nat), z = j ∧ j ≤ q.2.2.length ∧ n = (TrN g ss i ++ trAt g i (q.2.2.take j)).length ∧ St w' (own 2 o n c (trv (TrN g ss i ++ trAt g i (q.2.2.take j))) :: all w), fun _ _ _ z _ => q.2.2.length - z.toNat,
    ⟨0, rfl, Nat.zero_le _, by simp [trAt], by simpa [trAt] using (show St w3 (own 2 o2 (TrN g ss i).length c2 (trv (TrN g ss i)) :: all w) from h.pick 2 [1])⟩, ?_⟩
  clear h
  rintro _ o6 _ c6 _ w4 ⟨j, rfl, hj, rfl, h⟩
  have s4 : sub (hp w) (hp w4) := rdH 1 h.l
  have hTA := trAt_len g i (q.2.2.take j)
  rw [List.length_take] at hTA
  refine br_intro (fun h2 => ?_) fun h2 => ?_
  rotate_left
  · have h2 : j = q.2.2.length := by have := of_decide_eq_false h2; omega
    subst h2
    rw [List.take_length] at h ⊢
    exact ⟨⟨by omega, by omega⟩, ⟨i + 1, by simp, h1, by rw [TrN_succ hq], by rw [TrN_succ hq]; exact h⟩, msr h1⟩
  have h2 : j < q.2.2.length := by have := of_decide_eq_true h2; omega
  obtain ⟨e, ead, he, hea, red⟩ := rdEd_get re h2
  have ht : q.2.2.take (j + 1) = q.2.2.take j ++ [e] := by rw [List.take_add_one, he]; rfl
  refine idx_n hea h2 ⟨_, _, red.at s4 rfl, newC_i h fun k14 w5 h => stR_i h rfl (by simp [oneC]) fun w6 h => ?_⟩
  intro w7 hd
  have h := h.eq (drawn_hp hd)
  have r14 : rowH (hp w7) (aM k14) [.int .i64 e.sym, .int .i64 e.to] := rdCel 0 h.l
  have s7 : sub (hp w) (hp w7) := rdH 2 h.l
  refine ⟨fun u => Gr w7 u, Gr.refl _, _, fun u s => r14.cell0 s, _, _, _, fun u s => rk.cell0 (sub.trans s7 s), br_intro (fun h3 => ?_) fun h3 => ?_⟩
  · have h3 : (g.T : Int) ≤ e.sym := by rw [hTl]; exact of_decide_eq_true h3
    have z1 : ((TrN g ss i ++ trAt g i (q.2.2.take j)).length + 1) * 16 ≤ 140737488355328 ∧ (TrN g ss i ++ trAt g i (q.2.2.take j)).length < 9223372036854775807 := by rw [List.length_append]; omega
    refine ⟨_, r14.cell0 (sub.refl _), newC_i h fun k17 w10 h => ?_⟩
    refine (app_one (us := trv (TrN g ss i ++ trAt g i (q.2.2.take j))) tyOk (rfl : kdOfT Ty _ = .slice _) (rfl : kdOfT Ty _ = .slice _) rfl rfl rfl (h.pick 3 [0, 2]) rfl (by simp [oneC]) z1.1 z1.2).mono ?_
    rintro _ w11 ⟨o8, c8, rfl, h⟩
    have e2 : trAt g i (q.2.2.take (j + 1)) = trAt g i (q.2.2.take j) ++ [⟨(i : Int), e.sym⟩] := by rw [ht, trAt_snoc, if_pos h3]
    have e3 : trv (TrN g ss i ++ trAt g i (q.2.2.take (j + 1))) = trv (TrN g ss i ++ trAt g i (q.2.2.take j)) ++ [.int .i64 (i : Int), .int .i64 e.sym] := by rw [e2, ← List.append_assoc, trv_app]; rfl
    refine ⟨_, _, _, rfl, ⟨by omega, by omega⟩, ⟨j + 1, by simp, h2, by rw [e2]; simp; omega, ?_⟩, msr h2⟩
    rw [e3]; exact h.pick 2 [0]
  · have h3 : ¬(g.T : Int) ≤ e.sym := by rw [hTl]; exact of_decide_eq_false h3
    have e2 : trAt g i (q.2.2.take (j + 1)) = trAt g i (q.2.2.take j) := by rw [ht, trAt_snoc, if_neg h3]
    exact ⟨⟨by omega, by omega⟩, ⟨j + 1, by simp, h2, by rw [e2], by rw [e2]; exact h.pick 2 [1]⟩, msr h2⟩
theorem y_trList (hg : gR (hp w) g x) (hb : okG g) : Run Tryz.prog n_trans_List [.agg ⟨x.cells⟩] w fun v w' => ∃ (ss : List SQ) (ask int f : Int) (o : Option Addr) (c : Nat), v = .tuple #[.slice o (TrL g ss).length c, .int .i64 f] ∧ Res g ss ask int f ∧ St w' (own 2 o (TrL g ss).length c (trv (TrL g ss)) :: all w) := by
  refine run_trans_List _ _ _ _ _ _ _ _ _ _ _ _ _ w _ (gbox hg fun k1 w1 gw hg B => ?_)
  refine ⟨_, _, _, _, _, _, _, _, _, _, _, _, _, B.row (sub.refl _), (y_trof hg hb).mono ?_⟩
  rintro _ w2 ⟨ss, ask, int, f, p, rfl, hR, g2, h0, hn⟩
  refine ⟨_, _, rfl, br_intro (fun h1 => ?_) fun h1 => ?_⟩
  · have h1 : f ≠ 0 := by simpa using h1
    have hz : ss = [] := by rcases hR with ⟨_, e, _⟩ | ⟨_, _, e, _⟩ | ⟨_, _, _, _, e⟩ <;> first | exact e | exact absurd e h1
    subst hz
    exact ⟨[], ask, int, f, none, 0, rfl, hR, own_nil 2 (St.here (gw.trans g2))⟩
  have h1 : f = 0 := by simpa using h1
  obtain ⟨k, rfl, hw⟩ := h0 h1
  obtain ⟨hc, hA⟩ := hR.aut h1
  have hkl := hA.klen hc
  refine (y_trlist hw hA.dn.2.1 fun q hq => (hkl q hq).2).mono ?_
  rintro _ w3 ⟨o, c, rfl, h⟩
  subst h1
  exact ⟨_, _, _, rfl, ss, ask, int, 0, o, c, rfl, hR, St.on1 h (has_i (gw.trans g2))⟩
theorem d_Next {o : Option Addr} {c : Nat} {ask int s : Int} {i : Nat} (hA : AutI g ss) (hs : stRd (hp w) ss o) (hi : i < ss.length) (hk : ∀ q ∈ ss, q.2.2.length ≤ 130) (hn : ss.length ≤ 256) : Run Tryz.prog n_presageref09_Next [.agg #[.slice o ss.length c, .int .i64 ask, .int .i64 int], .int .i64 (i : Int), .int .i64 s] w fun v w' => v = .int .i64 (nextS ss i s) ∧ Gr w w' := by
  obtain ⟨q, hq⟩ : ∃ q, ss[i]? = some q := ⟨_, List.getElem?_eq_getElem hi⟩
  have hql := hk q (List.mem_of_getElem? hq)
  refine run_presageref09_Next _ _ _ _ _ _ _ w _ (newC_i (St.all w) fun k1 w1 h => ?_)
  have g1 : Gr w w1 := h.gone1
  obtain ⟨ad, rfl, rs, _, re⟩ := (hs.mono g1) i q hq
  refine ⟨_, _, _, (rdCel 0 h.l).cell0 (sub.refl _), idx_n rfl hi ⟨_, _, _, rs.cell (sub.refl _) (j := 1) rfl, fun z w' => ∃ j : Nat, z = j ∧ j ≤ q.2.2.length ∧ (∀ e ∈ q.2.2.take j, e.sym ≠ s) ∧ w' = w1, fun z _ => q.2.2.length - z.toNat,
    ⟨0, rfl, Nat.zero_le _, by simp, rfl⟩, ?_⟩⟩
  rintro _ _ w2 ⟨j, rfl, hj, hno, rfl⟩
  refine br_intro (fun h2 => ?_) fun h2 => ?_
  rotate_left
  · have h2 : j = q.2.2.length := by have := of_decide_eq_false h2; omega
    subst h2
    rw [List.take_length] at hno
    refine ⟨?_, g1⟩
    have : (q.2.2.find? fun e => decide (e.sym = s)) = none := List.find?_eq_none.2 fun e he h => hno e he (by simpa using h)
    unfold nextS
    rw [nxt_some hq, this]; rfl
  have h2 : j < q.2.2.length := by have := of_decide_eq_true h2; omega
  obtain ⟨e, ead, he, hea, red⟩ := rdEd_get re h2
  have ht : q.2.2.take (j + 1) = q.2.2.take j ++ [e] := by rw [List.take_add_one, he]; rfl
  refine idx_n hea h2 ⟨_, red.cell0 (sub.refl _), br_intro (fun h3 => ?_) fun h3 => ?_⟩
  · have h3 : e.sym = s := by simpa using h3
    subst h3
    refine idx_n hea h2 ⟨_, red.cell (sub.refl _) (j := 1) rfl, ?_, g1⟩
    unfold nextS
    rw [nxt_edge hA hq he]; rfl
  · have h3 : e.sym ≠ s := by simpa using h3
    refine ⟨⟨by omega, by omega⟩, ⟨j + 1, by simp, h2, fun y hy => ?_, rfl⟩, msr h2⟩
    rw [ht, List.mem_append, List.mem_singleton] at hy
    rcases hy with hy | rfl
    · exact hno y hy
    · exact h3
end Go.Proofs.YtkmjjnjngcpjmaaGreatDoor
set_option linter.unusedVariables false
set_option maxRecDepth 4000
namespace Go.V
def bS (g : GramT) (s : Int) : Bool := decide (s < 0) || decide (((g.T + g.N : Nat) : Int) ≤ s)
theorem nxt_pos {g : GramT} {ss : List SQ} (hc : ClosedP g) (hA : AutI g ss) {i : Nat} {s j : Int} (h : nxt ss i s = some j) : 0 ≤ j ∧ j < ss.length := by
  obtain ⟨q, k, e, hq, he, rfl, rfl⟩ := nxt_inv h
  obtain ⟨_, _, n, r, hn, h1, hr, _⟩ := aut_edge hc hA hq he
  have := (List.getElem?_eq_some_iff.1 hr).1
  omega
end Go.V
namespace Go.Proofs.YtkmjjnjngcpjmaaGreatDoor
open Go.V
variable {w : World} {L : List Asn} {g : GramT} {x : GA} {ss : List SQ} {a : Option Addr} {l c : Nat} {row : List Int}
end Go.Proofs.YtkmjjnjngcpjmaaGreatDoor
set_option linter.unusedVariables false
set_option maxRecDepth 4000
namespace Go.V
section
variable {g : GramT} {ss : List SQ}
theorem TrN_mem {t : TransT} : ∀ {n : Nat}, t ∈ TrN g ss n → ∃ (i : Nat) (q : SQ) (k : Nat) (e : EdgeT), i < n ∧ ss[i]? = some q ∧ q.2.2[k]? = some e ∧ (g.T : Int) ≤ e.sym ∧ t = ⟨(i : Int), e.sym⟩
  | 0, h => by simp [TrN] at h
  | n + 1, h => by
    cases hq : ss[n]? with
    | none =>
      simp [TrN, hq] at h
      obtain ⟨i, q, k, e, h1, h2⟩ := TrN_mem h
      exact ⟨i, q, k, e, by omega, h2⟩
    | some q =>
      rw [TrN_succ hq, List.mem_append] at h
      rcases h with h | h
      · obtain ⟨i, q, k, e, h1, h2⟩ := TrN_mem h
        exact ⟨i, q, k, e, by omega, h2⟩
      · unfold trAt at h
        obtain ⟨e, he, rfl⟩ := List.mem_map.1 h
        obtain ⟨h1, h2⟩ := List.mem_filter.1 he
        obtain ⟨k, hk⟩ := List.getElem?_of_mem h1
        exact ⟨n, q, k, e, by omega, hq, hk, of_decide_eq_true h2, rfl⟩
end
end Go.V
namespace Go.Proofs.YtkmjjnjngcpjmaaGreatDoor
open Go.V
variable {w : World} {L : List Asn} {g : GramT} {x : GA} {ss : List SQ}
end Go.Proofs.YtkmjjnjngcpjmaaGreatDoor

set_option linter.unusedVariables false
set_option maxRecDepth 4000
namespace Go.V
section
variable {g : GramT} {ss ss' : List SQ}
theorem es_at (h : esOf ss = esOf ss') (i : Nat) : (ss[i]?).map (fun q => q.2.2) = (ss'[i]?).map fun q => q.2.2 := by
  have := congrArg (fun l => l[i]?) h
  unfold esOf at this
  simpa [List.getElem?_map] using this
theorem nxt_es (h : esOf ss = esOf ss') (i : Nat) (s : Int) : nxt ss i s = nxt ss' i s := by
  have := es_at h i
  unfold nxt
  cases h1 : ss[i]? <;> cases h2 : ss'[i]? <;> simp [h1, h2] at this ⊢
  rw [this]
theorem TrN_es (h : esOf ss = esOf ss') : ∀ i, TrN g ss i = TrN g ss' i
  | 0 => rfl
  | i + 1 => by
    have := es_at h i
    show TrN g ss i ++ _ = TrN g ss' i ++ _
    rw [TrN_es h i]
    cases h1 : ss[i]? <;> cases h2 : ss'[i]? <;> simp [h1, h2] at this ⊢
    rw [this]
theorem es_len (h : esOf ss = esOf ss') : ss.length = ss'.length := by have := congrArg List.length h; simpa [esOf] using this
theorem TrL_es (h : esOf ss = esOf ss') : TrL g ss = TrL g ss' := by unfold TrL; rw [es_len h, TrN_es h]
theorem wayN_es (h : esOf ss = esOf ss') : ∀ (l : List Int) (q : Int), wayN ss q l = wayN ss' q l
  | [], q => rfl
  | s :: l, q => by
    unfold wayN
    rw [nxt_es h]
    cases nxt ss' q.toNat s with
    | none => rfl
    | some j => exact wayN_es h l j
end
end Go.V
namespace Go.Proofs.YtkmjjnjngcpjmaaGreatDoor
open Go.V
variable {w : World} {L : List Asn} {g : GramT} {x : GA}
end Go.Proofs.YtkmjjnjngcpjmaaGreatDoor
set_option linter.unusedVariables false
set_option maxRecDepth 4000
namespace Go.V
section
variable {g : GramT} {ss : List SQ}
theorem TrN_pre : ∀ (n i : Nat), i ≤ n → ∃ t, TrN g ss n = TrN g ss i ++ t
  | 0, i, h => ⟨[], by have : i = 0 := by omega
                       subst this; simp⟩
  | n + 1, i, h => by
    by_cases e : i = n + 1
    · subst e; exact ⟨[], by simp⟩
    · obtain ⟨t, ht⟩ := TrN_pre n i (by omega)
      exact ⟨t ++ (match ss[n]? with | some q => trAt g n q.2.2 | none => []), by rw [← List.append_assoc, ← ht]; rfl⟩
theorem trAt_app (i : Nat) (a b : List EdgeT) : trAt g i (a ++ b) = trAt g i a ++ trAt g i b := by unfold trAt; rw [List.filter_append, List.map_append]
theorem TrL_at {i : Nat} {q : SQ} (hq : ss[i]? = some q) {j : Nat} {e : EdgeT} (he : q.2.2[j]? = some e) (h : (g.T : Int) ≤ e.sym) : (TrL g ss)[(TrN g ss i ++ trAt g i (q.2.2.take j)).length]? = some ⟨(i : Int), e.sym⟩ := by
  have hi := (List.getElem?_eq_some_iff.1 hq).1
  obtain ⟨t, ht⟩ := TrN_pre (g := g) (ss := ss) ss.length (i + 1) (by omega)
  have hd : q.2.2 = q.2.2.take j ++ e :: q.2.2.drop (j + 1) := by
    have hj := (List.getElem?_eq_some_iff.1 he)
    rw [← hj.2, ← List.drop_eq_getElem_cons hj.1, List.take_append_drop]
  have e1 : trAt g i q.2.2 = trAt g i (q.2.2.take j) ++ ⟨(i : Int), e.sym⟩ :: trAt g i (q.2.2.drop (j + 1)) := by
    conv => lhs; rw [hd]
    rw [trAt_app]
    congr 1
    unfold trAt
    rw [List.filter_cons_of_pos (by simpa using h)]
    rfl
  unfold TrL
  rw [ht, TrN_succ hq, e1, ← List.append_assoc, List.append_assoc, List.getElem?_append_right (Nat.le_refl _), Nat.sub_self]
  rfl
end
end Go.V
namespace Go.Proofs.YtkmjjnjngcpjmaaGreatDoor
open Go.V
variable {w : World} {L : List Asn} {g : GramT} {x : GA}
end Go.Proofs.YtkmjjnjngcpjmaaGreatDoor
set_option linter.unusedVariables false
set_option maxRecDepth 4000
namespace Go.V
section
variable {g : GramT} {ss : List SQ}
theorem nxt_kern (h : AutI g ss) {j : Nat} {r : SQ} (hr : ss[j]? = some r) {n : Nat} (hn : n < g.T + g.N) : (nxt ss j (n : Int)).isSome = decide (kern g r.1.2 (n : Int) ≠ []) := by
  have hrise := aut_rise h hr
  rw [nxt_some hr, Option.isSome_map, Bool.eq_iff_iff, decide_eq_true_eq, List.find?_isSome]
  constructor
  · rintro ⟨e, he, h1⟩
    have h1 : e.sym = n := of_decide_eq_true h1
    have : e.sym ∈ r.2.2.map (·.sym) := List.mem_map.2 ⟨e, he, rfl⟩
    rw [hrise, h1] at this
    obtain ⟨m, hm, e2⟩ := List.mem_map.1 this
    have e2 : m = n := Int.ofNat.inj e2
    subst e2
    exact symsOf_ne m hm
  · intro hk
    have : (n : Int) ∈ r.2.2.map (·.sym) := by
      rw [hrise]
      exact List.mem_map.2 ⟨n, List.mem_filter.2 ⟨List.mem_range.2 hn, decide_eq_true hk⟩, rfl⟩
    obtain ⟨e, he, h1⟩ := List.mem_map.1 this
    exact ⟨e, he, decide_eq_true h1⟩
end
end Go.V
namespace Go.Proofs.YtkmjjnjngcpjmaaGreatDoor
open Go.V
variable {w : World} {L : List Asn} {g : GramT} {x : GA}
end Go.Proofs.YtkmjjnjngcpjmaaGreatDoor
set_option linter.unusedVariables false
set_option maxRecDepth 4000
namespace Go.V
section
variable {g : GramT} {ss : List SQ}
theorem wayN_cons (q s : Int) (l : List Int) : wayN ss q (s :: l) = match nxt ss q.toNat s with | none => -1 | some j => wayN ss j l := rfl
theorem wayN_rng (hn : ∀ i s j, nxt ss i s = some j → 0 ≤ j ∧ j < ss.length) : ∀ (l : List Int) (q : Int), 0 ≤ q → q < ss.length → wayN ss q l = -1 ∨ (0 ≤ wayN ss q l ∧ wayN ss q l < ss.length)
  | [], q, h1, h2 => .inr ⟨h1, h2⟩
  | s :: l, q, h1, h2 => by
    unfold wayN
    cases h : nxt ss q.toNat s with
    | none => exact .inl rfl
    | some j => exact wayN_rng hn l j (hn _ _ _ h).1 (hn _ _ _ h).2
theorem wayN_app (hn : ∀ i s j, nxt ss i s = some j → 0 ≤ j ∧ j < ss.length) (b : List Int) : ∀ (l : List Int) (q : Int), 0 ≤ q → q < ss.length → wayN ss q (l ++ b) = if wayN ss q l = -1 then -1 else wayN ss (wayN ss q l) b
  | [], q, h1, h2 => by
    show wayN ss q b = if q = -1 then -1 else wayN ss q b
    rw [if_neg (by omega)]
  | s :: l, q, h1, h2 => by
    show wayN ss q (s :: (l ++ b)) = _
    rw [wayN_cons q s (l ++ b), wayN_cons q s l]
    cases h : nxt ss q.toNat s with
    | none => simp
    | some j => exact wayN_app hn b l j (hn _ _ _ h).1 (hn _ _ _ h).2
theorem Res.nx {a i f : Int} (h : Res g ss a i f) : ∀ i s j, nxt ss i s = some j → 0 ≤ j ∧ j < ss.length := fun i s j hj => by
  rcases h with ⟨_, rfl, _⟩ | ⟨_, _, rfl, _⟩ | ⟨hc, hA, _⟩
  · simp [nxt] at hj
  · simp [nxt] at hj
  · exact nxt_pos hc hA hj
end
end Go.V
namespace Go.Proofs.YtkmjjnjngcpjmaaGreatDoor
open Go.V
variable {w : World} {L : List Asn} {g : GramT} {x : GA} {fr : Int} {one two : List Int} {a1 a2 : Option Addr} {l1 c1 l2 c2 : Nat}
end Go.Proofs.YtkmjjnjngcpjmaaGreatDoor
set_option linter.unusedVariables false
set_option maxRecDepth 4000
namespace Go.V
section
variable {g : GramT} {ss : List SQ}
structure WysI (g : GramT) (ss : List SQ) (ins : List Bool) (todo : List Nat) (ws : List (Lq Int)) : Prop where
  len : ws.length = ins.length
  way : ∀ (j : Nat), ins[j]? = some true → ∃ v, ws[j]? = some v ∧ wayN ss 0 v.2 = (j : Int) ∧ v.2.any (bS g) = false ∧ v.2.length + 1 ≤ ins.count true
  td : ∀ j : Nat, j ∈ todo → ins[j]? = some true
theorem count_tr {ins : List Bool} {j : Nat} (h : ins[j]? = some false) : (ins.set j true).count true = ins.count true + 1 := by
  induction ins generalizing j with
  | nil => simp at h
  | cons b l ih =>
    cases j with
    | zero => simp at h; subst h; simp
    | succ j =>
      have := ih (j := j) (by simpa using h)
      rw [List.set_cons_succ, List.count_cons, List.count_cons]
      omega
theorem WysI.start (hp : 0 < ss.length) : WysI g ss ((List.replicate ss.length false).set 0 true) [0] (List.replicate ss.length ((none, 0), [])) := by
  have hc : ((List.replicate ss.length false).set 0 true).count true = 1 := by
    rw [count_tr (by rw [List.getElem?_replicate, if_pos hp])]
    simp [List.count_replicate]
  have hi : ∀ i, ((List.replicate ss.length false).set 0 true)[i]? = some true → i = 0 := fun i h => by
    by_cases e : 0 = i
    · exact e.symm
    · rw [List.getElem?_set_ne e, List.getElem?_replicate] at h
      split at h <;> simp at h
  refine ⟨by simp, fun j hj => ?_, fun j hj => ?_⟩
  · have := hi j hj
    subst this
    exact ⟨_, by rw [List.getElem?_replicate, if_pos hp], rfl, rfl, by rw [hc]; simp⟩
  · rw [List.mem_singleton] at hj
    subst hj
    rw [List.getElem?_set_self (by simpa using hp)]
theorem WysI.step {ins : List Bool} {q j : Nat} {todo : List Nat} {ws : List (Lq Int)} {v : Lq Int} {s : Int} {a : Option Addr} {c : Nat} (h : WysI g ss ins todo ws) (hn : ∀ i s j, nxt ss i s = some j → 0 ≤ j ∧ j < ss.length) (hp : 0 < ss.length)
    (hq : ins[q]? = some true) (hv : ws[q]? = some v) (hs : bS g s = false) (hx : nxt ss q s = some (j : Int)) (hj : ins[j]? = some false) : WysI g ss (ins.set j true) (todo ++ [j]) (ws.set j ((a, c), v.2 ++ [s])) := by
  have hjl := (List.getElem?_eq_some_iff.1 hj).1
  have hct := count_tr hj
  obtain ⟨v', hv', w1, w2, w3⟩ := h.way q hq
  rw [hv] at hv'; cases hv'
  refine ⟨by rw [List.length_set, List.length_set, h.len], fun i hi => ?_, fun i hi => ?_⟩
  · by_cases e : j = i
    · subst e
      refine ⟨_, by rw [List.getElem?_set_self (by rw [h.len]; exact hjl)], ?_, ?_, ?_⟩
      · show wayN ss 0 (v.2 ++ [s]) = _
        rw [wayN_app hn [s] v.2 0 (Int.le_refl _) (by omega), w1, if_neg (by omega)]
        unfold wayN
        rw [Int.toNat_natCast, hx]
        rfl
      · show (v.2 ++ [s]).any (bS g) = false
        rw [List.any_append, w2]
        simp [hs]
      · show (v.2 ++ [s]).length + 1 ≤ _
        rw [List.length_append, List.length_singleton, hct]; omega
    · rw [List.getElem?_set_ne e] at hi
      obtain ⟨v2, h1, h2, h3, h4⟩ := h.way i hi
      exact ⟨v2, by rw [List.getElem?_set_ne e]; exact h1, h2, h3, by omega⟩
  · rw [List.mem_append, List.mem_singleton] at hi
    by_cases e : j = i
    · subst e; rw [List.getElem?_set_self hjl]
    · rw [List.getElem?_set_ne e]
      exact h.td i (hi.resolve_right (fun h => e h.symm))
end
end Go.V
set_option linter.unusedVariables false
set_option maxRecDepth 4000
namespace Go.Proofs.YtkmjjnjngcpjmaaGreatDoor
open Go.V
variable {w : World} {L : List Asn} {g : GramT} {x : GA}
end Go.Proofs.YtkmjjnjngcpjmaaGreatDoor
set_option linter.unusedVariables false
set_option maxRecDepth 4000
namespace Go.V
section
variable {g : GramT} {ss : List SQ}
theorem edge_of (hc : ClosedP g) (hA : AutI g ss) {i : Nat} {q : SQ} (hq : ss[i]? = some q) {y : ItemT} {s : Int} (hy : ClM g q.1.2 y) (hs : aft g y = s) (h0 : 0 ≤ s) : ∃ (j : Nat) (r : SQ), nxt ss i s = some (j : Int) ∧ ss[j]? = some r ∧ (⟨y.prod, y.dot + 1⟩ : ItemT) ∈ r.1.2 := by
  obtain ⟨hT, hN, hP, hP2, _, _⟩ := hc.sizes
  have hK := (aut_at hA hq).1
  have hf := (bst_inv (g := g) (by omega) i).fit _ (List.mem_of_getElem? hK)
  have hm : (⟨y.prod, y.dot + 1⟩ : ItemT) ∈ kern g q.1.2 s := kern_mem.2 ⟨y, hy, hs, rfl⟩
  have hne : kern g q.1.2 s ≠ [] := List.ne_nil_of_mem hm
  have hsr := kern_sym hc hf h0 hne
  obtain ⟨n, rfl⟩ : ∃ n : Nat, s = n := ⟨s.toNat, by omega⟩
  have hsome := nxt_kern hA hq (n := n) (by omega)
  rw [decide_eq_true hne] at hsome
  obtain ⟨t, ht⟩ := Option.isSome_iff_exists.1 hsome
  obtain ⟨q', k, e, hq', he, he1, he2⟩ := nxt_inv ht
  rw [hq] at hq'; cases hq'
  obtain ⟨_, _, j, r, hj, _, hr, hrk, _⟩ := aut_edge hc hA hq he
  refine ⟨j, r, by rw [ht, ← he2, hj], hr, ?_⟩
  rw [hrk, he1]
  exact hm
theorem walk_right (hc : ClosedP g) (hA : AutI g ss) {n : Nat} {p : ProdT} (hp : g.prods[n]? = some p) : ∀ (d m : Nat), m + d = p.right.length → ∀ (i : Nat) (q : SQ), ss[i]? = some q → ClM g q.1.2 ⟨(n : Int), (m : Int)⟩ →
    ∃ (j : Nat) (r : SQ), wayN ss (i : Int) (p.right.drop m) = (j : Int) ∧ ss[j]? = some r ∧ ClM g r.1.2 ⟨(n : Int), (p.right.length : Int)⟩
  | 0, m, hm, i, q, hq, hy => ⟨i, q, by rw [List.drop_of_length_le (by omega)]; rfl, hq, by rw [show p.right.length = m by omega]; exact hy⟩
  | d + 1, m, hm, i, q, hq, hy => by
    have hlt : m < p.right.length := by omega
    have hpm : p ∈ g.prods := List.mem_of_getElem? hp
    have hs : aft g ⟨(n : Int), (m : Int)⟩ = p.right[m] := by
      rw [aft_some (p := p) (by show g.prods[(n : Int).toNat]? = _; rw [Int.toNat_natCast]; exact hp)]
      show p.right.getD (m : Int).toNat (-1) = _
      rw [Int.toNat_natCast]
      simp [hlt]
    have hsy := hc.sym hpm (List.getElem_mem hlt)
    obtain ⟨j, r, h1, h2, h3⟩ := edge_of hc hA hq hy hs (by omega)
    have h4 : ClM g r.1.2 ⟨(n : Int), ((m + 1 : Nat) : Int)⟩ := .base (by simpa using h3)
    obtain ⟨j', r', e1, e2, e3⟩ := walk_right hc hA hp d (m + 1) (by omega) j r h2 h4
    refine ⟨j', r', ?_, e2, e3⟩
    rw [List.drop_eq_getElem_cons hlt, wayN_cons, Int.toNat_natCast, h1]
    exact e1
theorem by_left (hc : ClosedP g) (hA : AutI g ss) {i : Nat} {q : SQ} (hq : ss[i]? = some q) {n : Nat} {p : ProdT} (hp : g.prods[n]? = some p) (hy : ClM g q.1.2 ⟨(n : Int), 0⟩) : (nxt ss i p.left).isSome = decide (n ≠ 0) := by
  have hc' := hc
  obtain ⟨_, hsy, hpr, p0, hp0, hl0, hr0, _⟩ := hc'
  obtain ⟨hT, hN, hP, hP2, _, hN2⟩ := hc.sizes
  have hdr : ∀ (m : Nat) p', g.prods[m]? = some p' → m ≠ 0 → prodOk g 1 p' := fun m p' hm h0 => by
    refine hpr.2.2.1 p' (List.mem_of_getElem? (i := m - 1) ?_)
    rw [List.getElem?_drop, show 1 + (m - 1) = m by omega]; exact hm
  by_cases h0 : n = 0
  · subst h0
    rw [hp0] at hp; cases hp
    rw [hl0, nxt_kern hA hq (by omega)]
    have hK := (aut_at hA hq).1
    have hf := (bst_inv (g := g) (by omega) i).fit _ (List.mem_of_getElem? hK)
    have : kern g q.1.2 (g.T : Int) = [] := by
      refine Classical.byContradiction fun hne => ?_
      obtain ⟨x, hx⟩ := List.exists_mem_of_ne_nil _ hne
      obtain ⟨y, h1, h2, _⟩ := kern_mem.1 hx
      obtain ⟨p', hp', _, h3⟩ := aft_lt (h1.fit hf) h2 (Int.natCast_nonneg _)
      by_cases h4 : y.prod.toNat = 0
      · rw [h4, hp0] at hp'; cases hp'
        rw [hr0] at h3
        have := List.mem_of_getElem? h3
        rw [List.mem_singleton] at this
        have := hpr.2.2.2.2.1
        omega
      · have := (hdr _ _ hp' h4).2 _ (List.mem_of_getElem? h3)
        unfold symOk at this
        omega
    rw [this]; simp
  · have hpo := hdr n p hp h0
    have hsome : ∃ j : Int, nxt ss i p.left = some j := by
      generalize hz : (⟨(n : Int), 0⟩ : ItemT) = z at hy
      cases hy with
      | base h =>
        subst hz
        cases i with
        | zero =>
          have hK := (aut_at hA hq).1
          have e : q.1.2 = [⟨0, 0⟩] := by
            have : (bst g 0).1[0]? = some [⟨0, 0⟩] := rfl
            rw [this] at hK
            exact (Option.some.inj hK).symm
          rw [e, List.mem_singleton] at h
          have := congrArg ItemT.prod h
          simp at this
          omega
        | succ i =>
          have := (sy_item hc hA (by omega) hq h).2.1
          simp at this
      | step hy' h1 hp' hl' =>
        rename_i y i' p'
        have e : i' = n := by
          have := congrArg ItemT.prod hz
          simp at this
          omega
        subst e
        rw [hp] at hp'; cases hp'
        obtain ⟨j, r, h2, _⟩ := edge_of hc hA hq hy' hl'.symm (by rw [hl']; exact h1)
        exact ⟨j, h2⟩
    obtain ⟨j, hj⟩ := hsome
    rw [hj]
    simp [h0]
end
end Go.V
set_option linter.unusedVariables false
set_option maxRecDepth 4000
namespace Go.V
section
variable {g : GramT} {ss : List SQ}
theorem rdIt_getR {h : Hp} {xs : List ItemT} {a : Option Addr} {l : Nat} (r : rdS h xs a l) {i : Nat} (hi : i < l) : ∃ x ad, xs[i]? = some x ∧ a = some ad ∧ rowH h (ad.add (mulS i 2)) (encT x) := by
  obtain ⟨x, ad, vs, hx, ha, hr, e⟩ := r.get hi
  rw [show vs = encT x from e] at hr
  exact ⟨x, ad, hx, ha, hr⟩
end
end Go.V
namespace Go.Proofs.YtkmjjnjngcpjmaaGreatDoor
open Go.V
variable {w : World} {L : List Asn} {g : GramT} {x : GA} {st : Int}
end Go.Proofs.YtkmjjnjngcpjmaaGreatDoor
set_option linter.unusedVariables false
namespace Go.Proofs.YtkmjjnjngcpjmaaGreatDoor
open Go.V
abbrev n_first_Nullable : FuncId := 43
def ann_first_Nullable : Ann := { rngs := [], loops := [], joins := [], blocks := [] }
set_option maxRecDepth 100000 in
def vc_first_Nullable (a : Option Addr) (b c : Nat) (d : Option Addr) (e f : Nat) (g : Option Addr) (i j : Nat) (k : Int) (l : Option Addr) (m n : Nat) (w : World) (R : Value → WP) : Prop :=  new w (oC [vS a b c, vS d e f, vS g i j, iI k, vS l m n] 27) fun k1 w1 => ∃ o1 k2 k3 o2 k4 k5 o3 k6 k7 n1 o4 k8 k9, V.rowAt w1 (aM k1) 0 5 = some [vS o1 k2 k3, vS o2 k4 k5, vS o3 k6 k7, iI n1, vS o4 k8 k9] ∧ RunE Proofs.Tryz.prog Ev 71 [vA (Array.mk [vS o1 k2 k3, vS o2 k4 k5, vS o3 k6 k7, iI n1, vS o4 k8 k9])] w1 fun v1 w2 => ∃ b1, v1 = vB b1 ∧ br (!b1) (R (vT (Array.mk [vS none 0 0, iI 1])) w2) (∀ w3, drawn w2 w3 → ∃ (I1 : World → Prop), I1 w3 ∧ ∃ o5 k10 k11 o6 k12 k13 o7 k14 k15 n2 o8 k16 k17, (∀ w4, I1 w4 → V.rowAt w4 (aM k1) 0 5 = some [vS o5 k10 k11, vS o6 k12 k13, vS o7 k14 k15, iI n2, vS o8 k16 k17]) ∧ ∃ o9 k18 k19, (∀ w5, I1 w5 → World.cell? w5 (aM k1) = some (vS o9 k18 k19)) ∧ RunE Proofs.Tryz.prog Ev 72 [vA (Array.mk [vS o5 k10 k11, vS o6 k12 k13, vS o7 k14 k15, iI n2, vS o8 k16 k17])] w3 fun v2 w6 => ∃ o10, v2 = vP o10 ∧ ∃ (I2 : World → Prop), I2 w6 ∧ (∀ w7, I2 w7 → I1 w7) ∧ nn o10 fun a1 => ∃ o11 k20 k21, (∀ w8, I2 w8 → World.cell? w8 (Addr.add a1 5) = some (vS o11 k20 k21)) ∧ slc o11 k20 k21 (some (↑k18 : Int)) none none 1 fun (o12 : Option Addr) (k22 k23 : Nat) => R (vT (Array.mk [vS o12 k22 k23, iI 0])) w6)
set_option maxRecDepth 100000 in
theorem run_first_Nullable (a : Option Addr) (b c : Nat) (d : Option Addr) (e f : Nat) (g : Option Addr) (i j : Nat) (k : Int) (l : Option Addr) (m n : Nat) (w : World) (R : Value → WP) (h : vc_first_Nullable a b c d e f g i j k l m n w R) : Run Tryz.prog 43 [(.agg #[(.slice a b c), (.slice d e f), (.slice g i j), (.int .i64 k), (.slice l m n)])] w R := rv Tryz.func43 ann_first_Nullable (by kernel_rfl) h

abbrev n_first_either : FuncId := 71
def ann_first_either : Ann := { rngs := [], loops := [], joins := [], blocks := [] }
set_option maxRecDepth 100000 in
def vc_first_either (a : Option Addr) (b c : Nat) (d : Option Addr) (e f : Nat) (g : Option Addr) (i j : Nat) (k : Int) (l : Option Addr) (m n : Nat) (w : World) (R : Value → WP) : Prop :=  new w (oC [vS a b c, vS d e f, vS g i j, iI k, vS l m n] 27) fun k1 w1 => ∃ o1 k2 k3 o2 k4 k5 o3 k6 k7 n1 o4 k8 k9, V.rowAt w1 (aM k1) 0 5 = some [vS o1 k2 k3, vS o2 k4 k5, vS o3 k6 k7, iI n1, vS o4 k8 k9] ∧ RunE Proofs.Tryz.prog Ev 101 [vA (Array.mk [vS o1 k2 k3, vS o2 k4 k5, vS o3 k6 k7, iI n1, vS o4 k8 k9])] w1 fun v1 w2 => ∃ b1, v1 = vB b1 ∧ br b1 (R (vB true) w2) (∃ o5 k10 k11 o6 k12 k13 o7 k14 k15 n2 o8 k16 k17, V.rowAt w2 (aM k1) 0 5 = some [vS o5 k10 k11, vS o6 k12 k13, vS o7 k14 k15, iI n2, vS o8 k16 k17] ∧ RunE Proofs.Tryz.prog Ev 44 [vA (Array.mk [vS o5 k10 k11, vS o6 k12 k13, vS o7 k14 k15, iI n2, vS o8 k16 k17])] w2 fun v2 w3 => ∃ b2, v2 = vB b2 ∧ R (vB b2) w3)
set_option maxRecDepth 100000 in
theorem run_first_either (a : Option Addr) (b c : Nat) (d : Option Addr) (e f : Nat) (g : Option Addr) (i j : Nat) (k : Int) (l : Option Addr) (m n : Nat) (w : World) (R : Value → WP) (h : vc_first_either a b c d e f g i j k l m n w R) : Run Tryz.prog 71 [(.agg #[(.slice a b c), (.slice d e f), (.slice g i j), (.int .i64 k), (.slice l m n)])] w R := rv Tryz.func71 ann_first_either (by kernel_rfl) h

abbrev n_first_of : FuncId := 72
def ann_first_of : Ann := { rngs := [], loops := [(4, [(24, (.one (.int .i64)))]), (9, [(6, (.one (.int .i64)))]), (12, [(6, (.one (.int .i64))), (48, (.one (.int .i64)))])], joins := [], blocks := [] }
set_option maxRecDepth 100000 in
def vc_first_of (a : Option Addr) (b c : Nat) (d : Option Addr) (e f : Nat) (g : Option Addr) (i j : Nat) (k : Int) (l : Option Addr) (m n : Nat) (w : World) (R : Value → WP) : Prop :=  new w (oC [vS a b c, vS d e f, vS g i j, iI k, vS l m n] 27) fun k1 w1 => ∃ o1 k2 k3, World.cell? w1 (aM k1) = some (vS o1 k2 k3) ∧ ∃ o2 k4 k5, World.cell? w1 (Addr.add (aM k1) 1) = some (vS o2 k4 k5) ∧ inI ((↑k2 : Int) + (↑k4 : Int)) ∧ ∀ w2, drawn w1 w2 → ∃ (I1 : World → Prop), I1 w2 ∧ ∃ o3 k6 k7 o4 k8 k9 o5 k10 k11 n1 o6 k12 k13, (∀ w3, I1 w3 → V.rowAt w3 (aM k1) 0 5 = some [vS o3 k6 k7, vS o4 k8 k9, vS o5 k10 k11, iI n1, vS o6 k12 k13]) ∧ mkOk ((↑k2 : Int) + (↑k4 : Int)) ((↑k2 : Int) + (↑k4 : Int)) 1 ∧ new w2 (Obj.cells (Array.mk (reps (Int.toNat ((↑k2 : Int) + (↑k4 : Int))) [vB false])) 4) fun k14 w4 => I1 w4 ∧ new w4 (oC [vS o3 k6 k7, vS o4 k8 k9, vS o5 k10 k11, iI n1, vS o6 k12 k13, vS (some (aM k14)) (Int.toNat ((↑k2 : Int) + (↑k4 : Int))) (Int.toNat ((↑k2 : Int) + (↑k4 : Int))), vS none 0 0] 136) fun k15 w5 => I1 w5 ∧ ∃ (x1 : lP [(24, shI)]), ∃ (x2 : lN [(24, shI)]), x1 0 w5 ∧ ∀ (I2 : Nat → Value) (n2 : Int) (w6 : World), x1 n2 w6 → br (decide (n2 < (↑k2 : Int) + (↑k4 : Int))) (∀ w7, drawn w6 w7 → ∃ (I3 : World → Prop), I3 w7 ∧ ∃ o7 k16 k17, (∀ w8, I3 w8 → World.cell? w8 (Addr.add (aM k15) 6) = some (vS o7 k16 k17)) ∧ ∃ o8 k18 k19, (∀ w9, I3 w9 → World.cell? w9 (aM k1) = some (vS o8 k18 k19)) ∧ new w7 (oC [iI n2] 3) fun k20 w10 => I3 w10 ∧ RunE Proofs.Tryz.prog Ev 102 [iI (↑k18 : Int), vS (some (aM k20)) 1 1] w10 fun v1 w11 => ∃ o9, v1 = vP o9 ∧ I3 w11 ∧ new w11 (oC [vP o9] 163) fun k21 w12 => I3 w12 ∧ RunS Proofs.Tryz.prog (apB 134 (Array.mk [vS o7 k16 k17, vS (some (aM k21)) 1 1])) w12 fun v2 w13 => ∃ o10 k22 k23, v2 = vS o10 k22 k23 ∧ I3 w13 ∧ st1 w13 (Addr.add (aM k15) 6) (vS o10 k22 k23) fun w14 => inI (n2 + 1) ∧ x1 (n2 + 1) w14 ∧ x2 (n2 + 1) w14 < x2 n2 w6) (∃ (x3 : lP [(6, shI)]), ∃ (x4 : lN [(6, shI)]), x3 1 w6 ∧ ∀ (I4 : Nat → Value) (n3 : Int) (w15 : World), x3 n3 w15 → br (decide (0 < n3)) (∃ o11 k24 k25, World.cell? w15 (Addr.add (aM k1) 4) = some (vS o11 k24 k25) ∧ ∃ (x5 : lP [(6, shI), (48, shI)]), ∃ (x6 : lN [(6, shI), (48, shI)]), x5 0 0 w15 ∧ ∀ (I5 : Nat → Value) (n4 n5 : Int) (w16 : World), x5 n4 n5 w16 → br (decide (n5 < (↑k24 : Int))) (idx o11 k24 n5 3 fun a1 => ∃ n6 o12 k26 k27 n7, V.rowAt w16 a1 0 3 = some [iI n6, vS o12 k26 k27, iI n7] ∧ new w16 (oC [iI 0, vS none 0 0, iI 0] 60) fun k28 w17 => stR w17 (aM k28) [iI n6, vS o12 k26 k27, iI n7] fun w18 => ∀ w19, drawn w18 w19 → ∃ (I6 : World → Prop), I6 w19 ∧ ∃ o13 k29 k30, (∀ w20, I6 w20 → World.cell? w20 (Addr.add (aM k15) 6) = some (vS o13 k29 k30)) ∧ ∃ n8, (∀ w21, I6 w21 → World.cell? w21 (aM k28) = some (iI n8)) ∧ idx o13 k29 n8 1 fun a2 => ∃ o14, (∀ w22, I6 w22 → World.cell? w22 a2 = some (vP o14)) ∧ ∃ o15 k31 k32, (∀ w23, I6 w23 → World.cell? w23 (Addr.add (aM k28) 1) = some (vS o15 k31 k32)) ∧ RunE Proofs.Tryz.prog Ev 103 [vP (some (aM k15)), vP o14, vS o15 k31 k32] w19 fun v3 w24 => ∃ n9 b1, v3 = vT (Array.mk [iI n9, vB b1]) ∧ I6 w24 ∧ inI (n4 + n9) ∧ ∀ w25, drawn w24 w25 → ∃ (I7 : World → Prop), I7 w25 ∧ br b1 (∃ o16 k33 k34, (∀ w26, I7 w26 → World.cell? w26 (Addr.add (aM k15) 5) = some (vS o16 k33 k34)) ∧ ∃ n10, (∀ w27, I7 w27 → World.cell? w27 (aM k28) = some (iI n10)) ∧ idx o16 k33 n10 1 fun a3 => ∃ b2, (∀ w28, I7 w28 → World.cell? w28 a3 = some (vB b2)) ∧ br (!b2) (∀ w29, drawn w25 w29 → ∃ (I8 : World → Prop), I8 w29 ∧ ∃ o17 k35 k36, (∀ w30, I8 w30 → World.cell? w30 (Addr.add (aM k15) 5) = some (vS o17 k35 k36)) ∧ ∃ n11, (∀ w31, I8 w31 → World.cell? w31 (aM k28) = some (iI n11)) ∧ idx o17 k35 n11 1 fun a4 => st1 w29 a4 (vB true) fun w32 => inI (n4 + n9 + 1) ∧ inI (n5 + 1) ∧ x5 (n4 + n9 + 1) (n5 + 1) w32 ∧ x6 (n4 + n9 + 1) (n5 + 1) w32 < x6 n4 n5 w16) (inI (n5 + 1) ∧ x5 (n4 + n9) (n5 + 1) w25 ∧ x6 (n4 + n9) (n5 + 1) w25 < x6 n4 n5 w16)) (inI (n5 + 1) ∧ x5 (n4 + n9) (n5 + 1) w25 ∧ x6 (n4 + n9) (n5 + 1) w25 < x6 n4 n5 w16)) (x3 n4 w16 ∧ x4 n4 w16 < x4 n3 w15)) (R (vP (some (aM k15))) w15))
set_option maxRecDepth 100000 in
theorem run_first_of (a : Option Addr) (b c : Nat) (d : Option Addr) (e f : Nat) (g : Option Addr) (i j : Nat) (k : Int) (l : Option Addr) (m n : Nat) (w : World) (R : Value → WP) (h : vc_first_of a b c d e f g i j k l m n w R) : Run Tryz.prog 72 [(.agg #[(.slice a b c), (.slice d e f), (.slice g i j), (.int .i64 k), (.slice l m n)])] w R := rv Tryz.func72 ann_first_of (by kernel_rfl) h

abbrev n_first_sets_row : FuncId := 103
def ann_first_sets_row : Ann := { rngs := [], loops := [(3, [(8, (.one (.int .i64))), (13, (.one (.int .i64)))])], joins := [], blocks := [] }
set_option maxRecDepth 100000 in
def vc_first_sets_row (a b c : Option Addr) (d e : Nat) (w : World) (R : Value → WP) : Prop :=  ∃ (x1 : lP [(8, shI), (13, shI)]), ∃ (x2 : lN [(8, shI), (13, shI)]), x1 0 0 w ∧ ∀ (I1 : Nat → Value) (n1 n2 : Int) (w1 : World), x1 n1 n2 w1 → br (decide (n2 < (↑d : Int))) (idx c d n2 1 fun a1 => ∃ n3, World.cell? w1 a1 = some (iI n3) ∧ nn a fun a2 => ∃ o1 k1 k2, World.cell? w1 (Addr.add a2 6) = some (vS o1 k1 k2) ∧ idx o1 k1 n3 1 fun a3 => ∃ o2, World.cell? w1 a3 = some (vP o2) ∧ new w1 (oC [vP o2] 163) fun k3 w2 => RunE Proofs.Tryz.prog Ev 128 [vP b, vS (some (aM k3)) 1 1] w2 fun v1 w3 => ∃ n4, v1 = iI n4 ∧ inI (n1 + n4) ∧ nn a fun a4 => ∃ o3 k4 k5, World.cell? w3 (Addr.add a4 5) = some (vS o3 k4 k5) ∧ idx o3 k4 n3 1 fun a5 => ∃ b1, World.cell? w3 a5 = some (vB b1) ∧ br (!b1) (R (vT (Array.mk [iI (n1 + n4), vB false])) w3) (inI (n2 + 1) ∧ x1 (n1 + n4) (n2 + 1) w3 ∧ x2 (n1 + n4) (n2 + 1) w3 < x2 n1 n2 w1)) (R (vT (Array.mk [iI n1, vB true])) w1)
set_option maxRecDepth 100000 in
theorem run_first_sets_row (a b c : Option Addr) (d e : Nat) (w : World) (R : Value → WP) (h : vc_first_sets_row a b c d e w R) : Run Tryz.prog 103 [(.pointer a), (.pointer b), (.slice c d e)] w R := rv Tryz.func103 ann_first_sets_row (by kernel_rfl) h

end Go.Proofs.YtkmjjnjngcpjmaaGreatDoor
set_option linter.unusedVariables false
set_option maxRecDepth 4000
namespace Go.V
def rowB (nl : List Bool) (vs : List (List Bool)) : List Bool → List Int → List Bool
  | bs, [] => bs
  | bs, s :: r => if fnB nl s.toNat then rowB nl vs (addB bs (mbI (vs.getD s.toNat []))) r else addB bs (mbI (vs.getD s.toNat []))
def rowN (nl : List Bool) (row : List Int) : Bool := row.all fun s => fnB nl s.toNat
theorem rowB_nil (nl : List Bool) (vs : List (List Bool)) (bs : List Bool) : rowB nl vs bs [] = bs := rfl
theorem rowB_cons (nl : List Bool) (vs : List (List Bool)) (bs : List Bool) (s : Int) (r : List Int) : rowB nl vs bs (s :: r) = if fnB nl s.toNat then rowB nl vs (addB bs (mbI (vs.getD s.toNat []))) r else addB bs (mbI (vs.getD s.toNat [])) := rfl
theorem rowB_len (nl : List Bool) (vs : List (List Bool)) : ∀ (row : List Int) (bs : List Bool), (rowB nl vs bs row).length = bs.length
  | [], bs => rfl
  | s :: r, bs => by
    unfold rowB
    split
    · rw [rowB_len nl vs r, addB_len]
    · rw [addB_len]
theorem fnB_rowB_sub (nl : List Bool) (vs : List (List Bool)) : ∀ (row : List Int) (bs : List Bool) (k : Nat), fnB bs k = true → fnB (rowB nl vs bs row) k = true
  | [], bs, k, h => h
  | s :: r, bs, k, h => by
    unfold rowB
    have : fnB (addB bs (mbI (vs.getD s.toNat []))) k = true := by rw [fnB_add_mb, h]; rfl
    split
    · exact fnB_rowB_sub nl vs r _ k this
    · exact this
theorem cntB_rowB (nl : List Bool) (vs : List (List Bool)) : ∀ (row : List Int) (bs : List Bool), cntB bs ≤ cntB (rowB nl vs bs row)
  | [], bs => Nat.le_refl _
  | s :: r, bs => by
    unfold rowB
    split
    · exact Nat.le_trans (cntB_add _ _) (cntB_rowB nl vs r _)
    · exact cntB_add _ _
end Go.V
namespace Go.Proofs.YtkmjjnjngcpjmaaGreatDoor
open Go.V
section
variable {w : World} {L : List Asn} {a an ao : Option Addr} {l c nl cn ol co ks : Nat} {p : Option Addr} {bs nulls : List Bool} {row : List Int} {os : List (Option Addr)} {vss : List (List Bool)} {gs : List Value}
set_option maxHeartbeats 1000000 in
theorem f_row (h : St w (setO p bs :: L)) (hs : ∀ h, starL L h → rowH h ⟨ks, 0, none⟩ (gs ++ [.slice an nl cn, .slice ao ol co])) (hgs : gs.length = 5) (hn : ∀ h, starL L h → rdS h nulls an nl) (ho : ∀ h, starL L h → rdS h os ao ol) (hv : vss.length = os.length) (hno : nulls.length = os.length)
    (hq : ∀ h, starL L h → ∀ (i : Nat) q v, os[i]? = some q → vss[i]? = some v → setR h q v ∨ (q = p ∧ v = bs)) (ht : ∀ h, starL L h → tabA h)
    (hr : ∀ h, starL L h → rdS h row a l) (hin : ∀ s ∈ row, 0 ≤ s ∧ s.toNat < os.length) (hb : l ≤ 4611686018427387904) :
    Run Tryz.prog n_first_sets_row [.pointer (some ⟨ks, 0, none⟩), .pointer p, .slice a l c] w fun v w' => v = .tuple #[.int .i64 ((cntB (rowB nulls vss bs row) : Int) - cntB bs), .bool (rowN nulls row)] ∧ St w' (setO p (rowB nulls vss bs row) :: L) := by
  obtain ⟨h0, hl, _, h1⟩ := h.freeze
  have hs := hs h0 hl
  have hn := hn h0 hl
  have ho := ho h0 hl
  have hq := hq h0 hl
  have ht : tabA h0 := ht h0 hl
  have hr := hr h0 hl
  have hn1 := h.setR.le
  have done : ∀ w' b, St w' (setO p b :: [has h0]) → St w' (setO p b :: L) := fun w' b h => h.on1 hl
  clear h hl
  have c5 : ∀ w', sub h0 (hp w') → w'.cell? ((⟨ks, 0, none⟩ : Addr).add 5) = some (.slice an nl cn) := fun w' s => hs.cell s (j := 5) (by rw [List.getElem?_append_right (by omega), hgs]; rfl)
  have c6 : ∀ w', sub h0 (hp w') → w'.cell? ((⟨ks, 0, none⟩ : Addr).add 6) = some (.slice ao ol co) := fun w' s => hs.cell s (j := 6) (by rw [List.getElem?_append_right (by omega), hgs]; rfl)
  refine run_first_sets_row _ _ _ _ _ w _ ?_
  refine ⟨fun n1 n2 w' => ∃ (j : Nat) (U : List Bool), n2 = j ∧ j ≤ l ∧ n1 = (cntB U : Int) - cntB bs ∧ cntB bs ≤ cntB U ∧ U.length = bs.length ∧ (∀ k, fnB bs k = true → fnB U k = true) ∧ rowB nulls vss bs row = rowB nulls vss U (row.drop j) ∧ rowN nulls row = rowN nulls (row.drop j) ∧ St w' [setO p U, has h0], fun _ n2 _ => l - n2.toNat, ⟨0, bs, rfl, by omega, by omega, Nat.le_refl _, rfl, fun _ h => h, by simp, by simp, h1⟩, ?_⟩
  clear h1
  rintro _ _ n2 w1 ⟨j, U, rfl, hj, rfl, hcU, hlU, hsub, e1, e2, h⟩
  have s1 : sub h0 (hp w1) := (h.pick 2 [1]).has
  have k1 := cntB_le U
  refine br_intro (fun hlt => ?_) fun hlt => ?_
  · have hlt : j < l := by have := of_decide_eq_true hlt; omega
    obtain ⟨y, ad, hy1, hya, hy2⟩ := hr.get1 hlt
    obtain ⟨y0, yl⟩ := hin y (List.mem_of_getElem? hy1)
    obtain ⟨q, ad2, hq1, hqa, hq2⟩ := ho.get1 (i := y.toNat) (by have := ho.1; omega)
    obtain ⟨v, hv1⟩ : ∃ v, vss[y.toNat]? = some v := ⟨vss[y.toNat]'(by omega), List.getElem?_eq_getElem _⟩
    obtain ⟨z, ad3, hz1, hza, hz2⟩ := hn.get1 (i := y.toNat) (by have := hn.1; omega)
    have hvd : vss.getD y.toNat [] = v := by simp [List.getD, hv1]
    have hzd : fnB nulls y.toNat = z := by simp [fnB, List.getD, hz1]
    have ed : row.drop j = y :: row.drop (j + 1) := by
      have := List.drop_eq_getElem_cons (l := row) (i := j) (by rw [hr.1]; exact hlt)
      rw [this]; congr 1
      have := List.getElem?_eq_some_iff.1 hy1; exact this.2
    refine idx_i hya hlt ⟨y, hy2 _ s1, _, _, _, c6 _ s1, ?_⟩
    have ey : y = ((y.toNat : Nat) : Int) := by omega
    rw [ey]
    refine idx_i hqa (by have := ho.1; omega) ⟨q, hq2 _ s1, newC_i h fun b2 w2 h2 => ?_⟩
    have hq' := hq _ _ _ hq1 hv1
    obtain ⟨v', hr', he'⟩ : ∃ v', (∀ h, starL [cel b2 [.pointer q], has h0] h → setR h q v' ∨ (q = p ∧ v' = U)) ∧ addB U (mbI v') = addB U (mbI v) := by
      rcases hq' with hr | ⟨rfl, rfl⟩
      · exact ⟨v, fun h hh => .inl (hr.mono (starL_in (A := has h0) (List.mem_cons_of_mem _ (List.mem_singleton_self _)) hh |>.elim fun h1 x => x.2.trans x.1)), rfl⟩
      · exact ⟨U, fun h hh => .inr ⟨rfl, rfl⟩, by rw [addB_self fun _ h => h, addB_self hsub]⟩
    refine (s_Union (vss := [v']) (os := [q]) (l := 1) (h2.pick 3 [1, 0, 2]) (fun h hh => ?_) rfl (fun h hh i q' w' hi hw => ?_) (fun h hh => ?_) (by omega)).mono ?_
    · obtain ⟨h1, _, _, s1, _, ⟨e, he⟩, _⟩ := hh
      exact (rdS_of_row (xs := [q]) rfl (.inr ⟨_, rfl, cel_row ⟨e, he⟩⟩)).mono s1
    · match i, hi, hw with
      | 0, hi, hw => cases hi; cases hw; exact hr' h hh
      | i + 1, hi, _ => simp at hi
    · exact rdV.mono (starL_in (A := has h0) (List.mem_cons_of_mem _ (List.mem_singleton_self _)) hh |>.elim fun h1 x => x.2.trans x.1) ht
    rintro _ w3 ⟨rfl, h3⟩
    have eU : unionB U [v'] = addB U (mbI v) := he'
    rw [eU] at h3 ⊢
    have h3 := h3.pick 3 [0, 2]
    have s3 : sub h0 (hp w3) := (h3.pick 2 [1]).has
    have k2 := cntB_add U (mbI v)
    have k3 := cntB_le (addB U (mbI v))
    rw [addB_len] at k3
    rw [ed] at e1 e2
    rw [rowB_cons, hvd, hzd] at e1
    rw [show rowN nulls (y :: row.drop (j + 1)) = (z && rowN nulls (row.drop (j + 1))) from by unfold rowN; rw [List.all_cons, hzd]] at e2
    refine ⟨_, rfl, ⟨by omega, by omega⟩, _, _, _, c5 _ s3, ?_⟩
    refine idx_i hza (by have := hn.1; omega) ⟨z, hz2 _ s3, br_intro (fun h4 => ?_) fun h4 => ?_⟩
    · have h4 : z = false := by simpa using h4
      subst h4
      simp only [Bool.false_eq_true, if_false] at e1
      refine ⟨?_, ?_⟩
      · rw [e1, e2, Bool.false_and, show (cntB U : Int) - cntB bs + ((cntB (addB U (mbI v)) : Int) - cntB U) = (cntB (addB U (mbI v)) : Int) - cntB bs from by omega]
      · rw [e1]; exact done _ _ h3
    · have h4 : z = true := by simpa using h4
      subst h4
      simp only [if_true] at e1
      rw [Bool.true_and] at e2
      refine ⟨⟨by omega, by omega⟩, ⟨j + 1, addB U (mbI v), by simp, by omega, by omega, by omega, by rw [addB_len]; exact hlU, fun k hk => by rw [fnB_add_mb, hsub k hk]; rfl, e1, e2, h3⟩, msr hlt⟩
  · have hlt : j = l := by have := of_decide_eq_false hlt; omega
    subst hlt
    rw [List.drop_of_length_le (by have := hr.1; omega)] at e1 e2
    rw [rowB_nil] at e1
    refine ⟨?_, ?_⟩
    · rw [e1, e2]; rfl
    · rw [e1]; exact done _ _ h
end
end Go.Proofs.YtkmjjnjngcpjmaaGreatDoor
set_option linter.unusedVariables false
set_option maxRecDepth 4000
namespace Go.V
inductive Nul (g : GramT) : Int → Prop
  | mk (p : ProdT) : p ∈ g.prods → (∀ s ∈ p.right, Nul g s) → Nul g p.left
inductive Fst (g : GramT) : Int → Nat → Prop
  | tm (t : Nat) : t < g.T → Fst g (t : Int) t
  | pr (p : ProdT) (i : Nat) (s : Int) (t : Nat) : p ∈ g.prods → p.right[i]? = some s → (∀ x ∈ p.right.take i, Nul g x) → Fst g s t → Fst g p.left t
def NulR (g : GramT) (row : List Int) : Prop := ∀ s ∈ row, Nul g s
def FstR (g : GramT) (row : List Int) (t : Nat) : Prop := ∃ (i : Nat) (s : Int), row[i]? = some s ∧ (∀ x ∈ row.take i, Nul g x) ∧ Fst g s t
theorem rowN_iff {nl : List Bool} {row : List Int} : rowN nl row = true ↔ ∀ s ∈ row, fnB nl s.toNat = true := by
  unfold rowN; rw [List.all_eq_true]
theorem fnB_rowB (nl : List Bool) (vs : List (List Bool)) : ∀ (row : List Int) (bs : List Bool) (k : Nat), fnB (rowB nl vs bs row) k = true ↔ fnB bs k = true ∨ (k < bs.length ∧ ∃ (i : Nat) (s : Int), row[i]? = some s ∧ (∀ x ∈ row.take i, fnB nl x.toNat = true) ∧ fnB (vs.getD s.toNat []) k = true)
  | [], bs, k => by rw [rowB_nil]; simp
  | s :: r, bs, k => by
    rw [rowB_cons]
    constructor
    · intro h
      by_cases hz : fnB nl s.toNat = true
      · rw [if_pos hz, fnB_rowB nl vs r] at h
        rw [fnB_add_mb, addB_len, Bool.or_eq_true, Bool.and_eq_true, decide_eq_true_eq] at h
        rcases h with (h | ⟨h1, h2⟩) | ⟨h1, i, y, h2, h3, h4⟩
        · exact .inl h
        · exact .inr ⟨h1, 0, s, rfl, by simp, h2⟩
        · refine .inr ⟨h1, i + 1, y, h2, ?_, h4⟩
          intro x hx
          rw [List.take_succ_cons] at hx
          rcases List.mem_cons.1 hx with rfl | hx
          · exact hz
          · exact h3 x hx
      · rw [if_neg hz, fnB_add_mb, Bool.or_eq_true, Bool.and_eq_true, decide_eq_true_eq] at h
        rcases h with h | ⟨h1, h2⟩
        · exact .inl h
        · exact .inr ⟨h1, 0, s, rfl, by simp, h2⟩
    · intro h
      have hu : (fnB bs k = true ∨ (k < bs.length ∧ fnB (vs.getD s.toNat []) k = true)) → fnB (addB bs (mbI (vs.getD s.toNat []))) k = true := fun h => by
        rw [fnB_add_mb, Bool.or_eq_true, Bool.and_eq_true, decide_eq_true_eq]; exact h
      by_cases hz : fnB nl s.toNat = true
      · rw [if_pos hz, fnB_rowB nl vs r, addB_len]
        rcases h with h | ⟨h1, i, y, h2, h3, h4⟩
        · exact .inl (hu (.inl h))
        · match i, h2, h3 with
          | 0, h2, _ => cases h2; exact .inl (hu (.inr ⟨h1, h4⟩))
          | i + 1, h2, h3 => exact .inr ⟨h1, i, y, h2, fun x hx => h3 x (by rw [List.take_succ_cons]; exact List.mem_cons_of_mem _ hx), h4⟩
      · rw [if_neg hz]
        rcases h with h | ⟨h1, i, y, h2, h3, h4⟩
        · exact hu (.inl h)
        · match i, h2, h3 with
          | 0, h2, _ => cases h2; exact hu (.inr ⟨h1, h4⟩)
          | i + 1, h2, h3 => exact absurd (h3 s (by rw [List.take_succ_cons]; exact List.mem_cons_self)) hz
def InG (g : GramT) : Prop := ∀ p ∈ g.prods, ((g.T : Int) ≤ p.left ∧ p.left < g.T + g.N) ∧ ∀ s ∈ p.right, 0 ≤ s ∧ s < (g.T : Int) + g.N
structure MkF (g : GramT) (nl : List Bool) (vs : List (List Bool)) : Prop where
  ln : nl.length = g.T + g.N
  lv : vs.length = g.T + g.N
  le : ∀ v ∈ vs, v.length = g.T
  sn : ∀ i, fnB nl i = true → Nul g (i : Int)
  sv : ∀ i t, fnB (vs.getD i []) t = true → Fst g (i : Int) t
  tm : ∀ t, t < g.T → fnB (vs.getD t []) t = true
def ClP (nl : List Bool) (vs : List (List Bool)) (p : ProdT) : Prop := (rowN nl p.right = true → fnB nl p.left.toNat = true) ∧ rowB nl vs (vs.getD p.left.toNat []) p.right = vs.getD p.left.toNat []
theorem toNat_back {s : Int} (h : 0 ≤ s) : ((s.toNat : Nat) : Int) = s := by omega
theorem MkF.row {g : GramT} {nl : List Bool} {vs : List (List Bool)} (m : MkF g nl vs) {row : List Int} (hr : ∀ s ∈ row, 0 ≤ s ∧ s < (g.T : Int) + g.N) : (rowN nl row = true → NulR g row) ∧ ∀ bs t, fnB (rowB nl vs bs row) t = true → fnB bs t = true ∨ FstR g row t := by
  refine ⟨fun h s hs => ?_, fun bs t h => ?_⟩
  · have := m.sn _ (rowN_iff.1 h s hs)
    rwa [toNat_back (hr s hs).1] at this
  · rcases (fnB_rowB nl vs row bs t).1 h with h | ⟨_, i, s, h1, h2, h3⟩
    · exact .inl h
    · refine .inr ⟨i, s, h1, fun x hx => ?_, ?_⟩
      · have := m.sn _ (h2 x hx)
        rwa [toNat_back (hr x (List.mem_of_mem_take hx)).1] at this
      · have := m.sv _ _ h3
        rwa [toNat_back (hr s (List.mem_of_getElem? h1)).1] at this
theorem Nul.left {g : GramT} (hg : InG g) {s : Int} (h : Nul g s) : (g.T : Int) ≤ s ∧ s < g.T + g.N := by
  cases h with | mk p hp _ => exact (hg p hp).1
theorem Fst.lt {g : GramT} {s : Int} {t : Nat} (h : Fst g s t) : t < g.T := by
  induction h with
  | tm t h => exact h
  | pr p i s t _ _ _ _ ih => exact ih
structure AllF (g : GramT) (nl : List Bool) (vs : List (List Bool)) : Prop where
  ln : nl.length = g.T + g.N
  lv : vs.length = g.T + g.N
  le : ∀ v ∈ vs, v.length = g.T
  nn : ∀ i, fnB nl i = true ↔ Nul g (i : Int)
  nv : ∀ i t, fnB (vs.getD i []) t = true ↔ Fst g (i : Int) t
theorem MkF.getD_len {g : GramT} {nl : List Bool} {vs : List (List Bool)} (m : MkF g nl vs) {i : Nat} (hi : i < g.T + g.N) : (vs.getD i []).length = g.T := by
  have h : vs[i]? = some (vs[i]'(by rw [m.lv]; exact hi)) := List.getElem?_eq_getElem _
  rw [List.getD, h]
  exact m.le _ (List.mem_of_getElem? h)
theorem MkF.all {g : GramT} {nl : List Bool} {vs : List (List Bool)} (hg : InG g) (m : MkF g nl vs) (hc : ∀ p ∈ g.prods, ClP nl vs p) : AllF g nl vs := by
  have cn : ∀ s, Nul g s → fnB nl s.toNat = true := fun s h => by
    induction h with
    | mk p hp _ ih => exact (hc p hp).1 (rowN_iff.2 ih)
  have cv : ∀ s t, Fst g s t → fnB (vs.getD s.toNat []) t = true := fun s t h => by
    induction h with
    | tm t h => exact m.tm t h
    | pr p i s t hp hi hx hs ih =>
      have hl := (hg p hp).1
      rw [← (hc p hp).2, fnB_rowB]
      exact .inr ⟨by rw [m.getD_len (by omega)]; exact hs.lt, i, s, hi, fun x hx' => cn x (hx x hx'), ih⟩
  exact ⟨m.ln, m.lv, m.le, fun i => ⟨m.sn i, fun h => cn _ h⟩, fun i t => ⟨m.sv i t, fun h => cv _ _ h⟩⟩
theorem AllF.row {g : GramT} {nl : List Bool} {vs : List (List Bool)} (m : AllF g nl vs) {row : List Int} (hr : ∀ s ∈ row, 0 ≤ s ∧ s < (g.T : Int) + g.N) : (rowN nl row = true ↔ NulR g row) ∧ ∀ bs t, fnB (rowB nl vs bs row) t = true ↔ fnB bs t = true ∨ (t < bs.length ∧ FstR g row t) := by
  refine ⟨?_, fun bs t => ?_⟩
  · rw [rowN_iff]
    refine forall_congr' fun s => ⟨fun h hs => ?_, fun h hs => ?_⟩
    · have := (m.nn _).1 (h hs); rwa [toNat_back (hr s hs).1] at this
    · exact (m.nn _).2 (by rw [toNat_back (hr s hs).1]; exact h hs)
  · rw [fnB_rowB]
    refine or_congr Iff.rfl (and_congr Iff.rfl (exists_congr fun i => exists_congr fun s => ?_))
    refine ⟨fun ⟨h1, h2, h3⟩ => ⟨h1, fun x hx => ?_, ?_⟩, fun ⟨h1, h2, h3⟩ => ⟨h1, fun x hx => ?_, ?_⟩⟩
    · have := (m.nn _).1 (h2 x hx); rwa [toNat_back (hr x (List.mem_of_mem_take hx)).1] at this
    · have := (m.nv _ _).1 h3; rwa [toNat_back (hr s (List.mem_of_getElem? h1)).1] at this
    · exact (m.nn _).2 (by rw [toNat_back (hr x (List.mem_of_mem_take hx)).1]; exact h2 x hx)
    · exact (m.nv _ _).2 (by rw [toNat_back (hr s (List.mem_of_getElem? h1)).1]; exact h3)
def opn (v : List Bool) : Nat := v.length - cntB v
def meas (nl : List Bool) (vs : List (List Bool)) : Nat := opn nl + (vs.map opn).sum
theorem sum_set : ∀ {l : List Nat} {k x y : Nat}, l[k]? = some x → (l.set k y).sum + x = l.sum + y
  | [], k, x, y, h => by simp at h
  | z :: l, 0, x, y, h => by simp at h; subst h; simp; omega
  | z :: l, k + 1, x, y, h => by
    have := sum_set (l := l) (k := k) (x := x) (y := y) (by simpa using h)
    simp; omega
theorem meas_set {nl : List Bool} {vs : List (List Bool)} {k : Nat} {v v' : List Bool} (h : vs[k]? = some v) (hl : v'.length = v.length) (hc : cntB v ≤ cntB v') : meas nl (vs.set k v') + (cntB v' - cntB v) = meas nl vs := by
  have h1 := sum_set (l := vs.map opn) (k := k) (x := opn v) (y := opn v') (by rw [List.getElem?_map, h]; rfl)
  have h2 := cntB_le v
  have h3 := cntB_le v'
  unfold meas
  rw [List.map_set]
  unfold opn at *
  omega
end Go.V
set_option linter.unusedVariables false
set_option maxRecDepth 4000
namespace Go.V
theorem exists_least {P : Nat → Prop} (h : ∃ m, P m) : ∃ m, P m ∧ ∀ k, P k → m ≤ k := by
  obtain ⟨m, hm⟩ := h
  induction m using Nat.strongRecOn with
  | _ m ih =>
    by_cases hl : ∃ k, k < m ∧ P k
    · obtain ⟨k, hk, hp⟩ := hl
      exact ih k hk hp
    · exact ⟨m, hm, fun k hk => Nat.le_of_not_lt fun hlt => hl ⟨k, hlt, hk⟩⟩
theorem least_fn {α : Type} (P : α → Nat → Prop) : ∃ μ : α → Nat, (∀ x m, P x m → μ x ≤ m) ∧ ∀ x, (∃ m, P x m) → P x (μ x) := by
  have h : ∀ x, ∃ m, (∀ k, P x k → m ≤ k) ∧ ((∃ k, P x k) → P x m) := fun x => by
    by_cases hx : ∃ k, P x k
    · obtain ⟨m, h1, h2⟩ := exists_least hx
      exact ⟨m, h2, fun _ => h1⟩
    · exact ⟨0, fun k hk => absurd ⟨k, hk⟩ hx, fun h => absurd h hx⟩
  exact ⟨fun x => (h x).choose, fun x => (h x).choose_spec.1, fun x => (h x).choose_spec.2⟩
theorem cnt_mono2 {m m' : Nat → Bool} (h : ∀ k, m k = true → m' k = true) : ∀ n, cnt n m ≤ cnt n m' ∧ (cnt n m = cnt n m' → ∀ k, k < n → m k = m' k)
  | 0 => ⟨Nat.le_refl _, fun _ k hk => by omega⟩
  | n + 1 => by
    obtain ⟨h1, h2⟩ := cnt_mono2 h n
    rw [cnt_succ, cnt_succ]
    have h3 := h n
    cases e : m n <;> cases e' : m' n
    · refine ⟨by simpa using h1, fun he k hk => ?_⟩
      by_cases ek : k = n
      · subst ek; rw [e, e']
      · exact h2 (by simpa using he) k (by omega)
    · simp only [Bool.false_eq_true, if_false, if_true]
      exact ⟨by omega, fun he => by omega⟩
    · rw [e, e'] at h3; simp at h3
    · refine ⟨by simpa using h1, fun he k hk => ?_⟩
      by_cases ek : k = n
      · subst ek; rw [e, e']
      · exact h2 (by simpa using he) k (by omega)
theorem cntB_inj {bs cs : List Bool} (hl : cs.length = bs.length) (hs : ∀ k, fnB bs k = true → fnB cs k = true) (hc : cntB cs = cntB bs) : cs = bs := by
  refine fnB_inj hl fun k => ?_
  by_cases hk : k < bs.length
  · unfold cntB at hc
    rw [hl] at hc
    exact ((cnt_mono2 hs bs.length).2 hc.symm k hk).symm
  · rw [fnB_out (by omega), fnB_out (by omega)]
theorem fnB_setT {nl : List Bool} {k : Nat} (hk : k < nl.length) (j : Nat) : fnB (nl.set k true) j = (fnB nl j || j == k) := by
  unfold fnB
  rw [List.getD_eq_getElem?_getD, List.getD_eq_getElem?_getD, List.getElem?_set]
  by_cases e : k = j
  · subst e; simp [hk]
  · have : ¬ j = k := fun h => e h.symm
    simp [e, this]
theorem opn_set {nl : List Bool} {k : Nat} (hk : k < nl.length) (hf : fnB nl k = false) : opn (nl.set k true) + 1 = opn nl := by
  have h1 : cntB (nl.set k true) = cntB nl + 1 := by
    unfold cntB
    rw [List.length_set, ← cnt_add hk hf]
    exact cnt_congr fun j _ => fnB_setT hk j
  have h2 := cntB_le (nl.set k true)
  rw [List.length_set] at h2
  unfold opn
  rw [List.length_set]
  omega
theorem getD_setV {vs : List (List Bool)} {k : Nat} (hk : k < vs.length) (v : List Bool) (j : Nat) : (vs.set k v).getD j [] = if j = k then v else vs.getD j [] := by
  rw [List.getD_eq_getElem?_getD, List.getD_eq_getElem?_getD, List.getElem?_set]
  by_cases e : k = j
  · subst e; simp [hk]
  · have : ¬ j = k := fun h => e h.symm
    simp [e, this]
theorem MkF.lay {g : GramT} (hg : InG g) {nl : List Bool} {vs : List (List Bool)} (m : MkF g nl vs) {p : ProdT} (hp : p ∈ g.prods) : MkF g nl (vs.set p.left.toNat (rowB nl vs (vs.getD p.left.toNat []) p.right)) := by
  obtain ⟨hl, hr⟩ := hg p hp
  have hk : p.left.toNat < g.T + g.N := by omega
  have hkv : p.left.toNat < vs.length := by rw [m.lv]; exact hk
  refine ⟨m.ln, by rw [List.length_set]; exact m.lv, fun v hv => ?_, m.sn, fun i t h => ?_, fun t ht => ?_⟩
  · rcases List.mem_or_eq_of_mem_set hv with hv | rfl
    · exact m.le v hv
    · rw [rowB_len]; exact m.getD_len hk
  · rw [getD_setV hkv] at h
    split at h
    · rename_i e
      subst e
      rw [toNat_back (by omega)]
      rcases (m.row hr).2 _ _ h with h | ⟨i, s, h1, h2, h3⟩
      · have := m.sv _ _ h; rwa [toNat_back (by omega)] at this
      · exact .pr p i s t hp h1 h2 h3
    · exact m.sv _ _ h
  · rw [getD_setV hkv]
    split
    · omega
    · exact m.tm t ht
theorem MkF.van {g : GramT} (hg : InG g) {nl : List Bool} {vs : List (List Bool)} (m : MkF g nl vs) {p : ProdT} (hp : p ∈ g.prods) (hn : NulR g p.right) : MkF g (nl.set p.left.toNat true) vs := by
  obtain ⟨hl, hr⟩ := hg p hp
  have hk : p.left.toNat < nl.length := by rw [m.ln]; omega
  refine ⟨by rw [List.length_set]; exact m.ln, m.lv, m.le, fun i h => ?_, m.sv, m.tm⟩
  rw [fnB_setT hk, Bool.or_eq_true, beq_iff_eq] at h
  rcases h with h | rfl
  · exact m.sn i h
  · rw [toNat_back (by omega)]; exact .mk p hp hn
theorem meas_le {g : GramT} {nl : List Bool} {vs : List (List Bool)} (m : MkF g nl vs) : meas nl vs ≤ (g.T + g.N) + (g.T + g.N) * g.T := by
  unfold meas
  have h1 : opn nl ≤ g.T + g.N := by unfold opn; rw [m.ln]; omega
  have h2 : ∀ l : List (List Bool), (∀ v ∈ l, v.length = g.T) → (l.map opn).sum ≤ l.length * g.T := fun l => by
    induction l with
    | nil => intro _; simp
    | cons v l ih =>
      intro h
      have h3 := ih fun u hu => h u (List.mem_cons_of_mem _ hu)
      have h4 : opn v ≤ g.T := by unfold opn; rw [h v List.mem_cons_self]; omega
      simp only [List.map_cons, List.sum_cons, List.length_cons, Nat.succ_mul]
      omega
  have h3 := h2 vs m.le
  rw [m.lv] at h3
  omega
theorem inG {g : GramT} (h : EitherP g) : InG g ∧ g.T ≤ 65 ∧ g.N ≤ 65 ∧ 0 < g.N ∧ 0 < g.T ∧ g.prods.length ≤ 97 := by
  have hT : g.T = g.terms.length := rfl
  have hN : g.N = g.nons.length := rfl
  rcases h with ⟨s, p, _⟩ | ⟨h0, s, p, q, hq, q1, q2, q3⟩
  · have h2 := syms_iff.1 s
    have t0 : 0 < g.terms.length := (List.getElem?_eq_some_iff.1 s.1).1
    refine ⟨fun r hr => ?_, by omega, by omega, by omega, by omega, by have := p.2.1; omega⟩
    have := p.2.2.1 r hr
    exact ⟨⟨by have := this.1.1; omega, this.1.2.1⟩, fun y hy => by have := this.2 y hy; unfold symOk at this; omega⟩
  · have h2 := syms_iff.1 s
    have t0 : 0 < g.terms.length := (List.getElem?_eq_some_iff.1 s.1).1
    refine ⟨fun r hr => ?_, by omega, by omega, by omega, by omega, by have := p.2.1; omega⟩
    have hd : r = q ∨ r ∈ g.prods.drop 1 := by
      cases hg : g.prods with
      | nil => rw [hg] at hr; cases hr
      | cons a l =>
        rw [hg] at hr hq
        cases hq
        rcases List.mem_cons.1 hr with h | h
        · exact .inl h
        · exact .inr h
    rcases hd with rfl | hd
    · refine ⟨by omega, fun y hy => ?_⟩
      rw [q2, List.mem_singleton] at hy
      subst hy
      have := p.2.2.2.2; omega
    · have := p.2.2.1 r hd
      exact ⟨⟨by have := this.1.1; omega, this.1.2.1⟩, fun y hy => by have := this.2 y hy; unfold symOk at this; omega⟩
end Go.V
set_option linter.unusedVariables false
set_option maxRecDepth 4000
namespace Go.V
theorem name_it {α : Sort _} (a : α) : ∃ q, q = a := ⟨a, rfl⟩
def FC (x : GA) (k14 n : Nat) (o : Option Addr) (j c : Nat) : List Value := [.slice x.ta x.tl x.tc, .slice x.na x.nl x.nc, .slice x.la x.ll x.lc, .int .i64 x.s, .slice x.pa x.pl x.pc, .slice (some ⟨k14, 0, none⟩) n n, .slice o j c]
def initV (T j : Nat) : List (List Bool) := (List.range j).map fun (i : Nat) => ofB (T : Int) [(i : Int)]
theorem initV_succ (T j : Nat) : initV T (j + 1) = initV T j ++ [ofB (T : Int) [(j : Int)]] := by simp [initV, List.range_succ]
theorem initV_len (T j : Nat) : (initV T j).length = j := by simp [initV]
theorem ofB_fn {T i : Nat} (hT : T ≤ 65) (t : Nat) : (ofB (T : Int) [(i : Int)]).length = T ∧ (fnB (ofB (T : Int) [(i : Int)]) t = true ↔ t = i ∧ t < T) := by
  have hN : ofN (T : Int) = T := by unfold ofN; split <;> split at * <;> omega
  unfold ofB
  refine ⟨by rw [addB_len, List.length_replicate, hN], ?_⟩
  rw [fnB_add, List.length_replicate, hN, addS, fnB_rep, Bool.false_or]
  simp only [Bool.and_eq_true, decide_eq_true_eq, List.contains_iff_mem, List.mem_singleton]
  omega
theorem initV_mk {g : GramT} (hT : g.T ≤ 65) : MkF g (List.replicate (g.T + g.N) false) (initV g.T (g.T + g.N)) := by
  have hget : ∀ i, fnB ((initV g.T (g.T + g.N)).getD i []) = if i < g.T + g.N then fnB (ofB (g.T : Int) [(i : Int)]) else fnB [] := fun i => by
    unfold initV
    rw [List.getD_eq_getElem?_getD, List.getElem?_map]
    by_cases h : i < g.T + g.N
    · rw [List.getElem?_range h, if_pos h]; rfl
    · rw [List.getElem?_eq_none (by simp; omega), if_neg h]; rfl
  refine ⟨by simp, initV_len _ _, fun v hv => ?_, fun i h => ?_, fun i t h => ?_, fun t ht => ?_⟩
  · obtain ⟨i, _, rfl⟩ := List.mem_map.1 hv
    exact (ofB_fn hT 0).1
  · rw [fnB_rep] at h; cases h
  · rw [hget] at h
    split at h
    · obtain ⟨rfl, h'⟩ := ((ofB_fn hT t).2).1 h
      exact .tm t h'
    · simp [fnB] at h
  · rw [hget, if_pos (by omega)]
    exact (ofB_fn hT t).2.2 ⟨rfl, ht⟩
end Go.V
namespace Go.Proofs.YtkmjjnjngcpjmaaGreatDoor
open Go.V
section
variable {w : World} {L : List Asn} {g : GramT} {x : GA}
set_option maxHeartbeats 4000000 in
theorem f_of (hg : gR (hp w) g x) (hb : okG g) (he : EitherP g) (ht : tabA (hp w)) : Run Tryz.prog n_first_of [.agg ⟨x.cells⟩] w fun v w' => ∃ (b k14 : Nat) (o : Option Addr) (c : Nat) (nl : List Bool) (ps : List Nat) (vs : List (List Bool)), v = .pointer (some ⟨b, 0, none⟩) ∧ AllF g nl vs ∧ ps.length = vs.length ∧
    St w' (cel b (FC x k14 (g.T + g.N) o ps.length c) :: cel k14 (bv nl) :: own 1 o ps.length c (pv (ps.map bk)) :: sta (setsA ps vs) :: all w) := by
  refine run_first_of _ _ _ _ _ _ _ _ _ _ _ _ _ w _ ?_
  refine gbox hg fun k1 w1 gw hg B => ?_
  obtain ⟨iG, bT, bN, pN, pT, bP⟩ := inG he
  have tl : g.T = x.tl := hg.t.1
  have nl : g.N = x.nl := hg.n.1
  have pl := hg.p.1
  have ht := rdV.mono gw ht
  refine ⟨_, _, _, B.c0 (sub.refl _), _, _, _, B.c1 (sub.refl _), ⟨by omega, by omega⟩, fun w2 hd => ?_⟩
  have e2 : hp w2 = hp w1 := hp_drawn hd
  have gs : sub (hp w) (hp w1) := gw
  generalize hH : hp w1 = H at *
  have eN : (x.tl : Int) + (x.nl : Int) = ((g.T + g.N : Nat) : Int) := by rw [tl, nl]; omega
  rw [eN]
  have hTe : (x.tl : Int) = (g.T : Int) := by rw [tl]
  rw [Int.toNat_natCast, reps_one]
  have h2 : St w2 [has H] := by have := St.all w2; unfold V.all at this; rwa [e2] at this
  refine ⟨fun w => sub H (hp w), e2 ▸ sub.refl _, _, _, _, _, _, _, _, _, _, _, _, _, _, fun w s => B.row s, ⟨by omega, rfl, by omega⟩, newC_i h2 fun k14 w4 h4 => ⟨rdH 1 h4.l, newC_i h4 fun k15 w5 h5 => ⟨rdH 2 h5.l, ?_⟩⟩⟩
  clear h2 h4
  have bvr : List.replicate (g.T + g.N) (Value.bool false) = bv (List.replicate (g.T + g.N) false) := by simp [bv]
  rw [bvr] at h5
  refine ⟨fun n w' => ∃ (j : Nat) (o : Option Addr) (c : Nat) (ps : List Nat), n = j ∧ j ≤ g.T + g.N ∧ ps.length = j ∧ St w' [cel k15 (FC x k14 (g.T + g.N) o j c), cel k14 (bv (List.replicate (g.T + g.N) false)), own 1 o j c (pv (ps.map bk)), sta (setsA ps (initV g.T j)), has H], fun n _ => g.T + g.N - n.toNat, ⟨0, none, 0, [], rfl, by omega, rfl, ?_⟩, ?_⟩
  · have h6 := own_nil 1 h5
    have h7 : St w5 (sta (setsA [] (initV g.T 0)) :: _) := St.flat.2 (show St w5 ([] ++ _) from h6)
    exact h7.pick 5 [2, 3, 1, 0, 4]
  clear h5
  rintro _ n2 w6 ⟨j, o, c, ps, rfl, hj, hps, h⟩
  refine br_intro (fun hlt => ?_) fun hlt => ?_
  · have hlt : j < g.T + g.N := by have := of_decide_eq_true hlt; omega
    intro w7 hd
    have h := h.drawn hd
    have I : ∀ {w : World} {cs}, rowH (hp w) ⟨k15, 0, none⟩ cs → sub H (hp w) → rowH (hp w) ⟨k15, 0, none⟩ cs ∧ sub H (hp w) := fun a b => ⟨a, b⟩
    refine ⟨fun w => rowH (hp w) ⟨k15, 0, none⟩ (FC x k14 (g.T + g.N) o j c) ∧ sub H (hp w), I (rdCel 0 h.l) (rdH 4 h.l), _, _, _, fun w h => h.1.cell (sub.refl _) (j := 6) rfl, _, _, _, fun w h => B.c0 h.2, newC_i h fun k20 w10 h => ⟨I (rdCel 1 h.l) (rdH 5 h.l), ?_⟩⟩
    refine (s_Of (xs := [(j : Int)]) (l := 1) (x.tl : Int) (rdI_of rfl (.inr ⟨_, rfl, rdCel 0 h.l⟩)) (by omega)).mono ?_
    rintro _ w11 ⟨px, rfl, h1⟩
    have h := h1.on1 h
    refine ⟨_, rfl, I (rdCel 2 h.l) (rdH 6 h.l), newC_i h fun k21 w12 h => ⟨I (rdCel 3 h.l) (rdH 7 h.l), ?_⟩⟩
    refine (app_one tyOk (rfl : kdOfT Ty _ = .slice _) (rfl : kdOfT Ty _ = .slice _) rfl rfl rfl (h.pick 8 [0, 5, 1, 2, 3, 4, 6, 7]) rfl (by simp [oneC]) (by show (_ + 1) * 8 ≤ _; omega) (by omega)).mono ?_
    rintro _ w13 ⟨o', c', rfl, h⟩
    refine ⟨_, _, _, rfl, I (rdCel 4 h.l) (rdH 7 h.l), ?_⟩
    show st1 w13 ((⟨k15, 0, none⟩ : Addr).add 6) _ _
    rw [add_lit0]
    refine st1_i (h.pick 8 [4, 0, 2, 5, 6, 7]) (by simp [FC]) fun w14 h => ⟨⟨by omega, by omega⟩, ⟨j + 1, o', c', ps ++ [px], by simp, by omega, by simp [hps], ?_⟩, msr hlt⟩
    have h : St w14 [cel k15 (FC x k14 (g.T + g.N) o' (j + 1) c'), own 1 o' (j + 1) c' (pv (ps.map bk) ++ [.pointer (some ⟨px, 0, none⟩)]), setO (some ⟨px, 0, none⟩) (ofB (x.tl : Int) [(j : Int)]), cel k14 (bv (List.replicate (g.T + g.N) false)), sta (setsA ps (initV g.T j)), has H] := h
    have e1 : pv (ps.map bk) ++ [.pointer (some ⟨px, 0, none⟩)] = pv ((ps ++ [px]).map bk) := by simp [pv, bk]
    have lSv : (setsA ps (initV g.T j) ++ [setO (some ⟨px, 0, none⟩) (ofB (x.tl : Int) [(j : Int)])]) = setsA (ps ++ [px]) (initV g.T (j + 1)) := by
      rw [initV_succ, hTe]; unfold setsA; rw [List.zipWith_append (by rw [initV_len]; exact hps)]; rfl
    rw [e1] at h
    have h := St.snoc (A := setO (some ⟨px, 0, none⟩) (ofB (x.tl : Int) [(j : Int)])) (M := setsA ps (initV g.T j)) (h.pick 6 [2, 4, 0, 1, 3, 5])
    rw [lSv] at h
    exact h.pick 5 [1, 3, 2, 0, 4]
  have hlt : j = g.T + g.N := by have := of_decide_eq_false hlt; omega
  subst hlt
  obtain ⟨Q, hQ⟩ := name_it (fun (n : Int) (w : World) (m : Nat) => ∃ (nl : List Bool) (vs : List (List Bool)), MkF g nl vs ∧ 0 ≤ n ∧ (m : Int) = meas nl vs + (if 0 < n then 1 else 0) ∧ (n = 0 → ∀ p ∈ g.prods, ClP nl vs p) ∧
    St w [cel k15 (FC x k14 (g.T + g.N) o (g.T + g.N) c), cel k14 (bv nl), own 1 o (g.T + g.N) c (pv (ps.map bk)), sta (setsA ps vs), has H])
  obtain ⟨μ, mu1, mu2⟩ := least_fn (fun (y : Int × World) m => Q y.1 y.2 m)
  refine ⟨fun n w' => ∃ m, Q n w' m, fun n w => μ (n, w), ⟨meas (List.replicate (g.T + g.N) false) (initV g.T (g.T + g.N)) + 1, ?_⟩, ?_⟩
  · rw [hQ]
    exact ⟨_, _, initV_mk bT, by decide, by simp, fun h => absurd h (by decide), h⟩
  clear h
  intro _ n3 w15 hP
  have hP := mu2 (n3, w15) hP
  dsimp only at hP
  generalize hμ : μ (n3, w15) = μ0 at *
  rw [hQ] at hP
  obtain ⟨nl0, vs0, mk0, hn3, hmu, hcl, h⟩ := hP
  refine br_intro (fun hpos => ?_) fun hpos => ?_
  rotate_left
  · have hpos := of_decide_eq_false hpos
    have hcl := hcl (by omega)
    refine ⟨k15, k14, o, c, nl0, ps, vs0, rfl, mk0.all iG hcl, by rw [hps, mk0.lv], ?_⟩
    rw [hps]
    exact St.on (N := [_, _, _, _]) h (has_i gs)
  have hpos := of_decide_eq_true hpos
  rw [if_pos hpos] at hmu
  refine ⟨_, _, _, B.c4 (rdH 4 h.l), fun n4 n5 w' => ∃ (j : Nat) (nl : List Bool) (vs : List (List Bool)), n5 = j ∧ j ≤ x.pl ∧ 0 ≤ n4 ∧ n4 + meas nl vs = meas nl0 vs0 ∧ MkF g nl vs ∧ (n4 = 0 → ∀ p ∈ g.prods.take j, ClP nl vs p) ∧ St w' [cel k15 (FC x k14 (g.T + g.N) o (g.T + g.N) c), cel k14 (bv nl), own 1 o (g.T + g.N) c (pv (ps.map bk)), sta (setsA ps vs), has H], fun _ n5 _ => x.pl - n5.toNat, ⟨0, nl0, vs0, rfl, by omega, by omega, by omega, mk0, by simp, h⟩, ?_⟩
  clear h
  rintro _ n4 n5 w16 ⟨j, nl, vs, rfl, hj, hn4, hm4, mk, hcl4, h⟩
  refine br_intro (fun hlt => ?_) fun hlt => ?_
  rotate_left
  · have hlt : j = x.pl := by have := of_decide_eq_false hlt; omega
    subst hlt
    rw [List.take_of_length_le (by omega)] at hcl4
    have key : Q n4 w16 (meas nl vs + (if 0 < n4 then 1 else 0)) := by
      rw [hQ]; exact ⟨nl, vs, mk, hn4, by split <;> simp, hcl4, h⟩
    refine ⟨⟨_, key⟩, ?_⟩
    have := mu1 (n4, w16) _ key
    dsimp only
    rw [hμ]
    split at this <;> omega
  have hlt : j < x.pl := by have := of_decide_eq_true hlt; omega
  obtain ⟨p, ad, pvs, hp1, hpa, hp2, a, l, c3, rfl, hlc, hp3⟩ := hg.p.get hlt
  have hpm := List.mem_of_getElem? hp1
  obtain ⟨hpl, hpr⟩ := iG p hpm
  have et : g.prods.take (j + 1) = g.prods.take j ++ [p] := by rw [List.take_add_one, hp1]; rfl
  refine idx_n hpa hlt ⟨_, _, _, _, _, hp2.at (rdH 4 h.l) rfl, newC_i h fun k28 w17 h => stR_i h rfl (by intro v hv; simp at hv; rcases hv with rfl | rfl | rfl <;> rfl) fun w18 h => ?_⟩
  intro w19 hd
  have h := h.drawn hd
  obtain ⟨k, hk⟩ : ∃ k : Nat, p.left = k := ⟨p.left.toNat, by omega⟩
  rw [hk] at h
  have hkt : p.left.toNat = k := by omega
  have hkN : k < g.T + g.N := by omega
  obtain ⟨px, hpx⟩ : ∃ px, ps[k]? = some px := ⟨ps[k]'(by omega), List.getElem?_eq_getElem _⟩
  obtain ⟨v, hv⟩ : ∃ v, vs[k]? = some v := ⟨vs[k]'(by rw [mk.lv]; exact hkN), List.getElem?_eq_getElem _⟩
  have hvd : vs.getD k [] = v := by rw [List.getD_eq_getElem?_getD, hv]; rfl
  have hpb : (ps.map bk)[k]? = some (bk px) := by rw [List.getElem?_map, hpx]; rfl
  have rp : rdS (hp w19) (ps.map bk) o (g.T + g.N) := rdPt 3 h.l rfl rfl (by simp [hps])
  obtain ⟨q, ad2, hq1, hqa, hq2⟩ := rp.get1 hkN
  rw [hpb] at hq1; cases hq1
  refine ⟨fun w => rowH (hp w) ⟨k15, 0, none⟩ (FC x k14 (g.T + g.N) o (g.T + g.N) c) ∧ rowH (hp w) ⟨k28, 0, none⟩ [.int .i64 (k : Int), .slice a l c3, .int .i64 p.level] ∧ rdS (hp w) (ps.map bk) o (g.T + g.N), ⟨rdCel 1 h.l, rdCel 0 h.l, rp⟩, _, _, _, fun w h => h.1.cell (sub.refl _) (j := 6) rfl, _, fun w h => h.2.1.cell0 (sub.refl _), ?_⟩
  refine idx_i hqa hkN ⟨bk px, fun w h => ?_, _, _, _, fun w h => h.2.1.cell (sub.refl _) (j := 1) rfl, ?_⟩
  · obtain ⟨q', ad', e1, e2, e3⟩ := h.2.2.get1 hkN
    rw [hpb] at e1; cases e1
    rw [hqa] at e2; cases e2
    exact e3 _ (sub.refl _)
  have gS : (setsA ps vs)[k]? = some (setO (bk px) v) := by unfold setsA; rw [List.getElem?_zipWith, hpx, hv]
  have setS : ∀ v', (setsA ps vs).set k (setO (bk px) v') = setsA ps (vs.set k v') := fun v' => zip_set (fun p v => setO (bk p) v) hpx
  have h := St.out (h.pick 6 [4, 0, 1, 2, 3, 5]) gS
  refine (f_row (nulls := nl) (os := ps.map bk) (vss := vs) (row := p.right) (gs := x.cells) h (fun h hh => rdCel 2 hh) rfl (fun h hh => rdB_of mk.ln (.inr ⟨_, rfl, rdCel 3 hh⟩)) (fun h hh => rdPt 4 hh rfl rfl (by simp [hps])) (by simp [hps, mk.lv]) (by simp [hps, mk.ln]) (fun h hh i q v' hi hv' => ?_) (fun h hh => rdV.mono (rdH 5 hh) ht) (fun h hh => hp3.mono (rdH 5 hh)) (fun s hs => ⟨(hpr s hs).1, ?_⟩) ?_).mono ?_
  · rw [List.getElem?_map] at hi
    cases hpi : ps[i]? with
    | none => rw [hpi] at hi; cases hi
    | some pi =>
      rw [hpi] at hi; cases hi
      by_cases ek : i = k
      · subst ek
        rw [hpx] at hpi; cases hpi
        rw [hv] at hv'; cases hv'
        exact .inr ⟨rfl, rfl⟩
      · exact .inl (rdSE 0 hh hpi hv' ek)
  · have := (hpr s hs).2; simp [hps]; omega
  · have := hp3.1; have := hb.2.2.2.2.2.2 p hpm; omega
  rintro _ w24 ⟨rfl, h⟩
  have mk' := mk.lay iG hpm
  rw [hkt, hvd] at mk'
  have hv'l : (rowB nl vs v p.right).length = v.length := rowB_len _ _ _ _
  have hcv := cntB_rowB nl vs p.right v
  have hms := meas_set (nl := nl) hv hv'l hcv
  have hsb := fnB_rowB_sub nl vs p.right v
  have hml := meas_le mk0
  have hmb : (g.T + g.N) + (g.T + g.N) * g.T ≤ 100000 := by
    have := Nat.mul_le_mul (show g.T + g.N ≤ 130 by omega) bT; omega
  have hstay : (rowN nl p.right = true → fnB nl k = true) → n4 + ((cntB (rowB nl vs v p.right) : Int) - cntB v) = 0 → ∀ r ∈ g.prods.take (j + 1), ClP nl (vs.set k (rowB nl vs v p.right)) r := fun hnn h0 r hr => by
    have e0 : rowB nl vs v p.right = v := cntB_inj hv'l hsb (by omega)
    have e1 : vs.set k v = vs := by
      apply List.ext_getElem?
      intro i
      rw [List.getElem?_set]
      split
      · rename_i e; subst e; rw [hv]; simp; rw [mk.lv]; exact hkN
      · rfl
    rw [e0, e1]
    rw [et] at hr
    rcases List.mem_append.1 hr with hr | hr
    · exact hcl4 (by omega) r hr
    · simp at hr; subst hr
      unfold ClP
      rw [hkt, hvd]
      exact ⟨hnn, e0⟩
  have h := St.back h gS
  rw [setS] at h
  generalize rowB nl vs v p.right = v' at *
  refine ⟨_, _, rfl, ⟨rdCel 2 h.l, rdCel 1 h.l, rdPt 4 h.l rfl rfl (by simp [hps])⟩, ⟨by omega, by omega⟩, fun w25 hd => ?_⟩
  have h := h.drawn hd
  have stay : ∀ {w'}, St w' [sta (setsA ps (vs.set k v')), cel k28 [.int .i64 (k : Int), .slice a l c3, .int .i64 p.level], cel k15 (FC x k14 (g.T + g.N) o (g.T + g.N) c), cel k14 (bv nl), own 1 o (g.T + g.N) c (pv (ps.map bk)), has H] → (rowN nl p.right = true → fnB nl k = true) → inI ((j : Int) + 1) ∧ (∃ (j' : Nat) (nl : List Bool) (vs : List (List Bool)), (j : Int) + 1 = j' ∧ j' ≤ x.pl ∧ 0 ≤ n4 + ((cntB v' : Int) - cntB v) ∧ n4 + ((cntB v' : Int) - cntB v) + meas nl vs = meas nl0 vs0 ∧ MkF g nl vs ∧ (n4 + ((cntB v' : Int) - cntB v) = 0 → ∀ p ∈ g.prods.take j', ClP nl vs p) ∧ St w' [cel k15 (FC x k14 (g.T + g.N) o (g.T + g.N) c), cel k14 (bv nl), own 1 o (g.T + g.N) c (pv (ps.map bk)), sta (setsA ps vs), has H]) ∧ x.pl - ((j : Int) + 1).toNat < x.pl - (j : Int).toNat := fun {w'} h hnn => by
    refine ⟨⟨by omega, by omega⟩, ⟨j + 1, nl, vs.set k v', by simp, by omega, by omega, by omega, mk', hstay hnn, h.pick 6 [2, 3, 4, 0, 5]⟩, msr hlt⟩
  refine ⟨fun w => sub (hp w25) (hp w), sub.refl _, br_intro (fun h1 => ?_) fun h1 => stay h fun h2 => by rw [h1] at h2; cases h2⟩
  refine ⟨_, _, _, fun w s => (rdCel (b := k15) (vs := FC x k14 (g.T + g.N) o (g.T + g.N) c) 2 h.l).cell s (j := 5) rfl, _, fun w s => (rdCel (b := k28) (vs := [.int .i64 (k : Int), .slice a l c3, .int .i64 p.level]) 1 h.l).cell0 s, ?_⟩
  have rn : rdS (hp w25) nl (some ⟨k14, 0, none⟩) (g.T + g.N) := rdB_of mk.ln (.inr ⟨_, rfl, rdCel 3 h.l⟩)
  obtain ⟨z, ad3, hz1, hza, hz2⟩ := rn.get1 hkN
  have hzd : fnB nl k = z := by unfold fnB; rw [List.getD_eq_getElem?_getD, hz1]; rfl
  cases hza
  refine idx_i rfl hkN ⟨z, fun w s => hz2 _ s, br_intro (fun h2 => ?_) fun h2 => stay h fun _ => by rw [hzd]; simpa using h2⟩
  have h2 : z = false := by simpa using h2
  subst h2
  intro w29 hd
  have h := h.drawn hd
  refine ⟨fun w => sub (hp w29) (hp w), sub.refl _, _, _, _, fun w s => (rdCel (b := k15) (vs := FC x k14 (g.T + g.N) o (g.T + g.N) c) 2 h.l).cell s (j := 5) rfl, _, fun w s => (rdCel (b := k28) (vs := [.int .i64 (k : Int), .slice a l c3, .int .i64 p.level]) 1 h.l).cell0 s, ?_⟩
  refine idx_i rfl hkN ?_
  rw [add_lit0]
  refine st1_i (h.pick 6 [3, 0, 2, 4, 5]) (by simp [bv, mk.ln]; exact hkN) fun w32 h => ?_
  have eb : (bv nl).set k (.bool true) = bv (nl.set k true) := by unfold bv; rw [List.map_set]
  rw [eb] at h
  have ho := opn_set (nl := nl) (k := k) (by rw [mk.ln]; exact hkN) hzd
  have mk2 := mk'.van iG hpm ((mk.row hpr).1 h1)
  rw [hkt] at mk2
  have hm2 : meas (nl.set k true) (vs.set k v') + 1 = meas nl (vs.set k v') := by unfold meas; omega
  exact ⟨⟨by omega, by omega⟩, ⟨by omega, by omega⟩, ⟨j + 1, nl.set k true, vs.set k v', by simp, by omega, by omega, by omega, mk2, fun h0 => by omega, h.pick 5 [2, 0, 3, 1, 4]⟩, msr hlt⟩
end
end Go.Proofs.YtkmjjnjngcpjmaaGreatDoor
set_option linter.unusedVariables false
set_option maxRecDepth 4000
namespace Go.V
def NnP (g : GramT) (nn : List Bool) : Prop := nn.length = g.N ∧ ∀ i : Nat, fnB nn i = true ↔ Nul g ((g.T + i : Nat) : Int)
def BsP (g : GramT) (row : List Int) (bs : List Bool) : Prop := bs.length = g.T ∧ ∀ t, fnB bs t = true ↔ FstR g row t
def SyP (g : GramT) (row : List Int) : Prop := ∀ s ∈ row, 0 ≤ s ∧ s < (g.T : Int) + g.N
theorem fnB_dropL (l : List Bool) (k i : Nat) : fnB (l.drop k) i = fnB l (k + i) := by
  unfold fnB; rw [List.getD_eq_getElem?_getD, List.getD_eq_getElem?_getD, List.getElem?_drop]
theorem BsP.inj {g : GramT} {row : List Int} {bs cs : List Bool} (h : BsP g row bs) (k : BsP g row cs) : bs = cs :=
  fnB_inj (h.1.trans k.1.symm) fun i => by rw [Bool.eq_iff_iff, h.2, k.2]
theorem NnP.inj {g : GramT} {bs cs : List Bool} (h : NnP g bs) (k : NnP g cs) : bs = cs :=
  fnB_inj (h.1.trans k.1.symm) fun i => by rw [Bool.eq_iff_iff, h.2, k.2]
end Go.V
namespace Go.Proofs.YtkmjjnjngcpjmaaGreatDoor
open Go.V
section
variable {w : World} {L : List Asn} {g : GramT} {x : GA}
theorem f_either (hg : gR (hp w) g x) (hb : okG g) : Run Tryz.prog n_first_either [.agg ⟨x.cells⟩] w fun v w' => (∃ r : Bool, v = .bool r ∧ (r = true ↔ EitherP g)) ∧ Gr w w' := by
  refine run_first_either _ _ _ _ _ _ _ _ _ _ _ _ _ w _ ?_
  refine gbox hg fun k1 w1 gw hg B => ?_
  refine ⟨_, _, _, _, _, _, _, _, _, _, _, _, _, B.row (sub.refl _), (g_Valid (x := x) hg hb).mono ?_⟩
  rintro _ w2 ⟨⟨r1, rfl, e1⟩, g2⟩
  unfold EitherP
  rw [← e1]
  refine ⟨_, rfl, br_intro (fun h1 => ⟨⟨true, rfl, by simp [h1]⟩, gw.trans g2⟩) fun h1 => ⟨_, _, _, _, _, _, _, _, _, _, _, _, _, B.row g2, (g_Closed (x := x) (hg.mono g2) hb).mono ?_⟩⟩
  rintro _ w3 ⟨⟨r2, rfl, e2⟩, g3⟩
  rw [← e2]
  exact ⟨_, rfl, ⟨r2, rfl, by simp [h1]⟩, gw.trans (g2.trans g3)⟩
theorem f_Nullable (hg : gR (hp w) g x) (hb : okG g) (ht : tabA (hp w)) : Run Tryz.prog n_first_Nullable [.agg ⟨x.cells⟩] w fun v w' =>
    (¬ EitherP g ∧ v = .tuple #[.slice none 0 0, .int .i64 1] ∧ Gr w w') ∨
    (EitherP g ∧ ∃ (k : Nat) (nl nn : List Bool), nl.length = g.T ∧ NnP g nn ∧ v = .tuple #[.slice (some ⟨k, g.T, none⟩) g.N g.N, .int .i64 0] ∧ St w' (cel k (bv (nl ++ nn)) :: all w)) := by
  refine run_first_Nullable _ _ _ _ _ _ _ _ _ _ _ _ _ w _ ?_
  refine gbox hg fun k1 w1 gw hg B => ?_
  refine ⟨_, _, _, _, _, _, _, _, _, _, _, _, _, B.row (sub.refl _), (f_either (x := x) hg hb).mono ?_⟩
  rintro _ w2 ⟨⟨r, rfl, e⟩, g2⟩
  refine ⟨_, rfl, br_intro (fun h1 => .inl ⟨fun he => ?_, rfl, gw.trans g2⟩) fun h1 => fun w3 hd => ?_⟩
  · rw [e.2 he] at h1; cases h1
  have he := e.1 (by simpa using h1)
  have g3 : Gr w1 w3 := g2.trans (Gr.drawn hd)
  obtain ⟨iG, bT, bN, pN, pT, bP⟩ := inG he
  have tl : g.T = x.tl := hg.t.1
  refine ⟨fun w => Gr w3 w, Gr.refl _, _, _, _, _, _, _, _, _, _, _, _, _, _, fun w s => B.row (g3.trans s), _, _, _, fun w s => B.c0 (g3.trans s), (f_of (x := x) (hg.mono g3) hb he (rdV.mono (gw.trans g3) ht)).mono ?_⟩
  rintro _ w6 ⟨b, k14, o, c, nl, ps, vs, rfl, al, hps, h⟩
  have hs : sub (hp w3) (hp w6) := rdH 4 h.l
  have rb : rowH (hp w6) ⟨b, 0, none⟩ (FC x k14 (g.T + g.N) o ps.length c) := rdCel 0 h.l
  refine ⟨_, rfl, fun w => sub (hp w6) (hp w), sub.refl _, fun w s => sub.trans hs s, _, _, _, fun w s => rb.cell s (j := 5) rfl, slc_from (lo := x.tl) (by omega) (Nat.le_refl _) (.inr ⟨he, k14, nl.take g.T, nl.drop g.T, by rw [List.length_take, al.ln]; omega, ⟨by rw [List.length_drop, al.ln]; omega, fun i => ?_⟩, ?_, ?_⟩)⟩
  · rw [fnB_dropL]; exact al.nn _
  · rw [← tl, show g.T + g.N - g.T = g.N from by omega]
    have e : slP (some ⟨k14, 0, none⟩) g.T (g.T + g.N) 1 = some ⟨k14, g.T, none⟩ := by
      unfold slP
      rw [if_neg (by omega), Option.map_some, show mulS g.T 1 = g.T from by rw [mulS_eq, Nat.mul_one], add_lit0]
    rw [e]
  · rw [List.take_append_drop]
    exact St.on (N := [_]) (h0 := hp w3) (h.pick 5 [1, 4]) (has_i (gw.trans g3))
end
end Go.Proofs.YtkmjjnjngcpjmaaGreatDoor
set_option linter.unusedVariables false
set_option maxRecDepth 4000
namespace Go.V
def rowF (n : Nat) (f : Nat → Bool) : List Int := ((List.range n).filter f).map Int.ofNat
def Rise (l : List Int) : Prop := l.Pairwise (· < ·)
theorem rise_eq : ∀ {l m : List Int}, Rise l → Rise m → (∀ z, z ∈ l ↔ z ∈ m) → l = m
  | [], [], _, _, _ => rfl
  | [], b :: m, _, _, h => absurd ((h b).2 (by simp)) (by simp)
  | a :: l, [], _, _, h => absurd ((h a).1 (by simp)) (by simp)
  | a :: l, b :: m, hl, hm, h => by
    obtain ⟨l1, l2⟩ := List.pairwise_cons.1 hl
    obtain ⟨m1, m2⟩ := List.pairwise_cons.1 hm
    have e : a = b := by
      rcases List.mem_cons.1 ((h a).1 (by simp)) with e | ha
      · exact e
      · rcases List.mem_cons.1 ((h b).2 (by simp)) with e | hb
        · exact e.symm
        · have := m1 a ha; have := l1 b hb; omega
    subst e
    rw [rise_eq l2 m2 fun z => ?_]
    have hz := h z
    simp only [List.mem_cons] at hz
    constructor
    · intro hz1
      rcases hz.1 (.inr hz1) with rfl | h2
      · have := l1 _ hz1; omega
      · exact h2
    · intro hz1
      rcases hz.2 (.inr hz1) with rfl | h2
      · have := m1 _ hz1; omega
      · exact h2
theorem rowF_mem {n : Nat} {f : Nat → Bool} {z : Int} : z ∈ rowF n f ↔ ∃ k : Nat, z = k ∧ k < n ∧ f k = true := by
  unfold rowF
  rw [List.mem_map]
  constructor
  · rintro ⟨k, hk, rfl⟩
    obtain ⟨h1, h2⟩ := List.mem_filter.1 hk
    exact ⟨k, rfl, List.mem_range.1 h1, h2⟩
  · rintro ⟨k, rfl, h1, h2⟩
    exact ⟨k, List.mem_filter.2 ⟨List.mem_range.2 h1, h2⟩, rfl⟩
theorem rowF_rise (n : Nat) (f : Nat → Bool) : Rise (rowF n f) := by
  unfold rowF Rise
  rw [List.pairwise_map]
  refine List.Pairwise.filter _ ?_
  exact List.pairwise_lt_range.imp fun h => by show Int.ofNat _ < Int.ofNat _; simp; exact h
theorem rowF_len (n : Nat) (f : Nat → Bool) : (rowF n f).length ≤ n := by
  unfold rowF
  rw [List.length_map]
  have := List.length_filter_le f (List.range n)
  rwa [List.length_range] at this
def dd : List Int → List Int
  | [] => []
  | [a] => [a]
  | a :: b :: l => if a = b then dd (b :: l) else a :: dd (b :: l)
theorem dd_mem : ∀ (l : List Int) (z : Int), z ∈ dd l ↔ z ∈ l
  | [], z => by simp [dd]
  | [a], z => by simp [dd]
  | a :: b :: l, z => by
    unfold dd
    split
    · rename_i h; subst h
      rw [dd_mem (a :: l)]; simp
    · rw [List.mem_cons, dd_mem (b :: l), List.mem_cons, List.mem_cons, List.mem_cons]
theorem dd_rise : ∀ {l : List Int}, l.Pairwise (· ≤ ·) → Rise (dd l)
  | [], _ => by simp [dd, Rise]
  | [a], _ => by simp [dd, Rise]
  | a :: b :: l, h => by
    obtain ⟨h1, h2⟩ := List.pairwise_cons.1 h
    unfold dd
    split
    · exact dd_rise h2
    · rename_i hne
      refine List.pairwise_cons.2 ⟨fun z hz => ?_, dd_rise h2⟩
      rw [dd_mem] at hz
      have hb := h1 b (by simp)
      rcases List.mem_cons.1 hz with rfl | hz
      · omega
      · have := (List.pairwise_cons.1 h2).1 z hz
        omega
theorem dd_len : ∀ l : List Int, (dd l).length ≤ l.length
  | [] => by simp [dd]
  | [a] => by simp [dd]
  | a :: b :: l => by
    unfold dd
    split
    · have := dd_len (b :: l); simp at this ⊢; omega
    · have := dd_len (b :: l); simp at this ⊢; omega
def numT (g : GramT) (ss : List SQ) (t : TransT) : Int := if t ∈ TrL g ss then ((TrL g ss).idxOf t : Int) + 1 else 0
def toK (ss : List SQ) (k : TransT) : Int := if k.st < 0 then 0 else match nxt ss k.st.toNat k.sym with
  | some j => j + 1
  | none => 0
def vanB (g : GramT) (nn : List Bool) (s : Int) : Bool := decide ((g.T : Int) ≤ s) && fnB nn (s.toNat - g.T)
def vanR (g : GramT) (nn : List Bool) (row : List Int) : Bool := row.all (vanB g nn)
def readB (g : GramT) (nn : List Bool) (ss : List SQ) (i k : Nat) : Bool := match (TrL g ss)[i]?, (TrL g ss)[k]? with
  | some t, some u => decide (nxt ss t.st.toNat t.sym = some u.st) && vanB g nn u.sym
  | _, _ => false
def incB (g : GramT) (nn : List Bool) (ss : List SQ) (n i : Nat) : Bool := match (TrL g ss)[i]? with
  | some t => (List.range g.prods.length).any fun m => decide (m ≠ 0) && match g.prods[m]? with
    | some p => decide (p.left = t.sym) && (List.range p.right.length).any fun k => decide ((TrL g ss)[n]? = some ⟨wayN ss t.st (p.right.take k), p.right.getD k 0⟩) && vanR g nn (p.right.drop (k + 1))
    | none => false
  | none => false
def backB (g : GramT) (ss : List SQ) (q m i : Nat) : Bool := match (TrL g ss)[i]?, g.prods[m]? with
  | some t, some p => decide (m ≠ 0) && decide (p.left = t.sym) && decide (wayN ss t.st p.right = q)
  | _, _ => false
def RdsL (g : GramT) (nn : List Bool) (ss : List SQ) : List (List Int) := (List.range (TrL g ss).length).map fun i => rowF (TrL g ss).length (readB g nn ss i)
def IncL (g : GramT) (nn : List Bool) (ss : List SQ) : List (List Int) := (List.range (TrL g ss).length).map fun n => rowF (TrL g ss).length (incB g nn ss n)
structure BackT where
  st : Int
  prod : Int
  tr : List Int
deriving DecidableEq
instance : Inhabited BackT := ⟨⟨0, 0, []⟩⟩
def bkAt (g : GramT) (ss : List SQ) (q m : Nat) : List BackT := if rowF (TrL g ss).length (backB g ss q m) = [] then [] else [⟨q, m, rowF (TrL g ss).length (backB g ss q m)⟩]
def bkRow (g : GramT) (ss : List SQ) (q j : Nat) : List BackT := (List.range j).flatMap (bkAt g ss q)
def BksL (g : GramT) (ss : List SQ) : List BackT := (List.range ss.length).flatMap fun q => bkRow g ss q g.prods.length
theorem bkRow_succ (g : GramT) (ss : List SQ) (q j : Nat) : bkRow g ss q (j + 1) = bkRow g ss q j ++ bkAt g ss q j := by unfold bkRow; rw [List.range_succ, List.flatMap_append]; simp
def byR (g : GramT) (j : Nat) (s : Int) : List Nat := (byN g j s).filter fun i => decide (0 < i)
theorem byR_succ {g : GramT} {j : Nat} {p : ProdT} (h : g.prods[j]? = some p) (s : Int) : byR g (j + 1) s = byR g j s ++ if s = p.left ∧ 0 < j then [j] else [] := by
  unfold byR
  rw [byN_succ h, List.filter_append]
  congr 1
  by_cases e : s = p.left <;> by_cases e2 : 0 < j <;> simp [e, e2]
theorem byR_len (g : GramT) (j : Nat) (s : Int) : (byR g j s).length ≤ j := Nat.le_trans (List.length_filter_le _ _) (byN_len g j s)
theorem byR_mem {g : GramT} {s : Int} {i : Nat} : i ∈ byR g g.prods.length s ↔ 0 < i ∧ ∃ p, g.prods[i]? = some p ∧ p.left = s := by
  unfold byR
  rw [List.mem_filter, show byN g g.prods.length s = byL g s from rfl, byL_mem, decide_eq_true_eq, and_comm]
section
variable {g : GramT} {ss : List SQ}
theorem TrN_nd (hA : AutI g ss) : ∀ n : Nat, (TrN g ss n).Nodup
  | 0 => by simp [TrN]
  | n + 1 => by
    cases hq : ss[n]? with
    | none => simp only [TrN, hq, List.append_nil]; exact TrN_nd hA n
    | some q =>
      rw [TrN_succ hq, List.nodup_append]
      refine ⟨TrN_nd hA n, ?_, fun x hx y hy e => ?_⟩
      · unfold trAt
        have h1 := aut_nd hA hq
        have h2 : ((q.2.2.filter fun e => decide ((g.T : Int) ≤ e.sym)).map (·.sym)).Nodup := h1.sublist (List.Sublist.map _ List.filter_sublist)
        rw [List.nodup_iff_pairwise_ne, List.pairwise_map] at h2 ⊢
        exact h2.imp fun h e => h (congrArg TransT.sym e)
      · subst e
        obtain ⟨i, _, _, e, hi, _, _, _, rfl⟩ := TrN_mem hx
        unfold trAt at hy
        obtain ⟨e', _, h2⟩ := List.mem_map.1 hy
        have := congrArg TransT.st h2
        simp at this; omega
theorem TrL_nd (hA : AutI g ss) : (TrL g ss).Nodup := TrN_nd hA _
theorem idx_at {α : Type} [DecidableEq α] {l : List α} (h : l.Nodup) {i : Nat} {x : α} (hx : l[i]? = some x) : l.idxOf x = i := by
  obtain ⟨h1, rfl⟩ := List.getElem?_eq_some_iff.1 hx
  exact h.idxOf_getElem i h1
theorem numT_at (hA : AutI g ss) {i : Nat} {t : TransT} (h : (TrL g ss)[i]? = some t) : numT g ss t = (i : Int) + 1 := by
  unfold numT
  rw [if_pos (List.mem_of_getElem? h), idx_at (TrL_nd hA) h]
theorem numT_pos (hA : AutI g ss) {t : TransT} (h : 0 < numT g ss t) : ∃ i : Nat, numT g ss t = (i : Int) + 1 ∧ (TrL g ss)[i]? = some t := by
  unfold numT at h ⊢
  by_cases ht : t ∈ TrL g ss
  · rw [if_pos ht]
    refine ⟨_, rfl, ?_⟩
    rw [List.getElem?_eq_getElem (List.idxOf_lt_length_of_mem ht), List.getElem_idxOf]
  · rw [if_neg ht] at h; omega
end
end Go.V
set_option linter.unusedVariables false
namespace Go.Proofs.YtkmjjnjngcpjmaaGreatDoor
open Go.V
abbrev n_relate_Reads : FuncId := 12
def ann_relate_Reads : Ann := { rngs := [], loops := [], joins := [], blocks := [] }
set_option maxRecDepth 100000 in
def vc_relate_Reads (a : Option Addr) (b c : Nat) (d : Option Addr) (e f : Nat) (g : Option Addr) (i j : Nat) (k : Int) (l : Option Addr) (m n : Nat) (w : World) (R : Value → WP) : Prop :=  new w (oC [vS a b c, vS d e f, vS g i j, iI k, vS l m n] 27) fun k1 w1 => ∃ o1 k2 k3 o2 k4 k5 o3 k6 k7 n1 o4 k8 k9, V.rowAt w1 (aM k1) 0 5 = some [vS o1 k2 k3, vS o2 k4 k5, vS o3 k6 k7, iI n1, vS o4 k8 k9] ∧ RunE Proofs.Tryz.prog Ev 30 [vA (Array.mk [vS o1 k2 k3, vS o2 k4 k5, vS o3 k6 k7, iI n1, vS o4 k8 k9])] w1 fun v1 w2 => ∃ o5 n2, v1 = vT (Array.mk [vP o5, iI n2]) ∧ new w2 (oC [vP none] 80) fun k10 w3 => st1 w3 (aM k10) (vP o5) fun w4 => br (n2 != 0) (R (vT (Array.mk [vS none 0 0, iI n2])) w4) (∃ o6, World.cell? w4 (aM k10) = some (vP o6) ∧ RunE Proofs.Tryz.prog Ev 31 [vP o6, Value.func (Fn.func 32) (Array.mk []) (Array.mk [vP (some (aM k10)), vP (some (aM k1))])] w4 fun v2 w5 => ∃ o7 k11 k12, v2 = vS o7 k11 k12 ∧ R (vT (Array.mk [vS o7 k11 k12, iI 0])) w5)
set_option maxRecDepth 100000 in
theorem run_relate_Reads (a : Option Addr) (b c : Nat) (d : Option Addr) (e f : Nat) (g : Option Addr) (i j : Nat) (k : Int) (l : Option Addr) (m n : Nat) (w : World) (R : Value → WP) (h : vc_relate_Reads a b c d e f g i j k l m n w R) : Run Tryz.prog 12 [(.agg #[(.slice a b c), (.slice d e f), (.slice g i j), (.int .i64 k), (.slice l m n)])] w R := rv Tryz.func12 ann_relate_Reads (by kernel_rfl) h

abbrev n_relate_Includes : FuncId := 13
def ann_relate_Includes : Ann := { rngs := [], loops := [], joins := [], blocks := [] }
set_option maxRecDepth 100000 in
def vc_relate_Includes (a : Option Addr) (b c : Nat) (d : Option Addr) (e f : Nat) (g : Option Addr) (i j : Nat) (k : Int) (l : Option Addr) (m n : Nat) (w : World) (R : Value → WP) : Prop :=  new w (oC [vS a b c, vS d e f, vS g i j, iI k, vS l m n] 27) fun k1 w1 => ∃ o1 k2 k3 o2 k4 k5 o3 k6 k7 n1 o4 k8 k9, V.rowAt w1 (aM k1) 0 5 = some [vS o1 k2 k3, vS o2 k4 k5, vS o3 k6 k7, iI n1, vS o4 k8 k9] ∧ RunE Proofs.Tryz.prog Ev 30 [vA (Array.mk [vS o1 k2 k3, vS o2 k4 k5, vS o3 k6 k7, iI n1, vS o4 k8 k9])] w1 fun v1 w2 => ∃ o5 n2, v1 = vT (Array.mk [vP o5, iI n2]) ∧ new w2 (oC [vP none] 80) fun k10 w3 => st1 w3 (aM k10) (vP o5) fun w4 => br (n2 != 0) (R (vT (Array.mk [vS none 0 0, iI n2])) w4) (∃ o6, World.cell? w4 (aM k10) = some (vP o6) ∧ RunE Proofs.Tryz.prog Ev 31 [vP o6, Value.func (Fn.func 33) (Array.mk []) (Array.mk [vP (some (aM k10)), vP (some (aM k1))])] w4 fun v2 w5 => ∃ o7 k11 k12, v2 = vS o7 k11 k12 ∧ R (vT (Array.mk [vS o7 k11 k12, iI 0])) w5)
set_option maxRecDepth 100000 in
theorem run_relate_Includes (a : Option Addr) (b c : Nat) (d : Option Addr) (e f : Nat) (g : Option Addr) (i j : Nat) (k : Int) (l : Option Addr) (m n : Nat) (w : World) (R : Value → WP) (h : vc_relate_Includes a b c d e f g i j k l m n w R) : Run Tryz.prog 13 [(.agg #[(.slice a b c), (.slice d e f), (.slice g i j), (.int .i64 k), (.slice l m n)])] w R := rv Tryz.func13 ann_relate_Includes (by kernel_rfl) h

abbrev n_relate_Lookback : FuncId := 14
def ann_relate_Lookback : Ann := { rngs := [], loops := [(6, [(31, (.one (.int .i64)))]), (9, [(44, (.one (.int .i64)))]), (18, [(13, (.one .slice)), (77, (.one (.int .i64)))]), (21, [(13, (.one .slice)), (83, (.one (.int .i64)))])], joins := [], blocks := [] }
set_option maxRecDepth 100000 in
def vc_relate_Lookback (a : Option Addr) (b c : Nat) (d : Option Addr) (e f : Nat) (g : Option Addr) (i j : Nat) (k : Int) (l : Option Addr) (m n : Nat) (w : World) (R : Value → WP) : Prop :=  new w (oC [vS a b c, vS d e f, vS g i j, iI k, vS l m n] 27) fun k1 w1 => ∃ o1 k2 k3 o2 k4 k5 o3 k6 k7 n1 o4 k8 k9, V.rowAt w1 (aM k1) 0 5 = some [vS o1 k2 k3, vS o2 k4 k5, vS o3 k6 k7, iI n1, vS o4 k8 k9] ∧ RunE Proofs.Tryz.prog Ev 30 [vA (Array.mk [vS o1 k2 k3, vS o2 k4 k5, vS o3 k6 k7, iI n1, vS o4 k8 k9])] w1 fun v1 w2 => ∃ o5 n2, v1 = vT (Array.mk [vP o5, iI n2]) ∧ br (n2 != 0) (R (vT (Array.mk [vS none 0 0, iI n2])) w2) (new w2 (Obj.map (Array.mk []) 0) fun k10 w3 => nn o5 fun a1 => ∃ o6 k11 k12, World.cell? w3 (Addr.add a1 8) = some (vS o6 k11 k12) ∧ ∃ (x1 : lP [(31, shI)]), ∃ (x2 : lN [(31, shI)]), x1 0 w3 ∧ ∀ (I1 : Nat → Value) (n3 : Int) (w4 : World), x1 n3 w4 → br (decide (n3 < (↑k11 : Int))) (idx o6 k11 n3 2 fun a2 => ∃ n4 n5, V.rowAt w4 a2 0 2 = some [iI n4, iI n5] ∧ new w4 (oC [iI 0, iI 0] 66) fun k13 w5 => stR w5 (aM k13) [iI n4, iI n5] fun w6 => ∀ w7, drawn w6 w7 → ∃ (I2 : World → Prop), I2 w7 ∧ nn o5 fun a3 => ∃ o7, (∀ w8, I2 w8 → World.cell? w8 (Addr.add a3 12) = some (Value.map o7)) ∧ ∃ n6, (∀ w9, I2 w9 → World.cell? w9 (Addr.add (aM k13) 1) = some (iI n6)) ∧ RunS Proofs.Tryz.prog (Instr.lookup 86 (Value.map o7) (iI n6) false) w7 fun v2 w10 => ∃ o8 k14 k15, v2 = vS o8 k14 k15 ∧ I2 w10 ∧ ∃ (x3 : lP [(44, shI)]), ∃ (x4 : lN [(44, shI)]), x3 0 w10 ∧ ∀ (I3 : Nat → Value) (n7 : Int) (w11 : World), x3 n7 w11 → br (decide (n7 < (↑k14 : Int))) (idx o8 k14 n7 1 fun a4 => ∃ n8, World.cell? w11 a4 = some (iI n8) ∧ ∀ w12, drawn w11 w12 → ∃ (I4 : World → Prop), I4 w12 ∧ ∃ n9, (∀ w13, I4 w13 → World.cell? w13 (aM k13) = some (iI n9)) ∧ ∃ o9 k16 k17, (∀ w14, I4 w14 → World.cell? w14 (Addr.add (aM k1) 4) = some (vS o9 k16 k17)) ∧ idx o9 k16 n8 3 fun a5 => ∃ o10 k18 k19, (∀ w15, I4 w15 → World.cell? w15 (Addr.add a5 1) = some (vS o10 k18 k19)) ∧ RunE Proofs.Tryz.prog Ev 34 [vP o5, iI n9, vS o10 k18 k19, Value.func (Fn.func 37) (Array.mk []) (Array.mk [])] w12 fun v3 w16 => ∃ n10, v3 = iI n10 ∧ I4 w16 ∧ new w16 (oC [iI 0, iI 0] 66) fun k20 w17 => stR w17 (aM k20) [iI n10, iI n8] fun w18 => ∃ n11 n12, V.rowAt w18 (aM k20) 0 2 = some [iI n11, iI n12] ∧ new w18 (oC [iI n3] 3) fun k21 w19 => RunS Proofs.Tryz.prog (Instr.mapEntry 94 (Value.map (some k10)) (vG [iI n11, iI n12])) w19 fun v4 w20 => ∃ o11 k22 k23 n13, v4 = vT (Array.mk [vS o11 k22 k23, iI n13]) ∧ RunS Proofs.Tryz.prog (apB 24 (Array.mk [vS o11 k22 k23, vS (some (aM k21)) 1 1])) w20 fun v5 w21 => ∃ o12 k24 k25, v5 = vS o12 k24 k25 ∧ RunS Proofs.Tryz.prog (Instr.entryStore 94 (Value.map (some k10)) (iI n13) (vS o12 k24 k25)) w21 fun (x5 : Unit) (w22 : World) => inI (n7 + 1) ∧ x3 (n7 + 1) w22 ∧ x4 (n7 + 1) w22 < x4 n7 w11) (inI (n3 + 1) ∧ x1 (n3 + 1) w11 ∧ x2 (n3 + 1) w11 < x2 n3 w4)) (nn o5 fun a6 => ∃ o13 k26 k27, World.cell? w4 (Addr.add a6 5) = some (vS o13 k26 k27) ∧ ∃ (x6 : lP [(13, shS), (77, shI)]), ∃ (x7 : lN [(13, shS), (77, shI)]), x6 none 0 0 0 w4 ∧ ∀ (I5 : Nat → Value) (o14 : Option Addr) (k28 k29 : Nat) (n14 : Int) (w23 : World), x6 o14 k28 k29 n14 w23 → br (decide (n14 < (↑k26 : Int))) (∃ o15 k30 k31, World.cell? w23 (Addr.add (aM k1) 4) = some (vS o15 k30 k31) ∧ ∃ (x8 : lP [(13, shS), (83, shI)]), ∃ (x9 : lN [(13, shS), (83, shI)]), x8 o14 k28 k29 0 w23 ∧ ∀ (I6 : Nat → Value) (o16 : Option Addr) (k32 k33 : Nat) (n15 : Int) (w24 : World), x8 o16 k32 k33 n15 w24 → br (decide (n15 < (↑k30 : Int))) (RunS Proofs.Tryz.prog (Instr.lookup 94 (Value.map (some k10)) (vG [iI n14, iI n15]) false) w24 fun v6 w25 => ∃ o17 k34 k35, v6 = vS o17 k34 k35 ∧ br (decide (0 < (↑k34 : Int))) (RunE Proofs.Tryz.prog Ev 38 [vS o17 k34 k35] w25 fun v7 w26 => ∃ o18 k36 k37, v7 = vS o18 k36 k37 ∧ new w26 (oC [iI n14, iI n15, vS o18 k36 k37] 40) fun k38 w27 => RunS Proofs.Tryz.prog (apB 34 (Array.mk [vS o16 k32 k33, vS (some (aM k38)) 1 1])) w27 fun v8 w28 => ∃ o19 k39 k40, v8 = vS o19 k39 k40 ∧ inI (n15 + 1) ∧ x8 o19 k39 k40 (n15 + 1) w28 ∧ x9 o19 k39 k40 (n15 + 1) w28 < x9 o16 k32 k33 n15 w24) (inI (n15 + 1) ∧ x8 o16 k32 k33 (n15 + 1) w25 ∧ x9 o16 k32 k33 (n15 + 1) w25 < x9 o16 k32 k33 n15 w24)) (inI (n14 + 1) ∧ x6 o16 k32 k33 (n14 + 1) w24 ∧ x7 o16 k32 k33 (n14 + 1) w24 < x7 o14 k28 k29 n14 w23)) (RunE Proofs.Tryz.prog Ev 39 [vS o14 k28 k29] w23 fun v9 w29 => ∃ o20 k41 k42, v9 = vS o20 k41 k42 ∧ R (vT (Array.mk [vS o20 k41 k42, iI 0])) w29)))
set_option maxRecDepth 100000 in
theorem run_relate_Lookback (a : Option Addr) (b c : Nat) (d : Option Addr) (e f : Nat) (g : Option Addr) (i j : Nat) (k : Int) (l : Option Addr) (m n : Nat) (w : World) (R : Value → WP) (h : vc_relate_Lookback a b c d e f g i j k l m n w R) : Run Tryz.prog 14 [(.agg #[(.slice a b c), (.slice d e f), (.slice g i j), (.int .i64 k), (.slice l m n)])] w R := rv Tryz.func14 ann_relate_Lookback (by kernel_rfl) h

abbrev n_relate_of : FuncId := 30
def ann_relate_of : Ann := { rngs := [], loops := [(8, [(51, (.one (.int .i64)))]), (13, [(67, (.one (.int .i64)))]), (16, [(75, (.one (.int .i64)))]), (22, [(95, (.one (.int .i64)))])], joins := [], blocks := [] }
set_option maxRecDepth 100000 in
def vc_relate_of (a : Option Addr) (b c : Nat) (d : Option Addr) (e f : Nat) (g : Option Addr) (i j : Nat) (k : Int) (l : Option Addr) (m n : Nat) (w : World) (R : Value → WP) : Prop :=  new w (oC [vS a b c, vS d e f, vS g i j, iI k, vS l m n] 27) fun k1 w1 => ∃ o1 k2 k3 o2 k4 k5 o3 k6 k7 n1 o4 k8 k9, V.rowAt w1 (aM k1) 0 5 = some [vS o1 k2 k3, vS o2 k4 k5, vS o3 k6 k7, iI n1, vS o4 k8 k9] ∧ RunE Proofs.Tryz.prog Ev 19 [vA (Array.mk [vS o1 k2 k3, vS o2 k4 k5, vS o3 k6 k7, iI n1, vS o4 k8 k9])] w1 fun v1 w2 => ∃ o5 k10 k11 n2 n3 n4, v1 = vT (Array.mk [vA (Array.mk [vS o5 k10 k11, iI n2, iI n3]), iI n4]) ∧ new w2 (oC [vS none 0 0, iI 0, iI 0] 48) fun k12 w3 => stR w3 (aM k12) [vS o5 k10 k11, iI n2, iI n3] fun w4 => br (n4 != 0) (R (vT (Array.mk [vP none, iI n4])) w4) (∃ o6 k13 k14 o7 k15 k16 o8 k17 k18 n5 o9 k19 k20, V.rowAt w4 (aM k1) 0 5 = some [vS o6 k13 k14, vS o7 k15 k16, vS o8 k17 k18, iI n5, vS o9 k19 k20] ∧ ∃ o10 k21 k22 n6 n7, V.rowAt w4 (aM k12) 0 3 = some [vS o10 k21 k22, iI n6, iI n7] ∧ new w4 (Obj.map (Array.mk []) 0) fun k23 w5 => new w5 (Obj.map (Array.mk []) 0) fun k24 w6 => new w6 (Obj.map (Array.mk []) 0) fun k25 w7 => new w7 (oC [vS o6 k13 k14, vS o7 k15 k16, vS o8 k17 k18, iI n5, vS o9 k19 k20, vS o10 k21 k22, iI n6, iI n7, vS none 0 0, Value.map (some k23), Value.map (some k24), vS none 0 0, Value.map (some k25)] 88) fun k26 w8 => ∃ o11 k27 k28 o12 k29 k30 o13 k31 k32 n8 o14 k33 k34, V.rowAt w8 (aM k1) 0 5 = some [vS o11 k27 k28, vS o12 k29 k30, vS o13 k31 k32, iI n8, vS o14 k33 k34] ∧ RunE Proofs.Tryz.prog Ev 41 [vA (Array.mk [vS o11 k27 k28, vS o12 k29 k30, vS o13 k31 k32, iI n8, vS o14 k33 k34])] w8 fun v2 w9 => ∃ o15 k35 k36 n9, v2 = vT (Array.mk [vS o15 k35 k36, iI n9]) ∧ st1 w9 (Addr.add (aM k26) 8) (vS o15 k35 k36) fun w10 => ∃ o16 k37 k38 o17 k39 k40 o18 k41 k42 n10 o19 k43 k44, V.rowAt w10 (aM k1) 0 5 = some [vS o16 k37 k38, vS o17 k39 k40, vS o18 k41 k42, iI n10, vS o19 k43 k44] ∧ RunE Proofs.Tryz.prog Ev 43 [vA (Array.mk [vS o16 k37 k38, vS o17 k39 k40, vS o18 k41 k42, iI n10, vS o19 k43 k44])] w10 fun v3 w11 => ∃ o20 k45 k46 n11, v3 = vT (Array.mk [vS o20 k45 k46, iI n11]) ∧ st1 w11 (Addr.add (aM k26) 11) (vS o20 k45 k46) fun w12 => ∃ o21 k47 k48, World.cell? w12 (Addr.add (aM k26) 8) = some (vS o21 k47 k48) ∧ ∃ (x1 : lP [(51, shI)]), ∃ (x2 : lN [(51, shI)]), x1 0 w12 ∧ ∀ (I1 : Nat → Value) (n12 : Int) (w13 : World), x1 n12 w13 → br (decide (n12 < (↑k47 : Int))) (idx o21 k47 n12 2 fun a1 => ∃ n13 n14, V.rowAt w13 a1 0 2 = some [iI n13, iI n14] ∧ new w13 (oC [iI 0, iI 0] 66) fun k49 w14 => stR w14 (aM k49) [iI n13, iI n14] fun w15 => ∀ w16, drawn w15 w16 → ∃ (I2 : World → Prop), I2 w16 ∧ ∃ o22, (∀ w17, I2 w17 → World.cell? w17 (Addr.add (aM k26) 9) = some (Value.map o22)) ∧ ∃ n15 n16, (∀ w18, I2 w18 → V.rowAt w18 (aM k49) 0 2 = some [iI n15, iI n16]) ∧ inI (n12 + 1) ∧ RunS Proofs.Tryz.prog (Instr.mapUpdate 85 (Value.map o22) (vG [iI n15, iI n16]) (iI (n12 + 1))) w16 fun (x3 : Unit) (w19 : World) => inI (n12 + 1) ∧ x1 (n12 + 1) w19 ∧ x2 (n12 + 1) w19 < x2 n12 w13) (∃ o23 k50 k51, World.cell? w13 (aM k12) = some (vS o23 k50 k51) ∧ ∃ (x4 : lP [(67, shI)]), ∃ (x5 : lN [(67, shI)]), x4 0 w13 ∧ ∀ (I3 : Nat → Value) (n17 : Int) (w20 : World), x4 n17 w20 → br (decide (n17 < (↑k50 : Int))) (idx o23 k50 n17 2 fun a2 => ∃ o24 k52 k53 o25 k54 k55, V.rowAt w20 a2 0 2 = some [vS o24 k52 k53, vS o25 k54 k55] ∧ new w20 (oC [vS none 0 0, vS none 0 0] 56) fun k56 w21 => stR w21 (aM k56) [vS o24 k52 k53, vS o25 k54 k55] fun w22 => ∃ o26 k57 k58, World.cell? w22 (Addr.add (aM k56) 1) = some (vS o26 k57 k58) ∧ ∃ (x6 : lP [(75, shI)]), ∃ (x7 : lN [(75, shI)]), x6 0 w22 ∧ ∀ (I4 : Nat → Value) (n18 : Int) (w23 : World), x6 n18 w23 → br (decide (n18 < (↑k57 : Int))) (idx o26 k57 n18 2 fun a3 => ∃ n19 n20, V.rowAt w23 a3 0 2 = some [iI n19, iI n20] ∧ new w23 (oC [iI 0, iI 0] 90) fun k59 w24 => stR w24 (aM k59) [iI n19, iI n20] fun w25 => ∀ w26, drawn w25 w26 → ∃ (I5 : World → Prop), I5 w26 ∧ ∃ o27, (∀ w27, I5 w27 → World.cell? w27 (Addr.add (aM k26) 10) = some (Value.map o27)) ∧ ∃ n21, (∀ w28, I5 w28 → World.cell? w28 (aM k59) = some (iI n21)) ∧ ∃ n22, (∀ w29, I5 w29 → World.cell? w29 (Addr.add (aM k59) 1) = some (iI n22)) ∧ inI (n22 + 1) ∧ RunS Proofs.Tryz.prog (Instr.mapUpdate 85 (Value.map o27) (vG [iI n17, iI n21]) (iI (n22 + 1))) w26 fun (x8 : Unit) (w30 : World) => inI (n18 + 1) ∧ x6 (n18 + 1) w30 ∧ x7 (n18 + 1) w30 < x7 n18 w23) (inI (n17 + 1) ∧ x4 (n17 + 1) w23 ∧ x5 (n17 + 1) w23 < x5 n17 w20)) (∃ o28 k60 k61, World.cell? w20 (Addr.add (aM k1) 4) = some (vS o28 k60 k61) ∧ ∃ (x9 : lP [(95, shI)]), ∃ (x10 : lN [(95, shI)]), x9 0 w20 ∧ ∀ (I6 : Nat → Value) (n23 : Int) (w31 : World), x9 n23 w31 → br (decide (n23 < (↑k60 : Int))) (idx o28 k60 n23 3 fun a4 => ∃ n24 o29 k62 k63 n25, V.rowAt w31 a4 0 3 = some [iI n24, vS o29 k62 k63, iI n25] ∧ new w31 (oC [iI 0, vS none 0 0, iI 0] 60) fun k64 w32 => stR w32 (aM k64) [iI n24, vS o29 k62 k63, iI n25] fun w33 => br (decide (0 < n23)) (∀ w34, drawn w33 w34 → ∃ (I7 : World → Prop), I7 w34 ∧ ∃ o30, (∀ w35, I7 w35 → World.cell? w35 (Addr.add (aM k26) 12) = some (Value.map o30)) ∧ ∃ n26, (∀ w36, I7 w36 → World.cell? w36 (aM k64) = some (iI n26)) ∧ ∃ o31, (∀ w37, I7 w37 → World.cell? w37 (Addr.add (aM k26) 12) = some (Value.map o31)) ∧ ∃ n27, (∀ w38, I7 w38 → World.cell? w38 (aM k64) = some (iI n27)) ∧ (RunS Proofs.Tryz.prog (Instr.lookup 86 (Value.map o31) (iI n27) false) w34 fun v4 w39 => ∃ o32 k65 k66, v4 = vS o32 k65 k66 ∧ I7 w39 ∧ new w39 (oC [iI n23] 3) fun k67 w40 => I7 w40 ∧ RunS Proofs.Tryz.prog (apB 24 (Array.mk [vS o32 k65 k66, vS (some (aM k67)) 1 1])) w40 fun v5 w41 => ∃ o33 k68 k69, v5 = vS o33 k68 k69 ∧ I7 w41 ∧ RunS Proofs.Tryz.prog (Instr.mapUpdate 86 (Value.map o30) (iI n26) (vS o33 k68 k69)) w41 fun (x11 : Unit) (w42 : World) => inI (n23 + 1) ∧ x9 (n23 + 1) w42 ∧ x10 (n23 + 1) w42 < x10 n23 w31) ∧ new w34 (oC [iI n23] 3) fun k70 w43 => I7 w43 ∧ RunS Proofs.Tryz.prog (Instr.lookup 86 (Value.map o31) (iI n27) false) w43 fun v6 w44 => ∃ o34 k71 k72, v6 = vS o34 k71 k72 ∧ I7 w44 ∧ RunS Proofs.Tryz.prog (apB 24 (Array.mk [vS o34 k71 k72, vS (some (aM k70)) 1 1])) w44 fun v7 w45 => ∃ o35 k73 k74, v7 = vS o35 k73 k74 ∧ I7 w45 ∧ RunS Proofs.Tryz.prog (Instr.mapUpdate 86 (Value.map o30) (iI n26) (vS o35 k73 k74)) w45 fun (x12 : Unit) (w46 : World) => inI (n23 + 1) ∧ x9 (n23 + 1) w46 ∧ x10 (n23 + 1) w46 < x10 n23 w31) (inI (n23 + 1) ∧ x9 (n23 + 1) w33 ∧ x10 (n23 + 1) w33 < x10 n23 w31)) (R (vT (Array.mk [vP (some (aM k26)), iI 0])) w31))))
set_option maxRecDepth 100000 in
theorem run_relate_of (a : Option Addr) (b c : Nat) (d : Option Addr) (e f : Nat) (g : Option Addr) (i j : Nat) (k : Int) (l : Option Addr) (m n : Nat) (w : World) (R : Value → WP) (h : vc_relate_of a b c d e f g i j k l m n w R) : Run Tryz.prog 30 [(.agg #[(.slice a b c), (.slice d e f), (.slice g i j), (.int .i64 k), (.slice l m n)])] w R := rv Tryz.func30 ann_relate_of (by kernel_rfl) h

abbrev n_relate_world_laid : FuncId := 31
def ann_relate_world_laid : Ann := { rngs := [], loops := [(4, [(18, (.one (.int .i64)))])], joins := [], blocks := [] }
set_option maxRecDepth 100000 in
def vc_relate_world_laid (a : Option Addr) (b : FuncId) (c : List Value) (w : World) (R : Value → WP) : Prop :=  nn a fun a1 => ∃ o1 k1 k2, World.cell? w (Addr.add a1 8) = some (vS o1 k1 k2) ∧ mkOk (↑k1 : Int) (↑k1 : Int) 24 ∧ new w (Obj.cells (Array.mk (reps (Int.toNat (↑k1 : Int)) [vS none 0 0])) 24) fun k3 w1 => new w1 (oC [vS none 0 0] 30) fun k4 w2 => st1 w2 (aM k4) (vS (some (aM k3)) (Int.toNat (↑k1 : Int)) (Int.toNat (↑k1 : Int))) fun w3 => ifT (Proofs.YtkmjjnjngcpjmaaGreatDoor.Fn b) (RunE Proofs.Tryz.prog Ev b (Value.func (Fn.func 66) (Array.mk []) (Array.mk [vP (some (aM k4))]) :: c) w3 fun v1 w4 => v1 = vT (Array.mk []) ∧ ∃ o2 k5 k6, World.cell? w4 (aM k4) = some (vS o2 k5 k6) ∧ ∃ (x1 : lP [(18, shI)]), ∃ (x2 : lN [(18, shI)]), x1 0 w4 ∧ ∀ (I1 : Nat → Value) (n1 : Int) (w5 : World), x1 n1 w5 → br (decide (n1 < (↑k5 : Int))) (∃ o3 k7 k8, World.cell? w5 (aM k4) = some (vS o3 k7 k8) ∧ idx o3 k7 n1 1 fun a2 => ∃ o4 k9 k10, World.cell? w5 a2 = some (vS o4 k9 k10) ∧ RunE Proofs.Tryz.prog Ev 48 [vS o4 k9 k10] w5 fun v2 w6 => v2 = vT (Array.mk []) ∧ ∀ w7, drawn w6 w7 → ∃ (I2 : World → Prop), I2 w7 ∧ ∃ o5 k11 k12, (∀ w8, I2 w8 → World.cell? w8 (aM k4) = some (vS o5 k11 k12)) ∧ ∃ o6 k13 k14, (∀ w9, I2 w9 → World.cell? w9 (aM k4) = some (vS o6 k13 k14)) ∧ idx o6 k13 n1 1 fun a3 => ∃ o7 k15 k16, (∀ w10, I2 w10 → World.cell? w10 a3 = some (vS o7 k15 k16)) ∧ RunE Proofs.Tryz.prog Ev 67 [vS o7 k15 k16] w7 fun v3 w11 => ∃ o8 k17 k18, v3 = vS o8 k17 k18 ∧ I2 w11 ∧ RunE Proofs.Tryz.prog Ev 38 [vS o8 k17 k18] w11 fun v4 w12 => ∃ o9 k19 k20, v4 = vS o9 k19 k20 ∧ I2 w12 ∧ idx o5 k11 n1 1 fun a4 => st1 w12 a4 (vS o9 k19 k20) fun w13 => inI (n1 + 1) ∧ x1 (n1 + 1) w13 ∧ x2 (n1 + 1) w13 < x2 n1 w5) (∃ o10 k21 k22, World.cell? w5 (aM k4) = some (vS o10 k21 k22) ∧ R (vS o10 k21 k22) w5))
set_option maxRecDepth 100000 in
theorem run_relate_world_laid (a : Option Addr) (b : FuncId) (c : List Value) (w : World) (R : Value → WP) (h : vc_relate_world_laid a b c w R) : Run Tryz.prog 31 [(.pointer a), (.func (.func b) #[] ⟨c⟩)] w R := rv Tryz.func31 ann_relate_world_laid (by kernel_rfl) h

abbrev n_relate_Reads_S1 : FuncId := 32
def ann_relate_Reads_S1 : Ann := { rngs := [], loops := [(1, [(14, (.one (.int .i64)))]), (5, [(36, (.one (.int .i64)))])], joins := [], blocks := [] }
set_option maxRecDepth 100000 in
def vc_relate_Reads_S1 (a : FuncId) (b : List Value) (c d : Addr) (w : World) (R : Value → WP) : Prop :=  ∃ o1, World.cell? w c = some (vP o1) ∧ nn o1 fun a1 => ∃ o2 k1 k2, World.cell? w (Addr.add a1 8) = some (vS o2 k1 k2) ∧ ∃ (x1 : lP [(14, shI)]), ∃ (x2 : lN [(14, shI)]), x1 0 w ∧ ∀ (I1 : Nat → Value) (n1 : Int) (w1 : World), x1 n1 w1 → br (decide (n1 < (↑k1 : Int))) (idx o2 k1 n1 2 fun a2 => ∃ n2 n3, V.rowAt w1 a2 0 2 = some [iI n2, iI n3] ∧ new w1 (oC [iI 0, iI 0] 66) fun k3 w2 => stR w2 (aM k3) [iI n2, iI n3] fun w3 => ∀ w4, drawn w3 w4 → ∃ (I2 : World → Prop), I2 w4 ∧ ∃ o3, (∀ w5, I2 w5 → World.cell? w5 c = some (vP o3)) ∧ nn o3 fun a3 => ∃ o4, (∀ w6, I2 w6 → World.cell? w6 (Addr.add a3 10) = some (Value.map o4)) ∧ ∃ n4 n5, (∀ w7, I2 w7 → V.rowAt w7 (aM k3) 0 2 = some [iI n4, iI n5]) ∧ RunS Proofs.Tryz.prog (Instr.lookup 85 (Value.map o4) (vG [iI n4, iI n5]) false) w4 fun v1 w8 => ∃ n6, v1 = iI n6 ∧ I2 w8 ∧ inI (n6 - 1) ∧ ∃ o5, World.cell? w8 c = some (vP o5) ∧ nn o5 fun a4 => ∃ o6 k4 k5, World.cell? w8 (Addr.add a4 5) = some (vS o6 k4 k5) ∧ idx o6 k4 (n6 - 1) 2 fun a5 => ∃ o7 k6 k7, World.cell? w8 (Addr.add a5 1) = some (vS o7 k6 k7) ∧ ∃ (x3 : lP [(36, shI)]), ∃ (x4 : lN [(36, shI)]), x3 0 w8 ∧ ∀ (I3 : Nat → Value) (n7 : Int) (w9 : World), x3 n7 w9 → br (decide (n7 < (↑k6 : Int))) (idx o7 k6 n7 2 fun a6 => ∃ n8 n9, V.rowAt w9 a6 0 2 = some [iI n8, iI n9] ∧ new w9 (oC [iI 0, iI 0] 90) fun k8 w10 => stR w10 (aM k8) [iI n8, iI n9] fun w11 => ∀ w12, drawn w11 w12 → ∃ (I4 : World → Prop), I4 w12 ∧ ∃ n10, (∀ w13, I4 w13 → World.cell? w13 (aM k8) = some (iI n10)) ∧ ∃ o8 k9 k10, (∀ w14, I4 w14 → World.cell? w14 d = some (vS o8 k9 k10)) ∧ br (decide ((↑k9 : Int) ≤ n10)) (∃ o9, (∀ w15, I4 w15 → World.cell? w15 c = some (vP o9)) ∧ nn o9 fun a7 => ∃ o10 k11 k12, (∀ w16, I4 w16 → World.cell? w16 (Addr.add a7 11) = some (vS o10 k11 k12)) ∧ ∃ n11, (∀ w17, I4 w17 → World.cell? w17 (aM k8) = some (iI n11)) ∧ ∃ o11 k13 k14, (∀ w18, I4 w18 → World.cell? w18 d = some (vS o11 k13 k14)) ∧ inI (n11 - (↑k13 : Int)) ∧ idx o10 k11 (n11 - (↑k13 : Int)) 1 fun a8 => ∃ b1, (∀ w19, I4 w19 → World.cell? w19 a8 = some (vB b1)) ∧ br b1 (∀ w20, drawn w12 w20 → ∃ (I5 : World → Prop), I5 w20 ∧ ∃ o12, (∀ w21, I5 w21 → World.cell? w21 c = some (vP o12)) ∧ nn o12 fun a9 => ∃ o13, (∀ w22, I5 w22 → World.cell? w22 (Addr.add a9 9) = some (Value.map o13)) ∧ ∃ n12, (∀ w23, I5 w23 → World.cell? w23 (aM k8) = some (iI n12)) ∧ RunS Proofs.Tryz.prog (Instr.lookup 85 (Value.map o13) (vG [iI (n6 - 1), iI n12]) false) w20 fun v2 w24 => ∃ n13, v2 = iI n13 ∧ I5 w24 ∧ inI (n13 - 1) ∧ ifT (Proofs.YtkmjjnjngcpjmaaGreatDoor.Fn a) (RunE Proofs.Tryz.prog Ev a (iI n1 :: iI (n13 - 1) :: b) w24 fun v3 w25 => v3 = vT (Array.mk []) ∧ inI (n7 + 1) ∧ x3 (n7 + 1) w25 ∧ x4 (n7 + 1) w25 < x4 n7 w9)) (inI (n7 + 1) ∧ x3 (n7 + 1) w12 ∧ x4 (n7 + 1) w12 < x4 n7 w9)) (inI (n7 + 1) ∧ x3 (n7 + 1) w12 ∧ x4 (n7 + 1) w12 < x4 n7 w9)) (inI (n1 + 1) ∧ x1 (n1 + 1) w9 ∧ x2 (n1 + 1) w9 < x2 n1 w1)) (R (vT (Array.mk [])) w1)
set_option maxRecDepth 100000 in
theorem run_relate_Reads_S1 (a : FuncId) (b : List Value) (c d : Addr) (w : World) (R : Value → WP) (h : vc_relate_Reads_S1 a b c d w R) : Run Tryz.prog 32 [(.func (.func a) #[] ⟨b⟩), (.pointer (some c)), (.pointer (some d))] w R := rv Tryz.func32 ann_relate_Reads_S1 (by kernel_rfl) h

abbrev n_relate_Includes_S1 : FuncId := 33
def ann_relate_Includes_S1 : Ann := { rngs := [], loops := [(2, [(14, (.one (.int .i64)))]), (5, [(27, (.one (.int .i64)))])], joins := [], blocks := [] }
set_option maxRecDepth 100000 in
def vc_relate_Includes_S1 (a : FuncId) (b : List Value) (c d : Addr) (w : World) (R : Value → WP) : Prop :=  new w (oC [Value.func (Fn.func a) (Array.mk []) (Array.mk b)] 84) fun k1 w1 => ∃ o1, World.cell? w1 c = some (vP o1) ∧ nn o1 fun a1 => ∃ o2 k2 k3, World.cell? w1 (Addr.add a1 8) = some (vS o2 k2 k3) ∧ ∃ (x1 : lP [(14, shI)]), ∃ (x2 : lN [(14, shI)]), x1 0 w1 ∧ ∀ (I1 : Nat → Value) (n1 : Int) (w2 : World), x1 n1 w2 → br (decide (n1 < (↑k2 : Int))) (idx o2 k2 n1 2 fun a2 => ∃ n2 n3, V.rowAt w2 a2 0 2 = some [iI n2, iI n3] ∧ new w2 (oC [iI 0] 3) fun k4 w3 => new w3 (oC [iI 0, iI 0] 66) fun k5 w4 => st1 w4 (aM k4) (iI n1) fun w5 => stR w5 (aM k5) [iI n2, iI n3] fun w6 => ∀ w7, drawn w6 w7 → ∃ (I2 : World → Prop), I2 w7 ∧ ∃ o3, (∀ w8, I2 w8 → World.cell? w8 c = some (vP o3)) ∧ nn o3 fun a3 => ∃ o4, (∀ w9, I2 w9 → World.cell? w9 (Addr.add a3 12) = some (Value.map o4)) ∧ ∃ n4, (∀ w10, I2 w10 → World.cell? w10 (Addr.add (aM k5) 1) = some (iI n4)) ∧ RunS Proofs.Tryz.prog (Instr.lookup 86 (Value.map o4) (iI n4) false) w7 fun v1 w11 => ∃ o5 k6 k7, v1 = vS o5 k6 k7 ∧ I2 w11 ∧ ∃ (x3 : lP [(27, shI)]), ∃ (x4 : lN [(27, shI)]), x3 0 w11 ∧ ∀ (I3 : Nat → Value) (n5 : Int) (w12 : World), x3 n5 w12 → br (decide (n5 < (↑k6 : Int))) (idx o5 k6 n5 1 fun a4 => ∃ n6, World.cell? w12 a4 = some (iI n6) ∧ ∃ o6 k8 k9, World.cell? w12 (Addr.add d 4) = some (vS o6 k8 k9) ∧ idx o6 k8 n6 3 fun a5 => ∃ o7 k10 k11, World.cell? w12 (Addr.add a5 1) = some (vS o7 k10 k11) ∧ new w12 (oC [vS none 0 0] 24) fun k12 w13 => st1 w13 (aM k12) (vS o7 k10 k11) fun w14 => ∃ o8, World.cell? w14 c = some (vP o8) ∧ ∃ n7, World.cell? w14 (aM k5) = some (iI n7) ∧ ∃ o9 k13 k14, World.cell? w14 (aM k12) = some (vS o9 k13 k14) ∧ RunE Proofs.Tryz.prog Ev 34 [vP o8, iI n7, vS o9 k13 k14, Value.func (Fn.func 35) (Array.mk []) (Array.mk [vP (some c), vP (some (aM k12)), vP (some (aM k1)), vP (some (aM k4))])] w14 fun v2 w15 => ∃ n8, v2 = iI n8 ∧ inI (n5 + 1) ∧ x3 (n5 + 1) w15 ∧ x4 (n5 + 1) w15 < x4 n5 w12) (inI (n1 + 1) ∧ x1 (n1 + 1) w12 ∧ x2 (n1 + 1) w12 < x2 n1 w2)) (R (vT (Array.mk [])) w2)
set_option maxRecDepth 100000 in
theorem run_relate_Includes_S1 (a : FuncId) (b : List Value) (c d : Addr) (w : World) (R : Value → WP) (h : vc_relate_Includes_S1 a b c d w R) : Run Tryz.prog 33 [(.func (.func a) #[] ⟨b⟩), (.pointer (some c)), (.pointer (some d))] w R := rv Tryz.func33 ann_relate_Includes_S1 (by kernel_rfl) h

abbrev n_relate_world_along : FuncId := 34
def ann_relate_world_along : Ann := { rngs := [], loops := [(2, [(1, (.one (.int .i64))), (13, (.one (.int .i64)))])], joins := [], blocks := [] }
set_option maxRecDepth 100000 in
def vc_relate_world_along (a : Option Addr) (b : Int) (c : Option Addr) (d e : Nat) (f : FuncId) (g : List Value) (w : World) (R : Value → WP) : Prop :=  ∃ (x1 : lP [(1, shI), (13, shI)]), ∃ (x2 : lN [(1, shI), (13, shI)]), x1 b 0 w ∧ ∀ (I1 : Nat → Value) (n1 n2 : Int) (w1 : World), x1 n1 n2 w1 → br (decide (n2 < (↑d : Int))) (idx c d n2 1 fun a1 => ∃ n3, World.cell? w1 a1 = some (iI n3) ∧ ifT (Proofs.YtkmjjnjngcpjmaaGreatDoor.Fn f) (RunE Proofs.Tryz.prog Ev f (iI n1 :: iI n2 :: g) w1 fun v1 w2 => v1 = vT (Array.mk []) ∧ nn a fun a2 => ∃ o1, World.cell? w2 (Addr.add a2 10) = some (Value.map o1) ∧ RunS Proofs.Tryz.prog (Instr.lookup 85 (Value.map o1) (vG [iI n1, iI n3]) false) w2 fun v2 w3 => ∃ n4, v2 = iI n4 ∧ inI (n4 - 1) ∧ inI (n2 + 1) ∧ x1 (n4 - 1) (n2 + 1) w3 ∧ x2 (n4 - 1) (n2 + 1) w3 < x2 n1 n2 w1)) (R (iI n1) w1)
set_option maxRecDepth 100000 in
theorem run_relate_world_along (a : Option Addr) (b : Int) (c : Option Addr) (d e : Nat) (f : FuncId) (g : List Value) (w : World) (R : Value → WP) (h : vc_relate_world_along a b c d e f g w R) : Run Tryz.prog 34 [(.pointer a), (.int .i64 b), (.slice c d e), (.func (.func f) #[] ⟨g⟩)] w R := rv Tryz.func34 ann_relate_world_along (by kernel_rfl) h

abbrev n_relate_Includes_S1_S1 : FuncId := 35
def ann_relate_Includes_S1_S1 : Ann := { rngs := [], loops := [], joins := [], blocks := [] }
set_option maxRecDepth 100000 in
def vc_relate_Includes_S1_S1 (a b : Int) (c d e f : Addr) (w : World) (R : Value → WP) : Prop :=  ∀ w1, drawn w w1 → ∃ (I1 : World → Prop), I1 w1 ∧ ∃ o1, (∀ w2, I1 w2 → World.cell? w2 c = some (vP o1)) ∧ nn o1 fun a1 => ∃ o2, (∀ w3, I1 w3 → World.cell? w3 (Addr.add a1 9) = some (Value.map o2)) ∧ ∃ o3 k1 k2, (∀ w4, I1 w4 → World.cell? w4 d = some (vS o3 k1 k2)) ∧ idx o3 k1 b 1 fun a2 => ∃ n1, (∀ w5, I1 w5 → World.cell? w5 a2 = some (iI n1)) ∧ RunS Proofs.Tryz.prog (Instr.lookup 85 (Value.map o2) (vG [iI a, iI n1]) false) w1 fun v1 w6 => ∃ n2, v1 = iI n2 ∧ I1 w6 ∧ ∀ w7, drawn w6 w7 → ∃ (I2 : World → Prop), I2 w7 ∧ br (decide (0 < n2)) (∃ o4, (∀ w8, I2 w8 → World.cell? w8 c = some (vP o4)) ∧ ∃ o5 k3 k4, (∀ w9, I2 w9 → World.cell? w9 d = some (vS o5 k3 k4)) ∧ inI (b + 1) ∧ slc o5 k3 k4 (some (b + 1)) none none 1 fun (o6 : Option Addr) (k5 k6 : Nat) => RunE Proofs.Tryz.prog Ev 36 [vP o4, vS o6 k5 k6] w7 fun v2 w10 => ∃ b1, v2 = vB b1 ∧ I2 w10 ∧ br b1 (∃ g1 x1, World.cell? w10 e = some (Value.func (Fn.func g1) (Array.mk []) (Array.mk x1)) ∧ inI (n2 - 1) ∧ ∃ n3, World.cell? w10 f = some (iI n3) ∧ ifT (Proofs.YtkmjjnjngcpjmaaGreatDoor.Fn g1) (RunE Proofs.Tryz.prog Ev g1 (iI (n2 - 1) :: iI n3 :: x1) w10 fun v3 w11 => v3 = vT (Array.mk []) ∧ R (vT (Array.mk [])) w11)) (R (vT (Array.mk [])) w10)) (R (vT (Array.mk [])) w7)
set_option maxRecDepth 100000 in
theorem run_relate_Includes_S1_S1 (a b : Int) (c d e f : Addr) (w : World) (R : Value → WP) (h : vc_relate_Includes_S1_S1 a b c d e f w R) : Run Tryz.prog 35 [(.int .i64 a), (.int .i64 b), (.pointer (some c)), (.pointer (some d)), (.pointer (some e)), (.pointer (some f))] w R := rv Tryz.func35 ann_relate_Includes_S1_S1 (by kernel_rfl) h

abbrev n_relate_world_vanishes : FuncId := 36
def ann_relate_world_vanishes : Ann := { rngs := [], loops := [], joins := [], blocks := [] }
set_option maxRecDepth 100000 in
def vc_relate_world_vanishes (a b : Option Addr) (c d : Nat) (w : World) (R : Value → WP) : Prop :=  new w (oC [vP a] 80) fun k1 w1 => RunE Proofs.Tryz.prog Ev 56 [vS b c d, Value.func (Fn.func 68) (Array.mk []) (Array.mk [vP (some (aM k1))])] w1 fun v1 w2 => ∃ b1, v1 = vB b1 ∧ R (vB !b1) w2
set_option maxRecDepth 100000 in
theorem run_relate_world_vanishes (a b : Option Addr) (c d : Nat) (w : World) (R : Value → WP) (h : vc_relate_world_vanishes a b c d w R) : Run Tryz.prog 36 [(.pointer a), (.slice b c d)] w R := rv Tryz.func36 ann_relate_world_vanishes (by kernel_rfl) h

def ann_relate_Lookback_S1 : Ann := { rngs := [], loops := [], joins := [], blocks := [] }
set_option maxRecDepth 100000 in
def vc_relate_Lookback_S1 (a b : Int) (w : World) (R : Value → WP) : Prop :=  R (vT (Array.mk [])) w
set_option maxRecDepth 100000 in
theorem run_relate_Lookback_S1 (a b : Int) (w : World) (R : Value → WP) (h : vc_relate_Lookback_S1 a b w R) : Run Tryz.prog 37 [(.int .i64 a), (.int .i64 b)] w R := rv Tryz.func37 ann_relate_Lookback_S1 (by kernel_rfl) h

abbrev n_relate_world_laid_S1 : FuncId := 66
def ann_relate_world_laid_S1 : Ann := { rngs := [], loops := [], joins := [], blocks := [] }
set_option maxRecDepth 100000 in
def vc_relate_world_laid_S1 (a b : Int) (c : Addr) (w : World) (R : Value → WP) : Prop :=  ∀ w1, drawn w w1 → ∃ (I1 : World → Prop), I1 w1 ∧ ∃ o1 k1 k2, (∀ w2, I1 w2 → World.cell? w2 c = some (vS o1 k1 k2)) ∧ ∃ o2 k3 k4, (∀ w3, I1 w3 → World.cell? w3 c = some (vS o2 k3 k4)) ∧ idx o2 k3 a 1 fun a1 => ∃ o3 k5 k6, (∀ w4, I1 w4 → World.cell? w4 a1 = some (vS o3 k5 k6)) ∧ new w1 (oC [iI b] 3) fun k7 w5 => I1 w5 ∧ RunS Proofs.Tryz.prog (apB 24 (Array.mk [vS o3 k5 k6, vS (some (aM k7)) 1 1])) w5 fun v1 w6 => ∃ o4 k8 k9, v1 = vS o4 k8 k9 ∧ I1 w6 ∧ idx o1 k1 a 1 fun a2 => st1 w6 a2 (vS o4 k8 k9) fun w7 => R (vT (Array.mk [])) w7
set_option maxRecDepth 100000 in
theorem run_relate_world_laid_S1 (a b : Int) (c : Addr) (w : World) (R : Value → WP) (h : vc_relate_world_laid_S1 a b c w R) : Run Tryz.prog 66 [(.int .i64 a), (.int .i64 b), (.pointer (some c))] w R := rv Tryz.func66 ann_relate_world_laid_S1 (by kernel_rfl) h

abbrev n_relate_world_vanishes_S1 : FuncId := 68
def ann_relate_world_vanishes_S1 : Ann := { rngs := [], loops := [], joins := [], blocks := [] }
set_option maxRecDepth 100000 in
def vc_relate_world_vanishes_S1 (a : Int) (b : Addr) (w : World) (R : Value → WP) : Prop :=  ∀ w1, drawn w w1 → ∃ (I1 : World → Prop), I1 w1 ∧ ∃ o1, (∀ w2, I1 w2 → World.cell? w2 b = some (vP o1)) ∧ nn o1 fun a1 => ∃ o2 k1 k2, (∀ w3, I1 w3 → World.cell? w3 a1 = some (vS o2 k1 k2)) ∧ br (decide (a < (↑k1 : Int))) (R (vB true) w1) (∃ o3, (∀ w4, I1 w4 → World.cell? w4 b = some (vP o3)) ∧ nn o3 fun a2 => ∃ o4 k3 k4, (∀ w5, I1 w5 → World.cell? w5 (Addr.add a2 11) = some (vS o4 k3 k4)) ∧ ∃ o5, (∀ w6, I1 w6 → World.cell? w6 b = some (vP o5)) ∧ nn o5 fun a3 => ∃ o6 k5 k6, (∀ w7, I1 w7 → World.cell? w7 a3 = some (vS o6 k5 k6)) ∧ inI (a - (↑k5 : Int)) ∧ idx o4 k3 (a - (↑k5 : Int)) 1 fun a4 => ∃ b1, (∀ w8, I1 w8 → World.cell? w8 a4 = some (vB b1)) ∧ R (vB !b1) w1)
set_option maxRecDepth 100000 in
theorem run_relate_world_vanishes_S1 (a : Int) (b : Addr) (w : World) (R : Value → WP) (h : vc_relate_world_vanishes_S1 a b w R) : Run Tryz.prog 68 [(.int .i64 a), (.pointer (some b))] w R := rv Tryz.func68 ann_relate_world_vanishes_S1 (by kernel_rfl) h

end Go.Proofs.YtkmjjnjngcpjmaaGreatDoor
set_option linter.unusedVariables false
set_option maxRecDepth 4000
namespace Go.V
theorem dd_snoc : ∀ (l : List Int) (a b : Int), dd (l ++ [a, b]) = if a = b then dd (l ++ [a]) else dd (l ++ [a]) ++ [b]
  | [], a, b => by
    by_cases h : a = b
    · subst h; simp [dd]
    · simp [dd, h]
  | [x], a, b => by
    have := dd_snoc [] a b
    simp only [List.nil_append] at this
    by_cases h : a = b
    · subst h; simp [dd]
    · by_cases h2 : x = a
      · subst h2; simp [dd, h]
      · simp [dd, h, h2]
  | x :: y :: l, a, b => by
    have ih := dd_snoc (y :: l) a b
    have e1 : dd (x :: y :: l ++ [a, b]) = if x = y then dd (y :: l ++ [a, b]) else x :: dd (y :: l ++ [a, b]) := rfl
    have e2 : dd (x :: y :: l ++ [a]) = if x = y then dd (y :: l ++ [a]) else x :: dd (y :: l ++ [a]) := rfl
    rw [e1, e2, ih]
    by_cases h : a = b <;> by_cases h2 : x = y <;> simp [h, h2]
theorem dd_take {xs : List Int} {m : Nat} {a b : Int} (ha : xs[m]? = some a) (hb : xs[m + 1]? = some b) : dd (xs.take (m + 2)) = if a = b then dd (xs.take (m + 1)) else dd (xs.take (m + 1)) ++ [b] := by
  have e1 : xs.take (m + 1) = xs.take m ++ [a] := by rw [List.take_add_one, ha]; rfl
  have e2 : xs.take (m + 2) = xs.take m ++ [a, b] := by rw [List.take_add_one, hb, e1]; simp
  rw [e2, e1, dd_snoc]
theorem dd_one {xs : List Int} {n : Nat} (h : n ≤ 1) : dd (xs.take n) = xs.take n := by
  match n, h with
  | 0, _ => simp [dd]
  | 1, _ => cases xs <;> simp [dd]
end Go.V
namespace Go.Proofs.YtkmjjnjngcpjmaaGreatDoor
open Go.V Go.Sort Go.Shelf
variable {w : World} {L : List Asn} {a : Option Addr} {l c : Nat} {xs : List Int}
theorem y_compactI (h : St w (own 1 a l c (iv xs) :: L)) (hb : l < 4611686018427387904) :
    Run Tryz.prog n_slices_Compact_int_int_ [.slice a l c] w fun v w' => ∃ a' c', v = .slice a' (dd xs).length c' ∧ St w' (own 1 a' (dd xs).length c' (iv (dd xs)) :: L) := by
  have hln := own_len h
  rw [iv_len] at hln
  have hlc := own_le h
  have hl : xs.length = l := by omega
  refine run_slices_Compact_int_int_ _ _ _ w _ (br_intro (fun h1 => ?_) fun h1 => ?_)
  · have h1 : l < 2 := by have := of_decide_eq_true h1; omega
    have e : dd xs = xs := by have := dd_one (xs := xs) (n := l) (by omega); rwa [List.take_of_length_le (by omega)] at this
    rw [e, hl]; exact ⟨a, c, rfl, h⟩
  have h1 : 2 ≤ l := by have := of_decide_eq_false h1; omega
  refine ⟨fun z w' => ∃ n : Nat, z = ((n + 1 : Nat) : Int) ∧ n + 1 ≤ l ∧ dd (xs.take (n + 1)) = xs.take (n + 1) ∧ St w' (own 1 a l c (iv xs) :: L), fun z _ => l - z.toNat, ⟨0, rfl, by omega, dd_one (Nat.le_refl _), h⟩, ?_⟩
  clear h
  rintro _ z w1 ⟨n, rfl, hn, hS, h⟩
  refine br_intro (fun h2 => ?_) fun h2 => ?_
  rotate_left
  · have h2 : l = n + 1 := by have := of_decide_eq_false h2; omega
    have e : dd xs = xs := by rwa [List.take_of_length_le (by omega)] at hS
    rw [e, hl]; exact ⟨a, c, rfl, h⟩
  have h2 : n + 1 < l := by have := of_decide_eq_true h2; omega
  intro w2 hd
  have h := h.eq (drawn_hp hd)
  have hr : rdS (hp w2) xs a l := rdI_of hl (rdOv 0 h.l)
  obtain ⟨x, ad, hx, rfl, cx⟩ := hr.get1 h2
  obtain ⟨z, ad2, hz, e2, cz⟩ := hr.get1 (by omega : n < l)
  cases e2
  have e1 : ((n + 1 : Nat) : Int) - 1 = (n : Int) := by omega
  rw [e1]
  refine ⟨fun u => Gr w2 u, Gr.refl _, idx_i rfl h2 ⟨x, fun u s => cx u s, ⟨by omega, by omega⟩, idx_i rfl (by omega) ⟨z, fun u s => cz u s, br_intro (fun h3 => ?_) fun h3 => ?_⟩⟩⟩
  rotate_left
  · have h3 : x ≠ z := by simpa using h3
    refine ⟨⟨by omega, by omega⟩, ⟨n + 1, by simp, h2, ?_, h⟩, msr h2⟩
    rw [dd_take hz hx, if_neg (Ne.symm h3), hS, List.take_add_one (i := n + 1), hx]; rfl
  have h3 : x = z := by simpa using h3
  subst h3
  refine slc_from (by omega) hlc ?_
  refine ⟨fun z y w' => ∃ (k t : Nat) (us : List Int), z = (k : Int) ∧ y = ((t + 1 : Nat) : Int) ∧ n + 1 ≤ k ∧ k ≤ n + 1 + t ∧ n + 1 + t + 1 ≤ l ∧ us.length = l ∧ us.drop k = xs.drop k ∧ us.take k = dd (xs.take (n + 1 + t + 1)) ∧ St w' (own 1 (some ad) l c (iv us) :: L), fun _ y _ => l - y.toNat,
    ⟨n + 1, 0, xs, rfl, rfl, Nat.le_refl _, Nat.le_refl _, by omega, hl, rfl, ?_, h⟩, ?_⟩
  · rw [show n + 1 + 0 + 1 = n + 2 by omega, dd_take hz hx, if_pos rfl, hS]
  clear h hr cx cz
  rintro _ _ _ w3 ⟨k, t, us, rfl, rfl, hk1, hk2, ht, hul, hud, hut, h⟩
  have hul2 : (iv us).length = l := by rw [iv_len, hul]
  refine br_intro (fun h3 => ?_) fun h3 => ?_
  rotate_left
  · have h3 : l = n + 1 + t + 1 := by have := of_decide_eq_false h3; omega
    rw [← h3, List.take_of_length_le (show xs.length ≤ l by omega)] at hut
    have hkl : (dd xs).length = k := by rw [← hut, List.length_take]; omega
    have hc := clear_own (ty := 0) (c2 := c - k) tyOk (rfl : kdOfT Ty ty_s_int = .slice _) (rfl : Ty ty_int = some _) rfl rfl (fun v hv => by rcases List.mem_cons.1 hv with rfl | hv; rfl; cases hv) (by show 0 < 1; decide) h (show k ≤ l by omega)
    refine slc_from (by omega) hlc (hc.mono ?_)
    rintro _ w4 ⟨vs, hv, h⟩
    refine slc_hiN (by omega) ?_
    have h := own_cut h (k := k) (by omega)
    have e : vs.take (k * 1) = iv (dd xs) := hv.trans (by rw [← hut]; show (iv us).take (k * 1) = _; rw [Nat.mul_one]; unfold iv; rw [List.map_take])
    rw [hkl]
    exact ⟨_, _, rfl, by rw [← e]; exact h⟩
  have h3 : t + 1 < l - (n + 1) := by have := of_decide_eq_true h3; omega
  intro w4 hd
  have h := h.eq (drawn_hp hd)
  have hr := (rdI_of hul (rdOv 0 h.l) : rdS (hp w4) us (some ad) l).drop (k := n + 1) (m := c) (by omega) hlc
  have same : ∀ j, k ≤ j → us[j]? = xs[j]? := fun j hj => by
    have := congrArg (fun l => l[j - k]?) hud
    simp only [List.getElem?_drop] at this
    rwa [show k + (j - k) = j by omega] at this
  obtain ⟨x2, ad3, hx2, e3, cx⟩ := hr.get1 h3
  obtain ⟨z2, ad4, hz2, e4, cz⟩ := hr.get1 (by omega : t < l - (n + 1))
  rw [e3] at e4
  cases e4
  rw [List.getElem?_drop, same _ (by omega)] at hx2 hz2
  have e1 : ((t + 1 : Nat) : Int) - 1 = (t : Int) := by omega
  have hx3 : xs[n + 1 + t + 1]? = some x2 := by rw [← hx2]; congr 1
  have hz3 : xs[n + 1 + t]? = some z2 := by rw [← hz2]
  rw [e1]
  refine ⟨fun u => Gr w4 u, Gr.refl _, idx_i e3 h3 ⟨x2, fun u s => cx u s, ⟨by omega, by omega⟩, idx_i e3 (by omega) ⟨z2, fun u s => cz u s, br_intro (fun h4 => ?_) fun h4 => ?_⟩⟩⟩
  rotate_left
  · have h4 : x2 = z2 := by simpa using h4
    subst h4
    refine ⟨⟨by omega, by omega⟩, ⟨k, t + 1, us, rfl, by simp, hk1, by omega, by omega, hul, hud, ?_, h⟩, msr (by omega)⟩
    rw [hut, show n + 1 + (t + 1) + 1 = n + 1 + t + 2 by omega, dd_take hz3 hx3, if_pos rfl]
  have h4 : x2 ≠ z2 := by simpa using h4
  refine idx_i e3 h3 ⟨x2, cx _ (Gr.refl _), idx_i rfl (by omega) ?_⟩
  refine own_st1 h rfl (by rw [hul2]; omega) fun w5 h => ?_
  rw [iv_setL] at h
  refine ⟨⟨by omega, by omega⟩, ⟨by omega, by omega⟩, ⟨k + 1, t + 1, us.set k x2, by simp, by simp, by omega, by omega, by omega, by rw [List.length_set, hul], ?_, ?_, h⟩, msr (by omega)⟩
  · rw [List.drop_set_of_lt (by omega), ← List.drop_drop (i := 1), hud, List.drop_drop]
  · have hku : k < us.length := by omega
    rw [show n + 1 + (t + 1) + 1 = n + 1 + t + 2 by omega, dd_take hz3 hx3, if_neg (Ne.symm h4), ← hut, List.take_add_one, List.getElem?_set_self hku, List.take_set_of_le (Nat.le_refl _)]
    rfl
end Go.Proofs.YtkmjjnjngcpjmaaGreatDoor
set_option linter.unusedVariables false
set_option maxRecDepth 4000
set_option linter.unusedSectionVars false
namespace Go.V
open MapKept
section
variable {κ : Type} [DecidableEq κ] [MVal κ] {P : Program} {w : World} {L : List Asn} {Ty : TypeId → Option TyI}
theorem aput_aput (k : κ) (u v : Value) : ∀ m : List (κ × Value), aput k v (aput k u m) = aput k v m
  | [] => by simp [aput]
  | (a, x) :: m => by
    unfold aput
    by_cases h : k = a
    · subst h; simp [aput]
    · have e : aput k u ((a, x) :: m) = (a, x) :: aput k u m := by show (if k = a then _ else _) = _; rw [if_neg h]
      rw [e, if_neg h]
      show (if k = a then _ else (a, x) :: aput k v (aput k u m)) = _
      rw [if_neg h, aput_aput k u v m]
theorem at_of {k : κ} {u : Value} : ∀ {m : List (κ × Value)} {j : Nat}, assoc k m = some u → (m[j]?).map (·.1) = some k → (∀ v, aput k v m = m.set j (k, v)) → m[j]? = some (k, u)
  | [], j, h, _, _ => by cases h
  | (a, x) :: m, 0, h, hk, hp => by
    simp at hk; subst hk
    simp [assoc] at h; subst h
    rfl
  | (a, x) :: m, j + 1, h, hk, hp => by
    by_cases e : k = a
    · subst e
      have h1 := hp (.bool true)
      have h2 := hp (.bool false)
      simp [aput] at h1 h2
      have h3 := h1.1.trans h2.1.symm
      cases h3
    · have e1 : assoc k ((a, x) :: m) = assoc k m := by show (if k = a then _ else _) = _; rw [if_neg e]
      rw [e1] at h
      rw [List.getElem?_cons_succ] at hk ⊢
      refine at_of h hk fun v => ?_
      have h1 := hp v
      simpa [aput, e] using h1
def mapE (b : Nat) (m : List (κ × Value)) (k : κ) (n : Int) : Asn := fun h => ∃ es clock i, h b = some (.map es clock) ∧ MapOk es clock m ∧ i < m.length ∧ (∀ u, aput k u m = m.set i (k, u)) ∧ (m[i]?).map (·.1) = some k ∧ (es[i]?).map (fun e => (e.born : Int)) = some n
theorem mapE_ex {b : Nat} {m : List (κ × Value)} {k : κ} {n : Int} : St w (mapE b m k n :: L) ↔ ∃ es clock i, MapOk es clock m ∧ i < m.length ∧ (∀ u, aput k u m = m.set i (k, u)) ∧ (m[i]?).map (·.1) = some k ∧ (es[i]?).map (fun e => (e.born : Int)) = some n ∧ St w (blk b (.map es clock) :: L) :=
  ⟨fun ⟨h1, h2, d, s1, s2, ⟨es, cl, i, ha, q1, q2, q3, q4, q5⟩, hl⟩ => ⟨es, cl, i, q1, q2, q3, q4, q5, h1, h2, d, s1, s2, ha, hl⟩, fun ⟨es, cl, i, q1, q2, q3, q4, q5, h1, h2, d, s1, s2, ha, hl⟩ => ⟨h1, h2, d, s1, s2, ⟨es, cl, i, ha, q1, q2, q3, q4, q5⟩, hl⟩⟩
theorem ev_map {b : Nat} {es : Array MapEntry} {cl : Nat} (hg : w.heap[b]? = some (.map es cl)) (o : Array MapEntry × Nat) : Ev w { w with heap := w.heap.setIfInBounds b (.map o.1 o.2) } := by
  refine ⟨rfl, rfl, rfl, by simp, ?_, ?_⟩ <;>
  · intro x d hx
    rw [Array.getElem?_setIfInBounds_ne]; exact hx
    intro e; subst e; rw [hg] at hx; cases hx
theorem map_take (hT : TyOk P Ty) {t kt et : TypeId} {i : TyI} {z : Value} (hk : kdOfT Ty t = .map kt et) (hkt : KeyP P kt κ) (hi : Ty et = some i) (hz : i.zero = some z) {b : Nat} {m : List (κ × Value)} (h : St w (mapA b m :: L)) (k : κ) :
    RunS P (Instr.mapEntry t (.map (some b)) (MVal.val k)) w fun v w' => ∃ n : Int, v = .tuple #[(assoc k m).getD z, .int .i64 n] ∧ St w' (mapE b (aput k ((assoc k m).getD z) m) k n :: L) := by
  obtain ⟨d, hd, hd'⟩ := undOf hT hk (by simp)
  rw [kd_map' hd'] at hd
  obtain ⟨es, cl, ⟨he, hnd, hlt⟩, h⟩ := mapA_ex.1 h
  obtain ⟨r, hf, q2, q3, q4⟩ := hkt.find w k es.toList m he
  obtain ⟨info, d2, ha⟩ := tyAt hT hi
  have hzz : (zeroValue et).run P w = .ok z w := run_zero ha.inf (by rw [← ha.zero, hz])
  have hg := h.get
  have hc := fun e => hkt.check w e k
  have hlen : es.size = m.length := by have := congrArg List.length he; simpa using this
  cases r with
  | none =>
    have e0 : assoc k m = none := by rw [← q2]; rfl
    rw [e0]
    refine ⟨_, _, ?_, ev_map hg (es.push { key := MVal.val k, val := z, born := cl }, cl + 1), cl, rfl, mapE_ex.2 ⟨_, _, m.length, ?_, ?_, ?_, ?_, ?_, h.setObj _⟩⟩
    · unfold Instr.mapEntry
      simp only [Sem.run_bind, run_und hd, Result.andThen_ok, run_getObj_map w b es cl hg, hc, hf, hzz]
      rw [run_setObj_map _ hg]
      rfl
    · refine ⟨by rw [q4 rfl]; simp [he], ?_, ?_⟩
      · rw [Array.toList_push, List.map_append, List.nodup_append]
        refine ⟨hnd, by simp, fun a ha b hb e => ?_⟩
        obtain ⟨x, hx, rfl⟩ := List.mem_map.1 ha
        have := hlt x hx
        simp at hb; omega
      · intro e he'
        rw [Array.toList_push, List.mem_append, List.mem_singleton] at he'
        rcases he' with he' | rfl
        · have := hlt e he'; omega
        · exact Nat.lt_succ_self _
    · show _ < (aput k z m).length
      rw [q4 rfl]; simp
    · intro u
      show aput k u (aput k z m) = (aput k z m).set _ _
      rw [aput_aput, q4 rfl u, q4 rfl z]
      simp
    · show ((aput k z m)[m.length]?).map _ = _
      rw [q4 rfl]; simp
    · rw [← hlen]; simp
  | some x =>
    obtain ⟨j, u⟩ := x
    obtain ⟨p2, p3, p4⟩ := q3 j u rfl
    have hj : j < es.size := by omega
    have e0 : assoc k m = some u := by rw [← q2]; rfl
    have hmj : m[j]? = some (k, u) := at_of e0 p3 p4
    have hput : aput k u m = m := by
      rw [p4 u]
      exact set_same hmj
    have hkey : (es[j]?).map (fun e => (e.key, e.val)) = some (MVal.val k, u) := by
      have h1 := congrArg (fun l => l[j]?) he
      simp only [List.getElem?_map, hmj, Option.map_some] at h1
      rw [← h1]; simp
    obtain ⟨e, hej, hek⟩ := Option.map_eq_some_iff.1 hkey
    have hek1 : e.key = MVal.val k := congrArg Prod.fst hek
    have hk1 : ((es[j]?).map (·.key)).getD (MVal.val k) = MVal.val k := by rw [hej]; exact hek1
    have hmod : (es.modify j fun e => { e with key := MVal.val k }) = es := by
      apply Array.ext_getElem?
      intro i
      rw [Array.getElem?_modify]
      split
      · rename_i hji; subst hji
        rw [hej, ← hek1]; rfl
      · rfl
    rw [e0]
    refine ⟨_, _, ?_, ev_map hg (es, cl), (e.born : Int), rfl, mapE_ex.2 ⟨_, _, j, ?_, ?_, ?_, ?_, ?_, h.setObj _⟩⟩
    · unfold Instr.mapEntry
      simp only [Sem.run_bind, run_und hd, Result.andThen_ok, run_getObj_map w b es cl hg, hc, hf, hk1, Instr.keyThatStays, hkt.bits, if_true, Sem.run_pure, hmod]
      rw [run_setObj_map _ hg]
      simp [hej, goInt]
    · show MapOk _ _ (aput k u m)
      rw [hput]; exact ⟨he, hnd, hlt⟩
    · show _ < (aput k u m).length
      rw [hput]; exact p2
    · intro v
      show aput k v (aput k u m) = (aput k u m).set _ _
      rw [hput, p4 v]
    · show ((aput k u m)[j]?).map _ = _
      rw [hput, hmj]; rfl
    · rw [hej]; rfl
theorem map_back {t : TypeId} {b : Nat} {m : List (κ × Value)} {k : κ} {n : Int} (h : St w (mapE b m k n :: L)) (x : Value) :
    RunS P (Instr.entryStore t (.map (some b)) (.int .i64 n) x) w fun _ w' => St w' (mapA b (aput k x m) :: L) := by
  obtain ⟨es, cl, i, ⟨he, hnd, hlt⟩, hi, hput, hm, hb, h⟩ := mapE_ex.1 h
  have hg := h.get
  have hlen : es.size = m.length := by have := congrArg List.length he; simpa using this
  obtain ⟨e, hei, heb⟩ := Option.map_eq_some_iff.1 hb
  have hidx : es.findIdx? (fun e => (e.born : Int) == n) = some i := by
    rw [Array.findIdx?_eq_some_iff_getElem]
    refine ⟨by omega, ?_, fun j hj => ?_⟩
    · have := (Array.getElem?_eq_some_iff.1 hei).2
      rw [this, heb]; simp
    · intro hne
      have hne : (es[j].born : Int) = n := by simpa using hne
      have h1 : (es.toList.map (·.born))[j]? = some es[j].born := by simp [show j < es.size by omega]
      have h2 : (es.toList.map (·.born))[i]? = some e.born := by rw [List.getElem?_map, Array.getElem?_toList, hei]; rfl
      have e3 : es[j].born = e.born := by omega
      rw [e3] at h1
      have := hnd
      have h4 := (List.getElem?_inj (i := j) (j := i) (by simp; omega) hnd).1 (by rw [h1, h2])
      omega
  refine ⟨(), _, ?_, ev_map hg (es.modify i fun e => { e with val := x }, cl), mapA_ex.2 ⟨_, _, ?_, h.setObj _⟩⟩
  · unfold Instr.entryStore
    simp only [Sem.run_bind, run_getObj_map w b es cl hg, Result.andThen_ok]
    show ((asInt (.int .i64 n)).run P w).andThen _ = _
    have ha : (asInt (.int .i64 n)).run P w = .ok n w := rfl
    rw [ha, Result.andThen_ok]
    simp only [hidx]
    exact run_setObj_map _ hg
  · refine ⟨?_, ?_, ?_⟩
    rotate_left
    · have : (es.modify i fun e => { e with val := x }).toList.map (·.born) = es.toList.map (·.born) := by
        apply List.ext_getElem?
        intro i
        simp only [List.getElem?_map, Array.getElem?_toList, Array.getElem?_modify]
        split
        · cases es[i]? <;> rfl
        · rfl
      rw [this]; exact hnd
    · intro e he'
      obtain ⟨i, hi⟩ := List.getElem?_of_mem he'
      rw [Array.getElem?_toList, Array.getElem?_modify] at hi
      split at hi
      · cases hx : es[i]? with
        | none => rw [hx] at hi; cases hi
        | some x => rw [hx] at hi; cases hi; exact hlt x (by rw [← Array.getElem?_toList] at hx; exact List.mem_of_getElem? hx)
      · rw [← Array.getElem?_toList] at hi; exact hlt e (List.mem_of_getElem? hi)
    rw [hput x]
    apply List.ext_getElem?
    intro j
    have h1 := congrArg (fun l => l[j]?) he
    simp only [List.getElem?_map, Array.getElem?_toList] at h1
    simp only [List.getElem?_map, Array.getElem?_toList, Array.getElem?_modify, List.getElem?_set]
    by_cases hij : i = j
    · subst hij
      rw [hei] at h1 ⊢
      cases hmi : m[i]? with
      | none => rw [hmi] at hm; cases hm
      | some y =>
        rw [hmi] at h1 hm
        simp only [Option.map_some, Option.some.injEq, Prod.mk.injEq] at h1 hm
        simp [hi, h1.1, hm]
    · simp [hij, h1]
end
end Go.V
set_option linter.unusedVariables false
set_option maxRecDepth 4000
namespace Go.V
def SsP (g : GramT) (bss : List (List Bool)) : Prop := bss.length = g.N ∧ ∀ (i : Nat) bs, bss[i]? = some bs → bs.length = g.T ∧ ∀ t, fnB bs t = true ↔ Fst g ((g.T + i : Nat) : Int) t
theorem SsP.inj {g : GramT} {bs cs : List (List Bool)} (h : SsP g bs) (k : SsP g cs) : bs = cs := by
  apply List.ext_getElem?
  intro i
  cases h1 : bs[i]? with
  | none =>
    have := List.getElem?_eq_none_iff.1 h1
    exact (List.getElem?_eq_none (by rw [k.1, ← h.1]; exact this)).symm
  | some b =>
    have hl := (List.getElem?_eq_some_iff.1 h1).1
    obtain ⟨c, h2⟩ : ∃ c, cs[i]? = some c := ⟨cs[i]'(by rw [k.1, ← h.1]; exact hl), List.getElem?_eq_getElem _⟩
    rw [h2]
    obtain ⟨a1, a2⟩ := h.2 i b h1
    obtain ⟨b1, b2⟩ := k.2 i c h2
    exact congrArg some (fnB_inj (a1.trans b1.symm) fun t => by rw [Bool.eq_iff_iff, a2, b2])
end Go.V
namespace Go.Proofs.YtkmjjnjngcpjmaaGreatDoor
open Go.V
section
variable {w : World} {L : List Asn} {g : GramT} {x : GA}
end
end Go.Proofs.YtkmjjnjngcpjmaaGreatDoor
set_option linter.unusedVariables false
set_option maxRecDepth 4000
namespace Go.V
end Go.V
namespace Go.Proofs.YtkmjjnjngcpjmaaGreatDoor
open Go.V
section
variable {w : World} {L : List Asn} {a a2 : Option Addr} {l l2 c c2 : Nat} {xs ys : List Int}
end
end Go.Proofs.YtkmjjnjngcpjmaaGreatDoor
set_option linter.unusedVariables false
set_option maxRecDepth 4000
namespace Go.V
theorem rowH.part {h : Hp} {b : Nat} {vs : List Value} (r : rowH h ⟨b, 0, none⟩ vs) (i n : Nat) : rowH h ((⟨b, 0, none⟩ : Addr).add (mulS i n)) ((vs.drop (i * n)).take n) := fun j v hj => by
  rw [List.getElem?_take] at hj
  split at hj
  · rw [List.getElem?_drop] at hj
    rw [add_add, mulS_eq]
    exact r _ v hj
  · cases hj
end Go.V
set_option linter.unusedVariables false
set_option maxRecDepth 4000
namespace Go.V
end Go.V
namespace Go.Proofs.YtkmjjnjngcpjmaaGreatDoor
open Go.V
section
variable {w : World} {L : List Asn}
end
end Go.Proofs.YtkmjjnjngcpjmaaGreatDoor
set_option linter.unusedVariables false
set_option maxRecDepth 4000
namespace Go.V
end Go.V
namespace Go.Proofs.YtkmjjnjngcpjmaaGreatDoor
open Go.V
section
variable {w : World} {L : List Asn}
end
end Go.Proofs.YtkmjjnjngcpjmaaGreatDoor
set_option linter.unusedVariables false
set_option maxRecDepth 4000
namespace Go.V
end Go.V

set_option linter.unusedVariables false
set_option maxRecDepth 4000
namespace Go.Proofs.YtkmjjnjngcpjmaaGreatDoor
open Go.V
section
variable {w : World} {L : List Asn} {g : GramT} {x : GA} {a a2 : Option Addr} {l l2 c c2 : Nat} {xs ys : List Int}
end
end Go.Proofs.YtkmjjnjngcpjmaaGreatDoor
set_option linter.unusedVariables false
set_option maxRecDepth 4000
namespace Go.V
end Go.V
namespace Go.Proofs.YtkmjjnjngcpjmaaGreatDoor
open Go.V
section
variable {w : World} {L : List Asn} {g : GramT} {x : GA}
end
end Go.Proofs.YtkmjjnjngcpjmaaGreatDoor
set_option linter.unusedVariables false
set_option maxRecDepth 4000
namespace Go.V
def Hop (g : GramT) (s y : Int) : Prop := ∃ p ∈ g.prods, p.left = s ∧ ∃ n : Nat, p.right[n]? = some y ∧ ∀ x ∈ p.right.take n, Nul g x
theorem Fst.hop {g : GramT} {s0 : Int} {ms : List Bool} (h0 : (g.T : Int) ≤ s0) (iG : InG g) (hc : ∀ s y, (s = s0 ∨ (0 ≤ s ∧ fnB ms s.toNat = true)) → Hop g s y → fnB ms y.toNat = true) {s : Int} {t : Nat} (h : Fst g s t) : (s = s0 ∨ (0 ≤ s ∧ fnB ms s.toNat = true)) → fnB ms t = true := by
  induction h with
  | tm t ht =>
    rintro (h | ⟨_, h⟩)
    · omega
    · simpa using h
  | pr p i s' t hp h1 h2 h3 ih =>
    intro hR
    exact ih (.inr ⟨((iG p hp).2 s' (List.mem_of_getElem? h1)).1, hc _ _ hR ⟨p, hp, rfl, i, h1, h2⟩⟩)
structure Srch (g : GramT) (s0 : Int) (ms : List Bool) (xs : List Int) (D : Int → Prop) : Prop where
  ln : ms.length = g.T + g.N
  rg : ∀ y ∈ xs, 0 ≤ y ∧ y < (g.T : Int) + g.N
  cl : ∀ s, (s = s0 ∨ (0 ≤ s ∧ fnB ms s.toNat = true)) → s ∈ xs ∨ D s ∨ ∀ y, Hop g s y → fnB ms y.toNat = true
theorem Srch.push {g : GramT} {s0 : Int} {ms : List Bool} {xs : List Int} {D : Int → Prop} {y : Int} (h : Srch g s0 ms xs D) (hy : 0 ≤ y ∧ y < (g.T : Int) + g.N) : Srch g s0 (ms.set y.toNat true) (xs ++ [y]) D := by
  have hk : y.toNat < ms.length := by rw [h.ln]; omega
  refine ⟨by rw [List.length_set]; exact h.ln, fun z hz => ?_, fun s hs => ?_⟩
  · rcases List.mem_append.1 hz with hz | hz
    · exact h.rg z hz
    · simp at hz; subst hz; exact hy
  · have mono : ∀ k, fnB ms k = true → fnB (ms.set y.toNat true) k = true := fun k hk' => by rw [fnB_setT hk, hk']; rfl
    by_cases e : s = y
    · exact .inl (by simp [e])
    · have : s = s0 ∨ (0 ≤ s ∧ fnB ms s.toNat = true) := by
        rcases hs with hs | ⟨h1, h2⟩
        · exact .inl hs
        · rw [fnB_setT hk, Bool.or_eq_true, beq_iff_eq] at h2
          rcases h2 with h2 | h2
          · exact .inr ⟨h1, h2⟩
          · omega
      rcases h.cl s this with h | h | h
      · exact .inl (List.mem_append.2 (.inl h))
      · exact .inr (.inl h)
      · exact .inr (.inr fun z hz => mono _ (h z hz))
theorem Srch.done {g : GramT} {s0 : Int} {ms : List Bool} {xs : List Int} {s1 : Int} (h : Srch g s0 ms xs (· = s1)) (hd : ∀ y, Hop g s1 y → fnB ms y.toNat = true) : Srch g s0 ms xs fun _ => False :=
  ⟨h.ln, h.rg, fun s hs => by
    rcases h.cl s hs with h | rfl | h
    · exact .inl h
    · exact .inr (.inr hd)
    · exact .inr (.inr h)⟩
end Go.V
namespace Go.Proofs.YtkmjjnjngcpjmaaGreatDoor
open Go.V
section
variable {w : World} {L : List Asn} {g : GramT} {x : GA}
end
end Go.Proofs.YtkmjjnjngcpjmaaGreatDoor
set_option linter.unusedVariables false
set_option maxRecDepth 4000
namespace Go.V
def GramT.more (g : GramT) (q : ProdT) : GramT := { g with prods := g.prods ++ [q] }
theorem Nul.more {g : GramT} {q : ProdT} {s : Int} (h : Nul g s) : Nul (g.more q) s := by
  induction h with
  | mk p hp _ ih => exact .mk p (List.mem_append.2 (.inl hp)) ih
theorem Fst.more {g : GramT} {q : ProdT} {s : Int} {t : Nat} (h : Fst g s t) : Fst (g.more q) s t := by
  induction h with
  | tm t ht => exact .tm t ht
  | pr p i s t hp h1 h2 _ ih => exact .pr p i s t (List.mem_append.2 (.inl hp)) h1 (fun x hx => (h2 x hx).more) ih
end Go.V
namespace Go.Proofs.YtkmjjnjngcpjmaaGreatDoor
open Go.V
section
variable {w : World} {L : List Asn} {g : GramT} {x : GA}
end
end Go.Proofs.YtkmjjnjngcpjmaaGreatDoor
set_option linter.unusedVariables false
set_option maxRecDepth 4000
namespace Go.V
theorem bv_get {ms : List Bool} {u : Nat} (h : u < ms.length) : (bv ms)[u]? = some (.bool (fnB ms u)) := by
  unfold bv; rw [List.getElem?_map, List.getElem?_eq_getElem h, fnB_get (List.getElem?_eq_getElem h)]; rfl
theorem cel_bit {w : World} {k u : Nat} {ms : List Bool} (r : rowH (hp w) ⟨k, 0, none⟩ (bv ms)) (h : u < ms.length) : w.cell? ((⟨k, 0, none⟩ : Addr).add u) = some (.bool (fnB ms u)) := r.cell (sub.refl _) (j := u) (bv_get h)
theorem bv_setL (ms : List Bool) (u : Nat) (b : Bool) : (bv ms).set u (.bool b) = bv (ms.set u b) := by simp [bv, List.map_set]
theorem rep_bv (n : Nat) : List.replicate n (Value.bool false) = bv (List.replicate n false) := by simp [bv]
def VanP (g : GramT) (nn : List Bool) (row : List Int) : Prop := ∀ s ∈ row, (g.T : Int) ≤ s ∧ fnB nn (s.toNat - g.T) = true
def ClN (g : GramT) (nn : List Bool) (p : ProdT) : Prop := VanP g nn p.right → fnB nn (p.left.toNat - g.T) = true
theorem NnP.van {g : GramT} {nn : List Bool} (h : NnP g nn) (iG : InG g) {row : List Int} : VanP g nn row ↔ NulR g row := by
  refine forall_congr' fun s => imp_congr Iff.rfl ?_
  constructor
  · rintro ⟨h1, h2⟩
    have := (h.2 _).1 h2
    rwa [show ((g.T + (s.toNat - g.T) : Nat) : Int) = s from by omega] at this
  · intro hN
    have hl := hN.left iG
    refine ⟨hl.1, (h.2 _).2 ?_⟩
    rwa [show ((g.T + (s.toNat - g.T) : Nat) : Int) = s from by omega]
theorem nnP_of {g : GramT} {nn : List Bool} (iG : InG g) (hl : nn.length = g.N) (hs : ∀ i, fnB nn i = true → Nul g ((g.T + i : Nat) : Int)) (hc : ∀ p ∈ g.prods, ClN g nn p) : NnP g nn := by
  refine ⟨hl, fun i => ⟨hs i, fun h => ?_⟩⟩
  have key : ∀ s, Nul g s → fnB nn (s.toNat - g.T) = true := fun s h => by
    induction h with
    | mk p hp h1 ih => exact hc p hp fun s hs => ⟨(h1 s hs |>.left iG).1, ih s hs⟩
  have := key _ h
  rwa [show ((g.T + i : Nat) : Int).toNat - g.T = i from by omega] at this
end Go.V
namespace Go.Proofs.YtkmjjnjngcpjmaaGreatDoor
open Go.V
section
variable {w : World} {L : List Asn} {g : GramT} {x : GA} {a an : Option Addr} {l c nl cn : Nat} {row : List Int} {nn : List Bool}
set_option maxHeartbeats 1000000 in
theorem d_vanishes (hg : gR (hp w) g x) (hn : rdS (hp w) nn an nl) (hnl : nn.length = g.N) (hr : rdS (hp w) row a l) (hs : SyP g row) (hb : l ≤ 4611686018427387904) (hT : g.T ≤ 65) (hN : g.N ≤ 65) : Run Tryz.prog n_presageref07_vanishes [.agg ⟨x.cells⟩, .slice an nl cn, .slice a l c] w fun v w' => (∃ r : Bool, v = .bool r ∧ (r = true ↔ VanP g nn row)) ∧ Gr w w' := by
  refine run_presageref07_vanishes _ _ _ _ _ _ _ _ _ _ _ _ _ _ _ _ _ _ _ w _ ?_
  refine gbox hg fun k1 w1 gw hg B => ?_
  have tl : g.T = x.tl := hg.t.1
  have hn := hn.mono gw
  have hr := hr.mono gw
  have hn1 := hn.1
  refine ⟨fun n w' => ∃ j : Nat, n = j ∧ j ≤ l ∧ VanP g nn (row.take j) ∧ Gr w1 w', fun n _ => l - n.toNat, ⟨0, rfl, by omega, fun s hs => by simp at hs, Gr.refl _⟩, ?_⟩
  rintro _ n w2 ⟨j, rfl, hj, hv, g2⟩
  refine br_intro (fun h1 => ?_) fun h1 => ?_
  · have h1 : j < l := by have := of_decide_eq_true h1; omega
    obtain ⟨y, ad, hy1, hya, hy2⟩ := hr.get1 h1
    have hym := List.mem_of_getElem? hy1
    have hys := hs y hym
    intro w3 hd
    have g3 : Gr w1 w3 := g2.trans (Gr.drawn hd)
    have no : ¬ ((g.T : Int) ≤ y ∧ fnB nn (y.toNat - g.T) = true) → (∃ r : Bool, Value.bool false = .bool r ∧ (r = true ↔ VanP g nn row)) ∧ Gr w w3 := fun hn => ⟨⟨false, rfl, ⟨fun h => absurd h (by decide), fun h => absurd (h y hym) hn⟩⟩, gw.trans g3⟩
    refine ⟨fun w => Gr w1 w, g3, idx_i hya h1 ⟨y, fun w s => hy2 _ s, _, _, _, fun w s => B.c0 s, br_intro (fun h2 => no ?_) fun h2 => ?_⟩⟩
    · have h2 := of_decide_eq_true h2; omega
    have h2 := of_decide_eq_false h2
    have hun : y.toNat - g.T < nl := by omega
    obtain ⟨b, ad2, hb1, hba, hb2⟩ := hn.get1 hun
    have eu : y - (x.tl : Int) = ((y.toNat - g.T : Nat) : Int) := by rw [← tl]; omega
    refine idx_i hya h1 ⟨y, fun w s => hy2 _ s, _, _, _, fun w s => B.c0 s, ⟨by omega, by omega⟩, ?_⟩
    rw [eu]
    refine idx_i hba hun ⟨b, fun w s => hb2 _ s, br_intro (fun h3 => no ?_) fun h3 => ?_⟩
    · rw [fnB_get hb1]
      cases b
      · simp
      · cases h3
    · refine ⟨⟨by omega, by omega⟩, ⟨j + 1, by simp, by omega, fun s hs => ?_, g3⟩, msr h1⟩
      rw [take_succ_get hy1] at hs
      rcases List.mem_append.1 hs with hs | hs
      · exact hv s hs
      · simp at hs; subst hs
        exact ⟨by omega, by rw [fnB_get hb1]; simpa using h3⟩
  · have h1 : j = l := by have := of_decide_eq_false h1; omega
    subst h1
    rw [List.take_of_length_le (by have := hr.1; omega)] at hv
    exact ⟨⟨true, rfl, by simp [hv]⟩, gw.trans g2⟩
set_option maxHeartbeats 2000000 in
theorem d_Null (hg : gR (hp w) g x) (hb : okG g) (he : EitherP g) : Run Tryz.prog n_presageref07_Null [.agg ⟨x.cells⟩] w fun v w' => ∃ (k : Nat) (nn : List Bool), v = .slice (some ⟨k, 0, none⟩) g.N g.N ∧ NnP g nn ∧ St w' (cel k (bv nn) :: all w) := by
  refine run_presageref07_Null _ _ _ _ _ _ _ _ _ _ _ _ _ w _ ?_
  refine gbox hg fun k1 w1 gw hg B => ?_
  obtain ⟨iG, bT, bN, pN, pT, bP⟩ := inG he
  have tl : g.T = x.tl := hg.t.1
  have nl : g.N = x.nl := hg.n.1
  have pl := hg.p.1
  have gs : sub (hp w) (hp w1) := gw
  have h1 := St.all w1
  unfold V.all at h1
  generalize hH : hp w1 = H at *
  refine ⟨_, _, _, B.c1 (rdH 0 h1.l), ?_⟩
  rw [← nl]
  refine ⟨⟨by omega, rfl, by omega⟩, ?_⟩
  rw [Int.toNat_natCast, reps_one, rep_bv]
  refine newC_i h1 fun k4 w2 h2 => ?_
  obtain ⟨Q, hQ⟩ := name_it (fun (b : Bool) (w : World) (m : Nat) => ∃ nn : List Bool, nn.length = g.N ∧ (∀ i, fnB nn i = true → Nul g ((g.T + i : Nat) : Int)) ∧ m = opn nn + (if b then 1 else 0) ∧ (b = false → ∀ p ∈ g.prods, ClN g nn p) ∧ St w [cel k4 (bv nn), has H])
  obtain ⟨μ, mu1, mu2⟩ := least_fn (fun (y : Bool × World) m => Q y.1 y.2 m)
  refine ⟨fun b w' => ∃ m, Q b w' m, fun b w => μ (b, w), ⟨opn (List.replicate g.N false) + 1, ?_⟩, ?_⟩
  · rw [hQ]
    exact ⟨List.replicate g.N false, by simp, fun i h => (by rw [fnB_rep] at h; exact absurd h (by decide)), rfl, fun h => absurd h (by decide), h2⟩
  clear h2
  intro _ b w3 hP
  have hP := mu2 (b, w3) hP
  dsimp only at hP
  generalize hμ : μ (b, w3) = μ0 at *
  rw [hQ] at hP
  obtain ⟨nn0, hl0, hs0, hmu, hc0, h⟩ := hP
  refine br_intro (fun hb1 => ?_) fun hb1 => ?_
  rotate_left
  · exact ⟨k4, nn0, rfl, nnP_of iG hl0 hs0 (hc0 hb1), h.on1 (has_i gs)⟩
  subst hb1
  rw [if_pos rfl] at hmu
  refine ⟨fun b n w' => ∃ (j : Nat) (nn : List Bool), n = j ∧ j ≤ g.prods.length ∧ nn.length = g.N ∧ (∀ i, fnB nn i = true → Nul g ((g.T + i : Nat) : Int)) ∧ opn nn + (if b then 1 else 0) ≤ opn nn0 ∧ (b = false → ∀ p ∈ g.prods.take j, ClN g nn p) ∧ St w' [cel k4 (bv nn), has H], fun _ n _ => g.prods.length - n.toNat, ⟨0, nn0, rfl, by omega, hl0, hs0, by simp, by simp, h⟩, ?_⟩
  clear h hc0
  rintro _ b n w4 ⟨j, nn, rfl, hj, hl, hs, hm, hc, h⟩
  refine ⟨_, _, _, B.c4 (rdH 1 h.l), br_intro (fun h3 => ?_) fun h3 => ?_⟩
  rotate_left
  · have h3 : j = g.prods.length := by have := of_decide_eq_false h3; omega
    subst h3
    rw [List.take_length] at hc
    have key : Q b w4 (opn nn + (if b then 1 else 0)) := by
      rw [hQ]; exact ⟨nn, hl, hs, rfl, hc, h⟩
    refine ⟨⟨_, key⟩, ?_⟩
    have := mu1 (b, w4) _ key
    dsimp only
    rw [hμ]
    omega
  have h3 : j < g.prods.length := by have := of_decide_eq_true h3; omega
  obtain ⟨p, ad, vs, hp1, hpa, hp2, ra, rl, rc, rfl, hrc, hp3⟩ := hg.p.get (i := j) (by omega)
  have hpm := List.mem_of_getElem? hp1
  obtain ⟨hpl, hpr⟩ := iG p hpm
  have b7' := hb.2.2.2.2.2.2 p hpm
  have rl1 := hp3.1
  have et : g.prods.take (j + 1) = g.prods.take j ++ [p] := by rw [List.take_add_one, hp1]; rfl
  intro w5 hd
  have h := h.drawn hd
  have hun : p.left.toNat - g.T < g.N := by omega
  have eu : p.left - (x.tl : Int) = ((p.left.toNat - g.T : Nat) : Int) := by rw [← tl]; omega
  refine ⟨fun w => sub H (hp w), rdH 1 h.l, _, _, _, fun w s => B.c4 s, idx_n hpa (by omega) ⟨_, fun w s => hp2.cell0 s, _, _, _, fun w s => B.c0 s, ⟨by omega, by omega⟩, ?_⟩⟩
  rw [eu]
  have nx : ∀ {w' : World} {nn' : List Bool} {b' : Bool}, nn'.length = g.N → (∀ i, fnB nn' i = true → Nul g ((g.T + i : Nat) : Int)) → opn nn' + (if b' then 1 else 0) ≤ opn nn0 → (b' = false → (∀ p ∈ g.prods.take j, ClN g nn' p) ∧ ClN g nn' p) → St w' [cel k4 (bv nn'), has H] → inI ((j : Int) + 1) ∧ (∃ (j' : Nat) (nn : List Bool), (j : Int) + 1 = j' ∧ j' ≤ g.prods.length ∧ nn.length = g.N ∧ (∀ i, fnB nn i = true → Nul g ((g.T + i : Nat) : Int)) ∧ opn nn + (if b' then 1 else 0) ≤ opn nn0 ∧ (b' = false → ∀ p ∈ g.prods.take j', ClN g nn p) ∧ St w' [cel k4 (bv nn), has H]) ∧ g.prods.length - ((j : Int) + 1).toNat < g.prods.length - (j : Int).toNat := fun {w' nn' b'} a1 a2 a3 a4 a5 => by
    refine ⟨⟨by omega, by omega⟩, ⟨j + 1, nn', by simp, by omega, a1, a2, a3, fun hb' q hq => ?_, a5⟩, msr h3⟩
    rw [et] at hq
    rcases List.mem_append.1 hq with hq | hq
    · exact (a4 hb').1 q hq
    · simp at hq; subst hq; exact (a4 hb').2
  refine idx_i rfl hun ⟨_, cel_bit (rdCel 0 h.l) (by omega), br_intro (fun h4 => nx hl hs hm (fun hb' => ⟨hc hb', fun _ => h4⟩) h) fun h4 => ?_⟩
  intro w9 hd2
  have h := h.drawn hd2
  refine ⟨fun w => sub H (hp w), rdH 1 h.l, _, _, _, _, _, _, _, _, _, _, _, _, _, fun w s => B.row s, _, _, _, fun w s => B.c4 s, idx_n hpa (by omega) ⟨_, _, _, fun w s => hp2.cell s (j := 1) rfl, ?_⟩⟩
  have rn : rdS (hp w9) nn (some ⟨k4, 0, none⟩) g.N := rdB_of hl (.inr ⟨_, rfl, rdCel 0 h.l⟩)
  refine (d_vanishes (x := x) (hg.mono (rdH 1 h.l)) rn hl (hp3.mono (rdH 1 h.l)) (fun s hs => ⟨(hpr s hs).1, (hpr s hs).2⟩) (by omega) bT bN).mono ?_
  rintro _ w13 ⟨⟨r, rfl, hr⟩, g13⟩
  have h := h.gr g13
  refine ⟨_, rfl, br_intro (fun h5 => ?_) fun h5 => nx hl hs hm (fun hb' => ⟨hc hb', fun hv => ?_⟩) h⟩
  · have hun' : p.left.toNat - g.T < nn.length := by omega
    refine idx_i rfl hun ?_
    rw [add_lit0]
    refine st1_i h (by rw [bv_len]; exact hun') fun w14 h => ?_
    rw [bv_setL] at h
    have hop := opn_set hun' h4
    refine nx (by rw [List.length_set]; exact hl) (fun i hi => ?_) ?_ (fun hb' => absurd hb' (by decide)) h
    · rw [fnB_setT hun', Bool.or_eq_true, beq_iff_eq] at hi
      rcases hi with hi | rfl
      · exact hs i hi
      · rw [show ((g.T + (p.left.toNat - g.T) : Nat) : Int) = p.left from by omega]
        refine .mk p hpm fun s hs' => ?_
        obtain ⟨v1, v2⟩ := hr.1 h5 s hs'
        have := hs _ v2
        rwa [show ((g.T + (s.toNat - g.T) : Nat) : Int) = s from by omega] at this
    · have := hm
      rw [if_pos rfl]
      split at this <;> omega
  · rw [hr.2 hv] at h5; cases h5
end
end Go.Proofs.YtkmjjnjngcpjmaaGreatDoor
set_option linter.unusedVariables false
set_option maxRecDepth 4000
namespace Go.V
def symN (T : Nat) (nn : List Bool) : List Bool := List.replicate T false ++ nn
theorem fnB_symN {T : Nat} {nn : List Bool} (i : Nat) : fnB (symN T nn) i = (decide (T ≤ i) && fnB nn (i - T)) := by
  unfold symN fnB
  rw [List.getD_eq_getElem?_getD, List.getD_eq_getElem?_getD]
  by_cases h : T ≤ i
  · rw [List.getElem?_append_right (by simpa using h), List.length_replicate]; simp [h]
  · rw [List.getElem?_append_left (by simp; omega), List.getElem?_replicate, if_pos (by omega)]
    simp [h]
def slT (T p : Nat) : Value := .slice (some ⟨p, 0, none⟩) T T
end Go.V
namespace Go.Proofs.YtkmjjnjngcpjmaaGreatDoor
open Go.V
section
variable {w : World} {L : List Asn} {T ks q : Nat} {x : GA} {a an ao : Option Addr} {l c nl cn ol co : Nat} {row : List Int} {nn bs : List Bool} {ps : List Nat} {vs : List (List Bool)}
end
end Go.Proofs.YtkmjjnjngcpjmaaGreatDoor
set_option linter.unusedVariables false
set_option maxRecDepth 4000
namespace Go.V
theorem NnP.sym {g : GramT} {nn : List Bool} (h : NnP g nn) (iG : InG g) (i : Nat) : fnB (symN g.T nn) i = true ↔ Nul g (i : Int) := by
  rw [fnB_symN, Bool.and_eq_true, decide_eq_true_eq]
  constructor
  · rintro ⟨h1, h2⟩
    have := (h.2 _).1 h2
    rwa [show ((g.T + (i - g.T) : Nat) : Int) = i from by omega] at this
  · intro hN
    have hl := hN.left iG
    refine ⟨by omega, (h.2 _).2 ?_⟩
    rwa [show ((g.T + (i - g.T) : Nat) : Int) = i from by omega]
theorem NnP.rowN {g : GramT} {nn : List Bool} (h : NnP g nn) (iG : InG g) {p : ProdT} (hp : p ∈ g.prods) : rowN (symN g.T nn) p.right = true → fnB (symN g.T nn) p.left.toNat = true := fun hr => by
  obtain ⟨h1, h2⟩ := iG p hp
  rw [h.sym iG, toNat_back (by omega)]
  refine .mk p hp fun s hs => ?_
  have := (h.sym iG _).1 (rowN_iff.1 hr s hs)
  rwa [toNat_back (h2 s hs).1] at this
end Go.V
namespace Go.Proofs.YtkmjjnjngcpjmaaGreatDoor
open Go.V
section
variable {w : World} {L : List Asn} {g : GramT} {x : GA}
end
end Go.Proofs.YtkmjjnjngcpjmaaGreatDoor
set_option linter.unusedVariables false
set_option maxRecDepth 4000
namespace Go.V
structure TabR (h : Hp) (g : GramT) (x : GA) (b k4 : Nat) (o : Option Addr) (c : Nat) (nn : List Bool) (ps : List Nat) (vs : List (List Bool)) : Prop where
  f : rowH h ⟨b, 0, none⟩ (FC x k4 g.N o (g.T + g.N) c)
  n : rowH h ⟨k4, 0, none⟩ (bv nn)
  p : ∃ ad, o = some ad ∧ rowH h ad (ps.map (slT g.T))
  v : ∀ (i : Nat) p v, ps[i]? = some p → vs[i]? = some v → rowH h ⟨p, 0, none⟩ (bv v)
theorem TabR.mono {h h' : Hp} {g : GramT} {x : GA} {b k4 : Nat} {o : Option Addr} {c : Nat} {nn : List Bool} {ps : List Nat} {vs : List (List Bool)} (s : sub h h') (t : TabR h g x b k4 o c nn ps vs) : TabR h' g x b k4 o c nn ps vs :=
  ⟨t.f.mono s, t.n.mono s, by obtain ⟨ad, e, r⟩ := t.p; exact ⟨ad, e, r.mono s⟩, fun i p v h1 h2 => (t.v i p v h1 h2).mono s⟩
end Go.V
namespace Go.Proofs.YtkmjjnjngcpjmaaGreatDoor
open Go.V
section
variable {w : World} {L : List Asn} {g : GramT} {x : GA} {b k4 : Nat} {o a : Option Addr} {c l cl : Nat} {nn : List Bool} {ps : List Nat} {vs : List (List Bool)} {row : List Int}
end
end Go.Proofs.YtkmjjnjngcpjmaaGreatDoor
set_option linter.unusedVariables false
set_option maxRecDepth 4000
namespace Go.V
def NulRes (g : GramT) (e : Int) (nn : List Bool) : Prop := (¬ EitherP g ∧ e = 1 ∧ nn = []) ∨ (EitherP g ∧ e = 0 ∧ NnP g nn)
def SetRes (g : GramT) (e : Int) (bss : List (List Bool)) : Prop := (¬ EitherP g ∧ e = 1 ∧ bss = []) ∨ (EitherP g ∧ e = 0 ∧ SsP g bss)
def RowRes (g : GramT) (row : List Int) (e : Int) (b : Bool) (xs : List Int) : Prop := (¬ (EitherP g ∧ SyP g row) ∧ e = 1 ∧ b = false ∧ xs = []) ∨ ((EitherP g ∧ SyP g row) ∧ e = 0 ∧ (b = true ↔ NulR g row) ∧ ∃ bs, BsP g row bs ∧ xs = mbI bs)
theorem NulRes.inj {g : GramT} {e e' : Int} {nn nn' : List Bool} (h : NulRes g e nn) (k : NulRes g e' nn') : e = e' ∧ nn = nn' := by
  rcases h with ⟨h1, rfl, rfl⟩ | ⟨h1, rfl, h2⟩ <;> rcases k with ⟨k1, rfl, rfl⟩ | ⟨k1, rfl, k2⟩
  · exact ⟨rfl, rfl⟩
  · exact absurd k1 h1
  · exact absurd h1 k1
  · exact ⟨rfl, h2.inj k2⟩
theorem SetRes.inj {g : GramT} {e e' : Int} {nn nn' : List (List Bool)} (h : SetRes g e nn) (k : SetRes g e' nn') : e = e' ∧ nn = nn' := by
  rcases h with ⟨h1, rfl, rfl⟩ | ⟨h1, rfl, h2⟩ <;> rcases k with ⟨k1, rfl, rfl⟩ | ⟨k1, rfl, k2⟩
  · exact ⟨rfl, rfl⟩
  · exact absurd k1 h1
  · exact absurd h1 k1
  · exact ⟨rfl, h2.inj k2⟩
theorem RowRes.inj {g : GramT} {row : List Int} {e e' : Int} {b b' : Bool} {xs xs' : List Int} (h : RowRes g row e b xs) (k : RowRes g row e' b' xs') : e = e' ∧ b = b' ∧ xs = xs' := by
  rcases h with ⟨h1, rfl, rfl, rfl⟩ | ⟨h1, rfl, h2, bs, h3, rfl⟩ <;> rcases k with ⟨k1, rfl, rfl, rfl⟩ | ⟨k1, rfl, k2, bs', k3, rfl⟩
  · exact ⟨rfl, rfl, rfl⟩
  · exact absurd k1 h1
  · exact absurd h1 k1
  · exact ⟨rfl, by rw [Bool.eq_iff_iff, h2, k2], by rw [h3.inj k3]⟩
theorem SetRes.le {g : GramT} {e : Int} {bss : List (List Bool)} (h : SetRes g e bss) : bss.length ≤ 65 ∧ ∀ bs ∈ bss, bs.length ≤ 65 := by
  rcases h with ⟨_, _, rfl⟩ | ⟨he, _, h1, h2⟩
  · simp
  · obtain ⟨iG, bT, bN, pN, pT, bP⟩ := inG he
    refine ⟨by omega, fun bs hb => ?_⟩
    obtain ⟨i, hi, e⟩ := List.mem_iff_getElem.1 hb
    have := (h2 i bs (by rw [← e]; exact List.getElem?_eq_getElem hi)).1
    omega
theorem RowRes.le {g : GramT} {row : List Int} {e : Int} {b : Bool} {xs : List Int} (h : RowRes g row e b xs) : xs.length ≤ 65 := by
  rcases h with ⟨_, _, _, rfl⟩ | ⟨he, _, _, bs, h1, rfl⟩
  · simp
  · obtain ⟨iG, bT, bN, pN, pT, bP⟩ := inG he.1
    have := cntB_le bs
    rw [mbI_len, ]
    have := h1.1
    omega
theorem NulRes.le {g : GramT} {e : Int} {nn : List Bool} (h : NulRes g e nn) : nn.length ≤ 65 := by
  rcases h with ⟨_, _, rfl⟩ | ⟨he, _, h1, h2⟩
  · simp
  · obtain ⟨iG, bT, bN, pN, pT, bP⟩ := inG he
    omega
end Go.V
namespace Go.Proofs.YtkmjjnjngcpjmaaGreatDoor
open Go.V
section
variable {w : World} {L : List Asn} {g : GramT} {x : GA} {a a2 : Option Addr} {l l2 c c2 : Nat} {bs : List Bool} {row : List Int}
theorem f_Nullable2 (hg : gR (hp w) g x) (hb : okG g) (ht : tabA (hp w)) : Run Tryz.prog n_first_Nullable [.agg ⟨x.cells⟩] w fun v w' => ∃ (o : Option Addr) (n c : Nat) (e : Int) (nn : List Bool), v = .tuple #[.slice o n c, .int .i64 e] ∧ nn.length = n ∧ NulRes g e nn ∧ St w' (own 1 o n c (bv nn) :: all w) := by
  refine (f_Nullable hg hb ht).mono ?_
  rintro _ w' (⟨h1, rfl, h2⟩ | ⟨h1, k, nl, nn, h2, h3, rfl, h4⟩)
  · exact ⟨_, _, _, _, [], rfl, rfl, .inl ⟨h1, rfl, rfl⟩, own_nil 1 (has_i h2)⟩
  · refine ⟨_, _, _, _, nn, rfl, h3.1, .inr ⟨h1, rfl, h3⟩, ?_⟩
    have e : bv (nl ++ nn) = bv nl ++ (bv nn ++ ([] ++ [])) := by simp [bv]
    rw [e] at h4
    have := own_some' (pre := bv nl) (vs := bv nn) (cs := []) (post := []) (l := g.N) (c := g.N) (sz := 1) h4 (by rw [bv_len, h3.1, Nat.mul_one]) (by rw [List.append_nil, bv_len, h3.1, Nat.mul_one]) (Nat.le_refl _)
    rw [bv_len, h2] at this
    exact this
end
end Go.Proofs.YtkmjjnjngcpjmaaGreatDoor
set_option linter.unusedVariables false
set_option maxRecDepth 4000
namespace Go.V
def NumI (g : GramT) (ss : List SQ) (m : List (TransT × Value)) (i : Nat) : Prop := ∀ t : TransT, assoc t m = if t ∈ (TrL g ss).take i then some (.int .i64 (((TrL g ss).idxOf t : Int) + 1)) else none
def ToI (ss : List SQ) (m : List (TransT × Value)) (i : Nat) (es : List EdgeT) : Prop := ∀ k : TransT, assoc k m =
  if k.st < 0 then none else if k.st.toNat < i then (nxt ss k.st.toNat k.sym).map (fun j => Value.int .i64 (j + 1)) else if k.st.toNat = i then (es.find? fun e => decide (e.sym = k.sym)).map (fun e => Value.int .i64 (e.to + 1)) else none
section
variable {g : GramT} {ss : List SQ} {m : List (TransT × Value)} {i : Nat}
theorem NumI.start : NumI g ss [] 0 := fun t => by simp [assoc]
theorem NumI.step (hA : AutI g ss) (h : NumI g ss m i) {t : TransT} (ht : (TrL g ss)[i]? = some t) : NumI g ss (aput t (.int .i64 ((i : Int) + 1)) m) (i + 1) := fun u => by
  rw [assoc_put, h u, List.take_add_one, ht]
  by_cases e : u = t
  · subst e
    rw [if_pos rfl, if_pos (by simp), idx_at (TrL_nd hA) ht]
  · rw [if_neg e]; simp [e]
theorem NumI.all (h : NumI g ss m (TrL g ss).length) (t : TransT) : (assoc t m).getD (.int .i64 0) = .int .i64 (numT g ss t) := by
  rw [h t, List.take_length]
  unfold numT
  split <;> rfl
theorem ToI.start : ToI ss [] 0 [] := fun k => by simp [assoc]
theorem ToI.step {es : List EdgeT} (h : ToI ss m i es) {e : EdgeT} (hn : e.sym ∉ es.map (·.sym)) : ToI ss (aput ⟨(i : Int), e.sym⟩ (.int .i64 (e.to + 1)) m) i (es ++ [e]) := fun k => by
  rw [assoc_put, h k, find_snoc hn]
  by_cases hk : k = ⟨(i : Int), e.sym⟩
  · subst hk
    simp
  · rw [if_neg hk]
    split
    · rfl
    · split
      · rfl
      · split
        · have : k.sym ≠ e.sym := fun h => hk (by cases k; simp at *; omega)
          rw [if_neg this]
        · rfl
theorem ToI.next {q : SQ} (hq : ss[i]? = some q) (h : ToI ss m i q.2.2) : ToI ss m (i + 1) [] := fun k => by
  rw [h k]
  split
  · rfl
  · by_cases h1 : k.st.toNat < i
    · rw [if_pos h1, if_pos (by omega)]
    · rw [if_neg h1]
      by_cases h2 : k.st.toNat = i
      · rw [if_pos h2, if_pos (by omega), h2, nxt_some hq, Option.map_map]; rfl
      · rw [if_neg h2, if_neg (by omega)]; simp
theorem ToI.all (h : ToI ss m ss.length []) (k : TransT) : (assoc k m).getD (.int .i64 0) = .int .i64 (toK ss k) := by
  rw [h k]
  unfold toK
  by_cases h0 : k.st < 0
  · rw [if_pos h0, if_pos h0]; rfl
  · rw [if_neg h0, if_neg h0]
    split
    · cases nxt ss k.st.toNat k.sym <;> rfl
    · have : nxt ss k.st.toNat k.sym = none := by unfold nxt; rw [List.getElem?_eq_none (by omega)]
      rw [this]; simp
end
abbrev wrC (x : GA) (o : Option Addr) (n c : Nat) (a int : Int) (ol : Option Addr) (nl cl ka kt : Nat) (on : Option Addr) (nn cn kp : Nat) : List Value := x.cells ++ [.slice o n c, .int .i64 a, .int .i64 int, .slice ol nl cl, .map (some ka), .map (some kt), .slice on nn cn, .map (some kp)]
structure WrR (h : Hp) (g : GramT) (ss : List SQ) (nn : List Bool) (k : Nat) : Prop where
  ex : ∃ (x : GA) (o : Option Addr) (c : Nat) (a int : Int) (ol : Option Addr) (cl ka kt : Nat) (on : Option Addr) (cn kp : Nat) (ma mt : List (TransT × Value)) (mp : List (Int × Value)),
    rowH h (aM k) (wrC x o ss.length c a int ol (TrL g ss).length cl ka kt on g.N cn kp) ∧ gR h g x ∧ stRd h ss o ∧ rdS h (TrL g ss) ol (TrL g ss).length ∧ mapA ka ma h ∧ NumI g ss ma (TrL g ss).length ∧ mapA kt mt h ∧ ToI ss mt ss.length [] ∧ rdS h nn on g.N ∧ mapA kp mp h ∧
    ∀ s : Int, ∃ (a : Option Addr) (c : Nat), (assoc s mp).getD (.slice none 0 0) = .slice a (byR g g.prods.length s).length c ∧ rdS h ((byR g g.prods.length s).map Int.ofNat) a (byR g g.prods.length s).length
theorem WrR.mono {h h' : Hp} {g : GramT} {ss : List SQ} {nn : List Bool} {k : Nat} (s : sub h h') (r : WrR h g ss nn k) : WrR h' g ss nn k := by
  obtain ⟨x, o, c, a, int, ol, cl, ka, kt, on, cn, kp, ma, mt, mp, h1, h2, h3, h4, h5, h6, h7, h8, h9, h10, h11⟩ := r.ex
  exact ⟨x, o, c, a, int, ol, cl, ka, kt, on, cn, kp, ma, mt, mp, h1.mono s, h2.mono s, h3.mono s, h4.mono s, mapA_mono s h5, h6, mapA_mono s h7, h8, h9.mono s, mapA_mono s h10, fun z => by obtain ⟨a, c, e, r⟩ := h11 z; exact ⟨a, c, e, r.mono s⟩⟩
end Go.V
namespace Go.Proofs.YtkmjjnjngcpjmaaGreatDoor
open Go.V
variable {w : World} {L : List Asn} {g : GramT} {x : GA}
set_option maxHeartbeats 4000000 in
theorem y_reof (hg : gR (hp w) g x) (hb : okG g) (ht : tabA (hp w)) : Run Tryz.prog n_relate_of [.agg ⟨x.cells⟩] w fun v w' => ∃ (ss : List SQ) (ask int f : Int) (p : Option Addr), v = .tuple #[.pointer p, .int .i64 f] ∧ Res g ss ask int f ∧ Gr w w' ∧ (f = 0 → ∃ (k : Nat) (nn : List Bool), p = some (aM k) ∧ NnP g nn ∧ WrR (hp w') g ss nn k) ∧ (f ≠ 0 → p = none) := by
  refine run_relate_of _ _ _ _ _ _ _ _ _ _ _ _ _ w _ (gbox hg fun k1 w1 gw hg B => ?_)
  refine ⟨_, _, _, _, _, _, _, _, _, _, _, _, _, B.row (sub.refl _), (y_BuildR hg hb).mono ?_⟩
  rintro _ w2 ⟨o, c, ss, ask, int, f, rfl, hR, h⟩
  have g12 : Gr w1 w2 := rdH 3 h.l
  have hs := stRd_of h.l
  clear h
  refine ⟨_, _, _, _, _, _, rfl, newC_i (St.all w2) fun k12 w3 h => stR_i h rfl (by simp [oneC]) fun w4 h => br_intro (fun h1 => ?_) fun h1 => ?_⟩
  · have h1 : f ≠ 0 := by simpa using h1
    exact ⟨ss, ask, int, f, none, rfl, hR, gw.trans (g12.trans h.gone1), fun h => absurd h h1, fun _ => rfl⟩
  have h1 : f = 0 := by simpa using h1
  subst h1
  obtain ⟨hc, hA⟩ := hR.aut rfl
  have hkl := hA.klen hc
  have h256 := hA.dn.2.1
  have hTn := TrN_len (g := g) (fun q hq => (hkl q hq).2) ss.length
  have g24 : Gr w2 w4 := h.gone1
  have r12 : rowH (hp w4) (aM k12) [.slice o ss.length c, .int .i64 ask, .int .i64 int] := rdCel 0 h.l
  clear h
  have g14 := g12.trans g24
  have hg4 := hg.mono g14
  have ht4 : tabA (hp w4) := rdV.mono (gw.trans g14) ht
  have hs := hs.mono g24
  have B4 : ∀ {u : World}, sub (hp w4) (hp u) → V.rowAt u ⟨k1, 0, none⟩ 0 5 = some x.cells := fun s => B.row (sub.trans g14 s)
  have pl := hg.p.1
  have hgw := hg
  obtain ⟨_, _, _, b4, _, _, _⟩ := id hb
  refine ⟨_, _, _, _, _, _, _, _, _, _, _, _, _, B4 (sub.refl _), _, _, _, _, _, r12.at (sub.refl _) rfl, ?_⟩
  refine new_i (St.all w4) fun ka w5 h => ?_
  have h := mapA_new (κ := TransT) h
  refine new_i h fun kt w6 h => ?_
  have h := mapA_new (κ := TransT) h
  refine new_i h fun kp w7 h => ?_
  have h := mapA_new (κ := Int) h
  refine newC_i (vs := wrC x o ss.length c ask int none 0 0 ka kt none 0 0 kp) h fun km w8 h => ?_
  have g48 : Gr w4 w8 := rdH 4 h.l
  refine ⟨_, _, _, _, _, _, _, _, _, _, _, _, _, B4 g48, (y_trList (hg4.mono g48) hb).mono ?_⟩
  rintro _ w9 ⟨ss2, ask2, int2, f2, ol, cl, rfl, hR2, h2⟩
  obtain ⟨_, hes, _, _, rfl, _⟩ := hR.one hR2
  rw [← TrL_es hes] at h2 ⊢
  have h := St.on1 h2 h.l
  clear h2
  have rL : rdS (hp w9) (TrL g ss) ol (TrL g ss).length := rdTr_of rfl (rdOv 0 h.l)
  have h : St w9 (cel km (wrC x o ss.length c ask int none 0 0 ka kt none 0 0 kp) :: own 2 ol (TrL g ss).length cl (trv (TrL g ss)) :: mapA kp ([] : List (Int × Value)) :: mapA kt ([] : List (TransT × Value)) :: mapA ka ([] : List (TransT × Value)) :: all w4) := h.pick 2 [1, 0]
  refine ⟨_, _, _, _, rfl, st1_i h (show 8 < 13 by decide) fun w10 ha => ?_⟩
  have h : St w10 (cel km (wrC x o ss.length c ask int ol (TrL g ss).length cl ka kt none 0 0 kp) :: own 2 ol (TrL g ss).length cl (trv (TrL g ss)) :: mapA kp ([] : List (Int × Value)) :: mapA kt ([] : List (TransT × Value)) :: mapA ka ([] : List (TransT × Value)) :: all w4) := ha
  clear ha
  have g410 : Gr w4 w10 := rdH 5 h.l
  refine ⟨_, _, _, _, _, _, _, _, _, _, _, _, _, B4 g410, (f_Nullable2 (hg4.mono g410) hb (rdV.mono g410 ht4)).mono ?_⟩
  rintro _ w11 ⟨on, n1, cn, e1, nn, rfl, hnl, hNR, h2⟩
  have h := St.on1 h2 h.l
  clear h2
  have hnn : NnP g nn := by
    rcases hNR with ⟨h1, _⟩ | ⟨_, _, h1⟩
    · exact absurd (.inr hc) h1
    · exact h1
  have hnN : n1 = g.N := by rw [← hnl]; exact hnn.1
  subst hnN
  refine ⟨_, _, _, _, rfl, st1_i (h.pick 2 [1, 0]) (show 11 < 13 by decide) fun w12 ha => ?_⟩
  obtain ⟨C, hC⟩ : ∃ C, C = wrC x o ss.length c ask int ol (TrL g ss).length cl ka kt on g.N cn kp := ⟨_, rfl⟩
  have h : St w12 (cel km C :: own 1 on g.N cn (bv nn) :: own 2 ol (TrL g ss).length cl (trv (TrL g ss)) :: mapA kp ([] : List (Int × Value)) :: mapA kt ([] : List (TransT × Value)) :: mapA ka ([] : List (TransT × Value)) :: all w4) := by rw [hC]; exact ha
  clear ha
  have c8 : C[8]? = some (.slice ol (TrL g ss).length cl) := by rw [hC]; rfl
  have c9 : C[9]? = some (.map (some ka)) := by rw [hC]; rfl
  have c10 : C[10]? = some (.map (some kt)) := by rw [hC]; rfl
  have c12 : C[12]? = some (.map (some kp)) := by rw [hC]; rfl
  have hTL : (TrL g ss).length ≤ ss.length * 130 := hTn
  refine ⟨_, _, _, (rdCel 0 h.l).cell (sub.refl _) (j := 8) c8, fun z w' => ∃ (i : Nat) (ma : List (TransT × Value)), z = i ∧ i ≤ (TrL g ss).length ∧ NumI g ss ma i ∧ St w' (mapA ka ma :: cel km C :: own 1 on g.N cn (bv nn) :: own 2 ol (TrL g ss).length cl (trv (TrL g ss)) :: mapA kp ([] : List (Int × Value)) :: mapA kt ([] : List (TransT × Value)) :: all w4), fun z _ => (TrL g ss).length - z.toNat,
    ⟨0, [], rfl, Nat.zero_le _, .start, h.pick 6 [5, 0, 1, 2, 3, 4]⟩, ?_⟩
  clear h
  rintro _ _ w13 ⟨i, ma, rfl, hi, hN, h⟩
  refine br_intro (fun h1 => ?_) fun h1 => ?_
  · have h1 : i < (TrL g ss).length := by have := of_decide_eq_true h1; omega
    have rT : rdS (hp w13) (TrL g ss) ol (TrL g ss).length := rdTr_of rfl (rdOv 3 h.l)
    obtain ⟨t, tad, ht, hta, rt⟩ := rdTr_get rT h1
    refine idx_n hta h1 ⟨_, _, rt.at (sub.refl _) rfl, newC_i h fun k49 w14 h => stR_i h rfl (by simp [oneC]) fun w15 h => ?_⟩
    intro w16 hd
    have h := h.eq (drawn_hp hd)
    have r49 : rowH (hp w16) (aM k49) [.int .i64 t.st, .int .i64 t.sym] := rdCel 0 h.l
    have rk : rowH (hp w16) (aM km) C := rdCel 2 h.l
    refine ⟨fun u => Gr w16 u, Gr.refl _, _, fun u s => rk.cell s (j := 9) c9, _, _, fun u s => r49.at s rfl, ⟨by omega, by omega⟩, (map_updateP (κ := TransT) tyOk (rfl : kdOfT Ty _ = .map _ _) key_Trans (h.pick 2 [1]) t _).mono ?_⟩
    rintro _ w19 h
    exact ⟨⟨by omega, by omega⟩, ⟨i + 1, _, by simp, h1, hN.step hA ht, h⟩, msr h1⟩
  have h1 : i = (TrL g ss).length := by have := of_decide_eq_false h1; omega
  subst h1
  have s13 : sub (hp w4) (hp w13) := rdH 6 h.l
  refine ⟨_, _, _, r12.cell0 s13, fun z w' => ∃ (i : Nat) (mt : List (TransT × Value)), z = i ∧ i ≤ ss.length ∧ ToI ss mt i [] ∧ St w' (mapA kt mt :: mapA ka ma :: cel km C :: own 1 on g.N cn (bv nn) :: own 2 ol (TrL g ss).length cl (trv (TrL g ss)) :: mapA kp ([] : List (Int × Value)) :: all w4), fun z _ => ss.length - z.toNat,
    ⟨0, [], rfl, Nat.zero_le _, .start, h.pick 6 [5, 0, 1, 2, 3, 4]⟩, ?_⟩
  clear h s13
  rintro _ _ w20 ⟨i, mt, rfl, hi, hW, h⟩
  have s20 : sub (hp w4) (hp w20) := rdH 6 h.l
  refine br_intro (fun h1 => ?_) fun h1 => ?_
  · have h1 : i < ss.length := by have := of_decide_eq_true h1; omega
    obtain ⟨q, hq⟩ : ∃ q, ss[i]? = some q := ⟨_, List.getElem?_eq_getElem h1⟩
    obtain ⟨ad, eo, rs, _, re⟩ := hs i q hq
    have hql := (hkl q (List.mem_of_getElem? hq)).2
    have hnd := aut_nd hA hq
    refine idx_n eo h1 ⟨_, _, _, _, _, _, rs.at s20 rfl, newC_i h fun k56 w21 h => stR_i h rfl (by simp [oneC]) fun w22 h => ?_⟩
    have r56 : rowH (hp w22) (aM k56) (stV q) := rdCel 0 h.l
    refine ⟨_, _, _, r56.cell (sub.refl _) (j := 1) rfl, fun z w' => ∃ (k : Nat) (mt : List (TransT × Value)), z = k ∧ k ≤ q.2.2.length ∧ ToI ss mt i (q.2.2.take k) ∧ St w' (mapA kt mt :: mapA ka ma :: cel km C :: own 1 on g.N cn (bv nn) :: own 2 ol (TrL g ss).length cl (trv (TrL g ss)) :: mapA kp ([] : List (Int × Value)) :: all w4), fun z _ => q.2.2.length - z.toNat,
      ⟨0, mt, rfl, Nat.zero_le _, hW, h.pick 7 [1, 2, 3, 4, 5, 6]⟩, ?_⟩
    clear h hW
    rintro _ _ w23 ⟨k, mt, rfl, hk, hW, h⟩
    have s23 : sub (hp w4) (hp w23) := rdH 6 h.l
    refine br_intro (fun h2 => ?_) fun h2 => ?_
    rotate_left
    · have h2 : k = q.2.2.length := by have := of_decide_eq_false h2; omega
      subst h2
      rw [List.take_length] at hW
      exact ⟨⟨by omega, by omega⟩, ⟨i + 1, mt, by simp, h1, hW.next hq, h⟩, msr h1⟩
    have h2 : k < q.2.2.length := by have := of_decide_eq_true h2; omega
    obtain ⟨e, ead, he, hea, red⟩ := rdEd_get re h2
    obtain ⟨_, _, j, r', hj, hj1, hr', _⟩ := aut_edge hc hA hq he
    have hjl := (List.getElem?_eq_some_iff.1 hr').1
    refine idx_n hea h2 ⟨_, _, red.at s23 rfl, newC_i h fun k34 w11 h => stR_i h rfl (by simp [oneC]) fun w12 h => ?_⟩
    intro w26 hd
    have h := h.eq (drawn_hp hd)
    have r34 : rowH (hp w26) (aM k34) [.int .i64 e.sym, .int .i64 e.to] := rdCel 0 h.l
    have rk : rowH (hp w26) (aM km) C := rdCel 3 h.l
    refine ⟨fun u => Gr w26 u, Gr.refl _, _, fun u s => rk.cell s (j := 10) c10, _, fun u s => r34.cell0 s, _, fun u s => r34.cell s (j := 1) rfl, ⟨by omega, by omega⟩, (map_updateP (κ := TransT) tyOk (rfl : kdOfT Ty _ = .map _ _) key_Trans (h.pick 2 [1]) ⟨(i : Int), e.sym⟩ _).mono ?_⟩
    rintro _ w30 h
    have ht : q.2.2.take (k + 1) = q.2.2.take k ++ [e] := by rw [List.take_add_one, he]; rfl
    have hn : e.sym ∉ (q.2.2.take k).map (·.sym) := fun hm => by
      have e1 : q.2.2.map (·.sym) = (q.2.2.take k).map (·.sym) ++ e.sym :: (q.2.2.drop (k + 1)).map (·.sym) := by
        rw [← List.map_cons, ← List.map_append]
        congr 1
        have := List.take_append_drop (k + 1) q.2.2
        rw [ht] at this
        simpa using this.symm
      rw [e1, List.nodup_append] at hnd
      exact hnd.2.2 _ hm _ (by simp) rfl
    have hW := hW.step hn
    rw [← ht] at hW
    exact ⟨⟨by omega, by omega⟩, ⟨k + 1, _, by simp, h2, hW, h⟩, msr h2⟩
  have h1 : i = ss.length := by have := of_decide_eq_false h1; omega
  subst h1
  have h := h.pick 6 [5, 0, 1, 2, 3, 4]
  refine ⟨_, _, _, B.c4 (sub.trans g14 s20), fun z w' => ∃ (j : Nat) (ps : List (Int × Lq Int)), z = j ∧ j ≤ x.pl ∧ (∀ s, getK s ps = (byR g j s).map Int.ofNat) ∧ St w' (cel km C :: mapA kp (mV ps) :: sta (mO 1 iv ps) :: mapA kt mt :: mapA ka ma :: own 1 on g.N cn (bv nn) :: own 2 ol (TrL g ss).length cl (trv (TrL g ss)) :: all w4), fun z _ => x.pl - z.toNat,
    ⟨0, [], rfl, Nat.zero_le _, fun s => rfl, ?_⟩, ?_⟩
  · have h := (St.flat (M := [])).2 h
    exact h.pick 7 [4, 1, 0, 2, 3, 5, 6]
  clear h
  rintro _ _ w31 ⟨j, ps, rfl, hj, hps, h⟩
  have s31 : sub (hp w4) (hp w31) := rdH 7 h.l
  refine br_intro (fun h1 => ?_) fun h1 => ?_
  rotate_left
  · have h1 : j = x.pl := by have := of_decide_eq_false h1; omega
    subst h1
    rw [← pl] at hps
    refine ⟨ss, ask, int, 0, some (aM km), rfl, hR, gw.trans (g14.trans s31), fun _ => ⟨km, nn, rfl, hnn, x, o, c, ask, int, ol, cl, ka, kt, on, cn, kp, ma, mt, mV ps, by rw [← hC]; exact rdCel 0 h.l, hg4.mono s31, hs.mono s31, rdTr_of rfl (rdOv 6 h.l), ?_, hN, ?_, hW, rdB_of hnl (rdOv 5 h.l), ?_, fun s => ?_⟩, fun h => absurd rfl h⟩
    · obtain ⟨hm, sm, hA2⟩ := rdA 4 h.l; exact mapA_mono sm hA2
    · obtain ⟨hm, sm, hA2⟩ := rdA 3 h.l; exact mapA_mono sm hA2
    · obtain ⟨hm, sm, hA2⟩ := rdA 1 h.l; exact mapA_mono sm hA2
    have e := hps s
    cases hq : getQ s ps with
    | none =>
      have e0 : getK s ps = [] := by unfold getK; rw [hq]
      rw [e0] at e
      have e1 : byR g g.prods.length s = [] := List.map_eq_nil_iff.1 e.symm
      rw [assoc_mV, hq, e1]
      exact ⟨none, 0, rfl, rdS.nil⟩
    | some q =>
      have e0 : getK s ps = q.2 := by unfold getK; rw [hq]
      rw [e0] at e
      obtain ⟨hq1, sq, ho⟩ := mS_read (starL_tail (starL_tail h.l)) hq
      have hl : q.2.length = (byR g g.prods.length s).length := by rw [e, List.length_map]
      refine ⟨q.1.1, q.1.2, by rw [assoc_mV, hq]; show slQ q = _; unfold slQ; rw [hl], ?_⟩
      rw [← e, ← hl]
      exact (rdI_of rfl (own_rdVh ho)).mono sq
  have h1 : j < x.pl := by have := of_decide_eq_true h1; omega
  obtain ⟨p, ad, vs, hp1, hpa, hp2, ra, rl, rc, rfl, hrc, hp3⟩ := hgw.p.get h1
  refine idx_n hpa h1 ⟨_, _, _, _, _, hp2.at (sub.trans g14 s31) rfl, newC_i h fun k64 w32 h => stR_i h rfl (by simp [oneC]) fun w33 h => br_intro (fun h3 => ?_) fun h3 => ?_⟩
  rotate_left
  · have h3 : ¬0 < j := by have := of_decide_eq_false h3; omega
    exact ⟨⟨by omega, by omega⟩, ⟨j + 1, ps, by simp, h1, fun s => by rw [byR_succ hp1, if_neg (fun h => h3 h.2), List.append_nil]; exact hps s, h.pick 8 [1, 2, 3, 4, 5, 6, 7]⟩, msr h1⟩
  have h3 : 0 < j := by have := of_decide_eq_true h3; omega
  intro w34 hd
  have h := h.eq (drawn_hp hd)
  have cm : ∀ {u : World} {L' : List Asn}, St u (cel km C :: L') → u.cell? ((aM km).add 12) = some (.map (some kp)) := fun h => (rdCel 0 h.l).cell (sub.refl _) (j := 12) c12
  have cp : ∀ {u : World} {L' : List Asn}, St u (cel k64 [.int .i64 p.left, .slice ra rl rc, .int .i64 p.level] :: L') → u.cell? (aM k64) = some (.int .i64 p.left) := fun h => (rdCel 0 h.l).cell0 (sub.refl _)
  refine ⟨fun u => u.cell? ((aM km).add 12) = some (.map (some kp)) ∧ u.cell? (aM k64) = some (.int .i64 p.left), ⟨cm (h.pick 2 [1]), cp h⟩, _, fun u hu => hu.1, _, fun u hu => hu.2, _, fun u hu => hu.1, _, fun u hu => hu.2, ?_, ?_⟩
  · refine (map_lookup (κ := Int) tyOk (rfl : kdOfT Ty _ = .map _ _) und_int rfl rfl (h.pick 3 [2]) p.left).mono ?_
    rintro _ _ ⟨rfl, rfl⟩
    obtain ⟨q, M, e1, e2, hq, back⟩ := mS_take rfl (h.pick 4 [3, 0, 1, 2]) p.left
    have hql : q.2.length ≤ j := by rw [e2, hps, List.length_map]; exact byR_len _ _ _
    refine ⟨_, _, _, e1, ⟨cm (hq.pick 4 [3]), cp (hq.pick 3 [2])⟩, newC_i hq fun k19 w13 h => ⟨⟨cm (h.pick 5 [4]), cp (h.pick 4 [3])⟩, ?_⟩⟩
    refine (app_one (us := iv q.2) tyOk (rfl : kdOfT Ty _ = .slice _) (rfl : kdOfT Ty _ = .slice _) rfl rfl rfl h rfl (by simp [oneC]) (by show (q.2.length + 1) * 8 ≤ _; omega) (by omega)).mono ?_
    rintro _ w14 ⟨o, c', rfl, h⟩
    refine ⟨_, _, _, rfl, ⟨cm (h.pick 5 [4]), cp (h.pick 4 [3])⟩, (map_update (κ := Int) tyOk (rfl : kdOfT Ty _ = .map _ _) und_int (h.pick 6 [5, 0, 2, 4]) p.left _).mono ?_⟩
    rintro _ w15 h
    have h := mS_put back (q.2 ++ [(j : Int)]) (by simp) (by simp [iv]) h
    exact ⟨⟨by omega, by omega⟩, ⟨j + 1, _, by simp, h1, fun s => by rw [getK_put, byR_succ hp1, e2, hps]; by_cases e : s = p.left <;> simp [e, hps, h3], h.pick 3 [2, 0, 1]⟩, msr h1⟩
  · refine newC_i h fun k22 w16 h => ⟨⟨cm (h.pick 3 [2]), cp (h.pick 2 [1])⟩, (map_lookup (κ := Int) tyOk (rfl : kdOfT Ty _ = .map _ _) und_int rfl rfl (h.pick 4 [3]) p.left).mono ?_⟩
    rintro _ _ ⟨rfl, rfl⟩
    obtain ⟨q, M, e1, e2, hq, back⟩ := mS_take rfl (h.pick 5 [4, 0, 1, 2, 3]) p.left
    have hql : q.2.length ≤ j := by rw [e2, hps, List.length_map]; exact byR_len _ _ _
    refine ⟨_, _, _, e1, ⟨cm (hq.pick 5 [4]), cp (hq.pick 4 [3])⟩, ?_⟩
    refine (app_one (us := iv q.2) tyOk (rfl : kdOfT Ty _ = .slice _) (rfl : kdOfT Ty _ = .slice _) rfl rfl rfl (hq.pick 3 [2, 0, 1]) rfl (by simp [oneC]) (by show (q.2.length + 1) * 8 ≤ _; omega) (by omega)).mono ?_
    rintro _ w14 ⟨o, c', rfl, h⟩
    refine ⟨_, _, _, rfl, ⟨cm (h.pick 5 [4]), cp (h.pick 4 [3])⟩, (map_update (κ := Int) tyOk (rfl : kdOfT Ty _ = .map _ _) und_int (h.pick 6 [5, 0, 2, 4]) p.left _).mono ?_⟩
    rintro _ w15 h
    have h := mS_put back (q.2 ++ [(j : Int)]) (by simp) (by simp [iv]) h
    exact ⟨⟨by omega, by omega⟩, ⟨j + 1, _, by simp, h1, fun s => by rw [getK_put, byR_succ hp1, e2, hps]; by_cases e : s = p.left <;> simp [e, hps, h3], h.pick 3 [2, 0, 1]⟩, msr h1⟩
end Go.Proofs.YtkmjjnjngcpjmaaGreatDoor
