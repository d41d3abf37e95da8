/- Texts of this claim, one behind the other. -/
import Derived.Test.YtcapljamcepmkaaDoorG2
import Derived.Test.YtcapljamcepmkaaDoorG1
import Derived.Test.YtcapljamcepmkaaDoorCards
import Derived.Test.YtcapljamcepmkaaDoorTie
import Derived.WalkKit
import Derived.ProofKit
import Derived.OpenShut
import Derived.Carry
import Derived.OpenVars
import Derived.Deep.DeepHandedRow
import Derived.Lib.LaidTab
set_option linter.unusedVariables false
namespace Go.V
theorem name_it0 {α : Sort _} (a : α) : ∃ q, q = a := ⟨a, rfl⟩
theorem rowH_app {h : Hp} {a : Addr} {us vs : List Value} (h1 : rowH h a us) (h2 : rowH h (a.add us.length) vs) : rowH h a (us ++ vs) := fun j v hj => by
  by_cases hl : j < us.length
  · rw [List.getElem?_append_left hl] at hj; exact h1 j v hj
  · rw [List.getElem?_append_right (by omega)] at hj
    have := h2 _ v hj
    rw [add_add, show us.length + (j - us.length) = j from by omega] at this
    exact this
theorem rowH_flat {α : Type} {h : Hp} {n : Nat} {f : α → List Value} (hf : ∀ x, (f x).length = n) : ∀ (ts : List α) (ad : Addr), (∀ (i : Nat) x, ts[i]? = some x → rowH h (ad.add (mulS i n)) (f x)) → rowH h ad (ts.flatMap f)
  | [], ad, _ => fun j v hj => by simp at hj
  | t :: ts, ad, hh => by
    rw [List.flatMap_cons]
    refine rowH_app ?_ ?_
    · have := hh 0 t rfl
      rwa [mulS_eq, Nat.zero_mul, show ad.add 0 = ad from by simp [Addr.add]] at this
    · rw [hf]
      refine rowH_flat hf ts _ fun i x hx => ?_
      have := hh (i + 1) x hx
      rw [add_add, mulS_eq]
      rwa [mulS_eq, Nat.succ_mul, Nat.add_comm] at this
theorem rowH_unflat {α : Type} {h : Hp} {n : Nat} {f : α → List Value} (hf : ∀ x, (f x).length = n) : ∀ (ts : List α) (ad : Addr), rowH h ad (ts.flatMap f) → ∀ (i : Nat) x, ts[i]? = some x → rowH h (ad.add (mulS i n)) (f x)
  | [], ad, _, i, x, hx => by simp at hx
  | t :: ts, ad, hh, i, x, hx => by
    rw [List.flatMap_cons] at hh
    match i, hx with
    | 0, hx =>
      cases hx
      rw [mulS_eq, Nat.zero_mul, show ad.add 0 = ad from by simp [Addr.add]]
      exact hh.take
    | i + 1, hx =>
      have := rowH_unflat hf ts _ hh.drop i x hx
      rw [hf, add_add, mulS_eq] at this
      rwa [mulS_eq, Nat.succ_mul, Nat.add_comm]
def termV (t : TermT) : List Value := [.string t.name, .int .i64 t.level]
def termsV (ts : List TermT) : List Value := ts.flatMap termV
def prodV (p : (Option Addr × Nat) × ProdT) : List Value := [.int .i64 p.2.left, .slice p.1.1 p.2.right.length p.1.2, .int .i64 p.2.level]
def prodsV (os : List (Option Addr × Nat)) (ps : List ProdT) : List Value := (os.zip ps).flatMap prodV
def rightsA (os : List (Option Addr × Nat)) (ps : List ProdT) : List Asn := List.zipWith (fun o p => own 1 o.1 p.right.length o.2 (iv p.right)) os ps
theorem termsV_len (ts : List TermT) : (termsV ts).length = ts.length * 2 := by
  induction ts with
  | nil => rfl
  | cons t ts ih => simp only [termsV, List.flatMap_cons, List.length_append, List.length_cons, termV, List.length_nil] at ih ⊢; omega
theorem rdT_row {h : Hp} {ts : List TermT} {ad : Addr} {l : Nat} (r : rdS h ts (some ad) l) : rowH h ad (termsV ts) :=
  rowH_flat (f := termV) (n := 2) (fun _ => rfl) ts ad fun i x hx => by
    obtain ⟨ad', vs, e, h1, h2⟩ := r.2 i x hx
    cases e
    have h2 : vs = termV x := h2
    rw [← h2]; exact h1
theorem rdT_own {h : Hp} {ts : List TermT} {a : Option Addr} {l c : Nat} (hl : ts.length = l) (r : own 2 a l c (termsV ts) h) : rdS h ts a l := by
  refine ⟨hl, fun i x hx => ?_⟩
  rcases own_rdVh r with e | ⟨ad, rfl, hc⟩
  · have := termsV_len ts
    rw [e] at this
    have h0 := (List.getElem?_eq_some_iff.1 hx).1
    simp at this; omega
  · exact ⟨ad, termV x, rfl, rowH_unflat (f := termV) (n := 2) (fun _ => rfl) ts ad hc i x hx, rfl⟩
theorem prodsV_row {os : List (Option Addr × Nat)} {ps : List ProdT} {h : Hp} {ad : Addr} (hr : rowH h ad (prodsV os ps)) {i : Nat} {o : Option Addr × Nat} {p : ProdT} (ho : os[i]? = some o) (hp : ps[i]? = some p) : rowH h (ad.add (mulS i 3)) [.int .i64 p.left, .slice o.1 p.right.length o.2, .int .i64 p.level] :=
  rowH_unflat (f := prodV) (n := 3) (fun _ => rfl) (os.zip ps) ad hr i (o, p) (by rw [List.getElem?_zip_eq_some]; exact ⟨ho, hp⟩)
theorem prodsV_len {os : List (Option Addr × Nat)} {ps : List ProdT} (h : os.length = ps.length) : (prodsV os ps).length = ps.length * 3 := by
  have : ∀ zs : List ((Option Addr × Nat) × ProdT), (zs.flatMap prodV).length = zs.length * 3 := fun zs => by
    induction zs with
    | nil => rfl
    | cons t ts ih => simp only [List.flatMap_cons, List.length_append, List.length_cons, prodV, List.length_nil] at ih ⊢; omega
  unfold prodsV; rw [this, List.length_zip, h, Nat.min_self]
theorem prodsV_snoc {os : List (Option Addr × Nat)} {ps : List ProdT} (h : os.length = ps.length) (o : Option Addr × Nat) (p : ProdT) : prodsV (os ++ [o]) (ps ++ [p]) = prodsV os ps ++ prodV (o, p) := by
  unfold prodsV; rw [List.zip_append h]; simp
theorem rightsA_snoc {os : List (Option Addr × Nat)} {ps : List ProdT} (h : os.length = ps.length) (o : Option Addr × Nat) (p : ProdT) : rightsA (os ++ [o]) (ps ++ [p]) = rightsA os ps ++ [own 1 o.1 p.right.length o.2 (iv p.right)] := by
  unfold rightsA; rw [List.zipWith_append h]; rfl
def ownG (g : GramT) (x : GA) (os : List (Option Addr × Nat)) : List Asn := [own 3 x.pa g.prods.length x.pc (prodsV os g.prods), sta (rightsA os g.prods), own 2 x.ta g.terms.length x.tc (termsV g.terms), own 1 x.na g.nons.length x.nc (g.nons.map fun s => Value.string s), own 1 x.la g.levels.length x.lc (iv g.levels)]
structure ownX (g : GramT) (x : GA) : Prop where
  t : x.tl = g.terms.length
  n : x.nl = g.nons.length
  l : x.ll = g.levels.length
  s : x.s = g.start
  p : x.pl = g.prods.length
theorem rdRight {L : List Asn} {h : Hp} {os : List (Option Addr × Nat)} {ps : List ProdT} {k : Nat} {o : Option Addr × Nat} {p : ProdT} (i : Nat) (hl : starL L h) (ho : os[k]? = some o) (hp : ps[k]? = some p) (e : nthA L i = sta (rightsA os ps) := by rfl) (hi : Nat.blt i (lenA L) = true := by rfl) : rdS h p.right o.1 p.right.length ∧ p.right.length ≤ o.2 := by
  obtain ⟨h1, s, ha⟩ := starL_nth i (by simpa [lenA_eq] using hi) hl
  rw [e] at ha
  obtain ⟨h2, s2, hb⟩ := starL_in (A := own 1 o.1 p.right.length o.2 (iv p.right)) (List.mem_of_getElem? (i := k) (by unfold rightsA; rw [List.getElem?_zipWith, ho, hp])) ha
  refine ⟨(rdI_of rfl (own_rdVh hb)).mono (s2.trans s), ?_⟩
  rcases hb with ⟨_, h, h', _⟩ | ⟨_, _, _, _, _, _, _, _, h⟩ <;> omega
theorem rdA {L : List Asn} {h : Hp} {A : Asn} (i : Nat) (hl : starL L h) (e : nthA L i = A := by rfl) (hi : Nat.blt i (lenA L) = true := by rfl) : ∃ h1, sub h1 h ∧ A h1 := by
  obtain ⟨h1, s, ha⟩ := starL_nth i (by simpa [lenA_eq] using hi) hl
  exact ⟨h1, s, e ▸ ha⟩
theorem ownH_le' {sz l c : Nat} {a : Option Addr} {vs : List Value} {h : Hp} (ha : own sz a l c vs h) : l ≤ c := by
  rcases ha with ⟨_, rfl, rfl, _⟩ | ⟨_, _, _, _, _, _, _, _, h⟩
  · exact Nat.le_refl _
  · exact h
theorem ownG_gR {g : GramT} {x : GA} {os : List (Option Addr × Nat)} {L : List Asn} {h : Hp} (hx : ownX g x) (ho : os.length = g.prods.length) (hs : starL (ownG g x os ++ L) h) : gR h g x := by
  obtain ⟨h1, s1, a1⟩ := rdA (A := own 3 x.pa g.prods.length x.pc (prodsV os g.prods)) 0 hs
  obtain ⟨h2, s2, a2⟩ := rdA (A := own 2 x.ta g.terms.length x.tc (termsV g.terms)) 2 hs
  obtain ⟨h3, s3, a3⟩ := rdA (A := own 1 x.na g.nons.length x.nc (g.nons.map fun s => Value.string s)) 3 hs
  obtain ⟨h4, s4, a4⟩ := rdA (A := own 1 x.la g.levels.length x.lc (iv g.levels)) 4 hs
  obtain ⟨q1, q2, q3, q4, q5⟩ := hx
  refine ⟨?_, ?_, ?_, q4, ?_, ?_, ?_, ?_, ?_⟩
  · rw [q1]; exact (rdT_own rfl a2).mono s2
  · rw [q2]; exact (rdS_of_row rfl (own_rdVh a3)).mono s3
  · rw [q3]; exact (rdI_of rfl (own_rdVh a4)).mono s4
  · rw [q5]
    refine ⟨rfl, fun i p hp => ?_⟩
    have hi := (List.getElem?_eq_some_iff.1 hp).1
    obtain ⟨o, hoi⟩ : ∃ o, os[i]? = some o := ⟨os[i]'(by omega), List.getElem?_eq_getElem _⟩
    rcases own_rdVh a1 with e | ⟨ad, e, hc⟩
    · have := prodsV_len ho
      rw [e] at this; simp at this; omega
    · obtain ⟨r1, r2⟩ := rdRight (k := i) (o := o) (p := p) 1 hs hoi hp
      exact ⟨ad, _, e, (prodsV_row hc hoi hp).mono s1, o.1, _, o.2, rfl, r2, r1⟩
  · rw [q1]; exact ownH_le' a2
  · rw [q2]; exact ownH_le' a3
  · rw [q3]; exact ownH_le' a4
  · rw [q5]; exact ownH_le' a1
end Go.V
namespace Go.Proofs.YtcapljamcepmkaaDoor
open Go.V
section
variable {w : World} {L : List Asn} {g : GramT} {x : GA}
set_option maxHeartbeats 4000000 in
theorem d_Copy (hg : gR (hp w) g x) (hb : okG g) (hbT : g.terms.length * 24 ≤ 140737488355328) (hbN : g.nons.length * 16 ≤ 140737488355328) : Run Tryd.prog n_presageref02_Copy [.agg ⟨x.cells⟩] w fun v w' => ∃ (x' : GA) (os : List (Option Addr × Nat)), v = .agg ⟨x'.cells⟩ ∧ ownX g x' ∧ os.length = g.prods.length ∧ St w' (ownG g x' os ++ all w) := by
  refine run_presageref02_Copy _ _ _ _ _ _ _ _ _ _ _ _ _ w _ ?_
  refine gbox hg fun k1 w1 gw hg B => ?_
  have tl := hg.t.1
  have nl := hg.n.1
  have ll := hg.l.1
  have pl := hg.p.1
  have hst := hg.s
  obtain ⟨b1, b2, b3, b4, b5, b6, b7⟩ := hb
  have gs : sub (hp w) (hp w1) := gw
  have h1 := St.all w1
  unfold V.all at h1
  generalize hH : hp w1 = H at *
  refine newC_i h1 fun k2 w2 h => ⟨_, B.c3 (rdH 1 h.l), newC_i h fun k3 w3 h => stR_i h rfl (by intro v hv; simp at hv; rcases hv with rfl | rfl | rfl | rfl | rfl <;> rfl) fun w4 h => ?_⟩
  refine ⟨_, _, _, h.cell 0, _, _, _, B.c0 (rdH 2 h.l), ?_⟩
  refine (app_own' tyOk (rfl : kdOfT Ty _ = .slice _) rfl rfl rfl (own_nil 2 h) (src_slice (news := termsV g.terms) tyOk (rfl : kdOfT Ty _ = .slice _) (n := x.tl) (by rw [termsV_len, tl]) ?_ (by
      intro u hu
      obtain ⟨t, _, ht⟩ := List.mem_flatMap.1 hu
      simp [termV] at ht; rcases ht with rfl | rfl <;> rfl)) (by show (0 + x.tl) * 24 ≤ _; omega) (by omega)).mono ?_
  · by_cases h0 : x.tl = 0
    · exact .inl h0
    · obtain ⟨t, ad, vs, _, ha, _⟩ := hg.t.get (i := 0) (by omega)
      have ht := hg.t
      rw [ha] at ht
      exact .inr ⟨ad, ha, fun j u hj => (rdT_row ht).cell (rdH 2 h.l) hj⟩
  rintro _ w5 ⟨ta, tc, rfl, h⟩
  rw [Nat.zero_add, ← tl] at h ⊢
  rw [List.nil_append] at h
  refine ⟨_, _, _, rfl, st1_i (h.pick 4 [1, 0, 2, 3]) (by simp) fun w6 h => ?_⟩
  refine ⟨_, _, _, h.cell 1, _, _, _, B.c1 (rdH 3 h.l), ?_⟩
  refine (app_own' tyOk (rfl : kdOfT Ty _ = .slice _) rfl rfl rfl (own_nil 1 h) (src_slice (news := g.nons.map fun s => Value.string s) tyOk (rfl : kdOfT Ty _ = .slice _) (n := x.nl) (by rw [List.length_map, nl, Nat.mul_one]) ?_ (by
      intro u hu
      obtain ⟨t, _, rfl⟩ := List.mem_map.1 hu
      rfl)) (by show (0 + x.nl) * 16 ≤ _; omega) (by omega)).mono ?_
  · rcases (hg.n.mono (rdH 3 h.l)).row with h0 | ⟨ad, ha, hc⟩
    · exact .inl (by have := congrArg List.length h0; rw [List.length_map, nl] at this; exact this)
    · exact .inr ⟨ad, ha, fun j u hj => cellH_w (hc j u hj)⟩
  rintro _ w7 ⟨na, nc, rfl, h⟩
  rw [Nat.zero_add, ← nl] at h ⊢
  rw [List.nil_append] at h
  refine ⟨_, _, _, rfl, ?_⟩
  rw [add_lit0]
  refine st1_i (h.pick 5 [1, 0, 2, 3, 4]) (by simp) fun w8 h => ?_
  refine ⟨_, _, _, h.cell 2, _, _, _, B.c2 (rdH 4 h.l), ?_⟩
  refine (app_own' tyOk (rfl : kdOfT Ty _ = .slice _) rfl rfl rfl (own_nil 1 h) (src_slice (news := iv g.levels) tyOk (rfl : kdOfT Ty _ = .slice _) (n := x.ll) (by rw [iv_len, ll, Nat.mul_one]) ?_ (by
      intro u hu
      obtain ⟨t, _, rfl⟩ := List.mem_map.1 hu
      rfl)) (by show (0 + x.ll) * 8 ≤ _; omega) (by omega)).mono ?_
  · rcases (hg.l.mono (rdH 4 h.l)).iv with h0 | ⟨ad, ha, hc⟩
    · exact .inl (by have := congrArg List.length h0; rw [iv_len, ll] at this; exact this)
    · exact .inr ⟨ad, ha, fun j u hj => cellH_w (hc j u hj)⟩
  rintro _ w9 ⟨la, lc, rfl, h⟩
  rw [Nat.zero_add, ← ll] at h ⊢
  rw [List.nil_append] at h
  refine ⟨_, _, _, rfl, ?_⟩
  rw [add_lit0]
  refine st1_i (h.pick 6 [1, 0, 2, 3, 4, 5]) (by simp) fun w10 h => ?_
  obtain ⟨K, hK⟩ := name_it0 (fun (pa : Option Addr) (j pc : Nat) => [Value.slice ta g.terms.length tc, .slice na g.nons.length nc, .slice la g.levels.length lc, .int .i64 x.s, .slice pa j pc])
  refine ⟨fun n w' => ∃ (j : Nat) (pa : Option Addr) (pc : Nat) (os : List (Option Addr × Nat)), n = j ∧ j ≤ g.prods.length ∧ os.length = j ∧ St w' [cel k3 (K pa j pc), own 3 pa j pc (prodsV os (g.prods.take j)), sta (rightsA os (g.prods.take j)), own 1 la g.levels.length lc (iv g.levels), own 1 na g.nons.length nc (g.nons.map fun s => Value.string s), own 2 ta g.terms.length tc (termsV g.terms), cel k2 [.slice none 0 0, .slice none 0 0, .slice none 0 0, .int .i64 0, .slice none 0 0], has H], fun n _ => g.prods.length - n.toNat, ⟨0, none, 0, [], rfl, by omega, rfl, ?_⟩, ?_⟩
  · have h : St w10 (sta (rightsA [] (g.prods.take 0)) :: _) := St.flat.2 (show St w10 ([] ++ _) from own_nil 3 h)
    rw [hK]
    exact h.pick 8 [2, 1, 0, 3, 4, 5, 6, 7]
  clear h
  rintro _ n w11 ⟨j, pa, pc, os, rfl, hj, hos, h⟩
  have hrl : (g.prods.take j).length = j := by rw [List.length_take]; omega
  refine ⟨_, _, _, B.c4 (rdH 7 h.l), br_intro (fun h2 => ?_) fun h2 => ?_⟩
  · have h2 : j < g.prods.length := by have := of_decide_eq_true h2; omega
    obtain ⟨p, ad, vs, hp1, hpa, hp2, ra, rl, rc, rfl, hrc, hp3⟩ := hg.p.get (i := j) (by omega)
    have hpm := List.mem_of_getElem? hp1
    have b7' := b7 p hpm
    have rl1 := hp3.1
    have et : g.prods.take (j + 1) = g.prods.take j ++ [p] := by rw [List.take_add_one, hp1]; rfl
    intro w12 hd
    have h := h.drawn hd
    refine ⟨fun w => sub H (hp w), rdH 7 h.l, _, _, _, fun w s => B.c4 s, idx_n hpa (by omega) ⟨_, fun w s => hp2.cell0 s, _, _, _, fun w s => B.c4 s, idx_n hpa (by omega) ⟨_, fun w s => hp2.cell s (j := 2) rfl, newC_i h fun k28 w17 h => ⟨rdH 8 h.l, stR_i h rfl (by intro v hv; simp at hv; rcases hv with rfl | rfl | rfl <;> rfl) fun w18 h => ?_⟩⟩⟩⟩
    intro w19 hd
    have h := h.drawn hd
    refine ⟨fun w => rowH (hp w) ⟨k28, 0, none⟩ [.int .i64 p.left, .slice none 0 0, .int .i64 p.level] ∧ sub H (hp w), ⟨rdCel 0 h.l, rdH 8 h.l⟩, _, _, _, fun w s => s.1.cell (sub.refl _) (j := 1) rfl, _, _, _, fun w s => B.c4 s.2, idx_n hpa (by omega) ⟨_, _, _, fun w s => hp2.cell s.2 (j := 1) rfl, ?_⟩⟩
    refine (app_own' tyOk (rfl : kdOfT Ty _ = .slice _) rfl rfl rfl (own_nil 1 h) (src_slice (news := iv p.right) tyOk (rfl : kdOfT Ty _ = .slice _) (n := rl) (by rw [iv_len, rl1, Nat.mul_one]) ?_ (by
      intro u hu
      obtain ⟨t, _, rfl⟩ := List.mem_map.1 hu
      rfl)) (by show (0 + rl) * 8 ≤ _; omega) (by omega)).mono ?_
    · rcases (hp3.mono (rdH 8 h.l)).iv with h0 | ⟨ad, ha, hc⟩
      · exact .inl (by have := congrArg List.length h0; rw [iv_len, rl1] at this; exact this)
      · exact .inr ⟨ad, ha, fun j u hj => cellH_w (hc j u hj)⟩
    rintro _ w23 ⟨qa, qc, rfl, h⟩
    rw [Nat.zero_add, ← rl1] at h ⊢
    rw [List.nil_append] at h
    refine ⟨_, _, _, rfl, ⟨rdCel 1 h.l, rdH 9 h.l⟩, ?_⟩
    rw [add_lit0]
    refine st1_i (h.pick 10 [1, 0, 2, 3, 4, 5, 6, 7, 8, 9]) (by simp) fun w24 h => ?_
    have ck : w24.cell? ((⟨k3, 0, none⟩ : Addr).add 4) = some (.slice pa j pc) := by
      have r : rowH (hp w24) ⟨k3, 0, none⟩ (K pa j pc) := rdCel 2 h.l
      rw [hK] at r
      exact r.cell (sub.refl _) (j := 4) rfl
    refine ⟨_, _, _, ck, _, _, _, _, _, h.row.at (sub.refl _) rfl, newC_i h fun k41 w25 h => ?_⟩
    have h : St w25 [cel k41 (prodV ((qa, qc), p)), cel k28 _, own 1 qa p.right.length qc (iv p.right), cel k3 (K pa j pc), own 3 pa j pc (prodsV os (g.prods.take j)), sta (rightsA os (g.prods.take j)), own 1 la g.levels.length lc (iv g.levels), own 1 na g.nons.length nc (g.nons.map fun s => Value.string s), own 2 ta g.terms.length tc (termsV g.terms), cel k2 [.slice none 0 0, .slice none 0 0, .slice none 0 0, .int .i64 0, .slice none 0 0], has H] := h
    refine (app_one tyOk (rfl : kdOfT Ty _ = .slice _) (rfl : kdOfT Ty _ = .slice _) rfl rfl rfl (h.pick 11 [0, 4, 2, 3, 5, 6, 7, 8, 9, 10]) rfl (by simp [oneC, prodV]) (by show (_ + 1) * 40 ≤ _; omega) (by omega)).mono ?_
    rintro _ w26 ⟨pa', pc', rfl, h⟩
    refine ⟨_, _, _, rfl, ?_⟩
    rw [add_lit0]
    refine st1_i (h.pick 10 [3, 0, 2, 4, 5, 6, 7, 8, 9]) (by rw [hK]; simp) fun w27 h => ?_
    have eK : (K pa j pc).set 4 (.slice pa' (j + 1) pc') = K pa' (j + 1) pc' := by rw [hK]; rfl
    rw [eK] at h
    have h := St.snoc (A := own 1 qa p.right.length qc (iv p.right)) (M := rightsA os (g.prods.take j)) (h.pick 9 [2, 3, 0, 1, 4, 5, 6, 7, 8])
    have e1 := rightsA_snoc (hos.trans hrl.symm) (qa, qc) p
    have e2 := prodsV_snoc (hos.trans hrl.symm) (qa, qc) p
    dsimp only at e1
    rw [← e1, ← et] at h
    refine ⟨⟨by omega, by omega⟩, ⟨j + 1, pa', pc', os ++ [(qa, qc)], by simp, by omega, by simp [hos], ?_⟩, msr h2⟩
    rw [et] at h ⊢
    rw [e2]
    exact h.pick 8 [1, 2, 0, 3, 4, 5, 6, 7]
  · have h2 : j = g.prods.length := by have := of_decide_eq_false h2; omega
    subst h2
    rw [List.take_length] at h
    have r : rowH (hp w11) ⟨k3, 0, none⟩ (K pa g.prods.length pc) := rdCel 0 h.l
    rw [hK] at r
    refine ⟨_, _, _, _, _, _, _, _, _, _, _, _, _, r.at (sub.refl _) rfl, stR_i (h.pick 8 [6, 1, 2, 3, 4, 5, 7]) rfl (by intro v hv; simp at hv; rcases hv with rfl | rfl | rfl | rfl | rfl <;> rfl) fun w28 h => ?_⟩
    refine ⟨_, _, _, _, _, _, _, _, _, _, _, _, _, h.row.at (sub.refl _) rfl, ⟨ta, g.terms.length, tc, na, g.nons.length, nc, la, g.levels.length, lc, x.s, pa, g.prods.length, pc⟩, os, rfl, ⟨rfl, rfl, rfl, hst, rfl⟩, hos, ?_⟩
    exact St.on (N := [_, _, _, _, _]) (h.pick 7 [1, 2, 5, 4, 3, 6]) (has_i gs)
end
end Go.Proofs.YtcapljamcepmkaaDoor
set_option linter.unusedVariables false
namespace Go.V
def GramT.more (g : GramT) (q : ProdT) : GramT := { g with prods := g.prods ++ [q] }
theorem Nul.more {g : GramT} {q : ProdT} {s : Int} (h : Nul g s) : Nul (g.more q) s := by
  induction h with
  | mk p hp _ ih => exact .mk p (List.mem_append.2 (.inl hp)) ih
theorem Fst.more {g : GramT} {q : ProdT} {s : Int} {t : Nat} (h : Fst g s t) : Fst (g.more q) s t := by
  induction h with
  | tm t ht => exact .tm t ht
  | pr p i s t hp h1 h2 _ ih => exact .pr p i s t (List.mem_append.2 (.inl hp)) h1 (fun x hx => (h2 x hx).more) ih
end Go.V
namespace Go.Proofs.YtcapljamcepmkaaDoor
open Go.V
section
variable {w : World} {L : List Asn} {g : GramT} {x : GA}
end
end Go.Proofs.YtcapljamcepmkaaDoor
set_option linter.unusedVariables false
namespace Go.Proofs.YtcapljamcepmkaaDoor
open Go.V
abbrev n_cycle_Steps : FuncId := 10
def ann_cycle_Steps : Ann := { rngs := [], loops := [(6, [(6, (.one .slice)), (22, (.one (.int .i64)))])], joins := [], blocks := [] }
set_option maxRecDepth 100000 in
def vc_cycle_Steps (a : Option Addr) (b c : Nat) (d : Option Addr) (e f : Nat) (g : Option Addr) (i j : Nat) (k : Int) (l : Option Addr) (m n : Nat) (w : World) (R : Value → WP) : Prop :=  new w (oC [vS a b c, vS d e f, vS g i j, iI k, vS l m n] 27) fun k1 w1 => ∃ o1 k2 k3 o2 k4 k5 o3 k6 k7 n1 o4 k8 k9, V.rowAt w1 (aM k1) 0 5 = some [vS o1 k2 k3, vS o2 k4 k5, vS o3 k6 k7, iI n1, vS o4 k8 k9] ∧ rE 33 [vA (Array.mk [vS o1 k2 k3, vS o2 k4 k5, vS o3 k6 k7, iI n1, vS o4 k8 k9])] w1 fun v1 w2 => ∃ o5 n2, v1 = vT (Array.mk [vP o5, iI n2]) ∧ br (n2 != 0) (R (vT (Array.mk [vS none 0 0, iI n2])) w2) (nn o5 fun a1 => ∃ o6 k10 k11, World.cell? w2 a1 = some (vS o6 k10 k11) ∧ ∃ (x1 : lP [(6, shS), (22, shI)]), ∃ (x2 : lN [(6, shS), (22, shI)]), x1 none 0 0 0 w2 ∧ ∀ (I1 : Nat → Value) (o7 : Option Addr) (k12 k13 : Nat) (n3 : Int) (w3 : World), x1 o7 k12 k13 n3 w3 → br (decide (n3 < (↑k10 : Int))) (idx o6 k10 n3 1 fun a2 => ∃ o8, World.cell? w3 a2 = some (vP o8) ∧ rE 35 [vP o8] w3 fun v2 w4 => ∃ o9 k14 k15, v2 = vS o9 k14 k15 ∧ rE 34 [vP o5, vS o9 k14 k15] w4 fun v3 w5 => ∃ o10 k16 k17, v3 = vS o10 k16 k17 ∧ new w5 (oC [vS o10 k16 k17] 24) fun k18 w6 => rS (apB 28 (Array.mk [vS o7 k12 k13, vS (some (aM k18)) 1 1])) w6 fun v4 w7 => ∃ o11 k19 k20, v4 = vS o11 k19 k20 ∧ inI (n3 + 1) ∧ x1 o11 k19 k20 (n3 + 1) w7 ∧ x2 o11 k19 k20 (n3 + 1) w7 < x2 o7 k12 k13 n3 w3) (R (vT (Array.mk [vS o7 k12 k13, iI 0])) w3))
set_option maxRecDepth 100000 in
theorem run_cycle_Steps (a : Option Addr) (b c : Nat) (d : Option Addr) (e f : Nat) (g : Option Addr) (i j : Nat) (k : Int) (l : Option Addr) (m n : Nat) (w : World) (R : Value → WP) (h : vc_cycle_Steps a b c d e f g i j k l m n w R) : Run Tryd.prog 10 [(.agg #[(.slice a b c), (.slice d e f), (.slice g i j), (.int .i64 k), (.slice l m n)])] w R := rv Tryd.func10 ann_cycle_Steps (by kernel_rfl) h

abbrev n_cycle_On : FuncId := 12
def ann_cycle_On : Ann := { rngs := [], loops := [], joins := [], blocks := [] }
set_option maxRecDepth 100000 in
def vc_cycle_On (a : Option Addr) (b c : Nat) (d : Option Addr) (e f : Nat) (g : Option Addr) (i j : Nat) (k : Int) (l : Option Addr) (m n : Nat) (w : World) (R : Value → WP) : Prop :=  new w (oC [vS a b c, vS d e f, vS g i j, iI k, vS l m n] 27) fun k1 w1 => ∃ o1 k2 k3 o2 k4 k5 o3 k6 k7 n1 o4 k8 k9, V.rowAt w1 (aM k1) 0 5 = some [vS o1 k2 k3, vS o2 k4 k5, vS o3 k6 k7, iI n1, vS o4 k8 k9] ∧ rE 33 [vA (Array.mk [vS o1 k2 k3, vS o2 k4 k5, vS o3 k6 k7, iI n1, vS o4 k8 k9])] w1 fun v1 w2 => ∃ o5 n2, v1 = vT (Array.mk [vP o5, iI n2]) ∧ br (n2 != 0) (R (vT (Array.mk [vS none 0 0, iI n2])) w2) (rE 36 [vP o5] w2 fun v2 w3 => ∃ o6 k10 k11, v2 = vS o6 k10 k11 ∧ rE 34 [vP o5, vS o6 k10 k11] w3 fun v3 w4 => ∃ o7 k12 k13, v3 = vS o7 k12 k13 ∧ R (vT (Array.mk [vS o7 k12 k13, iI 0])) w4)
set_option maxRecDepth 100000 in
theorem run_cycle_On (a : Option Addr) (b c : Nat) (d : Option Addr) (e f : Nat) (g : Option Addr) (i j : Nat) (k : Int) (l : Option Addr) (m n : Nat) (w : World) (R : Value → WP) (h : vc_cycle_On a b c d e f g i j k l m n w R) : Run Tryd.prog 12 [(.agg #[(.slice a b c), (.slice d e f), (.slice g i j), (.int .i64 k), (.slice l m n)])] w R := rv Tryd.func12 ann_cycle_On (by kernel_rfl) h

abbrev n_cycle_Find : FuncId := 13
def ann_cycle_Find : Ann := { rngs := [], loops := [(10, [(8, (.one .slice)), (9, (.one .ptr))])], joins := [], blocks := [] }
set_option maxRecDepth 100000 in
def vc_cycle_Find (a : Option Addr) (b c : Nat) (d : Option Addr) (e f : Nat) (g : Option Addr) (i j : Nat) (k : Int) (l : Option Addr) (m n : Nat) (w : World) (R : Value → WP) : Prop :=  new w (oC [vS a b c, vS d e f, vS g i j, iI k, vS l m n] 27) fun k1 w1 => ∃ o1 k2 k3 o2 k4 k5 o3 k6 k7 n1 o4 k8 k9, V.rowAt w1 (aM k1) 0 5 = some [vS o1 k2 k3, vS o2 k4 k5, vS o3 k6 k7, iI n1, vS o4 k8 k9] ∧ rE 33 [vA (Array.mk [vS o1 k2 k3, vS o2 k4 k5, vS o3 k6 k7, iI n1, vS o4 k8 k9])] w1 fun v1 w2 => ∃ o5 n2, v1 = vT (Array.mk [vP o5, iI n2]) ∧ br (n2 != 0) (R (vT (Array.mk [vS none 0 0, iI n2])) w2) (rE 36 [vP o5] w2 fun v2 w3 => ∃ o6 k10 k11, v2 = vS o6 k10 k11 ∧ br ((↑k10 : Int) == 0) (R (vT (Array.mk [vS none 0 0, iI 0])) w3) (idx o6 k10 0 1 fun a1 => ∃ n3, World.cell? w3 a1 = some (iI n3) ∧ rE 37 [vP o5, iI n3] w3 fun v3 w4 => ∃ o7 k12 k13, v3 = vS o7 k12 k13 ∧ new w4 (oC [vS none 0 0] 24) fun k14 w5 => st1 w5 (aM k14) (vS o7 k12 k13) fun w6 => idx o6 k10 0 1 fun a2 => ∃ n4, World.cell? w6 a2 = some (iI n4) ∧ new w6 (oC [iI n4] 3) fun k15 w7 => ∀ w8, drawn w7 w8 → ∃ (I1 : World → Prop), I1 w8 ∧ ∃ o8 k16 k17, (∀ w9, I1 w9 → World.cell? w9 (aM k14) = some (vS o8 k16 k17)) ∧ idx o6 k10 0 1 fun a3 => ∃ n5, (∀ w10, I1 w10 → World.cell? w10 a3 = some (iI n5)) ∧ idx o8 k16 n5 1 fun a4 => ∃ n6, (∀ w11, I1 w11 → World.cell? w11 a4 = some (iI n6)) ∧ inI (n6 - 1) ∧ new w8 (oC [iI 0] 3) fun k18 w12 => I1 w12 ∧ st1 w12 (aM k18) (iI (n6 - 1)) fun w13 => ∃ (x1 : lP [(8, shS), (9, S1.one Cs.ptr)]), ∃ (x2 : lN [(8, shS), (9, S1.one Cs.ptr)]), x1 (some (aM k15)) 1 1 (some (aM k18)) w13 ∧ ∀ (I2 : Nat → Value) (o9 : Option Addr) (k19 k20 : Nat) (o10 : Option Addr) (w14 : World), x1 o9 k19 k20 o10 w14 → nn o10 fun a5 => ∃ n7, World.cell? w14 a5 = some (iI n7) ∧ br (decide (0 < n7)) (∀ w15, drawn w14 w15 → ∃ (I3 : World → Prop), I3 w15 ∧ nn o5 fun a6 => ∃ o11 k21 k22, (∀ w16, I3 w16 → World.cell? w16 a6 = some (vS o11 k21 k22)) ∧ inI ((↑k19 : Int) - 1) ∧ idx o9 k19 ((↑k19 : Int) - 1) 1 fun a7 => ∃ n8, (∀ w17, I3 w17 → World.cell? w17 a7 = some (iI n8)) ∧ idx o11 k21 n8 1 fun a8 => ∃ o12, (∀ w18, I3 w18 → World.cell? w18 a8 = some (vP o12)) ∧ rE 35 [vP o12] w15 fun v4 w19 => ∃ o13 k23 k24, v4 = vS o13 k23 k24 ∧ I3 w19 ∧ rE 38 [vS o13 k23 k24, Value.func (Fn.func 39) (Array.mk []) (Array.mk [vP (some (aM k14)), vP o10])] w19 fun v5 w20 => ∃ n9, v5 = iI n9 ∧ idx o13 k23 n9 1 fun a9 => ∃ n10, World.cell? w20 a9 = some (iI n10) ∧ new w20 (oC [iI n10] 3) fun k25 w21 => rS (apB 24 (Array.mk [vS o9 k19 k20, vS (some (aM k25)) 1 1])) w21 fun v6 w22 => ∃ o14 k26 k27, v6 = vS o14 k26 k27 ∧ nn o10 fun a10 => ∃ n11, World.cell? w22 a10 = some (iI n11) ∧ new w22 (oC [iI 0] 3) fun k28 w23 => st1 w23 (aM k28) (iI n11) fun w24 => ∃ n12, World.cell? w24 (aM k28) = some (iI n12) ∧ inI (n12 - 1) ∧ st1 w24 (aM k28) (iI (n12 - 1)) fun w25 => x1 o14 k26 k27 (some (aM k28)) w25 ∧ x2 o14 k26 k27 (some (aM k28)) w25 < x2 o9 k19 k20 o10 w14) (rE 34 [vP o5, vS o9 k19 k20] w14 fun v7 w26 => ∃ o15 k29 k30, v7 = vS o15 k29 k30 ∧ R (vT (Array.mk [vS o15 k29 k30, iI 0])) w26)))
set_option maxRecDepth 100000 in
theorem run_cycle_Find (a : Option Addr) (b c : Nat) (d : Option Addr) (e f : Nat) (g : Option Addr) (i j : Nat) (k : Int) (l : Option Addr) (m n : Nat) (w : World) (R : Value → WP) (h : vc_cycle_Find a b c d e f g i j k l m n w R) : Run Tryd.prog 13 [(.agg #[(.slice a b c), (.slice d e f), (.slice g i j), (.int .i64 k), (.slice l m n)])] w R := rv Tryd.func13 ann_cycle_Find (by kernel_rfl) h

abbrev n_cycle_spin : FuncId := 33
def ann_cycle_spin : Ann := { rngs := [], loops := [(8, [(34, (.one (.int .i64)))]), (12, [(53, (.one (.int .i64)))]), (17, [(10, (.one (.int .i64))), (61, (.one (.int .i64)))]), (23, [(74, (.one (.int .i64)))])], joins := [(26, [(96, (.one .bool))])], blocks := [] }
set_option maxRecDepth 100000 in
def vc_cycle_spin (a : Option Addr) (b c : Nat) (d : Option Addr) (e f : Nat) (g : Option Addr) (i j : Nat) (k : Int) (l : Option Addr) (m n : Nat) (w : World) (R : Value → WP) : Prop :=  new w (oC [vS a b c, vS d e f, vS g i j, iI k, vS l m n] 27) fun k1 w1 => ∃ o1 k2 k3 o2 k4 k5 o3 k6 k7 n1 o4 k8 k9, V.rowAt w1 (aM k1) 0 5 = some [vS o1 k2 k3, vS o2 k4 k5, vS o3 k6 k7, iI n1, vS o4 k8 k9] ∧ rE 56 [vA (Array.mk [vS o1 k2 k3, vS o2 k4 k5, vS o3 k6 k7, iI n1, vS o4 k8 k9])] w1 fun v1 w2 => ∃ b1, v1 = vB b1 ∧ br (!b1) (R (vT (Array.mk [vP none, iI 1])) w2) (∃ o5 k10 k11 o6 k12 k13 o7 k14 k15 n2 o8 k16 k17, V.rowAt w2 (aM k1) 0 5 = some [vS o5 k10 k11, vS o6 k12 k13, vS o7 k14 k15, iI n2, vS o8 k16 k17] ∧ rE 57 [vA (Array.mk [vS o5 k10 k11, vS o6 k12 k13, vS o7 k14 k15, iI n2, vS o8 k16 k17])] w2 fun v2 w3 => ∃ o9 k18 k19 n3, v2 = vT (Array.mk [vS o9 k18 k19, iI n3]) ∧ new w3 (oC [vS none 0 0] 37) fun k20 w4 => st1 w4 (aM k20) (vS o9 k18 k19) fun w5 => br (n3 != 0) (R (vT (Array.mk [vP none, iI n3])) w5) (∃ o10 k21 k22, World.cell? w5 (aM k1) = some (vS o10 k21 k22) ∧ new w5 (oC [vS none 0 0, iI (↑k21 : Int)] 66) fun k23 w6 => new w6 (oC [vP none] 61) fun k24 w7 => st1 w7 (aM k24) (vP (some (aM k23))) fun w8 => ∃ o11 k25 k26, World.cell? w8 (Addr.add (aM k1) 1) = some (vS o11 k25 k26) ∧ ∃ (x1 : lP [(34, shI)]), ∃ (x2 : lN [(34, shI)]), x1 0 w8 ∧ ∀ (I1 : Nat → Value) (n4 : Int) (w9 : World), x1 n4 w9 → br (decide (n4 < (↑k25 : Int))) (∀ w10, drawn w9 w10 → ∃ (I2 : World → Prop), I2 w10 ∧ ∃ o12, (∀ w11, I2 w11 → World.cell? w11 (aM k24) = some (vP o12)) ∧ ∃ o13, (∀ w12, I2 w12 → World.cell? w12 (aM k24) = some (vP o13)) ∧ nn o13 fun a1 => ∃ o14 k27 k28, (∀ w13, I2 w13 → World.cell? w13 a1 = some (vS o14 k27 k28)) ∧ ∃ o15 k29 k30, (∀ w14, I2 w14 → World.cell? w14 (Addr.add (aM k1) 1) = some (vS o15 k29 k30)) ∧ rE 52 [iI (↑k29 : Int), vS none 0 0] w10 fun v3 w15 => ∃ o16, v3 = vP o16 ∧ I2 w15 ∧ new w15 (oC [vP o16] 67) fun k31 w16 => I2 w16 ∧ rS (apB 64 (Array.mk [vS o14 k27 k28, vS (some (aM k31)) 1 1])) w16 fun v4 w17 => ∃ o17 k32 k33, v4 = vS o17 k32 k33 ∧ I2 w17 ∧ nn o12 fun a2 => st1 w17 a2 (vS o17 k32 k33) fun w18 => inI (n4 + 1) ∧ x1 (n4 + 1) w18 ∧ x2 (n4 + 1) w18 < x2 n4 w9) (∃ o18 k34 k35, World.cell? w9 (Addr.add (aM k1) 4) = some (vS o18 k34 k35) ∧ ∃ (x3 : lP [(53, shI)]), ∃ (x4 : lN [(53, shI)]), x3 0 w9 ∧ ∀ (I3 : Nat → Value) (n5 : Int) (w19 : World), x3 n5 w19 → br (decide (n5 < (↑k34 : Int))) (idx o18 k34 n5 3 fun a3 => ∃ n6 o19 k36 k37 n7, V.rowAt w19 a3 0 3 = some [iI n6, vS o19 k36 k37, iI n7] ∧ new w19 (oC [iI 0, vS none 0 0, iI 0] 41) fun k38 w20 => stR w20 (aM k38) [iI n6, vS o19 k36 k37, iI n7] fun w21 => ∃ o20 k39 k40, World.cell? w21 (Addr.add (aM k38) 1) = some (vS o20 k39 k40) ∧ ∃ (x5 : lP [(10, shI), (61, shI)]), ∃ (x6 : lN [(10, shI), (61, shI)]), x5 0 0 w21 ∧ ∀ (I4 : Nat → Value) (n8 n9 : Int) (w22 : World), x5 n8 n9 w22 → br (decide (n9 < (↑k39 : Int))) (idx o20 k39 n9 1 fun a4 => ∃ n10, World.cell? w22 a4 = some (iI n10) ∧ rE 58 [iI n10, vP (some (aM k24)), vP (some (aM k20))] w22 fun v5 w23 => ∃ b2, v5 = vB b2 ∧ br b2 (inI (n8 + 1) ∧ inI (n9 + 1) ∧ x5 (n8 + 1) (n9 + 1) w23 ∧ x6 (n8 + 1) (n9 + 1) w23 < x6 n8 n9 w22) (inI (n9 + 1) ∧ x5 n8 (n9 + 1) w23 ∧ x6 n8 (n9 + 1) w23 < x6 n8 n9 w22)) (∃ o21 k41 k42, World.cell? w22 (Addr.add (aM k38) 1) = some (vS o21 k41 k42) ∧ ∃ (x7 : lP [(74, shI)]), ∃ (x8 : lN [(74, shI)]), x7 0 w22 ∧ ∀ (I5 : Nat → Value) (n11 : Int) (w24 : World), x7 n11 w24 → br (decide (n11 < (↑k41 : Int))) (idx o21 k41 n11 1 fun a5 => ∃ n12, World.cell? w24 a5 = some (iI n12) ∧ ∃ (x9 : lP [(96, shB)]), (∃ o22, World.cell? w24 (aM k24) = some (vP o22) ∧ nn o22 fun a6 => ∃ n13, World.cell? w24 (Addr.add a6 1) = some (iI n13) ∧ br (decide (n13 ≤ n12)) (br (n8 == 0) (x9 true w24) (br (n8 == 1) (rE 58 [iI n12, vP (some (aM k24)), vP (some (aM k20))] w24 fun v6 w25 => ∃ b3, v6 = vB b3 ∧ x9 b3 w25) (x9 false w24))) (x9 false w24)) ∧ ∀ (I6 : Nat → Value) (b4 : Bool) (w26 : World), x9 b4 w26 → br b4 (∀ w27, drawn w26 w27 → ∃ (I7 : World → Prop), I7 w27 ∧ ∃ o23, (∀ w28, I7 w28 → World.cell? w28 (aM k24) = some (vP o23)) ∧ nn o23 fun a7 => ∃ o24 k43 k44, (∀ w29, I7 w29 → World.cell? w29 a7 = some (vS o24 k43 k44)) ∧ ∃ n14, (∀ w30, I7 w30 → World.cell? w30 (aM k38) = some (iI n14)) ∧ ∃ o25, (∀ w31, I7 w31 → World.cell? w31 (aM k24) = some (vP o25)) ∧ nn o25 fun a8 => ∃ n15, (∀ w32, I7 w32 → World.cell? w32 (Addr.add a8 1) = some (iI n15)) ∧ inI (n14 - n15) ∧ idx o24 k43 (n14 - n15) 1 fun a9 => ∃ o26, (∀ w33, I7 w33 → World.cell? w33 a9 = some (vP o26)) ∧ ∃ o27, (∀ w34, I7 w34 → World.cell? w34 (aM k24) = some (vP o27)) ∧ nn o27 fun a10 => ∃ n16, (∀ w35, I7 w35 → World.cell? w35 (Addr.add a10 1) = some (iI n16)) ∧ inI (n12 - n16) ∧ new w27 (oC [iI (n12 - n16)] 3) fun k45 w36 => I7 w36 ∧ rE 53 [vP o26, vS (some (aM k45)) 1 1] w36 fun v7 w37 => ∃ n17, v7 = iI n17 ∧ inI (n11 + 1) ∧ x7 (n11 + 1) w37 ∧ x8 (n11 + 1) w37 < x8 n11 w24) (inI (n11 + 1) ∧ x7 (n11 + 1) w26 ∧ x8 (n11 + 1) w26 < x8 n11 w24)) (inI (n5 + 1) ∧ x3 (n5 + 1) w24 ∧ x4 (n5 + 1) w24 < x4 n5 w19))) (∃ o28, World.cell? w19 (aM k24) = some (vP o28) ∧ R (vT (Array.mk [vP o28, iI 0])) w19))))
set_option maxRecDepth 100000 in
theorem run_cycle_spin (a : Option Addr) (b c : Nat) (d : Option Addr) (e f : Nat) (g : Option Addr) (i j : Nat) (k : Int) (l : Option Addr) (m n : Nat) (w : World) (R : Value → WP) (h : vc_cycle_spin a b c d e f g i j k l m n w R) : Run Tryd.prog 33 [(.agg #[(.slice a b c), (.slice d e f), (.slice g i j), (.int .i64 k), (.slice l m n)])] w R := rv Tryd.func33 ann_cycle_spin (by kernel_rfl) h

abbrev n_cycle_web_names : FuncId := 34
def ann_cycle_web_names : Ann := { rngs := [], loops := [(2, [(8, (.one (.int .i64)))])], joins := [], blocks := [] }
set_option maxRecDepth 100000 in
def vc_cycle_web_names (a b : Option Addr) (c d : Nat) (w : World) (R : Value → WP) : Prop :=  ∃ (x1 : lP [(8, shI)]), ∃ (x2 : lN [(8, shI)]), x1 0 w ∧ ∀ (I1 : Nat → Value) (n1 : Int) (w1 : World), x1 n1 w1 → br (decide (n1 < (↑c : Int))) (∀ w2, drawn w1 w2 → ∃ (I2 : World → Prop), I2 w2 ∧ idx b c n1 1 fun a1 => ∃ n2, (∀ w3, I2 w3 → World.cell? w3 a1 = some (iI n2)) ∧ nn a fun a2 => ∃ n3, (∀ w4, I2 w4 → World.cell? w4 (Addr.add a2 1) = some (iI n3)) ∧ inI (n2 + n3) ∧ idx b c n1 1 fun a3 => st1 w2 a3 (iI (n2 + n3)) fun w5 => inI (n1 + 1) ∧ x1 (n1 + 1) w5 ∧ x2 (n1 + 1) w5 < x2 n1 w1) (R (vS b c d) w1)
set_option maxRecDepth 100000 in
theorem run_cycle_web_names (a b : Option Addr) (c d : Nat) (w : World) (R : Value → WP) (h : vc_cycle_web_names a b c d w R) : Run Tryd.prog 34 [(.pointer a), (.slice b c d)] w R := rv Tryd.func34 ann_cycle_web_names (by kernel_rfl) h

abbrev n_cycle_web_on : FuncId := 36
def ann_cycle_web_on : Ann := { rngs := [], loops := [(3, [(3, (.one .slice)), (10, (.one (.int .i64)))])], joins := [], blocks := [] }
set_option maxRecDepth 100000 in
def vc_cycle_web_on (a : Option Addr) (w : World) (R : Value → WP) : Prop :=  nn a fun a1 => ∃ o1 k1 k2, World.cell? w a1 = some (vS o1 k1 k2) ∧ ∃ (x1 : lP [(3, shS), (10, shI)]), ∃ (x2 : lN [(3, shS), (10, shI)]), x1 none 0 0 0 w ∧ ∀ (I1 : Nat → Value) (o2 : Option Addr) (k3 k4 : Nat) (n1 : Int) (w1 : World), x1 o2 k3 k4 n1 w1 → br (decide (n1 < (↑k1 : Int))) (rE 37 [vP a, iI n1] w1 fun v1 w2 => ∃ o3 k5 k6, v1 = vS o3 k5 k6 ∧ idx o3 k5 n1 1 fun a2 => ∃ n2, World.cell? w2 a2 = some (iI n2) ∧ br (decide (0 < n2)) (new w2 (oC [iI n1] 3) fun k7 w3 => rS (apB 24 (Array.mk [vS o2 k3 k4, vS (some (aM k7)) 1 1])) w3 fun v2 w4 => ∃ o4 k8 k9, v2 = vS o4 k8 k9 ∧ inI (n1 + 1) ∧ x1 o4 k8 k9 (n1 + 1) w4 ∧ x2 o4 k8 k9 (n1 + 1) w4 < x2 o2 k3 k4 n1 w1) (inI (n1 + 1) ∧ x1 o2 k3 k4 (n1 + 1) w2 ∧ x2 o2 k3 k4 (n1 + 1) w2 < x2 o2 k3 k4 n1 w1)) (R (vS o2 k3 k4) w1)
set_option maxRecDepth 100000 in
theorem run_cycle_web_on (a : Option Addr) (w : World) (R : Value → WP) (h : vc_cycle_web_on a w R) : Run Tryd.prog 36 [(.pointer a)] w R := rv Tryd.func36 ann_cycle_web_on (by kernel_rfl) h

abbrev n_cycle_web_waves : FuncId := 37
def ann_cycle_web_waves : Ann := { rngs := [], loops := [(4, [(6, (.one .slice)), (7, (.one (.int .i64)))]), (8, [(8, (.one .slice)), (30, (.one (.int .i64)))]), (11, [(8, (.one .slice)), (35, (.one (.int .i64)))])], joins := [], blocks := [] }
set_option maxRecDepth 100000 in
def vc_cycle_web_waves (a : Option Addr) (b : Int) (w : World) (R : Value → WP) : Prop :=  nn a fun a1 => ∃ o1 k1 k2, World.cell? w a1 = some (vS o1 k1 k2) ∧ mkOk (↑k1 : Int) (↑k1 : Int) 8 ∧ new w (Obj.cells (Array.mk (reps (Int.toNat (↑k1 : Int)) [iI 0])) 3) fun k3 w1 => new w1 (oC [iI b] 3) fun k4 w2 => ∃ (x1 : lP [(6, shS), (7, shI)]), ∃ (x2 : lN [(6, shS), (7, shI)]), x1 (some (aM k4)) 1 1 1 w2 ∧ ∀ (I1 : Nat → Value) (o2 : Option Addr) (k5 k6 : Nat) (n1 : Int) (w3 : World), x1 o2 k5 k6 n1 w3 → br (decide (0 < (↑k5 : Int))) (nn a fun a2 => ∃ o3 k7 k8, World.cell? w3 a2 = some (vS o3 k7 k8) ∧ ∃ (x3 : lP [(8, shS), (30, shI)]), ∃ (x4 : lN [(8, shS), (30, shI)]), x3 none 0 0 0 w3 ∧ ∀ (I2 : Nat → Value) (o4 : Option Addr) (k9 k10 : Nat) (n2 : Int) (w4 : World), x3 o4 k9 k10 n2 w4 → br (decide (n2 < (↑k7 : Int))) (∃ (x5 : lP [(8, shS), (35, shI)]), ∃ (x6 : lN [(8, shS), (35, shI)]), x5 o4 k9 k10 0 w4 ∧ ∀ (I3 : Nat → Value) (o5 : Option Addr) (k11 k12 : Nat) (n3 : Int) (w5 : World), x5 o5 k11 k12 n3 w5 → br (decide (n3 < (↑k5 : Int))) (idx o2 k5 n3 1 fun a3 => ∃ n4, World.cell? w5 a3 = some (iI n4) ∧ idx (some (aM k3)) (Int.toNat (↑k1 : Int)) n2 1 fun a4 => ∃ n5, World.cell? w5 a4 = some (iI n5) ∧ br (n5 == 0) (nn a fun a5 => ∃ o6 k13 k14, World.cell? w5 a5 = some (vS o6 k13 k14) ∧ idx o6 k13 n2 1 fun a6 => ∃ o7, World.cell? w5 a6 = some (vP o7) ∧ rE 61 [vP o7, iI n4] w5 fun v1 w6 => ∃ b1, v1 = vB b1 ∧ br b1 (idx (some (aM k3)) (Int.toNat (↑k1 : Int)) n2 1 fun a7 => st1 w6 a7 (iI n1) fun w7 => new w7 (oC [iI n2] 3) fun k15 w8 => rS (apB 24 (Array.mk [vS o5 k11 k12, vS (some (aM k15)) 1 1])) w8 fun v2 w9 => ∃ o8 k16 k17, v2 = vS o8 k16 k17 ∧ inI (n2 + 1) ∧ x3 o8 k16 k17 (n2 + 1) w9 ∧ x4 o8 k16 k17 (n2 + 1) w9 < x4 o4 k9 k10 n2 w4) (inI (n3 + 1) ∧ x5 o5 k11 k12 (n3 + 1) w6 ∧ x6 o5 k11 k12 (n3 + 1) w6 < x6 o5 k11 k12 n3 w5)) (inI (n3 + 1) ∧ x5 o5 k11 k12 (n3 + 1) w5 ∧ x6 o5 k11 k12 (n3 + 1) w5 < x6 o5 k11 k12 n3 w5)) (inI (n2 + 1) ∧ x3 o5 k11 k12 (n2 + 1) w5 ∧ x4 o5 k11 k12 (n2 + 1) w5 < x4 o4 k9 k10 n2 w4)) (inI (n1 + 1) ∧ x1 o4 k9 k10 (n1 + 1) w4 ∧ x2 o4 k9 k10 (n1 + 1) w4 < x2 o2 k5 k6 n1 w3)) (R (vS (some (aM k3)) (Int.toNat (↑k1 : Int)) (Int.toNat (↑k1 : Int))) w3)
set_option maxRecDepth 100000 in
theorem run_cycle_web_waves (a : Option Addr) (b : Int) (w : World) (R : Value → WP) (h : vc_cycle_web_waves a b w R) : Run Tryd.prog 37 [(.pointer a), (.int .i64 b)] w R := rv Tryd.func37 ann_cycle_web_waves (by kernel_rfl) h

abbrev n_cycle_Find_S1 : FuncId := 39
def ann_cycle_Find_S1 : Ann := { rngs := [], loops := [], joins := [], blocks := [] }
set_option maxRecDepth 100000 in
def vc_cycle_Find_S1 (a : Int) (b c : Addr) (w : World) (R : Value → WP) : Prop :=  ∀ w1, drawn w w1 → ∃ (I1 : World → Prop), I1 w1 ∧ ∃ o1 k1 k2, (∀ w2, I1 w2 → World.cell? w2 b = some (vS o1 k1 k2)) ∧ idx o1 k1 a 1 fun a1 => ∃ n1, (∀ w3, I1 w3 → World.cell? w3 a1 = some (iI n1)) ∧ ∃ n2, (∀ w4, I1 w4 → World.cell? w4 c = some (iI n2)) ∧ R (vB (n1 == n2)) w1
set_option maxRecDepth 100000 in
theorem run_cycle_Find_S1 (a : Int) (b c : Addr) (w : World) (R : Value → WP) (h : vc_cycle_Find_S1 a b c w R) : Run Tryd.prog 39 [(.int .i64 a), (.pointer (some b)), (.pointer (some c))] w R := rv Tryd.func39 ann_cycle_Find_S1 (by kernel_rfl) h

abbrev n_cycle_spin_S1 : FuncId := 58
def ann_cycle_spin_S1 : Ann := { rngs := [], loops := [], joins := [], blocks := [] }
set_option maxRecDepth 100000 in
def vc_cycle_spin_S1 (a : Int) (b c : Addr) (w : World) (R : Value → WP) : Prop :=  ∀ w1, drawn w w1 → ∃ (I1 : World → Prop), I1 w1 ∧ ∃ o1, (∀ w2, I1 w2 → World.cell? w2 b = some (vP o1)) ∧ nn o1 fun a1 => ∃ n1, (∀ w3, I1 w3 → World.cell? w3 (Addr.add a1 1) = some (iI n1)) ∧ br (decide (a < n1)) (R (vB true) w1) (∃ o2 k1 k2, (∀ w4, I1 w4 → World.cell? w4 c = some (vS o2 k1 k2)) ∧ ∃ o3, (∀ w5, I1 w5 → World.cell? w5 b = some (vP o3)) ∧ nn o3 fun a2 => ∃ n2, (∀ w6, I1 w6 → World.cell? w6 (Addr.add a2 1) = some (iI n2)) ∧ inI (a - n2) ∧ idx o2 k1 (a - n2) 1 fun a3 => ∃ b1, (∀ w7, I1 w7 → World.cell? w7 a3 = some (vB b1)) ∧ R (vB !b1) w1)
set_option maxRecDepth 100000 in
theorem run_cycle_spin_S1 (a : Int) (b c : Addr) (w : World) (R : Value → WP) (h : vc_cycle_spin_S1 a b c w R) : Run Tryd.prog 58 [(.int .i64 a), (.pointer (some b)), (.pointer (some c))] w R := rv Tryd.func58 ann_cycle_spin_S1 (by kernel_rfl) h

end Go.Proofs.YtcapljamcepmkaaDoor
set_option linter.unusedVariables false
namespace Go.V
theorem rdS.atv {α : Type} [Rep1 α] {w : World} {xs : List α} {a : Option Addr} {l i : Nat} {x : α} {ad : Addr} (r : rdS (hp w) xs a l) (ha : a = some ad) (hx : xs[i]? = some x) : w.cell? (ad.add i) = some (Rep1.val x) := by
  obtain ⟨ad', e, hh⟩ := r.at hx
  rw [ha] at e; cases e; exact hh w (sub.refl _)
inductive WayN (R : Nat → Nat → Prop) (to : Nat) : Nat → Nat → Prop
  | one (i : Nat) : R i to → WayN R to 1 i
  | more (n i k : Nat) : R i k → WayN R to n k → WayN R to (n + 1) i
section
variable {R : Nat → Nat → Prop} {N to n i j : Nat}
theorem WayN.pos (h : WayN R to n i) : 1 ≤ n := by cases h <;> omega
theorem WayN.trans {b m : Nat} (h : WayN R b n i) (k : WayN R to m b) : WayN R to (n + m) i := by
  induction h with
  | one i h => rw [Nat.add_comm]; exact .more m i b h k
  | more n i x h1 h2 ih => rw [show n + 1 + m = (n + m) + 1 from by omega]; exact .more _ i x h1 ih
theorem WayN.mono {R' : Nat → Nat → Prop} (hR : ∀ a b, R a b → R' a b) (h : WayN R to n i) : WayN R' to n i := by
  induction h with
  | one i h => exact .one i (hR _ _ h)
  | more n i k h1 h2 ih => exact .more n i k (hR _ _ h1) ih
structure FarF (R : Nat → Nat → Prop) (N to : Nat) (far : List Nat) : Prop where
  ln : far.length = N
  z : ∀ i, i < N → far.getD i 0 = 0 → ∀ m, ¬ WayN R to m i
  p : ∀ (i : Nat) d, far[i]? = some d → 0 < d → WayN R to d i ∧ ∀ m, WayN R to m i → d ≤ m
structure Bfs (R : Nat → Nat → Prop) (N to n : Nat) (cur far : List Nat) : Prop where
  one : 1 ≤ n
  ln : far.length = N
  z : ∀ i, i < N → far.getD i 0 = 0 → ∀ m, m < n → ¬ WayN R to m i
  p : ∀ (i : Nat) d, far[i]? = some d → 0 < d → d < n ∧ WayN R to d i ∧ ∀ m, WayN R to m i → d ≤ m
  c : ∀ k, k ∈ cur ↔ (n = 1 ∧ k = to) ∨ (1 < n ∧ k < N ∧ far.getD k 0 = n - 1)
theorem getD_some {far : List Nat} (h : i < far.length) : far[i]? = some (far.getD i 0) := by
  rw [List.getD_eq_getElem?_getD, List.getElem?_eq_getElem h]; rfl
theorem bfs_init : Bfs R N to 1 [to] (List.replicate N 0) := by
  refine ⟨Nat.le_refl _, by simp, fun i hi _ m hm hw => ?_, fun i d hd h0 => ?_, fun k => ?_⟩
  · have := hw.pos; omega
  · rw [List.getElem?_replicate] at hd
    split at hd
    · cases hd; omega
    · cases hd
  · simp
theorem Bfs.next {cur far cur' far' : List Nat} (b : Bfs R N to n cur far) (hR : ∀ a k, R a k → k < N) (hl : far'.length = N) (new : Nat → Prop) (hn : ∀ j, j < N → (new j ↔ far.getD j 0 = 0 ∧ ∃ k ∈ cur, R j k))
    (h1 : ∀ j, j < N → new j → far'.getD j 0 = n) (h2 : ∀ j, j < N → ¬ new j → far'.getD j 0 = far.getD j 0) (hc : ∀ k, k ∈ cur' ↔ k < N ∧ new k) : Bfs R N to (n + 1) cur' far' := by
  have hl0 := b.ln
  have newW : ∀ j, j < N → new j → WayN R to n j := fun j hj hj' => by
    obtain ⟨_, k, hk, hr⟩ := (hn j hj).1 hj'
    rcases (b.c k).1 hk with ⟨rfl, rfl⟩ | ⟨h1, h2, h3⟩
    · exact .one _ hr
    · obtain ⟨_, hw, _⟩ := b.p k _ (getD_some (by omega)) (by omega)
      rw [h3] at hw
      have := WayN.more (n - 1) j k hr hw
      rwa [show n - 1 + 1 = n from by omega] at this
  refine ⟨by omega, hl, fun i hi h0 m hm hw => ?_, fun i d hd hd0 => ?_, fun k => ?_⟩
  · have hnn : ¬ new i := fun h => by have := h1 i hi h; have := b.one; omega
    rw [h2 i hi hnn] at h0
    by_cases hmn : m < n
    · exact b.z i hi h0 m hmn hw
    · have : m = n := by omega
      subst this
      refine hnn ((hn i hi).2 ⟨h0, ?_⟩)
      cases hw with
      | one _ hr => exact ⟨to, (b.c to).2 (.inl ⟨rfl, rfl⟩), hr⟩
      | more q _ k hr hw =>
        have hkN := hR _ _ hr
        refine ⟨k, (b.c k).2 (.inr ⟨by have := hw.pos; omega, hkN, ?_⟩), hr⟩
        by_cases hz : far.getD k 0 = 0
        · exact absurd hw (b.z k hkN hz q (by omega))
        · obtain ⟨g1, g2, g3⟩ := b.p k _ (getD_some (by omega)) (by omega)
          have g4 := g3 q hw
          have g5 : ¬ far.getD k 0 + 1 < q + 1 := fun hh => b.z i hi h0 _ hh (.more _ i k hr g2)
          omega
  · have hi : i < N := by rw [← hl]; exact (List.getElem?_eq_some_iff.1 hd).1
    have hdd : far'.getD i 0 = d := by rw [List.getD_eq_getElem?_getD, hd]; rfl
    by_cases hne : new i
    · rw [h1 i hi hne] at hdd
      subst hdd
      refine ⟨by omega, newW i hi hne, fun m hw => ?_⟩
      have := b.z i hi ((hn i hi).1 hne).1 m
      exact Nat.le_of_not_lt fun hh => this hh hw
    · rw [h2 i hi hne] at hdd
      have := b.p i d (by rw [← hdd]; exact getD_some (by omega)) hd0
      exact ⟨by omega, this.2⟩
  · rw [hc]
    constructor
    · rintro ⟨hk, hnk⟩
      exact .inr ⟨by have := b.one; omega, hk, by rw [h1 k hk hnk]; omega⟩
    · rintro (⟨h, _⟩ | ⟨_, hk, h⟩)
      · have := b.one; omega
      · refine ⟨hk, Classical.byContradiction fun hnk => ?_⟩
        rw [h2 k hk hnk] at h
        have := b.p k _ (getD_some (by omega)) (by have := b.one; omega)
        omega
theorem Bfs.done {far : List Nat} (b : Bfs R N to n [] far) (hR : ∀ a k, R a k → k < N) : FarF R N to far := by
  have hl0 := b.ln
  refine ⟨b.ln, fun i hi h0 m hw => ?_, fun i d hd h0 => (b.p i d hd h0).2⟩
  have key : ∀ {m i}, WayN R to m i → i < N → far.getD i 0 ≠ 0 := by
    intro m i hw
    induction hw with
    | one i h =>
      intro hi h0
      by_cases h1 : n = 1
      · have := (b.c to).2 (.inl ⟨h1, rfl⟩); simp at this
      · exact b.z i hi h0 1 (by have := b.one; omega) (.one i h)
    | more q i k h1 h2 ih =>
      intro hi h0
      have hkN := hR _ _ h1
      have hk := ih hkN
      obtain ⟨g1, g2, g3⟩ := b.p k _ (getD_some (by omega)) (by omega)
      have g4 : ¬ far.getD k 0 + 1 < n := fun hh => b.z i hi h0 _ hh (.more _ i k h1 g2)
      have := (b.c k).2 (.inr ⟨by omega, hkN, by omega⟩)
      simp at this
  exact key hw hi h0
def zer (far : List Nat) : Nat := (far.filter (· == 0)).length
theorem zer_le {far far' : List Nat} (hl : far'.length = far.length) (h : ∀ j, j < far.length → far'.getD j 0 = 0 → far.getD j 0 = 0) : zer far' ≤ zer far ∧ (∀ j, j < far.length → far.getD j 0 = 0 → far'.getD j 0 ≠ 0 → zer far' < zer far) := by
  induction far generalizing far' with
  | nil => cases far' with
    | nil => exact ⟨Nat.le_refl _, fun j hj => absurd hj (Nat.not_lt_zero _)⟩
    | cons _ _ => simp at hl
  | cons x far ih => cases far' with
    | nil => simp at hl
    | cons y far' =>
      obtain ⟨i1, i2⟩ := ih (by simpa using hl) fun j hj hz => by
        have := h (j + 1) (by simpa using hj) (by simpa using hz)
        simpa using this
      have h0 : y = 0 → x = 0 := fun hy => by
        have := h 0 (by simp) (by simpa using hy)
        simpa using this
      have ez : ∀ (a : Nat) l, zer (a :: l) = (if a = 0 then 1 else 0) + zer l := fun a l => by
        unfold zer; by_cases ha : a = 0 <;> simp [ha, Nat.add_comm]
      rw [ez, ez]
      refine ⟨by split <;> split <;> omega, fun j hj hz hn => ?_⟩
      cases j with
      | zero =>
        have hz : x = 0 := by simpa using hz
        have hn : y ≠ 0 := by simpa using hn
        rw [if_pos hz, if_neg hn]; omega
      | succ j =>
        have := i2 j (by simpa using hj) (by simpa using hz) (by simpa using hn)
        split <;> split <;> omega
def OnP (R : Nat → Nat → Prop) (i : Nat) : Prop := ∃ m, WayN R i m i
structure CirP (R : Nat → Nat → Prop) (N : Nat) (l : List Nat) : Prop where
  lt : ∀ x ∈ l, x < N
  nd : l.Nodup
  st : ∀ (i : Nat) a b, l[i]? = some a → l[(i + 1) % l.length]? = some b → R a b
  on : ∀ x ∈ l, OnP R x
end
end Go.V
set_option linter.unusedVariables false
namespace Go.V
def stayB (T : Nat) (nn : List Bool) (s : Int) : Bool := decide (s < (T : Int)) || !fnB nn (s.toNat - T)
def stayN (T : Nat) (nn : List Bool) (row : List Int) : Nat := (row.filter (stayB T nn)).length
def CondP (g : GramT) (nn : List Bool) (p : ProdT) (b : Nat) : Prop := stayN g.T nn p.right = 0 ∨ (stayN g.T nn p.right = 1 ∧ stayB g.T nn ((g.T + b : Nat) : Int) = true)
def StpI (g : GramT) (nn : List Bool) (p : ProdT) (i a b : Nat) : Prop := p.left = ((g.T + a : Nat) : Int) ∧ ((g.T + b : Nat) : Int) ∈ p.right.take i ∧ CondP g nn p b
def StpOf (g : GramT) (nn : List Bool) (p : ProdT) (a b : Nat) : Prop := p.left = ((g.T + a : Nat) : Int) ∧ ((g.T + b : Nat) : Int) ∈ p.right ∧ CondP g nn p b
def Stp (g : GramT) (a b : Nat) : Prop := ∃ nn, NnP g nn ∧ ∃ p ∈ g.prods, StpOf g nn p a b
theorem stp_iff {g : GramT} {nn : List Bool} (h : NnP g nn) {a b : Nat} : Stp g a b ↔ ∃ p ∈ g.prods, StpOf g nn p a b :=
  ⟨fun ⟨nn', h', hp⟩ => (h'.inj h) ▸ hp, fun hp => ⟨nn, h, hp⟩⟩
structure VsP (N : Nat) (vs : List (List Bool)) (Q : Nat → Nat → Prop) : Prop where
  ln : vs.length = N
  le : ∀ v ∈ vs, v.length = N
  st : ∀ (a : Nat) v, vs[a]? = some v → ∀ b, fnB v b = true ↔ Q a b
theorem VsP.congr {N : Nat} {vs : List (List Bool)} {Q Q' : Nat → Nat → Prop} (h : VsP N vs Q) (hq : ∀ a b, a < N → (Q a b ↔ Q' a b)) : VsP N vs Q' :=
  ⟨h.ln, h.le, fun a v hv b => (h.st a v hv b).trans (hq a b (by rw [← h.ln]; exact (List.getElem?_eq_some_iff.1 hv).1))⟩
theorem addB1 {v : List Bool} {b0 b : Nat} (h : b0 < v.length) : fnB (addB v [(b0 : Int)]) b = true ↔ fnB v b = true ∨ b = b0 := by
  rw [fnB_add]; unfold addS
  simp
  refine or_congr_right ⟨fun e => by omega, fun e => by omega⟩
theorem VsP.add {N : Nat} {vs : List (List Bool)} {Q : Nat → Nat → Prop} (h : VsP N vs Q) {a b : Nat} {v : List Bool} (hv : vs[a]? = some v) (hb : b < N) : VsP N (vs.set a (addB v [(b : Int)])) fun x y => Q x y ∨ (x = a ∧ y = b) := by
  have hvl := h.le v (List.mem_of_getElem? hv)
  refine ⟨by rw [List.length_set]; exact h.ln, fun u hu => ?_, fun x u hu y => ?_⟩
  · rcases List.mem_or_eq_of_mem_set hu with hu | rfl
    · exact h.le u hu
    · rw [addB_len]; exact hvl
  · rw [List.getElem?_set] at hu
    split at hu
    · rename_i e
      subst e
      rw [if_pos (List.getElem?_eq_some_iff.1 hv).1] at hu
      cases hu
      rw [addB1 (by omega), h.st _ v hv]
      simp
    · rename_i e
      rw [h.st x u hu]
      constructor
      · exact .inl
      · rintro (h | ⟨h, _⟩)
        · exact h
        · exact absurd h.symm e
theorem stayN_snoc (T : Nat) (nn : List Bool) (row : List Int) (s : Int) : stayN T nn (row ++ [s]) = stayN T nn row + (if stayB T nn s then 1 else 0) := by
  unfold stayN; rw [List.filter_append, List.length_append]
  congr 1
  cases h : stayB T nn s <;> simp [h]
theorem stayN_le (T : Nat) (nn : List Bool) (row : List Int) : stayN T nn row ≤ row.length := List.length_filter_le _ _
theorem ofB_nil {N : Nat} (h : N ≤ 65) : (ofB (N : Int) []).length = N ∧ ∀ k, fnB (ofB (N : Int) []) k = false := by
  have e : ofN (N : Int) = N := by
    unfold ofN
    rw [if_neg (by omega : ¬ (N : Int) < 0), if_neg (by omega)]; simp
  refine ⟨by rw [ofB_len, e], fun k => ?_⟩
  unfold ofB
  rw [fnB_add]; unfold addS
  rw [fnB_rep]; simp
end Go.V
namespace Go.Proofs.YtcapljamcepmkaaDoor
open Go.V
section
variable {w : World} {L : List Asn} {g : GramT} {x : GA}
theorem y_stays {T k20 k23 k24 n c l : Nat} {nn : List Bool} {o o2 : Option Addr} {c2 : Nat} {s : Int} (h24 : rowH (hp w) ⟨k24, 0, none⟩ [.pointer (some ⟨k23, 0, none⟩)]) (h23 : rowH (hp w) ⟨k23, 0, none⟩ [.slice o2 l c2, .int .i64 (T : Int)]) (h20 : rowH (hp w) ⟨k20, 0, none⟩ [.slice o n c]) (hn : rdS (hp w) nn o n) (hs : 0 ≤ s ∧ s < (T : Int) + n) (hT : T ≤ 65) (hN : n ≤ 65) :
    Run Tryd.prog n_cycle_spin_S1 [.int .i64 s, .pointer (some ⟨k24, 0, none⟩), .pointer (some ⟨k20, 0, none⟩)] w fun v w' => v = .bool (stayB T nn s) ∧ hp w' = hp w := by
  refine run_cycle_spin_S1 _ _ _ w _ fun w1 hd => ?_
  have e := hp_drawn hd
  have hnl := hn.1
  have r24 : ∀ w', hp w' = hp w → rowH (hp w') ⟨k24, 0, none⟩ [.pointer (some ⟨k23, 0, none⟩)] := fun w' e => by rw [e]; exact h24
  have r23 : ∀ w', hp w' = hp w → rowH (hp w') ⟨k23, 0, none⟩ [.slice o2 l c2, .int .i64 (T : Int)] := fun w' e => by rw [e]; exact h23
  have r20 : ∀ w', hp w' = hp w → rowH (hp w') ⟨k20, 0, none⟩ [.slice o n c] := fun w' e => by rw [e]; exact h20
  refine ⟨fun w' => hp w' = hp w, e, some ⟨k23, 0, none⟩, fun w' q => (r24 w' q).cell0 (sub.refl _), (T : Int), fun w' q => (r23 w' q).cell (sub.refl _) (j := 1) rfl, br_intro (fun hlt => ?_) fun hlt => ?_⟩
  · have hlt : s < (T : Int) := of_decide_eq_true hlt
    exact ⟨by unfold stayB; simp [hlt], e⟩
  have hlt : ¬ s < (T : Int) := of_decide_eq_false hlt
  have e2 : s - (T : Int) = ((s.toNat - T : Nat) : Int) := by omega
  obtain ⟨b, ad, hb1, hba, hb2⟩ := hn.get1 (i := s.toNat - T) (by omega)
  refine ⟨_, _, _, fun w' q => (r20 w' q).cell0 (sub.refl _), some ⟨k23, 0, none⟩, fun w' q => (r24 w' q).cell0 (sub.refl _), (T : Int), fun w' q => (r23 w' q).cell (sub.refl _) (j := 1) rfl, ⟨by omega, by omega⟩, ?_⟩
  rw [e2]
  refine idx_i hba (by omega) ⟨_, fun w' q => hb2 w' (Gr.of_eq q), ?_, e⟩
  unfold stayB
  rw [fnB_get hb1]
  simp [hlt, Rep1.val]
set_option maxHeartbeats 8000000 in
theorem y_spin (hg : gR (hp w) g x) (hb : okG g) (ht : tabA (hp w)) : Run Tryd.prog n_cycle_spin [.agg ⟨x.cells⟩] w fun v w' =>
    (¬ ClosedP g ∧ v = .tuple #[.pointer none, .int .i64 1] ∧ Gr w w') ∨
    (ClosedP g ∧ ∃ (b : Nat) (o : Option Addr) (c : Nat) (ps : List Nat) (vs : List (List Bool)), v = .tuple #[.pointer (some ⟨b, 0, none⟩), .int .i64 0] ∧ VsP g.N vs (Stp g) ∧ ps.length = g.N ∧
      St w' (cel b [.slice o g.N c, .int .i64 (g.T : Int)] :: own 1 o g.N c (pv (ps.map bk)) :: sta (setsA ps vs) :: all w)) := by
  refine run_cycle_spin _ _ _ _ _ _ _ _ _ _ _ _ _ w _ ?_
  refine gbox hg fun k1 w1 gw hg B => ?_
  have tl : g.T = x.tl := hg.t.1
  have nl : g.N = x.nl := hg.n.1
  have pl := hg.p.1
  have gs : sub (hp w) (hp w1) := gw
  refine ⟨_, _, _, _, _, _, _, _, _, _, _, _, _, B.row (sub.refl _), (g_Closed (x := x) hg hb).mono ?_⟩
  rintro _ w2 ⟨⟨r, rfl, hr⟩, g2⟩
  refine ⟨_, rfl, br_intro (fun hb1 => ?_) fun hb1 => ?_⟩
  · exact .inl ⟨fun h => (by rw [hr.2 h] at hb1; cases hb1), rfl, sub.trans gs g2⟩
  have hcl : ClosedP g := hr.1 (by simpa using hb1)
  have he : EitherP g := .inr hcl
  obtain ⟨iG, bT, bN, pN, pT, bP⟩ := inG he
  refine ⟨_, _, _, _, _, _, _, _, _, _, _, _, _, B.row g2, (f_Nullable1 (x := x) (hg.mono g2) hb (rdV.mono (sub.trans gs g2) ht)).mono ?_⟩
  rintro _ w3 ⟨o9, n9, c9, e9, rfl, g3, hN⟩
  rcases hN with ⟨h1, _⟩ | ⟨_, rfl, rfl, nn, hnn, rnn⟩
  · exact absurd he h1
  refine ⟨_, _, _, _, rfl, newC_i (St.all w3) fun k20 w4 h => st1_i h (by simp) fun w5 h => ?_⟩
  have h : St w5 [cel k20 [.slice o9 g.N c9], has (hp w3)] := h
  have r20 : rowH (hp w5) ⟨k20, 0, none⟩ [.slice o9 g.N c9] := rdCel 0 h.l
  have s35 : sub (hp w3) (hp w5) := rdH 1 h.l
  have rnn := rnn.mono s35
  have s15 : sub (hp w1) (hp w5) := sub.trans g2 (sub.trans g3 s35)
  have gs : sub (hp w) (hp w5) := sub.trans gs s15
  have hg := hg.mono s15
  have B : GB (hp w5) k1 x := ⟨fun s => B.c0 (sub.trans s15 s), fun s => B.c1 (sub.trans s15 s), fun s => B.c2 (sub.trans s15 s), fun s => B.c3 (sub.trans s15 s), fun s => B.c4 (sub.trans s15 s), fun s => B.row (sub.trans s15 s)⟩
  clear h
  have h := St.all w5
  unfold V.all at h
  generalize hH : hp w5 = H at *
  have hnl := hnn.1
  refine br_intro (fun h => by cases h) fun _ => ⟨_, _, _, B.c0 (rdH 0 h.l), newC_i h fun k23 w6 h => newC_i h fun k24 w7 h => st1_i h (by simp) fun w8 h => ?_⟩
  have h : St w8 [cel k24 [.pointer (some ⟨k23, 0, none⟩)], cel k23 [.slice none 0 0, .int .i64 (x.tl : Int)], has H] := h
  rw [← tl] at h
  have h := (own_nil 1 h)
  have h : St w8 (sta (setsA [] (List.replicate 0 (ofB (g.N : Int) []))) :: _) := St.flat.2 (show St w8 ([] ++ _) from h)
  refine ⟨_, _, _, B.c1 (rdH 4 h.l), ?_⟩
  refine ⟨fun n w' => ∃ (j : Nat) (o : Option Addr) (c : Nat) (ps : List Nat), n = j ∧ j ≤ g.N ∧ ps.length = j ∧ St w' [sta (setsA ps (List.replicate j (ofB (g.N : Int) []))), own 1 o j c (pv (ps.map bk)), cel k24 [.pointer (some ⟨k23, 0, none⟩)], cel k23 [.slice o j c, .int .i64 (g.T : Int)], has H], fun n _ => g.N - n.toNat, ⟨0, none, 0, [], rfl, Nat.zero_le _, rfl, h⟩, ?_⟩
  clear h
  rintro _ n4 w9 ⟨j, o, c, ps, rfl, hj, hps, h⟩
  refine br_intro (fun hlt => ?_) fun hlt => ?_
  · have hlt : j < g.N := by have := of_decide_eq_true hlt; omega
    intro w10 hd
    have h := h.drawn hd
    have I : ∀ {w : World}, rowH (hp w) ⟨k24, 0, none⟩ [.pointer (some ⟨k23, 0, none⟩)] → rowH (hp w) ⟨k23, 0, none⟩ [.slice o j c, .int .i64 (g.T : Int)] → sub H (hp w) → rowH (hp w) ⟨k24, 0, none⟩ [.pointer (some ⟨k23, 0, none⟩)] ∧ rowH (hp w) ⟨k23, 0, none⟩ [.slice o j c, .int .i64 (g.T : Int)] ∧ sub H (hp w) := fun a b c => ⟨a, b, c⟩
    refine ⟨fun w => rowH (hp w) ⟨k24, 0, none⟩ [.pointer (some ⟨k23, 0, none⟩)] ∧ rowH (hp w) ⟨k23, 0, none⟩ [.slice o j c, .int .i64 (g.T : Int)] ∧ sub H (hp w), I (rdCel 2 h.l) (rdCel 3 h.l) (rdH 4 h.l), some ⟨k23, 0, none⟩, fun w q => q.1.cell0 (sub.refl _), some ⟨k23, 0, none⟩, fun w q => q.1.cell0 (sub.refl _), _, _, _, fun w q => q.2.1.cell0 (sub.refl _), _, _, _, fun w q => B.c1 q.2.2, ?_⟩
    rw [← nl]
    refine (s_Of (xs := []) (l := 0) (a := none) (g.N : Int) rdS.nil (by omega)).mono ?_
    rintro _ w15 ⟨px, rfl, h1⟩
    have h := h1.on1 h
    refine ⟨_, rfl, I (rdCel 3 h.l) (rdCel 4 h.l) (rdH 5 h.l), newC_i h fun k31 w16 h => ⟨I (rdCel 4 h.l) (rdCel 5 h.l) (rdH 6 h.l), ?_⟩⟩
    refine (app_one tyOk (rfl : kdOfT Ty _ = .slice _) (rfl : kdOfT Ty _ = .slice _) rfl rfl rfl (h.pick 7 [0, 3, 1, 2, 4, 5, 6]) rfl (by simp [oneC]) (by show (j + 1) * 8 ≤ _; omega) (by omega)).mono ?_
    rintro _ w17 ⟨o', c', rfl, h⟩
    refine ⟨_, _, _, rfl, I (rdCel 4 h.l) (rdCel 5 h.l) (rdH 6 h.l), ?_⟩
    refine st1_i (h.pick 7 [5, 0, 2, 3, 4, 6]) (by simp) fun w18 h => ?_
    have h := St.snoc (A := setO (bk px) (ofB (g.N : Int) [])) (M := setsA ps (List.replicate j (ofB (g.N : Int) []))) (h.pick 6 [2, 3, 0, 1, 4, 5])
    have e1 : setsA ps (List.replicate j (ofB (g.N : Int) [])) ++ [setO (bk px) (ofB (g.N : Int) [])] = setsA (ps ++ [px]) (List.replicate (j + 1) (ofB (g.N : Int) [])) := by
      unfold setsA; rw [List.replicate_succ', List.zipWith_append (by simp [hps])]; rfl
    have e2 : pv (ps.map bk) ++ [Value.pointer (bk px)] = pv ((ps ++ [px]).map bk) := by simp [pv]
    rw [e1] at h
    refine ⟨⟨by omega, by omega⟩, ⟨j + 1, o', c', ps ++ [px], by simp, by omega, by simp [hps], ?_⟩, msr hlt⟩
    rw [← e2]
    exact h.pick 5 [0, 2, 3, 1, 4]
  have hlt : j = g.N := by have := of_decide_eq_false hlt; omega
  rw [hlt] at h hps
  clear hj hlt
  have V0 : VsP g.N (List.replicate g.N (ofB (g.N : Int) [])) fun a b => ∃ q ∈ g.prods.take 0, StpOf g nn q a b := by
    obtain ⟨q1, q2⟩ := ofB_nil bN
    refine ⟨by simp, fun v hv => by rw [(List.mem_replicate.1 hv).2]; exact q1, fun a v hv b => ?_⟩
    rw [List.getElem?_replicate] at hv
    split at hv
    · cases hv; rw [q2]; simp
    · cases hv
  refine ⟨_, _, _, B.c4 (rdH 4 h.l), ?_⟩
  refine ⟨fun n w' => ∃ (j : Nat) (vs : List (List Bool)), n = j ∧ j ≤ g.prods.length ∧ VsP g.N vs (fun a b => ∃ q ∈ g.prods.take j, StpOf g nn q a b) ∧ St w' [sta (setsA ps vs), own 1 o g.N c (pv (ps.map bk)), cel k24 [.pointer (some ⟨k23, 0, none⟩)], cel k23 [.slice o g.N c, .int .i64 (g.T : Int)], has H], fun n _ => g.prods.length - n.toNat, ⟨0, _, rfl, Nat.zero_le _, V0, h⟩, ?_⟩
  clear h V0
  rintro _ n5 w19 ⟨j, vs, rfl, hj, hV, h⟩
  refine br_intro (fun hlt => ?_) fun hlt => ?_
  rotate_left
  · have hlt : j = g.prods.length := by have := of_decide_eq_false hlt; omega
    subst hlt
    rw [List.take_length] at hV
    refine ⟨_, (rdCel 2 h.l).cell0 (sub.refl _), .inr ⟨hcl, k23, o, c, ps, vs, rfl, hV.congr fun a b _ => (stp_iff hnn).symm, hps, ?_⟩⟩
    exact St.on (N := [_, _, _]) (h.pick 5 [3, 1, 0, 4]) (has_i gs)
  have hlt : j < g.prods.length := by have := of_decide_eq_true hlt; omega
  obtain ⟨p, ad, pvs, hp1, hpa, hp2, ra, rl, rc, rfl, hrc, hp3⟩ := hg.p.get (i := j) (by omega)
  have hpm := List.mem_of_getElem? hp1
  obtain ⟨hpl, hpr⟩ := iG p hpm
  have rl1 := hp3.1
  have b7' := hb.2.2.2.2.2.2 p hpm
  have et : g.prods.take (j + 1) = g.prods.take j ++ [p] := by rw [List.take_add_one, hp1]; rfl
  refine idx_n hpa (by omega) ⟨_, _, _, _, _, hp2.at (rdH 4 h.l) rfl, newC_i h fun k38 w20 h => stR_i h rfl (by simp [oneC]) fun w21 h => ?_⟩
  have h : St w21 [cel k38 [.int .i64 p.left, .slice ra rl rc, .int .i64 p.level], sta (setsA ps vs), own 1 o g.N c (pv (ps.map bk)), cel k24 [.pointer (some ⟨k23, 0, none⟩)], cel k23 [.slice o g.N c, .int .i64 (g.T : Int)], has H] := h
  refine ⟨_, _, _, (rdCel 0 h.l).cell (sub.refl _) (j := 1) rfl, ?_⟩
  have yst : ∀ {w' : World} {vs' : List (List Bool)} {s : Int}, s ∈ p.right → St w' [cel k38 [.int .i64 p.left, .slice ra rl rc, .int .i64 p.level], sta (setsA ps vs'), own 1 o g.N c (pv (ps.map bk)), cel k24 [.pointer (some ⟨k23, 0, none⟩)], cel k23 [.slice o g.N c, .int .i64 (g.T : Int)], has H] → Run Tryd.prog n_cycle_spin_S1 [.int .i64 s, .pointer (some ⟨k24, 0, none⟩), .pointer (some ⟨k20, 0, none⟩)] w' fun v w'' => v = .bool (stayB g.T nn s) ∧ hp w'' = hp w' := fun {w' vs' s} hs h =>
    y_stays (rdCel 3 h.l) (rdCel 4 h.l) (r20.mono (rdH 5 h.l)) (rnn.mono (rdH 5 h.l)) (hpr s hs) bT bN
  refine ⟨fun n m w' => ∃ i : Nat, n = (stayN g.T nn (p.right.take i) : Int) ∧ m = i ∧ i ≤ rl ∧ St w' [cel k38 [.int .i64 p.left, .slice ra rl rc, .int .i64 p.level], sta (setsA ps vs), own 1 o g.N c (pv (ps.map bk)), cel k24 [.pointer (some ⟨k23, 0, none⟩)], cel k23 [.slice o g.N c, .int .i64 (g.T : Int)], has H], fun _ m _ => rl - m.toNat, ⟨0, by simp [stayN], rfl, Nat.zero_le _, h⟩, ?_⟩
  clear h
  rintro _ n8 n9 w22 ⟨i, rfl, rfl, hi, h⟩
  refine br_intro (fun hlt2 => ?_) fun hlt2 => ?_
  · have hlt2 : i < rl := by have := of_decide_eq_true hlt2; omega
    obtain ⟨s, sad, hs1, hsa, hs2⟩ := hp3.get1 hlt2
    have hsm := List.mem_of_getElem? hs1
    have ets : p.right.take (i + 1) = p.right.take i ++ [s] := by rw [List.take_add_one, hs1]; rfl
    have hle := stayN_le g.T nn (p.right.take i)
    rw [List.length_take] at hle
    refine idx_i hsa hlt2 ⟨_, hs2 _ (rdH 5 h.l), (yst hsm h).mono ?_⟩
    rintro _ w23 ⟨rfl, e23⟩
    have h := h.eq e23
    refine ⟨_, rfl, br_intro (fun hb2 => ?_) fun hb2 => ?_⟩
    · exact ⟨⟨by omega, by omega⟩, ⟨by omega, by omega⟩, ⟨i + 1, by rw [ets, stayN_snoc, if_pos hb2]; simp, by simp, by omega, h⟩, msr hlt2⟩
    · exact ⟨⟨by omega, by omega⟩, ⟨i + 1, by rw [ets, stayN_snoc, if_neg (by rw [hb2]; simp)]; simp, by simp, by omega, h⟩, msr hlt2⟩
  have hlt2 : i = rl := by have := of_decide_eq_false hlt2; omega
  subst hlt2
  rw [List.take_of_length_le (by omega)]
  have hleA := stayN_le g.T nn p.right
  refine ⟨_, _, _, (rdCel 0 h.l).cell (sub.refl _) (j := 1) rfl, ?_⟩
  obtain ⟨a, ha⟩ : ∃ a : Nat, p.left = ((g.T + a : Nat) : Int) := ⟨p.left.toNat - g.T, by omega⟩
  have haN : a < g.N := by omega
  obtain ⟨px, hpx⟩ : ∃ px, ps[a]? = some px := ⟨ps[a]'(by omega), List.getElem?_eq_getElem _⟩
  have V1 : VsP g.N vs (fun a b => (∃ q ∈ g.prods.take j, StpOf g nn q a b) ∨ StpI g nn p 0 a b) := hV.congr fun a b _ => by simp [StpI]
  refine ⟨fun n w' => ∃ (m : Nat) (vs : List (List Bool)), n = m ∧ m ≤ i ∧ VsP g.N vs (fun a b => (∃ q ∈ g.prods.take j, StpOf g nn q a b) ∨ StpI g nn p m a b) ∧ St w' [cel k38 [.int .i64 p.left, .slice ra i rc, .int .i64 p.level], sta (setsA ps vs), own 1 o g.N c (pv (ps.map bk)), cel k24 [.pointer (some ⟨k23, 0, none⟩)], cel k23 [.slice o g.N c, .int .i64 (g.T : Int)], has H], fun n _ => i - n.toNat, ⟨0, vs, rfl, Nat.zero_le _, V1, h⟩, ?_⟩
  clear h V1
  rintro _ n11 w24 ⟨m, vs1, rfl, hm, hV1, h⟩
  refine br_intro (fun hlt3 => ?_) fun hlt3 => ?_
  rotate_left
  · have hlt3 : m = i := by have := of_decide_eq_false hlt3; omega
    subst hlt3
    refine ⟨⟨by omega, by omega⟩, ⟨j + 1, vs1, by simp, by omega, hV1.congr fun a b _ => ?_, h.pick 6 [1, 2, 3, 4, 5]⟩, msr hlt⟩
    rw [et]
    unfold StpI StpOf
    have ep : p.right.take m = p.right := List.take_of_length_le (by omega)
    rw [ep]
    constructor
    · rintro (⟨q, hq, hh⟩ | hh)
      · exact ⟨q, List.mem_append_left _ hq, hh⟩
      · exact ⟨p, by simp, hh⟩
    · rintro ⟨q, hq, hh⟩
      rcases List.mem_append.1 hq with hq | hq
      · exact .inl ⟨q, hq, hh⟩
      · rw [List.mem_singleton] at hq; subst hq; exact .inr hh
  have hlt3 : m < i := by have := of_decide_eq_true hlt3; omega
  obtain ⟨s, sad, hs1, hsa, hs2⟩ := hp3.get1 hlt3
  have hsm := List.mem_of_getElem? hs1
  have hsr := hpr s hsm
  have ets : p.right.take (m + 1) = p.right.take m ++ [s] := by rw [List.take_add_one, hs1]; rfl
  have nx : ∀ {w' : World} {vs' : List (List Bool)}, VsP g.N vs' (fun a b => (∃ q ∈ g.prods.take j, StpOf g nn q a b) ∨ StpI g nn p (m + 1) a b) → St w' [cel k38 [.int .i64 p.left, .slice ra i rc, .int .i64 p.level], sta (setsA ps vs'), own 1 o g.N c (pv (ps.map bk)), cel k24 [.pointer (some ⟨k23, 0, none⟩)], cel k23 [.slice o g.N c, .int .i64 (g.T : Int)], has H] →
      inI ((m : Int) + 1) ∧ (∃ (m' : Nat) (vs : List (List Bool)), (m : Int) + 1 = m' ∧ m' ≤ i ∧ VsP g.N vs (fun a b => (∃ q ∈ g.prods.take j, StpOf g nn q a b) ∨ StpI g nn p m' a b) ∧ St w' [cel k38 [.int .i64 p.left, .slice ra i rc, .int .i64 p.level], sta (setsA ps vs), own 1 o g.N c (pv (ps.map bk)), cel k24 [.pointer (some ⟨k23, 0, none⟩)], cel k23 [.slice o g.N c, .int .i64 (g.T : Int)], has H]) ∧ i - ((m : Int) + 1).toNat < i - (m : Int).toNat :=
    fun {w' vs'} hv h' => ⟨⟨by omega, by omega⟩, ⟨m + 1, vs', by simp, by omega, hv, h'⟩, msr hlt3⟩
  refine idx_i hsa hlt3 ⟨_, hs2 _ (rdH 5 h.l), ?_⟩
  obtain ⟨P, hP⟩ : ∃ P : Prop, P = ((g.T : Int) ≤ s ∧ CondP g nn p (s.toNat - g.T)) := ⟨_, rfl⟩
  refine ⟨fun b w' => (b = true ↔ P) ∧ St w' [cel k38 [.int .i64 p.left, .slice ra i rc, .int .i64 p.level], sta (setsA ps vs1), own 1 o g.N c (pv (ps.map bk)), cel k24 [.pointer (some ⟨k23, 0, none⟩)], cel k23 [.slice o g.N c, .int .i64 (g.T : Int)], has H], ?_, ?_⟩
  · refine ⟨some ⟨k23, 0, none⟩, (rdCel 3 h.l).cell0 (sub.refl _), (g.T : Int), (rdCel 4 h.l).cell (sub.refl _) (j := 1) rfl, br_intro (fun h1 => ?_) fun h1 => ⟨?_, h⟩⟩
    rotate_left
    · have h1 : ¬ (g.T : Int) ≤ s := of_decide_eq_false h1
      rw [hP]; simp [h1]
    have h1 : (g.T : Int) ≤ s := of_decide_eq_true h1
    have esb : ((g.T + (s.toNat - g.T) : Nat) : Int) = s := by omega
    refine br_intro (fun h2 => ⟨?_, h⟩) fun h2 => br_intro (fun h3 => (yst hsm h).mono ?_) fun h3 => ⟨?_, h⟩
    · have h2 : stayN g.T nn p.right = 0 := by have e : (stayN g.T nn p.right : Int) = 0 := (by simpa using h2); omega
      rw [hP]; exact ⟨fun _ => ⟨h1, .inl h2⟩, fun _ => rfl⟩
    · rintro _ w25 ⟨rfl, e25⟩
      have h2 : stayN g.T nn p.right ≠ 0 := fun e => by rw [e] at h2; simp at h2
      have h3 : stayN g.T nn p.right = 1 := by have e : (stayN g.T nn p.right : Int) = 1 := (by simpa using h3); omega
      refine ⟨_, rfl, ?_, h.eq e25⟩
      rw [hP]; unfold CondP; rw [esb]
      exact ⟨fun hh => ⟨h1, .inr ⟨h3, hh⟩⟩, fun hh => hh.2.elim (fun e => absurd e h2) fun e => e.2⟩
    · have h2 : stayN g.T nn p.right ≠ 0 := fun e => by rw [e] at h2; simp at h2
      have h3 : stayN g.T nn p.right ≠ 1 := fun e => by rw [e] at h3; simp at h3
      rw [hP]
      exact ⟨fun h => (by cases h), fun hh => hh.2.elim (fun e => absurd e h2) fun e => absurd e.1 h3⟩
  clear h
  rintro _ b4 w26 ⟨hbP, h⟩
  refine br_intro (fun hb4 => ?_) fun hb4 => ?_
  rotate_left
  · refine nx (hV1.congr fun a' b _ => or_congr_right ?_) h
    unfold StpI
    rw [ets]
    refine and_congr_right fun _ => ⟨fun hh => ⟨List.mem_append_left _ hh.1, hh.2⟩, fun hh => ⟨?_, hh.2⟩⟩
    rcases List.mem_append.1 hh.1 with h1 | h1
    · exact h1
    · rw [List.mem_singleton] at h1
      have : P := by rw [hP]; exact ⟨by omega, by rw [← h1]; rw [show ((g.T + b : Nat) : Int).toNat - g.T = b from by omega]; exact hh.2⟩
      rw [hbP.2 this] at hb4; cases hb4
  have hPt : (g.T : Int) ≤ s ∧ CondP g nn p (s.toNat - g.T) := hP ▸ hbP.1 hb4
  obtain ⟨b0, hb0⟩ : ∃ b0, b0 = s.toNat - g.T := ⟨_, rfl⟩
  have esb : s = ((g.T + b0 : Nat) : Int) := by omega
  have hb0N : b0 < g.N := by omega
  rw [← hb0] at hPt
  intro w27 hd
  have h := h.drawn hd
  have I : ∀ {w : World}, rowH (hp w) ⟨k38, 0, none⟩ [.int .i64 p.left, .slice ra i rc, .int .i64 p.level] → rowH (hp w) ⟨k24, 0, none⟩ [.pointer (some ⟨k23, 0, none⟩)] → rowH (hp w) ⟨k23, 0, none⟩ [.slice o g.N c, .int .i64 (g.T : Int)] → rdS (hp w) (ps.map bk) o g.N → rowH (hp w) ⟨k38, 0, none⟩ [.int .i64 p.left, .slice ra i rc, .int .i64 p.level] ∧ rowH (hp w) ⟨k24, 0, none⟩ [.pointer (some ⟨k23, 0, none⟩)] ∧ rowH (hp w) ⟨k23, 0, none⟩ [.slice o g.N c, .int .i64 (g.T : Int)] ∧ rdS (hp w) (ps.map bk) o g.N := fun a b c d => ⟨a, b, c, d⟩
  have hpsl : (ps.map bk).length = g.N := by simp [hps]
  have hpk : (ps.map bk)[a]? = some (bk px) := by rw [List.getElem?_map, hpx]; rfl
  have i7 := I (rdCel 0 h.l) (rdCel 3 h.l) (rdCel 4 h.l) (rdPt 2 h.l rfl rfl hpsl)
  obtain ⟨oad, hoa, _⟩ := i7.2.2.2.at hpk
  have ea : p.left - (g.T : Int) = (a : Int) := by omega
  have eb : s - (g.T : Int) = (b0 : Int) := by omega
  obtain ⟨v, hv⟩ : ∃ v, vs1[a]? = some v := ⟨vs1[a]'(by rw [hV1.ln]; exact haN), List.getElem?_eq_getElem _⟩
  refine ⟨fun w => rowH (hp w) ⟨k38, 0, none⟩ [.int .i64 p.left, .slice ra i rc, .int .i64 p.level] ∧ rowH (hp w) ⟨k24, 0, none⟩ [.pointer (some ⟨k23, 0, none⟩)] ∧ rowH (hp w) ⟨k23, 0, none⟩ [.slice o g.N c, .int .i64 (g.T : Int)] ∧ rdS (hp w) (ps.map bk) o g.N, i7, some ⟨k23, 0, none⟩, fun w q => q.2.1.cell0 (sub.refl _), _, _, _, fun w q => q.2.2.1.cell0 (sub.refl _), p.left, fun w q => q.1.cell0 (sub.refl _), some ⟨k23, 0, none⟩, fun w q => q.2.1.cell0 (sub.refl _), (g.T : Int), fun w q => q.2.2.1.cell (sub.refl _) (j := 1) rfl, ⟨by omega, by omega⟩, ?_⟩
  rw [ea]
  refine idx_i hoa haN ⟨bk px, fun w q => q.2.2.2.atv hoa hpk, some ⟨k23, 0, none⟩, fun w q => q.2.1.cell0 (sub.refl _), (g.T : Int), fun w q => q.2.2.1.cell (sub.refl _) (j := 1) rfl, ⟨by omega, by omega⟩, ?_⟩
  rw [eb]
  have gS : (setsA ps vs1)[a]? = some (setO (bk px) v) := by unfold setsA; rw [List.getElem?_zipWith, hpx, hv]
  refine newC_i h fun k45 w36 h => ⟨I (rdCel 1 h.l) (rdCel 4 h.l) (rdCel 5 h.l) (rdPt 3 h.l rfl rfl hpsl), ?_⟩
  refine (s_Add (xs := [(b0 : Int)]) (l := 1) (St.out (h.pick 7 [2, 0, 1, 3, 4, 5, 6]) gS) (fun h hh => rdI_of rfl (.inr ⟨_, rfl, rdCel 1 hh⟩)) (by omega)).mono ?_
  rintro _ w37 ⟨rfl, h⟩
  have h := St.back h gS
  have eS : (setsA ps vs1).set a (setO (bk px) (addB v [(b0 : Int)])) = setsA ps (vs1.set a (addB v [(b0 : Int)])) := zip_set (fun p v => setO (bk p) v) hpx
  rw [eS] at h
  refine ⟨_, rfl, nx ((hV1.add hv hb0N).congr fun a' b _ => ?_) (h.pick 7 [2, 0, 3, 4, 5, 6])⟩
  rw [or_assoc]
  refine or_congr_right ?_
  unfold StpI
  rw [ets]
  constructor
  · rintro (hh | ⟨rfl, rfl⟩)
    · exact ⟨hh.1, List.mem_append_left _ hh.2.1, hh.2.2⟩
    · exact ⟨ha, by rw [esb]; simp, hPt.2⟩
  · rintro ⟨h1, h2, h3⟩
    rcases List.mem_append.1 h2 with h2 | h2
    · exact .inl ⟨h1, h2, h3⟩
    · rw [List.mem_singleton, esb] at h2
      exact .inr ⟨by omega, by omega⟩
end
end Go.Proofs.YtcapljamcepmkaaDoor
set_option linter.unusedVariables false
namespace Go.V
structure WebR (h : Hp) (b T N : Nat) (os : List (Option Addr)) (vs : List (List Bool)) : Prop where
  row : ∃ o c, rowH h ⟨b, 0, none⟩ [.slice o N c, .int .i64 (T : Int)] ∧ rdS h os o N
  lv : vs.length = N
  set : ∀ (i : Nat) o v, os[i]? = some o → vs[i]? = some v → setR h o v
theorem WebR.mono {h h' : Hp} {b T N : Nat} {os : List (Option Addr)} {vs : List (List Bool)} (s : sub h h') (r : WebR h b T N os vs) : WebR h' b T N os vs := by
  obtain ⟨⟨o, c, r1, r2⟩, r3, r4⟩ := r
  exact ⟨⟨o, c, r1.mono s, r2.mono s⟩, r3, fun i o v h1 h2 => (r4 i o v h1 h2).mono s⟩
theorem web_of {w : World} {L : List Asn} {b T N c : Nat} {o : Option Addr} {ps : List Nat} {vs : List (List Bool)} (h : St w (cel b [.slice o N c, .int .i64 (T : Int)] :: own 1 o N c (pv (ps.map bk)) :: sta (setsA ps vs) :: L)) (hps : ps.length = N) (hv : vs.length = N) : WebR (hp w) b T N (ps.map bk) vs := by
  refine ⟨⟨o, c, rdCel 0 h.l, rdPt 1 h.l rfl rfl (by simp [hps])⟩, hv, fun i o v h1 h2 => ?_⟩
  rw [List.getElem?_map] at h1
  cases hp' : ps[i]? with
  | none => rw [hp'] at h1; cases h1
  | some p =>
    rw [hp'] at h1; cases h1
    obtain ⟨g1, s1, ha⟩ := sta_nth (h.pick 3 [2]) (A := setO (bk p) v) (List.mem_of_getElem? (i := i) (by unfold setsA; rw [List.getElem?_zipWith, hp', h2]))
    exact (setO_R ha).mono s1
def Rel (vs : List (List Bool)) (a b : Nat) : Prop := fnB (vs.getD a []) b = true
def ivn0 (l : List Nat) : List Int := l.map fun (k : Nat) => (k : Int)
theorem ivn0_get {l : List Nat} {i k : Nat} (h : l[i]? = some k) : (ivn0 l)[i]? = some (k : Int) := by unfold ivn0; rw [List.getElem?_map, h]; rfl
theorem ivn0_len (l : List Nat) : (ivn0 l).length = l.length := by simp [ivn0]
theorem iv_ivn0 (l : List Nat) : iv (ivn0 l) = ivn l := by rw [ivn_iv]; rfl
theorem ivn_set (l : List Nat) (i k : Nat) : (ivn l).set i (.int .i64 (k : Int)) = ivn (l.set i k) := by simp [ivn, List.map_set]
theorem ivn_rep (n : Nat) : List.replicate n (Value.int .i64 0) = ivn (List.replicate n 0) := by simp [ivn]
structure WvI (N n : Nat) (new : Nat → Bool) (far0 : List Nat) (i : Nat) (far : List Nat) : Prop where
  ln : far.length = N
  at_ : ∀ j, j < N → far.getD j 0 = if j < i ∧ new j = true then n else far0.getD j 0
theorem WvI.skip {N n i : Nat} {new : Nat → Bool} {far0 far : List Nat} (h : WvI N n new far0 i far) (hn : new i = false) : WvI N n new far0 (i + 1) far :=
  ⟨h.ln, fun j hj => by
    rw [h.at_ j hj]
    by_cases e : j = i
    · subst e; simp [hn]
    · have : (j < i ∧ new j = true) ↔ (j < i + 1 ∧ new j = true) := by constructor <;> (rintro ⟨h1, h2⟩; exact ⟨by omega, h2⟩)
      simp only [this]⟩
theorem WvI.hit {N n i : Nat} {new : Nat → Bool} {far0 far : List Nat} (h : WvI N n new far0 i far) (hi : i < N) (hn : new i = true) : WvI N n new far0 (i + 1) (far.set i n) := by
  have hl := h.ln
  refine ⟨by rw [List.length_set]; exact hl, fun j hj => ?_⟩
  rw [List.getD_eq_getElem?_getD, List.getElem?_set]
  by_cases e : i = j
  · subst e; simp [hn, hl, hi]
  · rw [if_neg e, ← List.getD_eq_getElem?_getD, h.at_ j hj]
    have : (j < i ∧ new j = true) ↔ (j < i + 1 ∧ new j = true) := by constructor <;> (rintro ⟨h1, h2⟩; exact ⟨by omega, h2⟩)
    simp only [this]
end Go.V
namespace Go.Proofs.YtcapljamcepmkaaDoor
open Go.V
section
variable {w : World} {L : List Asn} {b T N to : Nat} {os : List (Option Addr)} {vs : List (List Bool)}
set_option maxHeartbeats 4000000 in
theorem y_waves (hw : WebR (hp w) b T N os vs) (hN : N ≤ 65) (hR : ∀ a k, Rel vs a k → k < N) (hto : to < N) : Run Tryd.prog n_cycle_web_waves [.pointer (some ⟨b, 0, none⟩), .int .i64 (to : Int)] w fun v w' => ∃ (k : Nat) (far : List Nat), v = .slice (some ⟨k, 0, none⟩) N N ∧ FarF (Rel vs) N to far ∧ (∀ i, far.getD i 0 ≤ N + 2) ∧ St w' (cel k (ivn far) :: all w) := by
  refine run_cycle_web_waves _ _ w _ ?_
  obtain ⟨⟨o, c, r1, r2⟩, r3, r4⟩ := hw
  have hos := r2.1
  refine ⟨_, _, _, r1.cell0 (sub.refl _), ⟨by omega, rfl, by omega⟩, ?_⟩
  rw [Int.toNat_natCast, reps_one, ivn_rep]
  refine newC_i (St.all w) fun k3 w1 h => newC_i h fun k4 w2 h => ?_
  have h : St w2 (cel k4 (ivn [to]) :: cel k3 (ivn (List.replicate N 0)) :: all w) := h
  have h : St w2 (own 1 (some ⟨k4, 0, none⟩) 1 1 (ivn [to]) :: _) := own_some (cs := []) (by simpa using h) rfl rfl (Nat.le_refl _)
  obtain ⟨Q, hQ⟩ := name_it (fun (o : Option Addr) (l c : Nat) (z : Int) (w' : World) (m : Nat) => ∃ (n : Nat) (cur far : List Nat), z = n ∧ l = cur.length ∧ cur.length ≤ N + 1 ∧ Bfs (Rel vs) N to n cur far ∧ m = zer far + (if cur = [] then 0 else 1) ∧ zer far + n ≤ N + 1 + (if cur = [] then 1 else 0) ∧ (∀ k ∈ cur, k < N) ∧ St w' [own 1 o l c (ivn cur), cel k3 (ivn far), has (hp w)])
  obtain ⟨μ, mu1, mu2⟩ := least_fn (fun (y : Option Addr × Nat × Nat × Int × World) m => Q y.1 y.2.1 y.2.2.1 y.2.2.2.1 y.2.2.2.2 m)
  have hzr : zer (List.replicate N 0) = N := by unfold zer; rw [List.filter_eq_self.2 (by simp)]; simp
  refine ⟨fun o l c z w' => ∃ m, Q o l c z w' m, fun o l c z w => μ (o, l, c, z, w), ⟨N + 1, ?_⟩, ?_⟩
  · rw [hQ]
    exact ⟨1, [to], _, rfl, rfl, by simp, bfs_init, by rw [hzr]; simp, by rw [hzr]; simp, by simpa using hto, h⟩
  clear h
  intro _ o2 l2 c2 z2 w3 hP
  have hP := mu2 (o2, l2, c2, z2, w3) hP
  dsimp only at hP
  generalize hμ : μ (o2, l2, c2, z2, w3) = μ0 at *
  rw [hQ] at hP
  obtain ⟨n, cur, far, rfl, rfl, hcl, hB, hm, hnz, hcN, h⟩ := hP
  refine br_intro (fun hlt => ?_) fun hlt => ?_
  rotate_left
  · have hc0 : cur = [] := List.eq_nil_of_length_eq_zero (by have := of_decide_eq_false hlt; omega)
    subst hc0
    refine ⟨k3, far, rfl, hB.done hR, fun i => ?_, St.on1 (A := cel k3 (ivn far)) (h.pick 3 [1, 2]) (has_i (sub.refl _))⟩
    rw [if_pos rfl] at hnz
    by_cases hi : i < far.length
    · by_cases h0 : far.getD i 0 = 0
      · omega
      · have := (hB.p i _ (getD_some hi) (by omega)).1
        omega
    · rw [List.getD_eq_getElem?_getD, List.getElem?_eq_none (by omega)]; exact Nat.zero_le _
  have hc0 : cur ≠ [] := fun e => by rw [e] at hlt; simp at hlt
  rw [if_neg hc0] at hm hnz
  have hlF := hB.ln
  obtain ⟨new, hnew⟩ : ∃ new : Nat → Bool, new = fun i => decide (far.getD i 0 = 0) && cur.any fun k => fnB (vs.getD i []) k := ⟨_, rfl⟩
  have rW : ∀ {w' : World}, sub (hp w) (hp w') → rowH (hp w') ⟨b, 0, none⟩ [.slice o N c, .int .i64 (T : Int)] := fun s => r1.mono s
  refine ⟨_, _, _, (rW (rdH 2 h.l)).cell0 (sub.refl _), ?_⟩
  refine ⟨fun o4 l4 c4 z w' => ∃ (i : Nat) (far' nxt : List Nat), z = i ∧ i ≤ N ∧ nxt = (List.range i).filter new ∧ l4 = nxt.length ∧ WvI N n new far i far' ∧ St w' [own 1 o2 cur.length c2 (ivn cur), own 1 o4 l4 c4 (ivn nxt), cel k3 (ivn far'), has (hp w)], fun _ _ _ z _ => N - z.toNat, ⟨0, far, [], rfl, Nat.zero_le _, rfl, rfl, ⟨hlF, fun j _ => by simp⟩, (own_nil 1 h).swap⟩, ?_⟩
  clear h
  rintro _ o4 l4 c4 z w4 ⟨i, far', nxt, rfl, hi, hnx, rfl, hW, h⟩
  have hnl : nxt.length ≤ i := by rw [hnx]; have := List.length_filter_le new (List.range i); simpa using this
  refine br_intro (fun hlt2 => ?_) fun hlt2 => ?_
  rotate_left
  · have hlt2 : i = N := by have := of_decide_eq_false hlt2; omega
    have h4 := h
    subst hlt2
    have hnp : ∀ j, new j = true ↔ far.getD j 0 = 0 ∧ ∃ k ∈ cur, Rel vs j k := fun j => by
      rw [hnew]; simp [Rel]
    have hB' := hB.next hR hW.ln (fun j => new j = true) (fun j _ => hnp j) (fun j hj hn => by rw [hW.at_ j hj, if_pos ⟨hj, hn⟩]) (fun j hj hn => by rw [hW.at_ j hj, if_neg (fun h => hn h.2)]) (cur' := nxt) (fun k => by rw [hnx]; simp)
    obtain ⟨z1, z2⟩ := zer_le (far := far) (far' := far') (by rw [hW.ln, hlF]) fun j hj h0 => by
      rw [hW.at_ j (by omega)] at h0
      split at h0
      · have := hB.one; omega
      · exact h0
    have key : Q o4 nxt.length c4 (((n + 1 : Nat) : Int)) w4 (zer far' + (if nxt = [] then 0 else 1)) := by
      rw [hQ]
      refine ⟨n + 1, nxt, far', rfl, rfl, by omega, hB', rfl, ?_, fun k hk => by rw [hnx] at hk; simp at hk; exact hk.1, h4.pick 4 [1, 2, 3]⟩
      by_cases e : nxt = []
      · rw [if_pos e]; omega
      · rw [if_neg e]
        obtain ⟨k, hk⟩ := List.exists_mem_of_ne_nil _ e
        have hk' : k < i ∧ new k = true := by rw [hnx] at hk; simpa using hk
        have := z2 k (by omega) ((hnp k).1 hk'.2).1 (by rw [hW.at_ k hk'.1, if_pos hk']; have := hB.one; omega)
        omega
    have e1 : (n : Int) + 1 = ((n + 1 : Nat) : Int) := by simp
    rw [e1]
    refine ⟨⟨by omega, by omega⟩, ⟨_, key⟩, ?_⟩
    have := mu1 (o4, nxt.length, c4, ((n + 1 : Nat) : Int), w4) _ key
    dsimp only at this ⊢
    rw [hμ]
    refine Nat.lt_of_le_of_lt this ?_
    rw [hm]
    by_cases e : nxt = []
    · rw [if_pos e]; omega
    · rw [if_neg e]
      obtain ⟨k, hk⟩ := List.exists_mem_of_ne_nil _ e
      have hk' : k < i ∧ new k = true := by rw [hnx] at hk; simpa using hk
      have := z2 k (by omega) ((hnp k).1 hk'.2).1 (by rw [hW.at_ k hk'.1, if_pos hk']; have := hB.one; omega)
      omega
  have hlt2 : i < N := by have := of_decide_eq_true hlt2; omega
  have er : List.range (i + 1) = List.range i ++ [i] := List.range_succ
  have hWl := hW.ln
  have hfi : far'.getD i 0 = far.getD i 0 := by rw [hW.at_ i hlt2, if_neg (by omega)]
  obtain ⟨v, hv⟩ : ∃ v, vs[i]? = some v := ⟨vs[i]'(by omega), List.getElem?_eq_getElem _⟩
  obtain ⟨oi, hoi⟩ : ∃ oi, os[i]? = some oi := ⟨os[i]'(by omega), List.getElem?_eq_getElem _⟩
  have hvd : vs.getD i [] = v := by rw [List.getD_eq_getElem?_getD, hv]; rfl
  refine ⟨fun o5 l5 c5 z w' => ∃ m : Nat, z = m ∧ m ≤ cur.length ∧ l5 = nxt.length ∧ (far.getD i 0 = 0 → ∀ k ∈ cur.take m, fnB v k = false) ∧ St w' [own 1 o2 cur.length c2 (ivn cur), own 1 o5 l5 c5 (ivn nxt), cel k3 (ivn far'), has (hp w)], fun _ _ _ z _ => cur.length - z.toNat, ⟨0, rfl, Nat.zero_le _, rfl, fun _ k hk => by simp at hk, h⟩, ?_⟩
  clear h
  rintro _ o5 l5 c5 z w5 ⟨m, rfl, hmc, rfl, hno, h⟩
  refine br_intro (fun hlt3 => ?_) fun hlt3 => ?_
  rotate_left
  · have hlt3 : m = cur.length := by have := of_decide_eq_false hlt3; omega
    subst hlt3
    rw [List.take_length] at hno
    have hn0 : new i = false := by
      rw [hnew]
      show (decide (far.getD i 0 = 0) && cur.any fun k => fnB (vs.getD i []) k) = false
      rw [hvd]
      cases hz : decide (far.getD i 0 = 0)
      · rfl
      · have := hno (of_decide_eq_true hz)
        rw [Bool.true_and, List.any_eq_false]
        intro k hk; rw [this k hk]; simp
    exact ⟨⟨by omega, by omega⟩, ⟨i + 1, far', nxt, by simp, by omega, by rw [er, List.filter_append, List.filter_cons_of_neg (by rw [hn0]; simp)]; simpa using hnx, rfl, hW.skip hn0, h⟩, msr hlt2⟩
  have hlt3 : m < cur.length := by have := of_decide_eq_true hlt3; omega
  obtain ⟨k, hk⟩ : ∃ k, cur[m]? = some k := ⟨cur[m], List.getElem?_eq_getElem hlt3⟩
  have hkm := List.mem_of_getElem? hk
  have nx : (far.getD i 0 = 0 → fnB v k = false) → St w5 [own 1 o2 cur.length c2 (ivn cur), own 1 o5 nxt.length c5 (ivn nxt), cel k3 (ivn far'), has (hp w)] →
      inI ((m : Int) + 1) ∧ (∃ m' : Nat, (m : Int) + 1 = m' ∧ m' ≤ cur.length ∧ nxt.length = nxt.length ∧ (far.getD i 0 = 0 → ∀ k ∈ cur.take m', fnB v k = false) ∧ St w5 [own 1 o2 cur.length c2 (ivn cur), own 1 o5 nxt.length c5 (ivn nxt), cel k3 (ivn far'), has (hp w)]) ∧ cur.length - ((m : Int) + 1).toNat < cur.length - (m : Int).toNat := fun hh h' => by
    refine ⟨⟨by omega, by omega⟩, ⟨m + 1, by simp, by omega, rfl, fun h0 y hy => ?_, h'⟩, msr hlt3⟩
    rw [List.take_add_one, hk] at hy
    rcases List.mem_append.1 hy with hy | hy
    · exact hno h0 y hy
    · simp at hy; subst hy; exact hh h0
  obtain ⟨cad, hca, hcc⟩ := own_cell h (j := m) (v := .int .i64 (k : Int)) (ivn_get hk)
  refine idx_i hca hlt3 ⟨_, hcc, idx_i rfl hlt2 ⟨((far.getD i 0 : Nat) : Int), (rdCel 2 h.l).cell (sub.refl _) (j := i) (by rw [← hfi]; exact ivn_get (getD_some (by omega))), br_intro (fun h0 => ?_) fun h0 => nx (fun e => by rw [e] at h0; simp at h0) h⟩⟩
  have h0 : far.getD i 0 = 0 := by
    have e : ((far.getD i 0 : Nat) : Int) = 0 := (by simpa using h0)
    omega
  have r2' : rdS (hp w5) os o N := r2.mono (rdH 3 h.l)
  obtain ⟨oad, hoa, _⟩ := r2'.at hoi
  refine ⟨_, _, _, (rW (rdH 3 h.l)).cell0 (sub.refl _), idx_i hoa hlt2 ⟨oi, r2'.atv hoa hoi, (s_Has ((r4 i oi v hoi hv).mono (rdH 3 h.l)) (k : Int)).mono ?_⟩⟩
  rintro _ w6 ⟨rfl, rfl⟩
  have ehb : hasB v (k : Int) = fnB v k := by unfold hasB; simp
  refine ⟨_, rfl, br_intro (fun hb1 => ?_) fun hb1 => nx (fun _ => by rw [← ehb]; exact hb1) h⟩
  rw [ehb] at hb1
  have hn1 : new i = true := by
    rw [hnew]
    show (decide (far.getD i 0 = 0) && cur.any fun k => fnB (vs.getD i []) k) = true
    rw [hvd, h0, decide_eq_true rfl, Bool.true_and, List.any_eq_true]; exact ⟨k, hkm, hb1⟩
  refine idx_i rfl hlt2 ?_
  rw [add_lit0]
  refine st1_i (h.pick 4 [2, 0, 1, 3]) (by simp [ivn]; omega) fun w7 h => newC_i h fun k15 w8 h => ?_
  rw [ivn_set] at h
  refine (app_one tyOk (rfl : kdOfT Ty _ = .slice _) (rfl : kdOfT Ty _ = .slice _) rfl rfl rfl (h.pick 5 [0, 3, 1, 2, 4]) rfl (by simp [oneC]) (by show (nxt.length + 1) * 8 ≤ _; omega) (by omega)).mono ?_
  rintro _ w9 ⟨o', c', rfl, h⟩
  have e5 : ivn nxt ++ [Value.int .i64 (i : Int)] = ivn (nxt ++ [i]) := by simp [ivn]
  rw [e5] at h
  refine ⟨_, _, _, rfl, ⟨by omega, by omega⟩, ⟨i + 1, far'.set i n, nxt ++ [i], by simp, by omega, by rw [er, List.filter_append, List.filter_cons_of_pos hn1, hnx]; simp, by simp, hW.hit hlt2 hn1, h.pick 5 [3, 0, 2, 4]⟩, msr hlt2⟩
end
end Go.Proofs.YtcapljamcepmkaaDoor
set_option linter.unusedVariables false
namespace Go.V
theorem rdOv {L : List Asn} {h : Hp} {a : Option Addr} {sz l c : Nat} {vs : List Value} (i : Nat) (hl : starL L h) (e : nthA L i = own sz a l c vs := by rfl) (hi : Nat.blt i (lenA L) = true := by rfl) : rdV a vs h := by
  obtain ⟨h1, s, ha⟩ := starL_nth i (by simpa [lenA_eq] using hi) hl
  rw [e] at ha
  exact rdV.mono s (own_rdVh ha)
theorem iv_setL (xs : List Int) (i : Nat) (v : Int) : (iv xs).set i (.int .i64 v) = iv (xs.set i v) := by simp [iv, List.map_set]
def addT (T : Nat) (xs : List Int) : List Int := xs.map fun x => x + (T : Int)
theorem addT_len (T : Nat) (xs : List Int) : (addT T xs).length = xs.length := by simp [addT]
def slI (os : List (Option Addr × Nat)) (xss : List (List Int)) : List Value := List.zipWith (fun o xs => .slice o.1 xs.length o.2) os xss
def owI (os : List (Option Addr × Nat)) (xss : List (List Int)) : List Asn := List.zipWith (fun o xs => own 1 o.1 xs.length o.2 (iv xs)) os xss
theorem rdLs {w : World} {L : List Asn} {a : Option Addr} {n c : Nat} {os : List (Option Addr × Nat)} {xss : List (List Int)} (h : St w (own 1 a n c (slI os xss) :: sta (owI os xss) :: L)) (hl : os.length = n) (hn : xss.length = n) : rdS (hp w) xss a n := by
  refine ⟨hn, fun i x hx => ?_⟩
  have hi := (List.getElem?_eq_some_iff.1 hx).1
  obtain ⟨o, ho⟩ : ∃ o, os[i]? = some o := ⟨os[i]'(by omega), List.getElem?_eq_getElem _⟩
  have hv : (slI os xss)[i]? = some (.slice o.1 x.length o.2) := by unfold slI; rw [List.getElem?_zipWith, ho, hx]
  obtain ⟨g1, s1, ha⟩ := sta_nth (h.pick 2 [1]) (A := own 1 o.1 x.length o.2 (iv x)) (List.mem_of_getElem? (i := i) (by unfold owI; rw [List.getElem?_zipWith, ho, hx]))
  rcases rdOv 0 h.l with e | ⟨ad, e, hc⟩
  · rw [e] at hv; simp at hv
  · refine ⟨ad, [.slice o.1 x.length o.2], e, fun j v hj => ?_, o.1, x.length, o.2, rfl, ownH_le ha, (rdI_of rfl (own_rdVh ha)).mono s1⟩
    cases j with
    | zero =>
      simp at hj; subst hj
      rw [add_add, mulS_eq]
      have := hc i _ hv
      rw [show i * Rep.n (List Int) + 0 = i from by show i * 1 + 0 = i; omega]
      exact this
    | succ j => simp at hj
theorem rel_eq {g : GramT} {vs : List (List Bool)} (hV : VsP g.N vs (Stp g)) (iG : InG g) : Rel vs = Stp g := by
  funext a b
  refine propext ?_
  unfold Rel
  by_cases ha : a < g.N
  · obtain ⟨v, hv⟩ : ∃ v, vs[a]? = some v := ⟨vs[a]'(by rw [hV.ln]; exact ha), List.getElem?_eq_getElem _⟩
    rw [List.getD_eq_getElem?_getD, hv]
    exact hV.st a v hv b
  · rw [List.getD_eq_getElem?_getD, List.getElem?_eq_none (by rw [hV.ln]; omega)]
    refine ⟨fun h => by simp [fnB] at h, fun ⟨nn, _, p, hp, h1, _⟩ => ?_⟩
    have := (iG p hp).1
    omega
theorem stp_lt {g : GramT} (iG : InG g) {a b : Nat} (h : Stp g a b) : a < g.N ∧ b < g.N := by
  obtain ⟨nn, _, p, hp, h1, h2, _⟩ := h
  have e1 := (iG p hp).1
  have e2 := (iG p hp).2 _ h2
  omega
structure OnL (R : Nat → Nat → Prop) (N : Nat) (ol : List Nat) : Prop where
  ex : ∃ p : Nat → Bool, (∀ i, p i = true ↔ OnP R i) ∧ ol = (List.range N).filter p
theorem OnL.mem {R : Nat → Nat → Prop} {N : Nat} {ol : List Nat} (h : OnL R N ol) {x : Nat} : x ∈ ol ↔ x < N ∧ OnP R x := by
  obtain ⟨p, hp, rfl⟩ := h.ex
  rw [List.mem_filter, List.mem_range, hp]
theorem OnL.le {R : Nat → Nat → Prop} {N : Nat} {ol : List Nat} (h : OnL R N ol) : ol.length ≤ N := by
  obtain ⟨p, hp, rfl⟩ := h.ex
  have := List.length_filter_le p (List.range N); simpa using this
theorem path_way {R : Nat → Nat → Prop} {out : List Nat} {l0 : Nat} (h0 : out[0]? = some l0) (hs : ∀ (i : Nat) a b, out[i]? = some a → out[i + 1]? = some b → R a b) : ∀ (i : Nat) x, out[i + 1]? = some x → WayN R x (i + 1) l0
  | 0, x, hx => .one _ (hs 0 l0 x h0 hx)
  | i + 1, x, hx => by
    have hl := (List.getElem?_eq_some_iff.1 hx).1
    obtain ⟨y, hy⟩ : ∃ y, out[i + 1]? = some y := ⟨out[i + 1]'(by omega), List.getElem?_eq_getElem _⟩
    exact (path_way h0 hs i y hy).trans (.one y (hs (i + 1) y x hy hx))
structure PthP (R : Nat → Nat → Prop) (N F l0 : Nat) (far out : List Nat) : Prop where
  z : out[0]? = some l0
  st : ∀ (i : Nat) a b, out[i]? = some a → out[i + 1]? = some b → R a b
  lt : ∀ x ∈ out, x < N
  fa : ∀ (i : Nat) x, out[i]? = some x → far.getD x 0 + i = F
theorem PthP.snoc {R : Nat → Nat → Prop} {N F l0 k last : Nat} {far out : List Nat} (h : PthP R N F l0 far out) (hl : out[out.length - 1]? = some last) (hr : R last k) (hk : k < N) (hf : far.getD k 0 + out.length = F) : PthP R N F l0 far (out ++ [k]) := by
  have h0 := (List.getElem?_eq_some_iff.1 h.z).1
  refine ⟨by rw [List.getElem?_append_left h0]; exact h.z, fun i a b ha hb => ?_, fun x hx => ?_, fun i x hx => ?_⟩
  · have hi := (List.getElem?_eq_some_iff.1 hb).1
    rw [List.length_append, List.length_singleton] at hi
    rw [List.getElem?_append_left (by omega)] at ha
    by_cases hi2 : i + 1 < out.length
    · rw [List.getElem?_append_left hi2] at hb
      exact h.st i a b ha hb
    · have e : i = out.length - 1 := by omega
      rw [e, hl] at ha; cases ha
      rw [List.getElem?_append_right (by omega)] at hb
      have : i + 1 - out.length = 0 := by omega
      rw [this] at hb; cases hb; exact hr
  · rcases List.mem_append.1 hx with hx | hx
    · exact h.lt x hx
    · rw [List.mem_singleton.1 hx]; exact hk
  · have hi := (List.getElem?_eq_some_iff.1 hx).1
    rw [List.length_append, List.length_singleton] at hi
    by_cases hi2 : i < out.length
    · rw [List.getElem?_append_left hi2] at hx; exact h.fa i x hx
    · have e : i = out.length := by omega
      subst e
      rw [List.getElem?_append_right (Nat.le_refl _), Nat.sub_self] at hx
      cases hx; exact hf
theorem PthP.cir {R : Nat → Nat → Prop} {N F l0 : Nat} {far out : List Nat} (h : PthP R N F l0 far out) (hF : FarF R N l0 far) (hl : out.length = F) : CirP R N out := by
  have h0 := (List.getElem?_eq_some_iff.1 h.z).1
  have fw : ∀ (i : Nat) x, out[i]? = some x → WayN R l0 (far.getD x 0) x := fun i x hx => by
    have hi := (List.getElem?_eq_some_iff.1 hx).1
    have := h.fa i x hx
    have hxN := h.lt x (List.mem_of_getElem? hx)
    exact (hF.p x _ (getD_some (by rw [hF.ln]; exact hxN)) (by omega)).1
  refine ⟨h.lt, ?_, fun i a b ha hb => ?_, fun x hx => ?_⟩
  · rw [List.nodup_iff_pairwise_ne, List.pairwise_iff_getElem]
    intro i j hi hj hij e
    have e1 := h.fa i _ (List.getElem?_eq_getElem hi)
    have e2 := h.fa j _ (List.getElem?_eq_getElem hj)
    rw [e] at e1; omega
  · have hi := (List.getElem?_eq_some_iff.1 ha).1
    by_cases hi2 : i + 1 < out.length
    · rw [Nat.mod_eq_of_lt hi2] at hb; exact h.st i a b ha hb
    · have e : i + 1 = out.length := by omega
      rw [e, Nat.mod_self, h.z] at hb; cases hb
      have := fw i a ha
      have hf := h.fa i a ha
      rw [show far.getD a 0 = 1 from by omega] at this
      cases this with
      | one _ hr => exact hr
      | more n _ k _ hw => exact absurd hw.pos (by omega)
  · obtain ⟨i, hi⟩ := List.getElem?_of_mem hx
    have hw := fw i x hi
    cases i with
    | zero => rw [h.z] at hi; cases hi; exact ⟨_, hw⟩
    | succ i => exact ⟨_, hw.trans (path_way h.z h.st i x hi)⟩
end Go.V
namespace Go.Proofs.YtcapljamcepmkaaDoor
open Go.V
section
variable {w : World} {L : List Asn} {b T N l c : Nat} {os : List (Option Addr)} {vs : List (List Bool)} {a : Option Addr} {xs : List Int} {v0 : Value}
set_option maxHeartbeats 1000000 in
theorem y_names (h : St w (own 1 a l c (iv xs) :: L)) (hb : ∀ h, starL L h → rowH h ⟨b, 0, none⟩ [v0, .int .i64 (T : Int)]) (hx : ∀ x ∈ xs, 0 ≤ x ∧ x ≤ 1000000) (hT : T ≤ 65) (hl : l ≤ 4611686018427387904) : Run Tryd.prog n_cycle_web_names [.pointer (some ⟨b, 0, none⟩), .slice a l c] w fun v w' => v = .slice a l c ∧ St w' (own 1 a l c (iv (addT T xs)) :: L) := by
  refine run_cycle_web_names _ _ _ _ w _ ?_
  have hxl : xs.length = l := by have := own_len h; rw [iv_len] at this; omega
  refine ⟨fun z w' => ∃ i : Nat, z = i ∧ i ≤ l ∧ St w' (own 1 a l c (iv (addT T (xs.take i) ++ xs.drop i)) :: L), fun z _ => l - z.toNat, ⟨0, rfl, Nat.zero_le _, by simpa [addT] using h⟩, ?_⟩
  clear h
  rintro _ z w1 ⟨i, rfl, hi, h⟩
  refine br_intro (fun hlt => ?_) fun hlt => ?_
  rotate_left
  · have hlt : i = l := by have := of_decide_eq_false hlt; omega
    subst hlt
    rw [List.take_of_length_le (by omega), List.drop_of_length_le (by omega), List.append_nil] at h
    exact ⟨rfl, h⟩
  have hlt : i < l := by have := of_decide_eq_true hlt; omega
  obtain ⟨x, hx1⟩ : ∃ x, xs[i]? = some x := ⟨xs[i], List.getElem?_eq_getElem (by omega)⟩
  have hxb := hx x (List.mem_of_getElem? hx1)
  have hlen : (addT T (xs.take i)).length = i := by rw [addT_len, List.length_take]; omega
  have hxi : (addT T (xs.take i) ++ xs.drop i)[i]? = some x := by
    rw [List.getElem?_append_right (by omega), hlen, Nat.sub_self, List.getElem?_drop, Nat.add_zero, hx1]
  intro w2 hd
  have h := h.drawn hd
  obtain ⟨ad, ha, _⟩ := own_cell h (iv_get hxi)
  have r0 : rowH (hp w2) ⟨b, 0, none⟩ [v0, .int .i64 (T : Int)] := hb _ h.tail
  refine ⟨fun w' => hp w' = hp w2, rfl, idx_i ha hlt ⟨x, fun w' q => ?_, (T : Int), fun w' q => ?_, ⟨by omega, by omega⟩, idx_i ha hlt ?_⟩⟩
  · obtain ⟨ad', e, hc⟩ := own_cell (h.eq q) (iv_get hxi)
    rw [ha] at e; cases e; exact hc
  · rw [cell_hp q]; exact r0.cell (sub.refl _) (j := 1) rfl
  · refine own_st1 h ha (by rw [iv_len, List.length_append, hlen, List.length_drop]; omega) fun w5 h => ⟨⟨by omega, by omega⟩, ⟨i + 1, by simp, by omega, ?_⟩, msr hlt⟩
    have e : (iv (addT T (xs.take i) ++ xs.drop i)).set i (.int .i64 (x + (T : Int))) = iv (addT T (xs.take (i + 1)) ++ xs.drop (i + 1)) := by
      have e1 : xs.drop i = x :: xs.drop (i + 1) := by rw [List.drop_eq_getElem_cons (by omega)]; congr 1; exact (List.getElem?_eq_some_iff.1 hx1).2
      have e2 : xs.take (i + 1) = xs.take i ++ [x] := by rw [List.take_add_one, hx1]; rfl
      rw [iv_setL, e1, e2]
      have : (addT T (xs.take i) ++ x :: xs.drop (i + 1)).set i (x + (T : Int)) = addT T (xs.take i) ++ ((x + (T : Int)) :: xs.drop (i + 1)) := by
        rw [List.set_append_right _ _ (by omega), hlen, Nat.sub_self]; rfl
      rw [this]; simp [addT]
    rw [e] at h; exact h
set_option maxHeartbeats 2000000 in
theorem y_on (hw : WebR (hp w) b T N os vs) (hN : N ≤ 65) (hR : ∀ a k, Rel vs a k → k < N) : Run Tryd.prog n_cycle_web_on [.pointer (some ⟨b, 0, none⟩)] w fun v w' => ∃ (a : Option Addr) (c : Nat) (ol : List Nat), v = .slice a ol.length c ∧ OnL (Rel vs) N ol ∧ St w' (own 1 a ol.length c (ivn ol) :: all w) := by
  refine run_cycle_web_on _ w _ ?_
  obtain ⟨⟨o, c, r1, r2⟩, r3, r4⟩ := id hw
  obtain ⟨p, hp'⟩ : ∃ p : Nat → Bool, ∀ i, p i = true ↔ OnP (Rel vs) i := ⟨fun i => @decide (OnP (Rel vs) i) (Classical.propDecidable _), fun i => by simp⟩
  refine ⟨_, _, _, r1.cell0 (sub.refl _), ?_⟩
  refine ⟨fun o4 l4 c4 z w' => ∃ (i : Nat) (nxt : List Nat), z = i ∧ i ≤ N ∧ nxt = (List.range i).filter p ∧ l4 = nxt.length ∧ St w' [own 1 o4 l4 c4 (ivn nxt), has (hp w)], fun _ _ _ z _ => N - z.toNat, ⟨0, [], rfl, Nat.zero_le _, rfl, rfl, own_nil 1 (St.all w)⟩, ?_⟩
  rintro _ o4 l4 c4 z w1 ⟨i, nxt, rfl, hi, hnx, rfl, h⟩
  have hnl : nxt.length ≤ i := by rw [hnx]; have := List.length_filter_le p (List.range i); simpa using this
  refine br_intro (fun hlt => ?_) fun hlt => ?_
  rotate_left
  · have hlt : i = N := by have := of_decide_eq_false hlt; omega
    exact ⟨o4, c4, nxt, rfl, ⟨p, hp', by rw [hnx, hlt]⟩, h⟩
  have hlt : i < N := by have := of_decide_eq_true hlt; omega
  have er : List.range (i + 1) = List.range i ++ [i] := List.range_succ
  refine (y_waves (hw.mono (rdH 1 h.l)) hN hR hlt).mono ?_
  rintro _ w2 ⟨kf, far, rfl, hF, _, h2⟩
  have h := h2.on1 h
  have hfl := hF.ln
  have hon : p i = true ↔ 0 < far.getD i 0 := by
    rw [hp']
    constructor
    · rintro ⟨m, hm⟩
      exact Nat.pos_of_ne_zero fun e => hF.z i hlt e m hm
    · intro h0
      exact ⟨_, (hF.p i _ (getD_some (by omega)) h0).1⟩
  refine ⟨_, _, _, rfl, idx_i rfl hlt ⟨((far.getD i 0 : Nat) : Int), (rdCel 0 h.l).cell (sub.refl _) (j := i) (ivn_get (getD_some (by omega))), br_intro (fun h0 => ?_) fun h0 => ?_⟩⟩
  · have h0 : p i = true := hon.2 (by have := of_decide_eq_true h0; omega)
    refine newC_i h fun k7 w3 h => ?_
    refine (app_one tyOk (rfl : kdOfT Ty _ = .slice _) (rfl : kdOfT Ty _ = .slice _) rfl rfl rfl (h.pick 4 [0, 2, 1, 3]) rfl (by simp [oneC]) (by show (nxt.length + 1) * 8 ≤ _; omega) (by omega)).mono ?_
    rintro _ w4 ⟨o', c', rfl, h⟩
    have e5 : ivn nxt ++ [Value.int .i64 (i : Int)] = ivn (nxt ++ [i]) := by simp [ivn]
    rw [e5] at h
    exact ⟨_, _, _, rfl, ⟨by omega, by omega⟩, ⟨i + 1, nxt ++ [i], by simp, by omega, by rw [er, List.filter_append, List.filter_cons_of_pos h0, hnx]; simp, by simp, h.pick 4 [0, 3]⟩, msr hlt⟩
  · have h0 : ¬ p i = true := fun e => by
      have := hon.1 e
      have := of_decide_eq_false h0
      omega
    exact ⟨⟨by omega, by omega⟩, ⟨i + 1, nxt, by simp, by omega, by rw [er, List.filter_append, List.filter_cons_of_neg h0, hnx]; simp, rfl, h.pick 2 [1]⟩, msr hlt⟩
end
end Go.Proofs.YtcapljamcepmkaaDoor
set_option linter.unusedVariables false
namespace Go.Proofs.YtcapljamcepmkaaDoor
open Go.V
section
variable {w : World} {L : List Asn} {g : GramT} {x : GA}
theorem mbI_small {v : List Bool} {y : Int} (hv : v.length ≤ 65) (h : y ∈ mbI v) : 0 ≤ y ∧ y ≤ 1000000 := by
  unfold mbI at h
  obtain ⟨k, hk, rfl⟩ := List.mem_map.1 h
  have := (mem_mb.1 hk)
  have hk : k < v.length := Classical.byContradiction fun e => by rw [fnB_out (by omega)] at this; cases this
  omega
set_option maxHeartbeats 4000000 in
theorem y_Steps (hg : gR (hp w) g x) (hb : okG g) (ht : tabA (hp w)) : Run Tryd.prog n_cycle_Steps [.agg ⟨x.cells⟩] w fun v w' =>
    (¬ ClosedP g ∧ v = .tuple #[.slice none 0 0, .int .i64 1] ∧ Gr w w') ∨
    (ClosedP g ∧ ∃ (a : Option Addr) (c : Nat) (vs : List (List Bool)), v = .tuple #[.slice a g.N c, .int .i64 0] ∧ VsP g.N vs (Stp g) ∧ rdS (hp w') (vs.map fun v => addT g.T (mbI v)) a g.N ∧ Gr w w') := by
  refine run_cycle_Steps _ _ _ _ _ _ _ _ _ _ _ _ _ w _ ?_
  refine gbox hg fun k1 w1 gw hg B => ⟨_, _, _, _, _, _, _, _, _, _, _, _, _, B.row (sub.refl _), (y_spin (x := x) hg hb (rdV.mono gw ht)).mono ?_⟩
  rintro _ w2 (⟨hn, rfl, g2⟩ | ⟨hcl, b, o, c, ps, vs, rfl, hV, hps, h2⟩)
  · exact ⟨_, _, rfl, br_intro (fun _ => .inl ⟨hn, rfl, sub.trans gw g2⟩) fun h => by cases h⟩
  obtain ⟨iG, bT, bN, pN, pT, bP⟩ := inG (.inr hcl : EitherP g)
  have hW := web_of h2 hps hV.ln
  have g2 : sub (hp w1) (hp w2) := rdH 3 h2.l
  have ht2 := rdV.mono (sub.trans gw g2) ht
  have gs : sub (hp w) (hp w2) := sub.trans gw g2
  clear h2
  obtain ⟨⟨o, c, r1, r2⟩, r3, r4⟩ := id hW
  refine ⟨_, _, rfl, br_intro (fun h => by cases h) fun _ => ⟨_, _, _, r1.cell0 (sub.refl _), ?_⟩⟩
  obtain ⟨f, hf⟩ : ∃ f : List Bool → List Int, f = fun v => addT g.T (mbI v) := ⟨_, rfl⟩
  have h0 : St w2 (sta (owI [] []) :: _) := St.flat.2 (show St w2 ([] ++ _) from own_nil 1 (St.all w2))
  refine ⟨fun o4 l4 c4 z w' => ∃ (i : Nat) (os : List (Option Addr × Nat)), z = i ∧ i ≤ g.N ∧ l4 = i ∧ os.length = i ∧ St w' [own 1 o4 i c4 (slI os ((vs.take i).map f)), sta (owI os ((vs.take i).map f)), has (hp w2)], fun _ _ _ z _ => g.N - z.toNat, ⟨0, [], rfl, Nat.zero_le _, rfl, rfl, h0.swap⟩, ?_⟩
  clear h0
  rintro _ o4 l4 c4 z w3 ⟨i, os, rfl, hi, rfl, hos, h⟩
  have hvl := hV.ln
  refine br_intro (fun hlt => ?_) fun hlt => ?_
  rotate_left
  · have hlt : l4 = g.N := by have := of_decide_eq_false hlt; omega
    rw [hlt] at h ⊢
    refine .inr ⟨hcl, o4, c4, vs, rfl, hV, ?_, sub.trans gs (rdH 2 h.l)⟩
    rw [List.take_of_length_le (by omega)] at h
    rw [hlt] at hos
    exact hf ▸ rdLs h hos (by simp [hvl])
  have hlt : l4 < g.N := by have := of_decide_eq_true hlt; omega
  obtain ⟨v, hv⟩ : ∃ v, vs[l4]? = some v := ⟨vs[l4]'(by omega), List.getElem?_eq_getElem _⟩
  have hvN := hV.le v (List.mem_of_getElem? hv)
  obtain ⟨p, hp'⟩ : ∃ p, ps[l4]? = some p := ⟨ps[l4]'(by omega), List.getElem?_eq_getElem _⟩
  have hpk : (ps.map bk)[l4]? = some (bk p) := by rw [List.getElem?_map, hp']; rfl
  have r2' := r2.mono (rdH 2 h.l)
  obtain ⟨oad, hoa, _⟩ := r2'.at hpk
  refine idx_i hoa hlt ⟨bk p, r2'.atv hoa hpk, (s_Members ((r4 l4 _ v hpk hv).mono (rdH 2 h.l)) (rdV.mono (rdH 2 h.l) ht2)).mono ?_⟩
  rintro _ w4 ⟨a', c', rfl, h4⟩
  have h := h4.on1 h
  have hcl' := cntB_le v
  refine ⟨_, _, _, rfl, (y_names (b := b) (v0 := .slice o g.N c) h (fun h hh => r1.mono (rdH 2 hh)) (fun y hy => mbI_small (by omega) hy) bT (by omega)).mono ?_⟩
  rintro _ w5 ⟨rfl, h⟩
  refine ⟨_, _, _, rfl, newC_i h fun k18 w6 h => ?_⟩
  refine (app_one tyOk (rfl : kdOfT Ty _ = .slice _) (rfl : kdOfT Ty _ = .slice _) rfl rfl rfl (h.pick 5 [0, 2, 1, 3, 4]) rfl (by simp [oneC]) (by show (l4 + 1) * 24 ≤ _; omega) (by omega)).mono ?_
  rintro _ w7 ⟨o', c'', rfl, h⟩
  have h := St.snoc (h.pick 5 [2, 3, 0, 4])
  have ef : f v = addT g.T (mbI v) := by rw [hf]
  have el : (f v).length = cntB v := by rw [ef, addT_len, mbI_len]
  have et : (vs.take (l4 + 1)).map f = (vs.take l4).map f ++ [f v] := by rw [List.take_add_one, hv]; simp
  have hlm : os.length = ((vs.take l4).map f).length := by rw [List.length_map, List.length_take]; omega
  have e1 : slI os ((vs.take l4).map f) ++ [Value.slice a' (cntB v) c'] = slI (os ++ [(a', c')]) ((vs.take (l4 + 1)).map f) := by
    rw [et]; unfold slI; rw [List.zipWith_append hlm]; simp [el]
  have e2 : owI os ((vs.take l4).map f) ++ [own 1 a' (cntB v) c' (iv (addT g.T (mbI v)))] = owI (os ++ [(a', c')]) ((vs.take (l4 + 1)).map f) := by
    rw [et]; unfold owI; rw [List.zipWith_append hlm, ← el, ← ef]; rfl
  refine ⟨_, _, _, rfl, ⟨by omega, by omega⟩, ⟨l4 + 1, os ++ [(a', c')], by simp, by omega, rfl, by simp [hos], ?_⟩, msr hlt⟩
  rw [← e1, ← e2]
  exact h.pick 3 [1, 0, 2]
set_option maxHeartbeats 2000000 in
theorem y_On (hg : gR (hp w) g x) (hb : okG g) (ht : tabA (hp w)) : Run Tryd.prog n_cycle_On [.agg ⟨x.cells⟩] w fun v w' =>
    (¬ ClosedP g ∧ v = .tuple #[.slice none 0 0, .int .i64 1] ∧ Gr w w') ∨
    (ClosedP g ∧ ∃ (a : Option Addr) (c : Nat) (ol : List Nat), v = .tuple #[.slice a ol.length c, .int .i64 0] ∧ OnL (Stp g) g.N ol ∧ rdS (hp w') (addT g.T (ivn0 ol)) a ol.length ∧ Gr w w') := by
  refine run_cycle_On _ _ _ _ _ _ _ _ _ _ _ _ _ w _ ?_
  refine gbox hg fun k1 w1 gw hg B => ⟨_, _, _, _, _, _, _, _, _, _, _, _, _, B.row (sub.refl _), (y_spin (x := x) hg hb (rdV.mono gw ht)).mono ?_⟩
  rintro _ w2 (⟨hn, rfl, g2⟩ | ⟨hcl, b, o, c, ps, vs, rfl, hV, hps, h2⟩)
  · exact ⟨_, _, rfl, br_intro (fun _ => .inl ⟨hn, rfl, sub.trans gw g2⟩) fun h => by cases h⟩
  obtain ⟨iG, bT, bN, pN, pT, bP⟩ := inG (.inr hcl : EitherP g)
  have hW := web_of h2 hps hV.ln
  have hRe := rel_eq hV iG
  have gs : sub (hp w) (hp w2) := sub.trans gw (rdH 3 h2.l)
  clear h2
  obtain ⟨⟨o, c, r1, r2⟩, r3, r4⟩ := id hW
  refine ⟨_, _, rfl, br_intro (fun h => by cases h) fun _ => (y_on hW bN (fun a k h => (stp_lt iG (hRe ▸ h)).2)).mono ?_⟩
  rintro _ w3 ⟨a3, c3, ol, rfl, hol, h⟩
  rw [hRe] at hol
  rw [← iv_ivn0] at h
  have hle := hol.le
  refine ⟨_, _, _, rfl, (y_names (b := b) (v0 := .slice o g.N c) h (fun h hh => r1.mono (rdH 0 hh)) (fun y hy => ?_) bT (by omega)).mono ?_⟩
  · obtain ⟨k, hk, rfl⟩ := List.mem_map.1 hy
    have := (hol.mem.1 hk).1
    omega
  rintro _ w4 ⟨rfl, h⟩
  exact ⟨_, _, _, rfl, .inr ⟨hcl, a3, c3, ol, rfl, hol, rdI_of (by rw [addT_len, ivn0_len]) (rdOv 0 h.l), sub.trans gs (rdH 1 h.l)⟩⟩
theorem y_idxF {kf kn l c n N : Nat} {a fa : Option Addr} {fc : Nat} {xs far : List Nat} (hf : rowH (hp w) ⟨kf, 0, none⟩ [.slice fa N fc]) (hfr : rdV fa (ivn far) (hp w)) (hfl : far.length = N) (hn : rowH (hp w) ⟨kn, 0, none⟩ [.int .i64 (n : Int)]) (hr : rdS (hp w) (ivn0 xs) a l) (hlt : ∀ k ∈ xs, k < N) (hl : l ≤ 4611686018427387904) (hex : ∃ k ∈ xs, far.getD k 0 = n) :
    Run Tryd.prog n_slices_IndexFunc_int_int_ [.slice a l c, .func (.func n_cycle_Find_S1) #[] #[.pointer (some ⟨kf, 0, none⟩), .pointer (some ⟨kn, 0, none⟩)]] w fun v w' => (∃ (i : Nat) (k : Nat), v = .int .i64 (i : Int) ∧ i < l ∧ xs[i]? = some k ∧ far.getD k 0 = n) ∧ hp w' = hp w := by
  refine run_slices_IndexFunc_int_int_ _ _ _ _ _ w _ ?_
  have hxl : xs.length = l := by have := hr.1; rwa [ivn0_len] at this
  refine ⟨fun z w' => ∃ j : Nat, z = j ∧ j ≤ l ∧ (∀ k ∈ xs.take j, far.getD k 0 ≠ n) ∧ hp w' = hp w, fun z _ => l - z.toNat, ⟨0, rfl, Nat.zero_le _, fun k hk => by simp at hk, rfl⟩, ?_⟩
  rintro _ z w1 ⟨j, rfl, hj, hno, e1⟩
  refine br_intro (fun h1 => ?_) fun h1 => ?_
  rotate_left
  · have h1 : j = l := by have := of_decide_eq_false h1; omega
    rw [List.take_of_length_le (by omega)] at hno
    obtain ⟨k, hk, hf⟩ := hex
    exact absurd hf (hno k hk)
  have h1 : j < l := by have := of_decide_eq_true h1; omega
  obtain ⟨k, hk⟩ : ∃ k, xs[j]? = some k := ⟨xs[j]'(by omega), List.getElem?_eq_getElem _⟩
  have hkN := hlt k (List.mem_of_getElem? hk)
  obtain ⟨ad, had, hc⟩ := hr.at (ivn0_get hk)
  refine idx_i had h1 ⟨(k : Int), hc w1 (Gr.of_eq e1), ifT_iff.2 ⟨rfl, ?_⟩⟩
  refine run_cycle_Find_S1 _ _ _ w1 _ fun w2 hd => ?_
  have e2 : hp w2 = hp w := (hp_drawn hd).trans e1
  obtain ⟨fad, hfa, hfc⟩ : ∃ fad, fa = some fad ∧ ∀ w', hp w' = hp w → w'.cell? (fad.add k) = some (.int .i64 ((far.getD k 0 : Nat) : Int)) := by
    rcases hfr with e | ⟨fad, e, hc⟩
    · have := congrArg List.length e
      rw [show (ivn far).length = far.length from by simp [ivn], List.length_nil] at this; omega
    · refine ⟨fad, e, fun w' q => cellH_w (by rw [q]; exact hc k _ (ivn_get (getD_some (by omega))))⟩
  refine ⟨fun w' => hp w' = hp w, e2, fa, N, fc, fun w' q => hf.cell0 (Gr.of_eq q), idx_i hfa hkN ⟨_, fun w' q => hfc w' q, (n : Int), fun w' q => hn.cell0 (Gr.of_eq q), _, rfl, br_intro (fun hb => ?_) fun hb => ?_⟩⟩
  · exact ⟨⟨j, k, rfl, h1, hk, natEq hb⟩, e2⟩
  · refine ⟨⟨by omega, by omega⟩, ⟨j + 1, by simp, by omega, fun y hy => ?_, e2⟩, msr h1⟩
    rw [List.take_add_one, hk] at hy
    rcases List.mem_append.1 hy with hy | hy
    · exact hno y hy
    · simp at hy; subst hy; intro e; rw [e] at hb; simp at hb
set_option maxHeartbeats 4000000 in
theorem y_Find (hg : gR (hp w) g x) (hb : okG g) (ht : tabA (hp w)) : Run Tryd.prog n_cycle_Find [.agg ⟨x.cells⟩] w fun v w' =>
    (¬ ClosedP g ∧ v = .tuple #[.slice none 0 0, .int .i64 1] ∧ Gr w w') ∨
    (ClosedP g ∧ ∃ (a : Option Addr) (c : Nat) (ol cl : List Nat), v = .tuple #[.slice a cl.length c, .int .i64 0] ∧ OnL (Stp g) g.N ol ∧ (ol = [] → cl = []) ∧ (∀ l0, ol[0]? = some l0 → cl[0]? = some l0 ∧ CirP (Stp g) g.N cl) ∧ cl.length ≤ 67 ∧ cl.length ≤ c ∧ rdS (hp w') (addT g.T (ivn0 cl)) a cl.length ∧ Gr w w') := by
  refine run_cycle_Find _ _ _ _ _ _ _ _ _ _ _ _ _ w _ ?_
  refine gbox hg fun k1 w1 gw hg B => ⟨_, _, _, _, _, _, _, _, _, _, _, _, _, B.row (sub.refl _), (y_spin (x := x) hg hb (rdV.mono gw ht)).mono ?_⟩
  rintro _ w2 (⟨hn, rfl, g2⟩ | ⟨hcl, b, o, c, ps, vs, rfl, hV, hps, h2⟩)
  · exact ⟨_, _, rfl, br_intro (fun _ => .inl ⟨hn, rfl, sub.trans gw g2⟩) fun h => by cases h⟩
  obtain ⟨iG, bT, bN, pN, pT, bP⟩ := inG (.inr hcl : EitherP g)
  have hW := web_of h2 hps hV.ln
  have hRe := rel_eq hV iG
  have hRl : ∀ a k, Rel vs a k → k < g.N := fun a k h => (stp_lt iG (hRe ▸ h)).2
  have gs : sub (hp w) (hp w2) := sub.trans gw (rdH 3 h2.l)
  have ht2 : tabA (hp w2) := rdV.mono gs ht
  clear h2
  obtain ⟨⟨o, c, r1, r2⟩, r3, r4⟩ := id hW
  refine ⟨_, _, rfl, br_intro (fun h => by cases h) fun _ => (y_on hW bN hRl).mono ?_⟩
  rintro _ w3 ⟨a3, c3, ol, rfl, hol, h⟩
  have hle := hol.le
  refine ⟨_, _, _, rfl, br_intro (fun h0 => ?_) fun h0 => ?_⟩
  · have h0 : ol = [] := List.eq_nil_of_length_eq_zero (natEq (b := 0) h0)
    subst h0
    exact .inr ⟨hcl, none, 0, [], [], rfl, hRe ▸ hol, fun _ => rfl, fun l0 h => by simp at h, by simp, Nat.le_refl _, rdS.nil, sub.trans gs (rdH 1 h.l)⟩
  have hpos : 0 < ol.length := Nat.pos_of_ne_zero (natNe' (b := 0) h0)
  obtain ⟨l0, hl0⟩ : ∃ l0, ol[0]? = some l0 := ⟨ol[0], List.getElem?_eq_getElem hpos⟩
  obtain ⟨hl0N, hl0P⟩ := hol.mem.1 (List.mem_of_getElem? hl0)
  have s23 : sub (hp w2) (hp w3) := rdH 1 h.l
  have r3S : rdV a3 (ivn ol) (hp w3) := rdOv 0 h.l
  obtain ⟨ad3, ha3, hc3⟩ : ∃ ad, a3 = some ad ∧ ∀ {w' : World}, sub (hp w3) (hp w') → w'.cell? (ad.add 0) = some (.int .i64 (l0 : Int)) := by
    rcases r3S with e | ⟨ad, e, hc⟩
    · have := congrArg List.length e
      rw [show (ivn ol).length = ol.length from by simp [ivn], List.length_nil] at this; omega
    · exact ⟨ad, e, fun s => cellH_w (cellH_sub s (hc 0 _ (ivn_get hl0)))⟩
  have idx0 : ∀ {k : Addr → Prop}, k (ad3.add 0) → idx a3 ol.length 0 1 k := fun {k} hk => idx_i (i := 0) ha3 hpos hk
  clear h
  refine idx0 ⟨_, hc3 (sub.refl _), (y_waves (hW.mono s23) bN hRl hl0N).mono ?_⟩
  rintro _ w4 ⟨kf, far, rfl, hF, hFb, h4⟩
  have hfl := hF.ln
  have s34 : sub (hp w3) (hp w4) := rdH 1 h4.l
  refine ⟨_, _, _, rfl, newC_i h4 fun k14 w5 h => st1_i h (by simp) fun w6 h => ?_⟩
  have h : St w6 [cel k14 [.slice (some ⟨kf, 0, none⟩) g.N g.N], cel kf (ivn far), has (hp w3)] := h
  obtain ⟨F, hFd⟩ : ∃ F, F = far.getD l0 0 := ⟨_, rfl⟩
  have hFpos : 0 < F := by
    obtain ⟨m, hm⟩ := hl0P
    exact hFd ▸ Nat.pos_of_ne_zero fun e => hF.z l0 hl0N e m hm
  have hFN : F ≤ g.N + 2 := hFd ▸ hFb l0
  refine idx0 ⟨_, hc3 (rdH 2 h.l), newC_i h fun k15 w7 h => fun w8 hd => ?_⟩
  have h : St w8 [cel k15 (ivn [l0]), cel k14 [.slice (some ⟨kf, 0, none⟩) g.N g.N], cel kf (ivn far), has (hp w3)] := h.drawn hd
  have gfl : (ivn far)[l0]? = some (.int .i64 (F : Int)) := by rw [hFd]; exact ivn_get (getD_some (by omega))
  refine ⟨fun w => rowH (hp w) ⟨k14, 0, none⟩ [.slice (some ⟨kf, 0, none⟩) g.N g.N] ∧ rowH (hp w) ⟨kf, 0, none⟩ (ivn far) ∧ sub (hp w3) (hp w), ⟨rdCel 1 h.l, rdCel 2 h.l, rdH 3 h.l⟩, _, _, _, fun w q => q.1.cell0 (sub.refl _), idx0 ⟨(l0 : Int), fun w q => hc3 q.2.2, idx_i rfl hl0N ⟨(F : Int), fun w q => q.2.1.cell (sub.refl _) (j := l0) gfl, ⟨by omega, by omega⟩, newC_i h fun k18 w12 h => ⟨⟨rdCel 2 h.l, rdCel 3 h.l, rdH 4 h.l⟩, st1_i h (by simp) fun w13 h => ?_⟩⟩⟩⟩
  have e1 : (F : Int) - 1 = ((F - 1 : Nat) : Int) := by omega
  rw [e1] at h
  have h : St w13 [cel k15 (ivn [l0]), cel k18 [.int .i64 ((F - 1 : Nat) : Int)], cel k14 [.slice (some ⟨kf, 0, none⟩) g.N g.N], cel kf (ivn far), has (hp w3)] := h.swap
  have h : St w13 (own 1 (some ⟨k15, 0, none⟩) 1 1 (ivn [l0]) :: _) := own_some (cs := []) (by simpa using h) rfl rfl (Nat.le_refl _)
  refine ⟨fun o9 l9 c9 o10 w' => ∃ (kn n : Nat) (out : List Nat), o10 = some ⟨kn, 0, none⟩ ∧ l9 = out.length ∧ out.length + n = F ∧ PthP (Rel vs) g.N F l0 far out ∧ St w' [own 1 o9 l9 c9 (ivn out), cel kn [.int .i64 (n : Int)], cel k14 [.slice (some ⟨kf, 0, none⟩) g.N g.N], cel kf (ivn far), has (hp w3)], fun _ l9 _ _ _ => F - l9, ⟨k18, F - 1, [l0], rfl, rfl, by simp; omega, ⟨rfl, fun i a b _ hb => by simp at hb, fun y hy => by rw [List.mem_singleton.1 hy]; exact hl0N, fun i y hy => ?_⟩, h⟩, ?_⟩
  · cases i with
    | zero => simp at hy; subst hy; omega
    | succ i => simp at hy
  clear h
  rintro _ o9 l9 c9 o10 w14 ⟨kn, n, out, rfl, rfl, hFn, hPt, h⟩
  have hout := (List.getElem?_eq_some_iff.1 hPt.z).1
  refine ⟨_, (rdCel 1 h.l).cell0 (sub.refl _), br_intro (fun hn0 => ?_) fun hn0 => ?_⟩
  rotate_left
  · have hn0 : n = 0 := by have := of_decide_eq_false hn0; omega
    have hcir := hPt.cir hF (by omega)
    rw [← iv_ivn0] at h
    refine (y_names (b := b) (v0 := .slice o g.N c) h (fun h hh => r1.mono (sub.trans s23 (rdH 3 hh))) (fun y hy => ?_) bT (by omega)).mono ?_
    · obtain ⟨k, hk, rfl⟩ := List.mem_map.1 hy
      have := hPt.lt k hk
      omega
    rintro _ w26 ⟨rfl, h⟩
    refine ⟨_, _, _, rfl, .inr ⟨hcl, o9, c9, ol, out, rfl, hRe ▸ hol, fun e => by rw [e] at hpos; simp at hpos, fun l hl => ?_, by omega, own_le h, rdI_of (by rw [addT_len, ivn0_len]) (rdOv 0 h.l), sub.trans gs (sub.trans s23 (rdH 4 h.l))⟩⟩
    rw [hl0] at hl; cases hl
    exact ⟨hPt.z, hRe ▸ hcir⟩
  have hn0 : 0 < n := by have := of_decide_eq_true hn0; omega
  obtain ⟨last, hlast⟩ : ∃ last, out[out.length - 1]? = some last := ⟨out[out.length - 1]'(by omega), List.getElem?_eq_getElem _⟩
  have hlN := hPt.lt last (List.mem_of_getElem? hlast)
  have hlf : far.getD last 0 = n + 1 := by have := hPt.fa _ last hlast; omega
  obtain ⟨v, hv⟩ : ∃ v, vs[last]? = some v := ⟨vs[last]'(by omega), List.getElem?_eq_getElem _⟩
  obtain ⟨p, hpp⟩ : ∃ p, ps[last]? = some p := ⟨ps[last]'(by omega), List.getElem?_eq_getElem _⟩
  have hpk : (ps.map bk)[last]? = some (bk p) := by rw [List.getElem?_map, hpp]; rfl
  have hvN := hV.le v (List.mem_of_getElem? hv)
  intro w15 hd15
  have h := h.drawn hd15
  have e2 : (out.length : Int) - 1 = ((out.length - 1 : Nat) : Int) := by omega
  obtain ⟨oad9, ho9, _⟩ := own_cell h (ivn_get hlast)
  have c9r : ∀ {w' : World}, rdV o9 (ivn out) (hp w') → w'.cell? (oad9.add (out.length - 1)) = some (.int .i64 (last : Int)) := fun {w'} r => by
    rcases r with e | ⟨ad, e, hc⟩
    · have := congrArg List.length e
      rw [show (ivn out).length = out.length from by simp [ivn], List.length_nil] at this; omega
    · rw [ho9] at e; cases e; exact cellH_w (hc _ _ (ivn_get hlast))
  have s2w : sub (hp w2) (hp w15) := sub.trans s23 (rdH 4 h.l)
  obtain ⟨oad, hoa, _⟩ := (r2.mono s2w).at hpk
  refine ⟨fun w' => rdV o9 (ivn out) (hp w') ∧ sub (hp w2) (hp w'), ⟨rdOv 0 h.l, s2w⟩, _, _, _, fun w' q => r1.cell0 q.2, ⟨by omega, by omega⟩, ?_⟩
  rw [e2]
  refine idx_i ho9 (by omega) ⟨(last : Int), fun w' q => c9r q.1, idx_i hoa hlN ⟨bk p, fun w' q => (r2.mono q.2).atv hoa hpk, (s_Members ((r4 last _ v hpk hv).mono s2w) (rdV.mono s2w ht2)).mono ?_⟩⟩
  rintro _ w19 ⟨a13, c13, rfl, h19⟩
  have h := h19.on1 h
  have hcv := cntB_le v
  -- one behind
  have hexk : ∃ k ∈ mb v, far.getD k 0 = n := by
    obtain ⟨hw, hmin⟩ := hF.p last _ (getD_some (by omega)) (by omega)
    rw [hlf] at hw hmin
    cases hw with
    | one _ _ => omega
    | more q _ k hr hw =>
      have hkN := hRl _ _ hr
      have hkv : fnB v k = true := by
        have : Rel vs last k := hr
        unfold Rel at this
        rwa [List.getD_eq_getElem?_getD, hv] at this
      refine ⟨k, mem_mb.2 hkv, ?_⟩
      have h1 : far.getD k 0 ≠ 0 := fun e => hF.z k hkN e _ hw
      obtain ⟨g1, g2⟩ := hF.p k _ (getD_some (by omega)) (by omega)
      have g3 := g2 _ hw
      have g4 := hmin _ (.more _ last k hr g1)
      omega
  have emb : ivn0 (mb v) = mbI v := rfl
  refine ⟨_, _, _, rfl, ⟨rdOv 1 h.l, sub.trans s23 (rdH 5 h.l)⟩, (y_idxF (xs := mb v) (N := g.N) (rdCel 3 h.l) (.inr ⟨_, rfl, rdCel 4 h.l⟩) hfl (rdCel 2 h.l) (emb ▸ rdI_of (by rw [mbI_len]) (rdOv 0 h.l)) (fun k hk => ?_) (by omega) hexk).mono ?_⟩
  · have := mem_mb.1 hk
    exact Classical.byContradiction fun e => by rw [fnB_out (by omega)] at this; cases this
  rintro _ w20 ⟨⟨i, k, rfl, hil, hik, hkf⟩, e20⟩
  have h := h.eq e20
  have hkv := mem_mb.1 (List.mem_of_getElem? hik)
  have hkR : Rel vs last k := by unfold Rel; rw [List.getD_eq_getElem?_getD, hv]; exact hkv
  obtain ⟨ad13, ha13, hc13⟩ := own_cell h (iv_get (mbI_get hik))
  refine ⟨_, rfl, idx_i ha13 hil ⟨_, hc13, newC_i h fun k25 w21 h => ?_⟩⟩
  refine (app_one tyOk (rfl : kdOfT Ty _ = .slice _) (rfl : kdOfT Ty _ = .slice _) rfl rfl rfl (h.pick 7 [0, 2, 1, 3, 4, 5, 6]) rfl (by simp [oneC]) (by show (out.length + 1) * 8 ≤ _; omega) (by omega)).mono ?_
  rintro _ w22 ⟨o', c', rfl, h⟩
  have e5 : ivn out ++ [Value.int .i64 (k : Int)] = ivn (out ++ [k]) := by simp [ivn]
  rw [e5] at h
  have h := h.pick 7 [0, 3, 4, 5, 6]
  refine ⟨_, _, _, rfl, _, (rdCel 1 h.l).cell0 (sub.refl _), newC_i h fun k28 w23 h => st1_i h (by simp) fun w24 h => ?_⟩
  refine ⟨(n : Int), (rdCel 0 h.l).cell0 (sub.refl _), ⟨by omega, by omega⟩, st1_i h (by simp) fun w25 h => ⟨⟨k28, n - 1, out ++ [k], rfl, by simp, by simp; omega, hPt.snoc hlast hkR (hRl _ _ hkR) (by omega), ?_⟩, by dsimp only; omega⟩⟩
  have e6 : (n : Int) - 1 = ((n - 1 : Nat) : Int) := by omega
  rw [e6] at h
  exact h.pick 6 [1, 0, 3, 4, 5]
end
end Go.Proofs.YtcapljamcepmkaaDoor
set_option linter.unusedVariables false
namespace Go.Proofs.YtcapljamcepmkaaDoor
open Go.V
abbrev n_presagelaw08_CycleHolds : FuncId := 3
def ann_presagelaw08_CycleHolds : Ann := { rngs := [], loops := [(12, [(10, (.one (.int .i64)))]), (15, [(11, (.one (.int .i64)))]), (20, [(12, (.one (.int .i64)))]), (26, [(14, (.one .bool))]), (29, [(14, (.one .bool)), (15, (.one (.int .i64)))]), (33, [(16, (.one .bool)), (17, (.one (.int .i64)))]), (41, [(18, (.one .bool)), (19, (.one (.int .i64)))]), (47, [(20, (.one (.int .i64)))]), (54, [(21, (.one .bool)), (22, (.one .bool)), (23, (.one (.int .i64)))])], joins := [(5, [(49, (.one .bool))]), (11, []), (52, [(304, (.one .bool))])], blocks := [] }
set_option maxRecDepth 100000 in
def vc_presagelaw08_CycleHolds (a : Option Addr) (b c : Nat) (d : Option Addr) (e f : Nat) (g : Option Addr) (i j : Nat) (k : Int) (l : Option Addr) (m n : Nat) (w : World) (R : Value → WP) : Prop :=  new w (oC [vS a b c, vS d e f, vS g i j, iI k, vS l m n] 27) fun k1 w1 => ∃ o1 k2 k3 o2 k4 k5 o3 k6 k7 n1 o4 k8 k9, V.rowAt w1 (aM k1) 0 5 = some [vS o1 k2 k3, vS o2 k4 k5, vS o3 k6 k7, iI n1, vS o4 k8 k9] ∧ rE 11 [vA (Array.mk [vS o1 k2 k3, vS o2 k4 k5, vS o3 k6 k7, iI n1, vS o4 k8 k9])] w1 fun v1 w2 => ∃ o5 k10 k11 o6 k12 k13 o7 k14 k15 n2 o8 k16 k17, v1 = vA (Array.mk [vS o5 k10 k11, vS o6 k12 k13, vS o7 k14 k15, iI n2, vS o8 k16 k17]) ∧ rE 10 [vA (Array.mk [vS o5 k10 k11, vS o6 k12 k13, vS o7 k14 k15, iI n2, vS o8 k16 k17])] w2 fun v2 w3 => ∃ o9 k18 k19 n3, v2 = vT (Array.mk [vS o9 k18 k19, iI n3]) ∧ ∃ o10 k20 k21 o11 k22 k23 o12 k24 k25 n4 o13 k26 k27, V.rowAt w3 (aM k1) 0 5 = some [vS o10 k20 k21, vS o11 k22 k23, vS o12 k24 k25, iI n4, vS o13 k26 k27] ∧ rE 11 [vA (Array.mk [vS o10 k20 k21, vS o11 k22 k23, vS o12 k24 k25, iI n4, vS o13 k26 k27])] w3 fun v3 w4 => ∃ o14 k28 k29 o15 k30 k31 o16 k32 k33 n5 o17 k34 k35, v3 = vA (Array.mk [vS o14 k28 k29, vS o15 k30 k31, vS o16 k32 k33, iI n5, vS o17 k34 k35]) ∧ rE 12 [vA (Array.mk [vS o14 k28 k29, vS o15 k30 k31, vS o16 k32 k33, iI n5, vS o17 k34 k35])] w4 fun v4 w5 => ∃ o18 k36 k37 n6, v4 = vT (Array.mk [vS o18 k36 k37, iI n6]) ∧ ∃ o19 k38 k39 o20 k40 k41 o21 k42 k43 n7 o22 k44 k45, V.rowAt w5 (aM k1) 0 5 = some [vS o19 k38 k39, vS o20 k40 k41, vS o21 k42 k43, iI n7, vS o22 k44 k45] ∧ rE 11 [vA (Array.mk [vS o19 k38 k39, vS o20 k40 k41, vS o21 k42 k43, iI n7, vS o22 k44 k45])] w5 fun v5 w6 => ∃ o23 k46 k47 o24 k48 k49 o25 k50 k51 n8 o26 k52 k53, v5 = vA (Array.mk [vS o23 k46 k47, vS o24 k48 k49, vS o25 k50 k51, iI n8, vS o26 k52 k53]) ∧ rE 13 [vA (Array.mk [vS o23 k46 k47, vS o24 k48 k49, vS o25 k50 k51, iI n8, vS o26 k52 k53])] w6 fun v6 w7 => ∃ o27 k54 k55 n9, v6 = vT (Array.mk [vS o27 k54 k55, iI n9]) ∧ ∃ (x1 : lP [(49, shB)]), br (n3 != n6) (x1 true w7) (x1 (n6 != n9) w7) ∧ ∀ (I1 : Nat → Value) (b1 : Bool) (w8 : World), x1 b1 w8 → br b1 (R (vB false) w8) (br (n3 != 0) (br (n3 == 1) (inI ((↑k18 : Int) + (↑k36 : Int)) ∧ inI ((↑k18 : Int) + (↑k36 : Int) + (↑k54 : Int)) ∧ br ((↑k18 : Int) + (↑k36 : Int) + (↑k54 : Int) == 0) (rE 14 [] w8 fun v7 w9 => ∃ b2, v7 = vB b2 ∧ R (vB b2) w9) (R (vB false) w8)) (R (vB false) w8)) (∃ o28 k56 k57, World.cell? w8 (aM k1) = some (vS o28 k56 k57) ∧ ∃ (x2 : lP []), (∀ w10, drawn w8 w10 → ∃ (I2 : World → Prop), I2 w10 ∧ ∃ o29 k58 k59, (∀ w11, I2 w11 → World.cell? w11 (Addr.add (aM k1) 1) = some (vS o29 k58 k59)) ∧ br ((↑k18 : Int) != (↑k58 : Int)) (R (vB false) w10) (br (!((↑k36 : Int) == 0) == ((↑k54 : Int) == 0)) (R (vB false) w10) (br (decide (0 < (↑k54 : Int))) (idx o27 k54 0 1 fun a1 => ∃ n10, (∀ w12, I2 w12 → World.cell? w12 a1 = some (iI n10)) ∧ idx o18 k36 0 1 fun a2 => ∃ n11, (∀ w13, I2 w13 → World.cell? w13 a2 = some (iI n11)) ∧ br (n10 != n11) (R (vB false) w10) (x2 w10)) (x2 w10)))) ∧ ∀ (I3 : Nat → Value) (w14 : World), x2 w14 → ∃ (x3 : lP [(10, shI)]), ∃ (x4 : lN [(10, shI)]), x3 0 w14 ∧ ∀ (I4 : Nat → Value) (n12 : Int) (w15 : World), x3 n12 w15 → br (decide (n12 < (↑k18 : Int))) (∃ (x5 : lP [(11, shI)]), ∃ (x6 : lN [(11, shI)]), x5 0 w15 ∧ ∀ (I5 : Nat → Value) (n13 : Int) (w16 : World), x5 n13 w16 → idx o9 k18 n12 1 fun a3 => ∃ o30 k60 k61, World.cell? w16 a3 = some (vS o30 k60 k61) ∧ br (decide (n13 < (↑k60 : Int))) (∀ w17, drawn w16 w17 → ∃ (I6 : World → Prop), I6 w17 ∧ idx o9 k18 n12 1 fun a4 => ∃ o31 k62 k63, (∀ w18, I6 w18 → World.cell? w18 a4 = some (vS o31 k62 k63)) ∧ idx o31 k62 n13 1 fun a5 => ∃ n14, (∀ w19, I6 w19 → World.cell? w19 a5 = some (iI n14)) ∧ br (decide (n14 < (↑k56 : Int))) (R (vB false) w17) (idx o9 k18 n12 1 fun a6 => ∃ o32 k64 k65, (∀ w20, I6 w20 → World.cell? w20 a6 = some (vS o32 k64 k65)) ∧ idx o32 k64 n13 1 fun a7 => ∃ n15, (∀ w21, I6 w21 → World.cell? w21 a7 = some (iI n15)) ∧ ∃ o33 k66 k67, (∀ w22, I6 w22 → World.cell? w22 (Addr.add (aM k1) 1) = some (vS o33 k66 k67)) ∧ inI ((↑k56 : Int) + (↑k66 : Int)) ∧ br (decide ((↑k56 : Int) + (↑k66 : Int) ≤ n15)) (R (vB false) w17) (br (decide (0 < n13)) (idx o9 k18 n12 1 fun a8 => ∃ o34 k68 k69, (∀ w23, I6 w23 → World.cell? w23 a8 = some (vS o34 k68 k69)) ∧ inI (n13 - 1) ∧ idx o34 k68 (n13 - 1) 1 fun a9 => ∃ n16, (∀ w24, I6 w24 → World.cell? w24 a9 = some (iI n16)) ∧ idx o9 k18 n12 1 fun a10 => ∃ o35 k70 k71, (∀ w25, I6 w25 → World.cell? w25 a10 = some (vS o35 k70 k71)) ∧ idx o35 k70 n13 1 fun a11 => ∃ n17, (∀ w26, I6 w26 → World.cell? w26 a11 = some (iI n17)) ∧ br (decide (n17 ≤ n16)) (R (vB false) w17) (inI (n13 + 1) ∧ x5 (n13 + 1) w17 ∧ x6 (n13 + 1) w17 < x6 n13 w16)) (inI (n13 + 1) ∧ x5 (n13 + 1) w17 ∧ x6 (n13 + 1) w17 < x6 n13 w16)))) (inI (n12 + 1) ∧ x3 (n12 + 1) w16 ∧ x4 (n12 + 1) w16 < x4 n12 w15)) (∃ (x7 : lP [(12, shI)]), ∃ (x8 : lN [(12, shI)]), x7 0 w15 ∧ ∀ (I7 : Nat → Value) (n18 : Int) (w27 : World), x7 n18 w27 → br (decide (n18 < (↑k54 : Int))) (∀ w28, drawn w27 w28 → ∃ (I8 : World → Prop), I8 w28 ∧ idx o27 k54 n18 1 fun a12 => ∃ n19, (∀ w29, I8 w29 → World.cell? w29 a12 = some (iI n19)) ∧ rE 15 [vS o18 k36 k37, iI n19] w28 fun v8 w30 => ∃ b3, v8 = vB b3 ∧ ∃ (I9 : World → Prop), I9 w30 ∧ (∀ w31, I9 w31 → I8 w31) ∧ br (!b3) (R (vB false) w30) (slc o27 k54 k55 none (some n18) none 1 fun (o36 : Option Addr) (k72 k73 : Nat) => idx o27 k54 n18 1 fun a13 => ∃ n20, (∀ w32, I9 w32 → World.cell? w32 a13 = some (iI n20)) ∧ rE 15 [vS o36 k72 k73, iI n20] w30 fun v9 w33 => ∃ b4, v9 = vB b4 ∧ ∃ (I10 : World → Prop), I10 w33 ∧ (∀ w34, I10 w34 → I9 w34) ∧ br b4 (R (vB false) w33) (idx o27 k54 n18 1 fun a14 => ∃ n21, (∀ w35, I10 w35 → World.cell? w35 a14 = some (iI n21)) ∧ inI (n21 - (↑k56 : Int)) ∧ idx o9 k18 (n21 - (↑k56 : Int)) 1 fun a15 => ∃ o37 k74 k75, (∀ w36, I10 w36 → World.cell? w36 a15 = some (vS o37 k74 k75)) ∧ inI (n18 + 1) ∧ nz (↑k54 : Int) ∧ idx o27 k54 (Int.tmod (n18 + 1) (↑k54 : Int)) 1 fun a16 => ∃ n22, (∀ w37, I10 w37 → World.cell? w37 a16 = some (iI n22)) ∧ rE 15 [vS o37 k74 k75, iI n22] w33 fun v10 w38 => ∃ b5, v10 = vB b5 ∧ I10 w38 ∧ br (!b5) (R (vB false) w38) (inI (n18 + 1) ∧ x7 (n18 + 1) w38 ∧ x8 (n18 + 1) w38 < x8 n18 w27)))) (mkOk (↑k18 : Int) (↑k18 : Int) 1 ∧ new w27 (Obj.cells (Array.mk (reps (Int.toNat (↑k18 : Int)) [vB false])) 4) fun k76 w39 => ∃ (x9 : lP [(14, shB)]), ∃ (x10 : lN [(14, shB)]), x9 true w39 ∧ ∀ (I11 : Nat → Value) (b6 : Bool) (w40 : World), x9 b6 w40 → br b6 (∃ (x11 : lP [(14, shB), (15, shI)]), ∃ (x12 : lN [(14, shB), (15, shI)]), x11 false 0 w40 ∧ ∀ (I12 : Nat → Value) (b7 : Bool) (n23 : Int) (w41 : World), x11 b7 n23 w41 → br (decide (n23 < (↑k18 : Int))) (∃ (x13 : lP [(16, shB), (17, shI)]), ∃ (x14 : lN [(16, shB), (17, shI)]), x13 false 0 w41 ∧ ∀ (I13 : Nat → Value) (b8 : Bool) (n24 : Int) (w42 : World), x13 b8 n24 w42 → idx o9 k18 n23 1 fun a17 => ∃ o38 k77 k78, World.cell? w42 a17 = some (vS o38 k77 k78) ∧ br (decide (n24 < (↑k77 : Int))) (br b8 (inI (n24 + 1) ∧ x13 true (n24 + 1) w42 ∧ x14 true (n24 + 1) w42 < x14 b8 n24 w42) (idx o9 k18 n23 1 fun a18 => ∃ o39 k79 k80, World.cell? w42 a18 = some (vS o39 k79 k80) ∧ idx o39 k79 n24 1 fun a19 => ∃ n25, World.cell? w42 a19 = some (iI n25) ∧ inI (n25 - (↑k56 : Int)) ∧ idx (some (aM k76)) (Int.toNat (↑k18 : Int)) (n25 - (↑k56 : Int)) 1 fun a20 => ∃ b9, World.cell? w42 a20 = some (vB b9) ∧ inI (n24 + 1) ∧ x13 (!b9) (n24 + 1) w42 ∧ x14 (!b9) (n24 + 1) w42 < x14 b8 n24 w42)) (idx (some (aM k76)) (Int.toNat (↑k18 : Int)) n23 1 fun a21 => ∃ b10, World.cell? w42 a21 = some (vB b10) ∧ br (!b10) (br (!b8) (idx (some (aM k76)) (Int.toNat (↑k18 : Int)) n23 1 fun a22 => st1 w42 a22 (vB true) fun w43 => inI (n23 + 1) ∧ x11 true (n23 + 1) w43 ∧ x12 true (n23 + 1) w43 < x12 b7 n23 w41) (inI (n23 + 1) ∧ x11 b7 (n23 + 1) w42 ∧ x12 b7 (n23 + 1) w42 < x12 b7 n23 w41)) (inI (n23 + 1) ∧ x11 b7 (n23 + 1) w42 ∧ x12 b7 (n23 + 1) w42 < x12 b7 n23 w41))) (x9 b7 w41 ∧ x10 b7 w41 < x10 b6 w40)) (∃ (x15 : lP [(18, shB), (19, shI)]), ∃ (x16 : lN [(18, shB), (19, shI)]), x15 false 0 w40 ∧ ∀ (I14 : Nat → Value) (b11 : Bool) (n26 : Int) (w44 : World), x15 b11 n26 w44 → br (decide (n26 < (↑k18 : Int))) (br b11 (inI (n26 + 1) ∧ x15 true (n26 + 1) w44 ∧ x16 true (n26 + 1) w44 < x16 b11 n26 w44) (idx (some (aM k76)) (Int.toNat (↑k18 : Int)) n26 1 fun a23 => ∃ b12, World.cell? w44 a23 = some (vB b12) ∧ inI (n26 + 1) ∧ x15 (!b12) (n26 + 1) w44 ∧ x16 (!b12) (n26 + 1) w44 < x16 b11 n26 w44)) (br (!b11 == decide (0 < (↑k36 : Int))) (R (vB false) w44) (∃ (x17 : lP [(20, shI)]), ∃ (x18 : lN [(20, shI)]), x17 0 w44 ∧ ∀ (I15 : Nat → Value) (n27 : Int) (w45 : World), x17 n27 w45 → br (decide (n27 < (↑k36 : Int))) (∃ (x19 : lP [(304, shB)]), (idx o18 k36 n27 1 fun a24 => ∃ n28, World.cell? w45 a24 = some (iI n28) ∧ br (decide (n28 < (↑k56 : Int))) (x19 true w45) (idx o18 k36 n27 1 fun a25 => ∃ n29, World.cell? w45 a25 = some (iI n29) ∧ inI ((↑k56 : Int) + (↑k18 : Int)) ∧ br (decide ((↑k56 : Int) + (↑k18 : Int) ≤ n29)) (x19 true w45) (idx o18 k36 n27 1 fun a26 => ∃ n30, World.cell? w45 a26 = some (iI n30) ∧ inI (n30 - (↑k56 : Int)) ∧ idx (some (aM k76)) (Int.toNat (↑k18 : Int)) (n30 - (↑k56 : Int)) 1 fun a27 => ∃ b13, World.cell? w45 a27 = some (vB b13) ∧ x19 b13 w45))) ∧ ∀ (I16 : Nat → Value) (b14 : Bool) (w46 : World), x19 b14 w46 → br b14 (R (vB false) w46) (∃ (x20 : lP [(21, shB), (22, shB), (23, shI)]), ∃ (x21 : lN [(21, shB), (22, shB), (23, shI)]), x20 false false 0 w46 ∧ ∀ (I17 : Nat → Value) (b15 b16 : Bool) (n31 : Int) (w47 : World), x20 b15 b16 n31 w47 → br (decide (n31 < (↑k36 : Int))) (∀ w48, drawn w47 w48 → ∃ (I18 : World → Prop), I18 w48 ∧ br b16 (∀ w49, drawn w48 w49 → ∃ (I19 : World → Prop), I19 w49 ∧ br b15 (inI (n31 + 1) ∧ x20 true true (n31 + 1) w49 ∧ x21 true true (n31 + 1) w49 < x21 b15 b16 n31 w47) (idx o18 k36 n31 1 fun a28 => ∃ n32, (∀ w50, I19 w50 → World.cell? w50 a28 = some (iI n32)) ∧ inI (n32 - (↑k56 : Int)) ∧ idx o9 k18 (n32 - (↑k56 : Int)) 1 fun a29 => ∃ o40 k81 k82, (∀ w51, I19 w51 → World.cell? w51 a29 = some (vS o40 k81 k82)) ∧ idx o18 k36 n27 1 fun a30 => ∃ n33, (∀ w52, I19 w52 → World.cell? w52 a30 = some (iI n33)) ∧ rE 15 [vS o40 k81 k82, iI n33] w49 fun v11 w53 => ∃ b17, v11 = vB b17 ∧ I19 w53 ∧ inI (n31 + 1) ∧ x20 b17 true (n31 + 1) w53 ∧ x21 b17 true (n31 + 1) w53 < x21 b15 b16 n31 w47)) (idx o18 k36 n27 1 fun a31 => ∃ n34, (∀ w54, I18 w54 → World.cell? w54 a31 = some (iI n34)) ∧ inI (n34 - (↑k56 : Int)) ∧ idx o9 k18 (n34 - (↑k56 : Int)) 1 fun a32 => ∃ o41 k83 k84, (∀ w55, I18 w55 → World.cell? w55 a32 = some (vS o41 k83 k84)) ∧ idx o18 k36 n31 1 fun a33 => ∃ n35, (∀ w56, I18 w56 → World.cell? w56 a33 = some (iI n35)) ∧ rE 15 [vS o41 k83 k84, iI n35] w48 fun v12 w57 => ∃ b18, v12 = vB b18 ∧ I18 w57 ∧ ∀ w58, drawn w57 w58 → ∃ (I20 : World → Prop), I20 w58 ∧ br b15 (inI (n31 + 1) ∧ x20 true b18 (n31 + 1) w58 ∧ x21 true b18 (n31 + 1) w58 < x21 b15 b16 n31 w47) (idx o18 k36 n31 1 fun a34 => ∃ n36, (∀ w59, I20 w59 → World.cell? w59 a34 = some (iI n36)) ∧ inI (n36 - (↑k56 : Int)) ∧ idx o9 k18 (n36 - (↑k56 : Int)) 1 fun a35 => ∃ o42 k85 k86, (∀ w60, I20 w60 → World.cell? w60 a35 = some (vS o42 k85 k86)) ∧ idx o18 k36 n27 1 fun a36 => ∃ n37, (∀ w61, I20 w61 → World.cell? w61 a36 = some (iI n37)) ∧ rE 15 [vS o42 k85 k86, iI n37] w58 fun v13 w62 => ∃ b19, v13 = vB b19 ∧ I20 w62 ∧ inI (n31 + 1) ∧ x20 b19 b18 (n31 + 1) w62 ∧ x21 b19 b18 (n31 + 1) w62 < x21 b15 b16 n31 w47))) (br (!b16) (R (vB false) w47) (br (!b15) (R (vB false) w47) (inI (n27 + 1) ∧ x17 (n27 + 1) w47 ∧ x18 (n27 + 1) w47 < x18 n27 w45))))) (rE 14 [] w45 fun v14 w63 => ∃ b20, v14 = vB b20 ∧ R (vB b20) w63))))))))
set_option maxRecDepth 100000 in
theorem run_presagelaw08_CycleHolds (a : Option Addr) (b c : Nat) (d : Option Addr) (e f : Nat) (g : Option Addr) (i j : Nat) (k : Int) (l : Option Addr) (m n : Nat) (w : World) (R : Value → WP) (h : vc_presagelaw08_CycleHolds a b c d e f g i j k l m n w R) : Run Tryd.prog 3 [(.agg #[(.slice a b c), (.slice d e f), (.slice g i j), (.int .i64 k), (.slice l m n)])] w R := rv Tryd.func3 ann_presagelaw08_CycleHolds (by kernel_rfl) h

abbrev n_presagelaw08_awake : FuncId := 14
def ann_presagelaw08_awake : Ann := { rngs := [], loops := [], joins := [], blocks := [] }
set_option maxRecDepth 100000 in
def vc_presagelaw08_awake  (w : World) (R : Value → WP) : Prop :=  new w (oC [Value.string (ByteArray.mk (Array.mk [])), iI 0, Value.string (ByteArray.mk (Array.mk [120])), iI 0] 73) fun k1 w1 => new w1 (oC [Value.string (ByteArray.mk (Array.mk [])), Value.string (ByteArray.mk (Array.mk [65])), Value.string (ByteArray.mk (Array.mk [66]))] 9) fun k2 w2 => new w2 (oC [iI 3] 3) fun k3 w3 => new w3 (oC [iI 4] 3) fun k4 w4 => new w4 (oC [iI 3] 3) fun k5 w5 => new w5 (oC [iI 1] 3) fun k6 w6 => new w6 (oC [iI 2, vS (some (aM k3)) 1 1, iI 0, iI 3, vS (some (aM k4)) 1 1, iI 0, iI 4, vS (some (aM k5)) 1 1, iI 0, iI 4, vS (some (aM k6)) 1 1, iI 0] 41) fun k7 w7 => new w7 (oC [vS none 0 0, vS none 0 0, vS none 0 0, iI 0, vS none 0 0] 27) fun k8 w8 => stR w8 (aM k8) [vS (some (aM k1)) 2 2, vS (some (aM k2)) 3 3, vS none 0 0, iI 3, vS (some (aM k7)) 4 4] fun w9 => ∃ o1 k9 k10 o2 k11 k12 o3 k13 k14 n1 o4 k15 k16, V.rowAt w9 (aM k8) 0 5 = some [vS o1 k9 k10, vS o2 k11 k12, vS o3 k13 k14, iI n1, vS o4 k15 k16] ∧ rE 10 [vA (Array.mk [vS o1 k9 k10, vS o2 k11 k12, vS o3 k13 k14, iI n1, vS o4 k15 k16])] w9 fun v1 w10 => ∃ o5 k17 k18 n2, v1 = vT (Array.mk [vS o5 k17 k18, iI n2]) ∧ ∃ o6 k19 k20 o7 k21 k22 o8 k23 k24 n3 o9 k25 k26, V.rowAt w10 (aM k8) 0 5 = some [vS o6 k19 k20, vS o7 k21 k22, vS o8 k23 k24, iI n3, vS o9 k25 k26] ∧ rE 13 [vA (Array.mk [vS o6 k19 k20, vS o7 k21 k22, vS o8 k23 k24, iI n3, vS o9 k25 k26])] w10 fun v2 w11 => ∃ o10 k27 k28 n4, v2 = vT (Array.mk [vS o10 k27 k28, iI n4]) ∧ ∃ o11 k29 k30 o12 k31 k32 o13 k33 k34 n5 o14 k35 k36, V.rowAt w11 (aM k8) 0 5 = some [vS o11 k29 k30, vS o12 k31 k32, vS o13 k33 k34, iI n5, vS o14 k35 k36] ∧ rE 12 [vA (Array.mk [vS o11 k29 k30, vS o12 k31 k32, vS o13 k33 k34, iI n5, vS o14 k35 k36])] w11 fun v3 w12 => ∃ o15 k37 k38 n6, v3 = vT (Array.mk [vS o15 k37 k38, iI n6]) ∧ br (n2 == 0) (br (n4 == 0) (br (n6 == 0) (br ((↑k17 : Int) == 3) (idx o5 k17 0 1 fun a1 => ∃ o16 k39 k40, World.cell? w12 a1 = some (vS o16 k39 k40) ∧ new w12 (oC [iI 3] 3) fun k41 w13 => rE 26 [vS o16 k39 k40, vS (some (aM k41)) 1 1] w13 fun v4 w14 => ∃ b1, v4 = vB b1 ∧ br b1 (new w14 (oC [iI 3, iI 4] 3) fun k42 w15 => rE 26 [vS o10 k27 k28, vS (some (aM k42)) 2 2] w15 fun v5 w16 => ∃ b2, v5 = vB b2 ∧ br b2 (new w16 (oC [iI 3, iI 4] 3) fun k43 w17 => rE 26 [vS o15 k37 k38, vS (some (aM k43)) 2 2] w17 fun v6 w18 => ∃ b3, v6 = vB b3 ∧ R (vB b3) w18) (R (vB false) w16)) (R (vB false) w14)) (R (vB false) w12)) (R (vB false) w12)) (R (vB false) w12)) (R (vB false) w12)
set_option maxRecDepth 100000 in
theorem run_presagelaw08_awake  (w : World) (R : Value → WP) (h : vc_presagelaw08_awake  w R) : Run Tryd.prog 14 [] w R := rv Tryd.func14 ann_presagelaw08_awake (by kernel_rfl) h

abbrev n_presagelaw08_in : FuncId := 15
def ann_presagelaw08_in : Ann := { rngs := [], loops := [(2, [(5, (.one (.int .i64)))])], joins := [], blocks := [] }
set_option maxRecDepth 100000 in
def vc_presagelaw08_in (a : Option Addr) (b c : Nat) (d : Int) (w : World) (R : Value → WP) : Prop :=  ∃ (x1 : lP [(5, shI)]), ∃ (x2 : lN [(5, shI)]), x1 0 w ∧ ∀ (I1 : Nat → Value) (n1 : Int) (w1 : World), x1 n1 w1 → br (decide (n1 < (↑b : Int))) (idx a b n1 1 fun a1 => ∃ n2, World.cell? w1 a1 = some (iI n2) ∧ br (n2 == d) (R (vB true) w1) (inI (n1 + 1) ∧ x1 (n1 + 1) w1 ∧ x2 (n1 + 1) w1 < x2 n1 w1)) (R (vB false) w1)
set_option maxRecDepth 100000 in
theorem run_presagelaw08_in (a : Option Addr) (b c : Nat) (d : Int) (w : World) (R : Value → WP) (h : vc_presagelaw08_in a b c d w R) : Run Tryd.prog 15 [(.slice a b c), (.int .i64 d)] w R := rv Tryd.func15 ann_presagelaw08_in (by kernel_rfl) h

end Go.Proofs.YtcapljamcepmkaaDoor
set_option linter.unusedVariables false
namespace Go.V
inductive Dead (R : Nat → Nat → Prop) : Nat → Prop
  | mk (i : Nat) : (∀ k, R i k → Dead R k) → Dead R i
section
variable {R : Nat → Nat → Prop} {N : Nat}
theorem Dead.off {i : Nat} (h : Dead R i) : ¬ OnP R i := by
  induction h with
  | mk i h ih =>
    rintro ⟨m, hm⟩
    cases hm with
    | one _ hr => exact ih i hr ⟨1, .one _ hr⟩
    | more n _ k hr hw => exact ih k hr ⟨n + 1, hw.trans (.one _ hr)⟩
theorem OnP.succ {i : Nat} (h : OnP R i) : ∃ k, R i k ∧ OnP R k := by
  obtain ⟨m, hm⟩ := h
  cases hm with
  | one _ hr => exact ⟨i, hr, 1, .one _ hr⟩
  | more n _ k hr hw => exact ⟨k, hr, n + 1, hw.trans (.one _ hr)⟩
theorem WayN.last {x m i : Nat} (h : WayN R x m i) : ∃ k, R k x ∧ (k = i ∨ ∃ n, WayN R k n i) := by
  induction h with
  | one i h => exact ⟨i, h, .inl rfl⟩
  | more n i k h1 h2 ih =>
    obtain ⟨y, hy, hh⟩ := ih
    refine ⟨y, hy, .inr ?_⟩
    rcases hh with rfl | ⟨q, hq⟩
    · exact ⟨1, .one _ h1⟩
    · exact ⟨q + 1, .more _ i k h1 hq⟩
theorem OnP.pred {i : Nat} (h : OnP R i) : ∃ k, R k i ∧ OnP R k := by
  obtain ⟨m, hm⟩ := h
  obtain ⟨k, hk, hh⟩ := hm.last
  refine ⟨k, hk, ?_⟩
  rcases hh with rfl | ⟨n, hn⟩
  · exact ⟨1, .one _ hk⟩
  · exact ⟨1 + n, (WayN.one (R := R) (to := i) k hk).trans hn⟩
theorem circle_of (X : Nat → Prop) (hX : ∀ i, X i → i < N ∧ ∃ k, R i k ∧ X k) {i0 : Nat} (h0 : X i0) : ∃ i, X i ∧ OnP R i := by
  obtain ⟨f, hf⟩ : ∃ f : Nat → Nat, ∀ i, X i → R i (f i) ∧ X (f i) := by
    refine ⟨fun i => @dite _ (X i) (Classical.propDecidable _) (fun h => (hX i h).2.choose) (fun _ => 0), fun i h => ?_⟩
    dsimp only
    rw [dif_pos h]
    exact (hX i h).2.choose_spec
  obtain ⟨s, s0, s1⟩ : ∃ s : Nat → Nat, s 0 = i0 ∧ ∀ n, s (n + 1) = f (s n) := ⟨fun n => Nat.rec i0 (fun _ x => f x) n, rfl, fun n => rfl⟩
  have sX : ∀ n, X (s n) := fun n => by
    induction n with
    | zero => rw [s0]; exact h0
    | succ n ih => rw [s1]; exact (hf _ ih).2
  have sW : ∀ d a, WayN R (s (a + d + 1)) (d + 1) (s a) := fun d => by
    induction d with
    | zero => intro a; rw [Nat.add_zero, s1]; exact .one _ (hf _ (sX a)).1
    | succ d ih =>
      intro a
      have := ih (a + 1)
      rw [show a + 1 + d + 1 = a + (d + 1) + 1 from by omega] at this
      exact .more _ _ (s (a + 1)) (by rw [s1]; exact (hf _ (sX a)).1) this
  have nn : ¬ ((List.range (N + 1)).map fun n => (s n : Int)).Nodup := fun hn => by
    have := nodup_le hn (m := (List.range N).map fun (n : Nat) => (n : Int)) fun x hx => by
      obtain ⟨n, _, rfl⟩ := List.mem_map.1 hx
      exact List.mem_map.2 ⟨s n, List.mem_range.2 (hX _ (sX n)).1, rfl⟩
    simp at this
    omega
  have : ∃ a b, a < b ∧ s a = s b := Classical.byContradiction fun hno => nn (by
    rw [List.nodup_iff_pairwise_ne, List.pairwise_iff_getElem]
    intro i j hi hj hij e
    simp at e
    exact hno ⟨i, j, hij, by omega⟩)
  obtain ⟨a, b, hab, e⟩ := this
  refine ⟨s a, sX a, b - a, ?_⟩
  have := sW (b - a - 1) a
  rw [show a + (b - a - 1) + 1 = b from by omega, ← e, show b - a - 1 + 1 = b - a from by omega] at this
  exact this
end
theorem mem_addT {T : Nat} {ol : List Nat} {x : Nat} : ((T + x : Nat) : Int) ∈ addT T (ivn0 ol) ↔ x ∈ ol := by
  unfold addT ivn0
  rw [List.map_map, List.mem_map]
  constructor
  · rintro ⟨y, hy, e⟩
    have e : (y : Int) + (T : Int) = ((T + x : Nat) : Int) := e
    have : y = x := by omega
    rwa [← this]
  · intro h
    refine ⟨x, h, ?_⟩
    show (x : Int) + (T : Int) = _
    omega
theorem addT_get {T : Nat} {ol : List Nat} {i x : Nat} (h : ol[i]? = some x) : (addT T (ivn0 ol))[i]? = some ((T + x : Nat) : Int) := by
  unfold addT ivn0
  rw [List.map_map, List.getElem?_map, h]
  show some ((x : Int) + (T : Int)) = _
  congr 1; omega
theorem mb_lt {v : List Bool} {i j a b : Nat} (hij : i < j) (ha : (mb v)[i]? = some a) (hb : (mb v)[j]? = some b) : a < b := by
  have h := (List.pairwise_lt_range (n := v.length)).filter (fnB v)
  rw [List.pairwise_iff_getElem] at h
  obtain ⟨h1, e1⟩ := List.getElem?_eq_some_iff.1 ha
  obtain ⟨h2, e2⟩ := List.getElem?_eq_some_iff.1 hb
  have := h i j h1 h2 hij
  rw [← e1, ← e2]; exact this
def cycG : GramT := ⟨[⟨.empty, 0⟩, ⟨⟨#[120]⟩, 0⟩], [.empty, ⟨#[65]⟩, ⟨#[66]⟩], [], 3, [⟨2, [3], 0⟩, ⟨3, [4], 0⟩, ⟨4, [3], 0⟩, ⟨4, [1], 0⟩]⟩
theorem cyc_closed : ClosedP cycG := by
  refine ⟨rfl, ⟨rfl, by decide, by decide, by decide, by decide, ?_, ?_, ?_, ?_, ?_⟩, ⟨by decide, by decide, ?_, by decide, by decide, by decide⟩, ⟨2, [3], 0⟩, rfl, rfl, rfl, rfl⟩
  · decide
  · intro i v h; simp [cycG] at h
  · decide
  · decide
  · decide
  · intro p hp
    simp only [List.drop_succ_cons, List.drop_zero, cycG, List.mem_cons, List.not_mem_nil, or_false] at hp
    unfold prodOk symOk
    rcases hp with rfl | rfl | rfl <;> refine ⟨by decide, ?_⟩ <;> intro s hs <;> simp at hs <;> subst hs <;> decide
theorem cyc_ok : okG cycG := by
  refine ⟨by decide, by decide, by decide, by decide, ?_, by decide, by decide⟩
  intro t ht
  simp only [cycG, List.mem_cons, List.not_mem_nil, or_false] at ht
  unfold anyI
  rcases ht with rfl | rfl <;> decide
theorem cyc_nn : NnP cycG [false, false, false] := by
  refine ⟨rfl, fun i => ⟨fun h => ?_, fun h => ?_⟩⟩
  · match i with
    | 0 => cases h
    | 1 => cases h
    | 2 => cases h
    | i + 3 => cases h
  · exfalso
    have key : ∀ s, Nul cycG s → False := fun s h => by
      induction h with
      | mk p hp h1 ih =>
        simp only [cycG, List.mem_cons, List.not_mem_nil, or_false] at hp
        rcases hp with rfl | rfl | rfl | rfl
        · exact ih 3 (by simp)
        · exact ih 4 (by simp)
        · exact ih 3 (by simp)
        · exact ih 1 (by simp)
    exact key _ h
theorem cyc_stp {a b : Nat} : Stp cycG a b ↔ (a = 0 ∧ b = 1) ∨ (a = 1 ∧ b = 2) ∨ (a = 2 ∧ b = 1) := by
  rw [stp_iff cyc_nn]
  have hT : cycG.T = 2 := rfl
  constructor
  · rintro ⟨p, hp, h1, h2, _⟩
    rw [hT] at h1 h2
    simp only [cycG, List.mem_cons, List.not_mem_nil, or_false] at hp
    rcases hp with rfl | rfl | rfl | rfl <;> simp at h1 h2 <;> omega
  · have st : ∀ (p : ProdT) (s : Int), p.right = [s] → stayB cycG.T [false, false, false] s = true → stayN cycG.T [false, false, false] p.right = 1 := fun p s e h => by
      rw [e]; unfold stayN; simp [h]
    rintro (⟨rfl, rfl⟩ | ⟨rfl, rfl⟩ | ⟨rfl, rfl⟩)
    · exact ⟨⟨2, [3], 0⟩, by simp [cycG], rfl, by simp [hT], .inr ⟨st _ 3 rfl (by decide), by decide⟩⟩
    · exact ⟨⟨3, [4], 0⟩, by simp [cycG], rfl, by simp [hT], .inr ⟨st _ 4 rfl (by decide), by decide⟩⟩
    · exact ⟨⟨4, [3], 0⟩, by simp [cycG], rfl, by simp [hT], .inr ⟨st _ 3 rfl (by decide), by decide⟩⟩
theorem cyc_vs {vs : List (List Bool)} (h : VsP cycG.N vs (Stp cycG)) : ∃ v0 vs', vs = v0 :: vs' ∧ mbI v0 = [1] := by
  match vs, h with
  | [], h => have := h.ln; simp [cycG, GramT.N] at this
  | v0 :: vs', h =>
    refine ⟨v0, vs', rfl, ?_⟩
    have e : v0 = [false, true, false] := by
      refine fnB_inj (by rw [h.le v0 (by simp)]; rfl) fun k => ?_
      rw [Bool.eq_iff_iff, h.st 0 v0 rfl k, cyc_stp]
      match k with
      | 0 => simp [fnB]
      | 1 => simp [fnB]
      | 2 => simp [fnB]
      | k + 3 => simp [fnB]
    rw [e]; rfl
theorem cyc_on {ol : List Nat} (h : OnL (Stp cycG) cycG.N ol) : ol = [1, 2] := by
  obtain ⟨p, hp, rfl⟩ := h.ex
  have p0 : p 0 = false := by
    cases e : p 0
    · rfl
    · obtain ⟨k, hk, _⟩ := ((hp 0).1 e).pred
      rw [cyc_stp] at hk; omega
  have w12 : WayN (Stp cycG) 2 1 1 := .one _ (cyc_stp.2 (.inr (.inl ⟨rfl, rfl⟩)))
  have w21 : WayN (Stp cycG) 1 1 2 := .one _ (cyc_stp.2 (.inr (.inr ⟨rfl, rfl⟩)))
  have p1 : p 1 = true := (hp 1).2 ⟨_, w12.trans w21⟩
  have p2 : p 2 = true := (hp 2).2 ⟨_, w21.trans w12⟩
  show (List.range 3).filter p = _
  simp [List.range_succ, p0, p1, p2]
theorem cyc_find {cl : List Nat} (h0 : cl[0]? = some 1) (h : CirP (Stp cycG) cycG.N cl) : cl = [1, 2] := by
  match cl, h0, h with
  | [a], h0, h =>
    cases h0
    have := h.st 0 1 1 rfl rfl
    rw [cyc_stp] at this; omega
  | [a, b], h0, h =>
    cases h0
    have := h.st 0 1 b rfl rfl
    rw [cyc_stp] at this
    have : b = 2 := by omega
    rw [this]
  | a :: b :: c :: l, h0, h =>
    cases h0
    have h1 := h.st 0 1 b rfl (by rw [Nat.mod_eq_of_lt (by simp)]; rfl)
    rw [cyc_stp] at h1
    have h2 := h.st 1 b c rfl (by rw [Nat.mod_eq_of_lt (by simp)]; rfl)
    rw [cyc_stp] at h2
    have : c = 1 := by omega
    subst this
    have := h.nd
    simp at this
end Go.V
namespace Go.Proofs.YtcapljamcepmkaaDoor
open Go.V
section
variable {w : World} {L : List Asn} {a : Option Addr} {l c : Nat} {xs : List Int} {d : Int}
theorem l_in (hr : rdS (hp w) xs a l) (hl : l ≤ 4611686018427387904) : Run Tryd.prog n_presagelaw08_in [.slice a l c, .int .i64 d] w fun v w' => v = .bool (decide (d ∈ xs)) ∧ hp w' = hp w := by
  refine run_presagelaw08_in _ _ _ _ w _ ?_
  refine ⟨fun z w' => ∃ j : Nat, z = j ∧ j ≤ l ∧ d ∉ xs.take j ∧ hp w' = hp w, fun z _ => l - z.toNat, ⟨0, rfl, Nat.zero_le _, by simp, rfl⟩, ?_⟩
  rintro _ z w1 ⟨j, rfl, hj, hno, e1⟩
  refine br_intro (fun h1 => ?_) fun h1 => ?_
  rotate_left
  · have h1 : j = l := by have := of_decide_eq_false h1; omega
    rw [List.take_of_length_le (by have := hr.1; omega)] at hno
    exact ⟨by rw [decide_eq_false hno], e1⟩
  have h1 : j < l := by have := of_decide_eq_true h1; omega
  obtain ⟨y, ad, hy1, hya, hy2⟩ := hr.get1 h1
  refine idx_i hya h1 ⟨y, hy2 _ (Gr.of_eq e1), br_intro (fun h2 => ?_) fun h2 => ?_⟩
  · have h2 : y = d := by simpa using h2
    exact ⟨by rw [decide_eq_true (h2 ▸ List.mem_of_getElem? hy1)], e1⟩
  · have h2 : y ≠ d := by simpa using h2
    refine ⟨⟨by omega, by omega⟩, ⟨j + 1, by simp, by omega, fun hm => ?_, e1⟩, msr h1⟩
    rw [List.take_add_one, hy1] at hm
    rcases List.mem_append.1 hm with hm | hm
    · exact hno hm
    · simp at hm; exact h2 hm.symm
set_option maxHeartbeats 2000000 in
theorem l_awake8 (ht : tabA (hp w)) : Run Tryd.prog n_presagelaw08_awake [] w fun v w' => v = .bool true ∧ Gr w w' := by
  refine run_presagelaw08_awake w _ ?_
  refine newC_i (St.all w) fun k1 w1 h => newC_i h fun k2 w2 h => newC_i h fun k3 w3 h => newC_i h fun k4 w4 h => newC_i h fun k5 w5 h => newC_i h fun k6 w6 h => newC_i h fun k7 w7 h => newC_i h fun k8 w8 h => stR_i h rfl (by intro v hv; simp at hv; rcases hv with rfl | rfl | rfl | rfl | rfl <;> rfl) fun w9 h => ?_
  have r8 : rowH (hp w9) ⟨k8, 0, none⟩ _ := rdCel 0 h.l
  have r7 : rowH (hp w9) ⟨k7, 0, none⟩ _ := rdCel 1 h.l
  have r6 : rowH (hp w9) ⟨k6, 0, none⟩ _ := rdCel 2 h.l
  have r5 : rowH (hp w9) ⟨k5, 0, none⟩ _ := rdCel 3 h.l
  have r4 : rowH (hp w9) ⟨k4, 0, none⟩ _ := rdCel 4 h.l
  have r3 : rowH (hp w9) ⟨k3, 0, none⟩ _ := rdCel 5 h.l
  have r2 : rowH (hp w9) ⟨k2, 0, none⟩ _ := rdCel 6 h.l
  have r1 : rowH (hp w9) ⟨k1, 0, none⟩ _ := rdCel 7 h.l
  have g9 : sub (hp w) (hp w9) := rdH 8 h.l
  have p3 : rdS (hp w9) ([3] : List Int) (some ⟨k3, 0, none⟩) 1 := rdI_of rfl (.inr ⟨_, rfl, r3⟩)
  have p4 : rdS (hp w9) ([4] : List Int) (some ⟨k4, 0, none⟩) 1 := rdI_of rfl (.inr ⟨_, rfl, r4⟩)
  have p5 : rdS (hp w9) ([3] : List Int) (some ⟨k5, 0, none⟩) 1 := rdI_of rfl (.inr ⟨_, rfl, r5⟩)
  have p6 : rdS (hp w9) ([1] : List Int) (some ⟨k6, 0, none⟩) 1 := rdI_of rfl (.inr ⟨_, rfl, r6⟩)
  have p0 : rdS (hp w9) ([] : List Int) none 0 := rdI_of rfl (.inl rfl)
  obtain ⟨x, hx⟩ : ∃ x : GA, x = ⟨some ⟨k1, 0, none⟩, 2, 2, some ⟨k2, 0, none⟩, 3, 3, none, 0, 0, 3, some ⟨k7, 0, none⟩, 4, 4⟩ := ⟨_, rfl⟩
  have hg : gR (hp w9) cycG x := by
    rw [hx]
    refine ⟨?_, ?_, p0, rfl, ?_, Nat.le_refl _, Nat.le_refl _, Nat.le_refl _, Nat.le_refl _⟩
    · refine rdS_lit (xs := cycG.terms) r1 fun i t hi => ?_
      match i, hi with
      | 0, hi => cases hi; rfl
      | 1, hi => cases hi; rfl
      | i + 2, hi => cases hi
    · exact rdS_of_row (xs := cycG.nons) rfl (.inr ⟨_, rfl, r2⟩)
    · refine rdS_lit (xs := cycG.prods) r7 fun i t hi => ?_
      match i, hi with
      | 0, hi => cases hi; exact ⟨_, _, _, rfl, by decide, p3⟩
      | 1, hi => cases hi; exact ⟨_, _, _, rfl, by decide, p4⟩
      | 2, hi => cases hi; exact ⟨_, _, _, rfl, by decide, p5⟩
      | 3, hi => cases hi; exact ⟨_, _, _, rfl, by decide, p6⟩
      | i + 4, hi => cases hi
  have B : GB (hp w9) k8 x := gb_of (hx ▸ r8)
  have ht9 := rdV.mono g9 ht
  clear h
  refine ⟨_, _, _, _, _, _, _, _, _, _, _, _, _, B.row (sub.refl _), (y_Steps (x := x) hg cyc_ok ht9).mono ?_⟩
  rintro _ w10 (⟨hn, _⟩ | ⟨_, a1, c1, vs, rfl, hV, rS, g10⟩)
  · exact absurd cyc_closed hn
  refine ⟨_, _, _, _, rfl, _, _, _, _, _, _, _, _, _, _, _, _, _, B.row g10, (y_Find (x := x) (hg.mono g10) cyc_ok (rdV.mono g10 ht9)).mono ?_⟩
  rintro _ w11 (⟨hn, _⟩ | ⟨_, a2, c2, ol2, cl, rfl, hol2, _, hcl, _, _, rF, g11⟩)
  · exact absurd cyc_closed hn
  have s11 := sub.trans g10 g11
  refine ⟨_, _, _, _, rfl, _, _, _, _, _, _, _, _, _, _, _, _, _, B.row s11, (y_On (x := x) (hg.mono s11) cyc_ok (rdV.mono s11 ht9)).mono ?_⟩
  rintro _ w12 (⟨hn, _⟩ | ⟨_, a3, c3, ol3, rfl, hol3, rO, g12⟩)
  · exact absurd cyc_closed hn
  have e2 := cyc_on hol2
  have e3 := cyc_on hol3
  subst e2; subst e3
  obtain ⟨f1, f2⟩ := hcl 1 rfl
  have e4 := cyc_find f1 f2
  subst e4
  obtain ⟨v0, vs', rfl, hm0⟩ := cyc_vs hV
  have rS := rS.mono (sub.trans g11 g12)
  have rF := rF.mono g12
  obtain ⟨y, ad, yvs, hy1, hya, hy2, ra, rl, rc, rfl, hrc, hy3⟩ := rS.get (i := 0) (by decide)
  have ey : y = [3] := by
    have : some (addT cycG.T (mbI v0)) = some y := hy1
    rw [hm0] at this
    exact (Option.some.inj this).symm
  subst ey
  have e1 := hy3.1
  have al : ∀ {w'}, Gr w12 w' → Gr w w' := fun g => sub.trans g9 (sub.trans s11 (sub.trans g12 g))
  refine ⟨_, _, _, _, rfl, br_intro (fun _ => br_intro (fun _ => br_intro (fun _ => br_intro (fun _ => ?_) fun h => absurd h (by decide)) fun h => absurd h (by decide)) fun h => absurd h (by decide)) fun h => absurd h (by decide)⟩
  refine idx_0 hya (by decide) ⟨ra, rl, rc, ?_, newC_i (St.all w12) fun k41 w13 h => ?_⟩
  · have := hy2.cell0 (sub.refl _)
    rwa [add0] at this
  have g13 : Gr w12 w13 := h.gone1
  refine (r_Ints (xs := [3]) (ys := [3]) (hy3.mono g13) (rdI_of rfl (.inr ⟨_, rfl, h.row⟩)) (by rw [← e1]; decide)).mono ?_
  rintro _ w14 ⟨rfl, e14⟩
  have g14 : Gr w12 w14 := g13.trans (Gr.of_eq e14)
  refine ⟨_, rfl, br_intro (fun _ => newC_i (St.all w14) fun k42 w15 h => ?_) fun h => absurd h (by decide)⟩
  have g15 : Gr w12 w15 := g14.trans h.gone1
  refine (r_Ints (xs := [3, 4]) (ys := [3, 4]) (rF.mono g15) (rdI_of rfl (.inr ⟨_, rfl, h.row⟩)) (by decide)).mono ?_
  rintro _ w16 ⟨rfl, e16⟩
  have g16 : Gr w12 w16 := g15.trans (Gr.of_eq e16)
  refine ⟨_, rfl, br_intro (fun _ => newC_i (St.all w16) fun k43 w17 h => ?_) fun h => absurd h (by decide)⟩
  have g17 : Gr w12 w17 := g16.trans h.gone1
  refine (r_Ints (xs := [3, 4]) (ys := [3, 4]) (rO.mono g17) (rdI_of rfl (.inr ⟨_, rfl, h.row⟩)) (by decide)).mono ?_
  rintro _ w18 ⟨rfl, e18⟩
  exact ⟨_, rfl, rfl, al (g17.trans (Gr.of_eq e18))⟩
end
end Go.Proofs.YtcapljamcepmkaaDoor
set_option linter.unusedVariables false
namespace Go.V
theorem slc_hi {a : Option Addr} {len cap hi : Nat} {k : Option Addr → Nat → Nat → Prop} {α : Type} [Rep1 α] (h1 : hi ≤ cap) (hk : k (slP a 0 cap 1) hi cap) : slc a len cap none (some (hi : Int)) none 1 k :=
  ⟨.inl rfl, .inr ⟨by show (0 : Int) ≤ (hi : Int); omega, by show (hi : Int) ≤ (cap : Int); omega⟩, ⟨by decide, by show (0 : Int) ≤ (hi : Int); omega⟩, by simpa using hk⟩
theorem cel_bitC {w : World} {k u : Nat} {ms : List Bool} (r : rowH (hp w) ⟨k, 0, none⟩ (bv ms)) (h : u < ms.length) : w.cell? ((⟨k, 0, none⟩ : Addr).add u) = some (.bool (fnB ms u)) :=
  r.cell (sub.refl _) (j := u) (by unfold bv fnB; rw [List.getElem?_map, List.getElem?_eq_getElem h, List.getD_eq_getElem?_getD, List.getElem?_eq_getElem h]; rfl)
theorem bv_setC (ms : List Bool) (u : Nat) (b : Bool) : (bv ms).set u (.bool b) = bv (ms.set u b) := by simp [bv, List.map_set]
structure MkD (R : Nat → Nat → Prop) (N : Nat) (M : List Bool) : Prop where
  ln : M.length = N
  dd : ∀ i, fnB M i = true → Dead R i
theorem MkD.set {R : Nat → Nat → Prop} {N i : Nat} {M : List Bool} (h : MkD R N M) (hi : i < N) (hd : ∀ k, R i k → fnB M k = true) : MkD R N (M.set i true) := by
  refine ⟨by rw [List.length_set]; exact h.ln, fun j hj => ?_⟩
  rw [fnB_setT (by rw [h.ln]; exact hi), Bool.or_eq_true, beq_iff_eq] at hj
  rcases hj with hj | rfl
  · exact h.dd j hj
  · exact .mk _ fun k hk => h.dd k (hd k hk)
end Go.V
namespace Go.Proofs.YtcapljamcepmkaaDoor
open Go.V
section
variable {w : World} {L : List Asn} {g : GramT} {x : GA}
set_option maxHeartbeats 16000000 in
theorem l_CycleHolds (hg : gR (hp w) g x) (hb : okG g) (hbT : g.terms.length * 24 ≤ 140737488355328) (hbN : g.nons.length * 16 ≤ 140737488355328) (ht : tabA (hp w)) : Run Tryd.prog n_presagelaw08_CycleHolds [.agg ⟨x.cells⟩] w fun v w' => v = .bool true ∧ Gr w w' := by
  refine run_presagelaw08_CycleHolds _ _ _ _ _ _ _ _ _ _ _ _ _ w _ ?_
  refine gbox hg fun k1 w1 gw hg B => ?_
  have tl : g.T = x.tl := hg.t.1
  have nl : g.N = x.nl := hg.n.1
  have ht1 : tabA (hp w1) := rdV.mono gw ht
  refine ⟨_, _, _, _, _, _, _, _, _, _, _, _, _, B.row (sub.refl _), (d_Copy (x := x) hg hb hbT hbN).mono ?_⟩
  rintro _ w2 ⟨y2, os2, rfl, hy2, hos2, h2⟩
  have hk2 : gR (hp w2) g y2 := ownG_gR hy2 hos2 h2
  have s12 : sub (hp w1) (hp w2) := rdH 5 h2.l
  clear h2
  refine ⟨_, _, _, _, _, _, _, _, _, _, _, _, _, rfl, (y_Steps (x := y2) hk2 hb (rdV.mono s12 ht1)).mono ?_⟩
  intro v3 w3 hS
  have s13 : sub (hp w1) (hp w3) := by
    rcases hS with ⟨_, _, g⟩ | ⟨_, _, _, _, _, _, _, g⟩ <;> exact sub.trans s12 g
  obtain ⟨a3, l3, c3, e3, rfl, hS2⟩ : ∃ (a : Option Addr) (l c : Nat) (e : Int), v3 = .tuple #[.slice a l c, .int .i64 e] ∧ ((¬ ClosedP g ∧ e = 1 ∧ l = 0) ∨ (ClosedP g ∧ e = 0 ∧ l = g.N ∧ ∃ vs, VsP g.N vs (Stp g) ∧ rdS (hp w3) (vs.map fun v => addT g.T (mbI v)) a g.N)) := by
    rcases hS with ⟨h1, rfl, _⟩ | ⟨h1, a, c, vs, rfl, h3, h4, _⟩
    · exact ⟨_, _, _, _, rfl, .inl ⟨h1, rfl, rfl⟩⟩
    · exact ⟨_, _, _, _, rfl, .inr ⟨h1, rfl, rfl, vs, h3, h4⟩⟩
  refine ⟨_, _, _, _, rfl, _, _, _, _, _, _, _, _, _, _, _, _, _, B.row s13, (d_Copy (x := x) (hg.mono s13) hb hbT hbN).mono ?_⟩
  rintro _ w4 ⟨y4, os4, rfl, hy4, hos4, h4⟩
  have hk4 : gR (hp w4) g y4 := ownG_gR hy4 hos4 h4
  have s34 : sub (hp w3) (hp w4) := rdH 5 h4.l
  clear h4
  refine ⟨_, _, _, _, _, _, _, _, _, _, _, _, _, rfl, (y_On (x := y4) hk4 hb (rdV.mono (sub.trans s13 s34) ht1)).mono ?_⟩
  intro v5 w5 hO
  have s45 : sub (hp w4) (hp w5) := by
    rcases hO with ⟨_, _, g⟩ | ⟨_, _, _, _, _, _, _, g⟩ <;> exact g
  obtain ⟨a5, l5, c5, e5, rfl, hO2⟩ : ∃ (a : Option Addr) (l c : Nat) (e : Int), v5 = .tuple #[.slice a l c, .int .i64 e] ∧ ((¬ ClosedP g ∧ e = 1 ∧ l = 0) ∨ (ClosedP g ∧ e = 0 ∧ ∃ ol, l = ol.length ∧ OnL (Stp g) g.N ol ∧ rdS (hp w5) (addT g.T (ivn0 ol)) a l)) := by
    rcases hO with ⟨h1, rfl, _⟩ | ⟨h1, a, c, ol, rfl, h3, h4, _⟩
    · exact ⟨_, _, _, _, rfl, .inl ⟨h1, rfl, rfl⟩⟩
    · exact ⟨_, _, _, _, rfl, .inr ⟨h1, rfl, ol, rfl, h3, h4⟩⟩
  have s35 : sub (hp w3) (hp w5) := sub.trans s34 s45
  have s15 : sub (hp w1) (hp w5) := sub.trans s13 s35
  refine ⟨_, _, _, _, rfl, _, _, _, _, _, _, _, _, _, _, _, _, _, B.row s15, (d_Copy (x := x) (hg.mono s15) hb hbT hbN).mono ?_⟩
  rintro _ w6 ⟨y6, os6, rfl, hy6, hos6, h6⟩
  have hk6 : gR (hp w6) g y6 := ownG_gR hy6 hos6 h6
  have s56 : sub (hp w5) (hp w6) := rdH 5 h6.l
  clear h6
  refine ⟨_, _, _, _, _, _, _, _, _, _, _, _, _, rfl, (y_Find (x := y6) hk6 hb (rdV.mono (sub.trans s15 s56) ht1)).mono ?_⟩
  intro v7 w7 hF
  have s67 : sub (hp w6) (hp w7) := by
    rcases hF with ⟨_, _, g⟩ | ⟨_, _, _, _, _, _, _, _, _, _, _, _, g⟩ <;> exact g
  obtain ⟨a7, l7, c7, e7, rfl, hF2⟩ : ∃ (a : Option Addr) (l c : Nat) (e : Int), v7 = .tuple #[.slice a l c, .int .i64 e] ∧ ((¬ ClosedP g ∧ e = 1 ∧ l = 0) ∨ (ClosedP g ∧ e = 0 ∧ ∃ ol cl, l = cl.length ∧ OnL (Stp g) g.N ol ∧ (ol = [] → cl = []) ∧ (∀ l0, ol[0]? = some l0 → cl[0]? = some l0 ∧ CirP (Stp g) g.N cl) ∧ l ≤ 67 ∧ l ≤ c ∧ rdS (hp w7) (addT g.T (ivn0 cl)) a l)) := by
    rcases hF with ⟨h1, rfl, _⟩ | ⟨h1, a, c, ol, cl, rfl, h3, h4, h5, h6, h7, h8, _⟩
    · exact ⟨_, _, _, _, rfl, .inl ⟨h1, rfl, rfl⟩⟩
    · exact ⟨_, _, _, _, rfl, .inr ⟨h1, rfl, ol, cl, rfl, h3, h4, h5, h6, h7, h8⟩⟩
  have s57 : sub (hp w5) (hp w7) := sub.trans s56 s67
  have s37 : sub (hp w3) (hp w7) := sub.trans s35 s57
  have s17 : sub (hp w1) (hp w7) := sub.trans s15 s57
  have gs : sub (hp w) (hp w7) := sub.trans gw s17
  have B : GB (hp w7) k1 x := ⟨fun s => B.c0 (sub.trans s17 s), fun s => B.c1 (sub.trans s17 s), fun s => B.c2 (sub.trans s17 s), fun s => B.c3 (sub.trans s17 s), fun s => B.c4 (sub.trans s17 s), fun s => B.row (sub.trans s17 s)⟩
  have ht7 : tabA (hp w7) := rdV.mono s17 ht1
  have aw : ∀ {w' : World}, sub (hp w7) (hp w') → Run Tryd.prog n_presagelaw08_awake [] w' fun v w'' => v = .bool true ∧ Gr w w'' := fun {w'} s => by
    refine (l_awake8 (rdV.mono s ht7)).mono ?_
    rintro _ w'' ⟨rfl, g⟩
    exact ⟨rfl, sub.trans gs (sub.trans s g)⟩
  clear hS hO hF
  have ee : e3 = e5 ∧ e5 = e7 := by
    rcases hS2 with ⟨h1, h2, _⟩ | ⟨h1, h2, _⟩ <;> rcases hO2 with ⟨h3, h4, _⟩ | ⟨h3, h4, _⟩ <;> rcases hF2 with ⟨h5, h6, _⟩ | ⟨h5, h6, _⟩ <;> first | exact ⟨h2.trans h4.symm, h4.trans h6.symm⟩ | contradiction
  obtain ⟨rfl, rfl⟩ := ee
  refine ⟨_, _, _, _, rfl, fun b w' => b = false ∧ sub (hp w7) (hp w'), br_intro (fun h => by simp at h) fun _ => ⟨by simp, sub.refl _⟩, ?_⟩
  rintro _ b1 w8 ⟨rfl, s8⟩
  refine br_intro (fun h => by cases h) fun _ => ?_
  rcases hS2 with ⟨hn, rfl, rfl⟩ | ⟨hcl, rfl, rfl, vs, hV, rS⟩
  · obtain ⟨rfl, rfl⟩ : l5 = 0 ∧ l7 = 0 := by
      rcases hO2 with ⟨_, _, h1⟩ | ⟨h, _⟩ <;> rcases hF2 with ⟨_, _, h2⟩ | ⟨h', _⟩ <;> first | exact ⟨h1, h2⟩ | contradiction
    refine br_intro (fun _ => br_intro (fun _ => ⟨⟨by omega, by omega⟩, ⟨by omega, by omega⟩, br_intro (fun _ => (aw s8).mono ?_) fun h => absurd h (by decide)⟩) fun h => absurd h (by decide)) fun h => absurd h (by decide)
    rintro _ w9 ⟨rfl, g9⟩
    exact ⟨_, rfl, rfl, g9⟩
  rcases hO2 with ⟨h, _⟩ | ⟨_, _, ol, rfl, hol, rO⟩
  · exact absurd hcl h
  rcases hF2 with ⟨h, _⟩ | ⟨_, _, ol', cl, rfl, hol', hcl0, hcl1, hc67, hc7, rF⟩
  · exact absurd hcl h
  obtain ⟨iG, bT, bN, pN, pT, bP⟩ := inG (.inr hcl : EitherP g)
  obtain rfl : ol' = ol := by
    obtain ⟨p, hp1, rfl⟩ := hol.ex
    obtain ⟨q, hq1, rfl⟩ := hol'.ex
    congr 1
    funext i; rw [Bool.eq_iff_iff, hq1, hp1]
  clear hol'
  have rS := rS.mono s37
  have rO := rO.mono s57
  have hole := hol.le
  have hvl := hV.ln
  generalize hH : hp w7 = H at *
  have cir : cl ≠ [] → CirP (Stp g) g.N cl := fun h => by
    cases e : ol' with
    | nil => exact absurd (hcl0 e) h
    | cons l0 r => exact (hcl1 l0 (by rw [e]; rfl)).2
  have e00 : ol' = [] ↔ cl = [] := by
    refine ⟨hcl0, fun h => ?_⟩
    cases e : ol' with
    | nil => rfl
    | cons l0 r => have := (hcl1 l0 (by rw [e]; rfl)).1; rw [h] at this; cases this
  have stp : ∀ {a v}, vs[a]? = some v → ∀ b, fnB v b = true ↔ Stp g a b := fun h b => hV.st _ _ h b
  -- a row of Steps
  have row : ∀ i, i < g.N → ∃ v ad ra rc, vs[i]? = some v ∧ v.length = g.N ∧ a3 = some ad ∧ (∀ w', sub H (hp w') → w'.cell? (ad.add i) = some (.slice ra (cntB v) rc)) ∧ rdS H (addT g.T (mbI v)) ra (cntB v) := fun i hi => by
    obtain ⟨y, ad, yvs, h1, h2, h3, ra, rl, rc, rfl, hrc, h4⟩ := rS.get hi
    rw [List.getElem?_map] at h1
    cases hv : vs[i]? with
    | none => rw [hv] at h1; cases h1
    | some v =>
      rw [hv] at h1; cases h1
      have el : rl = cntB v := by rw [← h4.1, addT_len, mbI_len]
      subst el
      refine ⟨v, ad, ra, rc, rfl, hV.le v (List.mem_of_getElem? hv), h2, fun w' s => ?_, h4⟩
      have := h3.cell0 s
      rwa [show mulS i (Rep.n (List Int)) = i from by rw [mulS_eq]; show i * 1 = i; omega] at this
  have mbg : ∀ {v : List Bool} {i k : Nat}, (mb v)[i]? = some k → (addT g.T (mbI v))[i]? = some ((g.T + k : Nat) : Int) := fun h => addT_get (ol := mb _) h
  have inr : ∀ {v : List Bool} {k : Nat}, ((g.T + k : Nat) : Int) ∈ addT g.T (mbI v) ↔ fnB v k = true := fun {v k} => (mem_addT (ol := mb v)).trans mem_mb
  refine br_intro (fun h => absurd h (by decide)) fun _ => ⟨_, _, _, B.c0 s8, ?_⟩
  rw [← tl]
  refine ⟨fun w' => sub H (hp w'), fun w10 hd => ?_, ?_⟩
  · have s10 : sub H (hp w10) := sub.trans s8 (Gr.drawn hd)
    refine ⟨fun w' => sub H (hp w'), s10, _, _, _, fun w' s => B.c1 s, ?_⟩
    rw [← nl]
    refine br_intro (fun h => by simp at h) fun _ => br_intro (fun h => ?_) fun _ => br_intro (fun h => ?_) fun _ => s10
    · exfalso
      have : ((ol'.length : Int) == 0) = ((cl.length : Int) == 0) := by
        rw [Bool.eq_iff_iff, beq_iff_eq, beq_iff_eq]
        constructor
        · intro h
          have := e00.1 (List.eq_nil_of_length_eq_zero (by omega)); rw [this]; rfl
        · intro h
          have := e00.2 (List.eq_nil_of_length_eq_zero (by omega)); rw [this]; rfl
      rw [this] at h; simp at h
    · have h : 0 < cl.length := by have := of_decide_eq_true h; omega
      have hno : ol' ≠ [] := fun e => by rw [hcl0 e] at h; simp at h
      obtain ⟨l0, hl0⟩ : ∃ l0, ol'[0]? = some l0 := by
        cases e : ol' with
        | nil => exact absurd e hno
        | cons l0 r => exact ⟨l0, rfl⟩
      have hc0 := (hcl1 l0 hl0).1
      obtain ⟨ad1, ha1, hx1⟩ := rF.at (addT_get hc0)
      obtain ⟨ad2, ha2, hx2⟩ := rO.at (addT_get hl0)
      have z0 : ∀ {a : Option Addr} {ad : Addr} {n : Nat} {k : Addr → Prop}, a = some ad → 0 < n → k (ad.add 0) → idx a n 0 1 k := fun h1 h2 h3 => idx_i (i := 0) h1 h2 h3
      exact z0 ha1 h ⟨_, fun w' s => hx1 w' s, z0 ha2 (List.length_pos_iff.2 hno) ⟨_, fun w' s => hx2 w' s, br_intro (fun h => by simp at h) fun _ => s10⟩⟩
  clear s8
  rintro _ w14 s14
  -- Steps' numbers
  refine ⟨fun z w' => ∃ i : Nat, z = i ∧ i ≤ g.N ∧ sub H (hp w'), fun z _ => g.N - z.toNat, ⟨0, rfl, Nat.zero_le _, s14⟩, ?_⟩
  clear s14
  rintro _ z w15 ⟨i, rfl, hi, s15'⟩
  refine br_intro (fun hlt => ?_) fun hlt => ?_
  · have hlt : i < g.N := by have := of_decide_eq_true hlt; omega
    obtain ⟨v, ad, ra, rc, hv, hvN, ha, hc, hr⟩ := row i hlt
    have hcv := cntB_le v
    refine ⟨fun z w' => ∃ j : Nat, z = j ∧ j ≤ cntB v ∧ sub H (hp w'), fun z _ => cntB v - z.toNat, ⟨0, rfl, Nat.zero_le _, s15'⟩, ?_⟩
    rintro _ z w16 ⟨j, rfl, hj, s16⟩
    refine idx_i ha hlt ⟨_, _, _, hc _ s16, br_intro (fun hlt2 => fun w17 hd => ?_) fun hlt2 => ⟨⟨by omega, by omega⟩, ⟨i + 1, by simp, by omega, s16⟩, msr hlt⟩⟩
    have hlt2 : j < cntB v := by have := of_decide_eq_true hlt2; omega
    have s17' : sub H (hp w17) := sub.trans s16 (Gr.drawn hd)
    obtain ⟨k, hk⟩ : ∃ k, (mb v)[j]? = some k := ⟨(mb v)[j]'(by rw [mb_len]; exact hlt2), List.getElem?_eq_getElem _⟩
    have hkN : k < g.N := by
      have := mem_mb.1 (List.mem_of_getElem? hk)
      exact Classical.byContradiction fun e => by rw [fnB_out (by omega)] at this; cases this
    obtain ⟨rad, hra, hrc⟩ := hr.at (mbg hk)
    have nx : inI ((j : Int) + 1) ∧ (∃ j' : Nat, (j : Int) + 1 = j' ∧ j' ≤ cntB v ∧ sub H (hp w17)) ∧ cntB v - ((j : Int) + 1).toNat < cntB v - (j : Int).toNat := ⟨⟨by omega, by omega⟩, ⟨j + 1, by simp, by omega, s17'⟩, msr hlt2⟩
    refine ⟨fun w' => sub H (hp w'), s17', idx_i ha hlt ⟨_, _, _, fun w' s => hc _ s, idx_i hra hlt2 ⟨_, fun w' s => hrc _ s, br_intro (fun h => ?_) fun _ => idx_i ha hlt ⟨_, _, _, fun w' s => hc _ s, idx_i hra hlt2 ⟨_, fun w' s => hrc _ s, _, _, _, fun w' s => B.c1 s, ⟨by omega, by omega⟩, br_intro (fun h => ?_) fun _ => br_intro (fun h => ?_) fun _ => nx⟩⟩⟩⟩⟩
    · have := of_decide_eq_true h; omega
    · have := of_decide_eq_true h; omega
    · have h0 : 0 < j := by have := of_decide_eq_true h; omega
      obtain ⟨k0, hk0⟩ : ∃ k, (mb v)[j - 1]? = some k := ⟨(mb v)[j - 1]'(by rw [mb_len]; omega), List.getElem?_eq_getElem _⟩
      have hlk := mb_lt (by omega : j - 1 < j) hk0 hk
      obtain ⟨rad0, hra0, hrc0⟩ := hr.at (mbg hk0)
      have ej : (j : Int) - 1 = ((j - 1 : Nat) : Int) := by omega
      refine idx_i ha hlt ⟨_, _, _, fun w' s => hc _ s, ⟨by omega, by omega⟩, ?_⟩
      rw [ej]
      exact idx_i hra0 (by omega) ⟨_, fun w' s => hrc0 _ s, idx_i ha hlt ⟨_, _, _, fun w' s => hc _ s, idx_i hra hlt2 ⟨_, fun w' s => hrc _ s, br_intro (fun h => by have := of_decide_eq_true h; omega) fun _ => nx⟩⟩⟩
  clear hlt
  -- the circle
  refine ⟨fun z w' => ∃ i : Nat, z = i ∧ i ≤ cl.length ∧ sub H (hp w'), fun z _ => cl.length - z.toNat, ⟨0, rfl, Nat.zero_le _, s15'⟩, ?_⟩
  clear s15' hi
  rintro _ z w27 ⟨i, rfl, hi, s27⟩
  refine br_intro (fun hlt => fun w28 hd => ?_) fun hlt => ?_
  · have hlt : i < cl.length := by have := of_decide_eq_true hlt; omega
    have hcir := cir (fun e => by rw [e] at hlt; simp at hlt)
    have s28 : sub H (hp w28) := sub.trans s27 (Gr.drawn hd)
    obtain ⟨y, hy⟩ : ∃ y, cl[i]? = some y := ⟨cl[i], List.getElem?_eq_getElem hlt⟩
    have hym := List.mem_of_getElem? hy
    have hyN := hcir.lt y hym
    obtain ⟨yad, hya, hyc⟩ := rF.at (addT_get hy)
    refine ⟨fun w' => sub H (hp w'), s28, idx_i hya hlt ⟨_, fun w' s => hyc _ s, (l_in (rO.mono s28) (by omega)).mono ?_⟩⟩
    rintro _ w30 ⟨rfl, e30⟩
    have s30 : sub H (hp w30) := sub.trans s28 (Gr.of_eq e30)
    refine ⟨_, rfl, fun w' => sub H (hp w'), s30, fun _ s => s, br_intro (fun h => ?_) fun _ => ?_⟩
    · rw [decide_eq_true (mem_addT.2 (hol.mem.2 ⟨hyN, hcir.on y hym⟩))] at h; cases h
    have rT := (rF.take (k := i) (by omega)).drop (k := 0) (m := c7) (Nat.zero_le _) (by omega)
    rw [List.drop_zero, Nat.sub_zero] at rT
    refine slc_hi (α := Int) (by omega) (idx_i hya hlt ⟨_, fun w' s => hyc _ s, (l_in (rT.mono s30) (by omega)).mono ?_⟩)
    rintro _ w33 ⟨rfl, e33⟩
    have s33 : sub H (hp w33) := sub.trans s30 (Gr.of_eq e33)
    refine ⟨_, rfl, fun w' => sub H (hp w'), s33, fun _ s => s, br_intro (fun h => ?_) fun _ => ?_⟩
    · have h := of_decide_eq_true h
      exfalso
      have e : (addT g.T (ivn0 cl)).take i = addT g.T (ivn0 (cl.take i)) := by unfold addT ivn0; rw [List.map_take, List.map_take]
      rw [e, mem_addT] at h
      obtain ⟨j, hj⟩ := List.getElem?_of_mem h
      rw [List.getElem?_take] at hj
      split at hj
      · rename_i hji
        have := hcir.nd
        rw [List.nodup_iff_pairwise_ne, List.pairwise_iff_getElem] at this
        have h1 := (List.getElem?_eq_some_iff.1 hj)
        have h2 := (List.getElem?_eq_some_iff.1 hy)
        exact this j i h1.1 h2.1 hji (h1.2.trans h2.2.symm)
      · cases hj
    obtain ⟨v, ad, ra, rc, hv, hvN, ha, hc, hr⟩ := row y hyN
    have hcv := cntB_le v
    obtain ⟨j, hjd⟩ : ∃ j, j = (i + 1) % cl.length := ⟨_, rfl⟩
    have hjl : j < cl.length := by rw [hjd]; exact Nat.mod_lt _ (by omega)
    obtain ⟨z, hz⟩ : ∃ z, cl[j]? = some z := ⟨cl[j], List.getElem?_eq_getElem hjl⟩
    have hR : Stp g y z := hcir.st i y z hy (hjd ▸ hz)
    obtain ⟨zad, hza, hzc⟩ := rF.at (addT_get hz)
    have ey : ((g.T + y : Nat) : Int) - (g.T : Int) = (y : Int) := by omega
    have em : Int.tmod ((i : Int) + 1) (cl.length : Int) = (j : Int) := by
      rw [hjd, Int.tmod_eq_emod_of_nonneg (by omega)]; simp
    refine idx_i hya hlt ⟨((g.T + y : Nat) : Int), fun w' s => hyc _ s, ⟨by omega, by omega⟩, ?_⟩
    rw [ey, em]
    refine idx_i ha hyN ⟨_, _, _, fun w' s => hc _ s, ⟨by omega, by omega⟩, (by show (cl.length : Int) ≠ 0; omega), idx_i hza hjl ⟨_, fun w' s => hzc _ s, (l_in (hr.mono s33) (by omega)).mono ?_⟩⟩
    rintro _ w38 ⟨rfl, e38⟩
    have s38 : sub H (hp w38) := sub.trans s33 (Gr.of_eq e38)
    refine ⟨_, rfl, s38, br_intro (fun h => ?_) fun _ => ⟨⟨by omega, by omega⟩, ⟨i + 1, by simp, by omega, s38⟩, msr hlt⟩⟩
    rw [decide_eq_true (inr.2 ((stp hv z).2 hR))] at h; cases h
  clear hlt
  -- what is taken away
  refine ⟨⟨by omega, rfl, by omega⟩, ?_⟩
  rw [Int.toNat_natCast, reps_one]
  have h := St.here s27
  rw [show List.replicate g.N (vB false) = bv (List.replicate g.N false) from by simp [bv]]
  refine newC_i h fun k76 w39 h => ?_
  have D0 : MkD (Stp g) g.N (List.replicate g.N false) := ⟨by simp, fun i h => by rw [fnB_rep] at h; cases h⟩
  obtain ⟨Q, hQ⟩ := name_it (fun (b : Bool) (w : World) (m : Nat) => ∃ M, MkD (Stp g) g.N M ∧ m = opn M + (if b then 1 else 0) ∧ (b = false → ∀ i, i < g.N → fnB M i = false → ∃ k, Stp g i k ∧ fnB M k = false) ∧ St w [cel k76 (bv M), has H])
  obtain ⟨μ, mu1, mu2⟩ := least_fn (fun (y : Bool × World) m => Q y.1 y.2 m)
  refine ⟨fun b w' => ∃ m, Q b w' m, fun b w => μ (b, w), ⟨opn (List.replicate g.N false) + 1, ?_⟩, ?_⟩
  · rw [hQ]
    exact ⟨_, D0, rfl, fun h => absurd h (by decide), h⟩
  clear h D0 hi s27
  intro _ b6 w40 hP
  have hP := mu2 (b6, w40) hP
  dsimp only at hP
  generalize hμ : μ (b6, w40) = μ0 at *
  rw [hQ] at hP
  obtain ⟨M0, D0, hmu, hcl6, h⟩ := hP
  have bit : ∀ {w' : World} {M : List Bool} {i : Nat}, M.length = g.N → St w' [cel k76 (bv M), has H] → i < g.N → w'.cell? ((⟨k76, 0, none⟩ : Addr).add i) = some (.bool (fnB M i)) := fun hl h hi => cel_bitC (rdCel 0 h.l) (by omega)
  refine br_intro (fun hb1 => ?_) fun hb1 => ?_
  · subst hb1
    rw [if_pos rfl] at hmu
    refine ⟨fun b n w' => ∃ (i : Nat) (M : List Bool), n = i ∧ i ≤ g.N ∧ MkD (Stp g) g.N M ∧ opn M + (if b then 1 else 0) ≤ opn M0 ∧ (b = false → ∀ j, j < i → fnB M j = false → ∃ k, Stp g j k ∧ fnB M k = false) ∧ St w' [cel k76 (bv M), has H], fun _ n _ => g.N - n.toNat, ⟨0, M0, rfl, Nat.zero_le _, D0, by simp, fun _ j hj => absurd hj (Nat.not_lt_zero _), h⟩, ?_⟩
    clear h D0 hcl6
    rintro _ b7 n23 w41 ⟨i, M, rfl, hi, D, hm7, hc7', h⟩
    refine br_intro (fun hlt => ?_) fun hlt => ?_
    rotate_left
    · have hlt : i = g.N := by have := of_decide_eq_false hlt; omega
      have key : Q b7 w41 (opn M + (if b7 then 1 else 0)) := by
        rw [hQ]; exact ⟨M, D, rfl, fun hb j hj => hc7' hb j (by omega), h⟩
      refine ⟨⟨_, key⟩, ?_⟩
      have := mu1 (b7, w41) _ key
      dsimp only
      rw [hμ]
      omega
    have hlt : i < g.N := by have := of_decide_eq_true hlt; omega
    obtain ⟨v, ad, ra, rc, hv, hvN, ha, hc, hr⟩ := row i hlt
    have hcv := cntB_le v
    refine ⟨fun b z w' => ∃ j : Nat, z = j ∧ j ≤ cntB v ∧ (b = true ↔ ∃ k ∈ (mb v).take j, fnB M k = false) ∧ St w' [cel k76 (bv M), has H], fun _ z _ => cntB v - z.toNat, ⟨0, rfl, Nat.zero_le _, by simp, h⟩, ?_⟩
    clear h
    rintro _ b8 z w42 ⟨j, rfl, hj, hb8, h⟩
    have sH : sub H (hp w42) := rdH 1 h.l
    refine idx_i ha hlt ⟨_, _, _, hc _ sH, br_intro (fun hlt2 => ?_) fun hlt2 => ?_⟩
    · have hlt2 : j < cntB v := by have := of_decide_eq_true hlt2; omega
      obtain ⟨k, hk⟩ : ∃ k, (mb v)[j]? = some k := ⟨(mb v)[j]'(by rw [mb_len]; exact hlt2), List.getElem?_eq_getElem _⟩
      have hkN : k < g.N := by
        have := mem_mb.1 (List.mem_of_getElem? hk)
        exact Classical.byContradiction fun e => by rw [fnB_out (by omega)] at this; cases this
      have et : (mb v).take (j + 1) = (mb v).take j ++ [k] := by rw [List.take_add_one, hk]; rfl
      refine br_intro (fun hb => ?_) fun hb => ?_
      · refine ⟨⟨by omega, by omega⟩, ⟨j + 1, by simp, by omega, ⟨fun _ => ?_, fun _ => rfl⟩, h⟩, msr hlt2⟩
        obtain ⟨k', hk', hf⟩ := hb8.1 hb
        exact ⟨k', by rw [et]; exact List.mem_append_left _ hk', hf⟩
      · obtain ⟨rad, hra, hrc⟩ := hr.at (mbg hk)
        have ek : ((g.T + k : Nat) : Int) - (g.T : Int) = (k : Int) := by omega
        refine idx_i ha hlt ⟨_, _, _, hc _ sH, idx_i hra hlt2 ⟨((g.T + k : Nat) : Int), hrc _ sH, ⟨by omega, by omega⟩, ?_⟩⟩
        rw [ek]
        refine idx_i rfl hkN ⟨_, bit D.ln h hkN, ⟨by omega, by omega⟩, ⟨j + 1, by simp, by omega, ?_, h⟩, msr hlt2⟩
        rw [et]
        constructor
        · intro hh
          exact ⟨k, by simp, by simpa using hh⟩
        · rintro ⟨k', hk', hf⟩
          rcases List.mem_append.1 hk' with hk' | hk'
          · rw [hb8.2 ⟨k', hk', hf⟩] at hb; cases hb
          · rw [List.mem_singleton] at hk'; subst hk'; rw [hf]; rfl
    have hlt2 : j = cntB v := by have := of_decide_eq_false hlt2; omega
    rw [List.take_of_length_le (by rw [mb_len]; omega)] at hb8
    have hb8' : b8 = true ↔ ∃ k, Stp g i k ∧ fnB M k = false := by
      rw [hb8]
      constructor
      · rintro ⟨k, hk, hf⟩; exact ⟨k, (stp hv k).1 (mem_mb.1 hk), hf⟩
      · rintro ⟨k, hk, hf⟩; exact ⟨k, mem_mb.2 ((stp hv k).2 hk), hf⟩
    have nx : (fnB M i = false → ∃ k, Stp g i k ∧ fnB M k = false) → inI ((i : Int) + 1) ∧ (∃ (i' : Nat) (M : List Bool), (i : Int) + 1 = i' ∧ i' ≤ g.N ∧ MkD (Stp g) g.N M ∧ opn M + (if b7 then 1 else 0) ≤ opn M0 ∧ (b7 = false → ∀ j, j < i' → fnB M j = false → ∃ k, Stp g j k ∧ fnB M k = false) ∧ St w42 [cel k76 (bv M), has H]) ∧ g.N - ((i : Int) + 1).toNat < g.N - (i : Int).toNat := fun hh => by
      refine ⟨⟨by omega, by omega⟩, ⟨i + 1, M, by simp, by omega, D, hm7, fun hb j' hj' hf => ?_, h⟩, msr hlt⟩
      by_cases e : j' = i
      · subst e; exact hh hf
      · exact hc7' hb j' (by omega) hf
    refine idx_i rfl hlt ⟨_, bit D.ln h hlt, br_intro (fun h1 => br_intro (fun h2 => ?_) fun h2 => ?_) fun h1 => nx (fun hf => by rw [hf] at h1; cases h1)⟩
    · refine idx_i rfl hlt ?_
      rw [add_lit0]
      have hML := D.ln
      refine st1_i h (by rw [bv_len]; omega) fun w43 h => ?_
      rw [bv_setC] at h
      have h1 : fnB M i = false := by simpa using h1
      have h2 : b8 = false := by simpa using h2
      have hop := opn_set (nl := M) (k := i) (by omega) h1
      refine ⟨⟨by omega, by omega⟩, ⟨i + 1, M.set i true, by simp, by omega, D.set hlt fun k hk => ?_, ?_, fun hb => (by cases hb), h⟩, msr hlt⟩
      · cases e : fnB M k
        · rw [hb8'.2 ⟨k, hk, e⟩] at h2; cases h2
        · rfl
      · rw [if_pos rfl]
        split at hm7 <;> omega
    · exact nx fun _ => hb8'.1 (by simpa using h2)
  have hfix := hcl6 hb1
  clear hcl6 hmu
  have D := D0
  -- is some left?
  refine ⟨fun b z w' => ∃ i : Nat, z = i ∧ i ≤ g.N ∧ (b = true ↔ ∃ j, j < i ∧ fnB M0 j = false) ∧ St w' [cel k76 (bv M0), has H], fun _ z _ => g.N - z.toNat, ⟨0, rfl, Nat.zero_le _, by simp, h⟩, ?_⟩
  clear h
  rintro _ b11 z w44 ⟨i, rfl, hi, hb11, h⟩
  refine br_intro (fun hlt => ?_) fun hlt => ?_
  · have hlt : i < g.N := by have := of_decide_eq_true hlt; omega
    refine br_intro (fun hb => ?_) fun hb => ?_
    · refine ⟨⟨by omega, by omega⟩, ⟨i + 1, by simp, by omega, ⟨fun _ => ?_, fun _ => rfl⟩, h⟩, msr hlt⟩
      obtain ⟨j, hj, hf⟩ := hb11.1 hb
      exact ⟨j, by omega, hf⟩
    · refine idx_i rfl hlt ⟨_, bit D.ln h hlt, ⟨by omega, by omega⟩, ⟨i + 1, by simp, by omega, ?_, h⟩, msr hlt⟩
      constructor
      · intro hh; exact ⟨i, by omega, by simpa using hh⟩
      · rintro ⟨j, hj, hf⟩
        by_cases e : j = i
        · subst e; rw [hf]; rfl
        · rw [hb11.2 ⟨j, by omega, hf⟩] at hb; cases hb
  have hlt : i = g.N := by have := of_decide_eq_false hlt; omega
  subst hlt
  have hsome : b11 = decide (0 < (ol'.length : Int)) := by
    rw [Bool.eq_iff_iff, hb11, decide_eq_true_eq]
    constructor
    · rintro ⟨j, hj, hf⟩
      obtain ⟨q, hq, hon⟩ := circle_of (R := Stp g) (N := g.N) (fun i => i < g.N ∧ fnB M0 i = false) (fun i hi => ⟨hi.1, by
        obtain ⟨k, hk, hf⟩ := hfix i hi.1 hi.2
        exact ⟨k, hk, (stp_lt iG hk).2, hf⟩⟩) ⟨hj, hf⟩
      have := List.length_pos_of_mem (hol.mem.2 ⟨hq.1, hon⟩)
      omega
    · intro hpos
      cases e : ol' with
      | nil => rw [e] at hpos; simp at hpos
      | cons q r =>
        obtain ⟨h1, h2⟩ := hol.mem.1 (by rw [e]; simp : q ∈ ol')
        refine ⟨q, h1, ?_⟩
        cases hf : fnB M0 q
        · rfl
        · exact absurd h2 (D.dd q hf).off
  refine br_intro (fun hh => by rw [hsome] at hh; simp at hh) fun _ => ?_
  refine ⟨fun z w' => ∃ i : Nat, z = i ∧ i ≤ ol'.length ∧ St w' [cel k76 (bv M0), has H], fun z _ => ol'.length - z.toNat, ⟨0, rfl, Nat.zero_le _, h⟩, ?_⟩
  clear h hb11 hsome hi
  rintro _ z w45 ⟨i, rfl, hi, h⟩
  refine br_intro (fun hlt => ?_) fun hlt => (aw (rdH 1 h.l)).mono ?_
  rotate_left
  · rintro _ w63 ⟨rfl, g63⟩
    exact ⟨_, rfl, rfl, g63⟩
  have hlt : i < ol'.length := by have := of_decide_eq_true hlt; omega
  obtain ⟨y, hy⟩ : ∃ y, ol'[i]? = some y := ⟨ol'[i], List.getElem?_eq_getElem hlt⟩
  obtain ⟨hyN, hyO⟩ := hol.mem.1 (List.mem_of_getElem? hy)
  obtain ⟨yad, hya, hyc⟩ := rO.at (addT_get hy)
  have ey : ((g.T + y : Nat) : Int) - (g.T : Int) = (y : Int) := by omega
  have hMy : fnB M0 y = false := by
    cases hf : fnB M0 y
    · rfl
    · exact absurd hyO (D.dd y hf).off
  refine ⟨fun b w' => b = false ∧ St w' [cel k76 (bv M0), has H], idx_i hya hlt ⟨((g.T + y : Nat) : Int), hyc _ (rdH 1 h.l), br_intro (fun hh => by have := of_decide_eq_true hh; omega) fun _ => idx_i hya hlt ⟨((g.T + y : Nat) : Int), hyc _ (rdH 1 h.l), ⟨by omega, by omega⟩, br_intro (fun hh => by have := of_decide_eq_true hh; omega) fun _ => idx_i hya hlt ⟨((g.T + y : Nat) : Int), hyc _ (rdH 1 h.l), ⟨by omega, by omega⟩, ?_⟩⟩⟩, ?_⟩
  · rw [ey]
    exact idx_i rfl hyN ⟨_, bit D.ln h hyN, hMy, h⟩
  clear h
  rintro _ b14 w46 ⟨rfl, h⟩
  refine br_intro (fun hh => by cases hh) fun _ => ?_
  obtain ⟨vy, ady, ray, rcy, hvy, hvyN, hay, hcy, hry⟩ := row y hyN
  have hcvy := cntB_le vy
  refine ⟨fun b15 b16 z w' => ∃ k : Nat, z = k ∧ k ≤ ol'.length ∧ (b15 = true ↔ ∃ q ∈ ol'.take k, Stp g q y) ∧ (b16 = true ↔ ∃ q ∈ ol'.take k, Stp g y q) ∧ St w' [cel k76 (bv M0), has H], fun _ _ z _ => ol'.length - z.toNat, ⟨0, rfl, Nat.zero_le _, by simp, by simp, h⟩, ?_⟩
  clear h
  rintro _ b15 b16 z w47 ⟨k, rfl, hk, hb15, hb16, h⟩
  refine br_intro (fun hlt2 => fun w48 hd => ?_) fun hlt2 => ?_
  rotate_left
  · have hlt2 : k = ol'.length := by have := of_decide_eq_false hlt2; omega
    rw [List.take_of_length_le (by omega)] at hb15 hb16
    refine br_intro (fun hh => ?_) fun _ => br_intro (fun hh => ?_) fun _ => ⟨⟨by omega, by omega⟩, ⟨i + 1, by simp, by omega, h⟩, msr hlt⟩
    · obtain ⟨q, hq, hqo⟩ := hyO.succ
      rw [hb16.2 ⟨q, hol.mem.2 ⟨(stp_lt iG hq).2, hqo⟩, hq⟩] at hh; cases hh
    · obtain ⟨q, hq, hqo⟩ := hyO.pred
      rw [hb15.2 ⟨q, hol.mem.2 ⟨(stp_lt iG hq).1, hqo⟩, hq⟩] at hh; cases hh
  have hlt2 : k < ol'.length := by have := of_decide_eq_true hlt2; omega
  have h := h.drawn hd
  have sH : sub H (hp w48) := rdH 1 h.l
  obtain ⟨q, hq⟩ : ∃ q, ol'[k]? = some q := ⟨ol'[k], List.getElem?_eq_getElem hlt2⟩
  obtain ⟨hqN, hqO⟩ := hol.mem.1 (List.mem_of_getElem? hq)
  obtain ⟨qad, hqa, hqc⟩ := rO.at (addT_get hq)
  have eq : ((g.T + q : Nat) : Int) - (g.T : Int) = (q : Int) := by omega
  obtain ⟨vq, adq, raq, rcq, hvq, hvqN, haq, hcq, hrq⟩ := row q hqN
  have hcvq := cntB_le vq
  have et : ol'.take (k + 1) = ol'.take k ++ [q] := by rw [List.take_add_one, hq]; rfl
  have grow : ∀ {b : Bool} {P : Nat → Prop} {c : Bool}, (b = true ↔ ∃ q ∈ ol'.take k, P q) → (c = true ↔ (b = true ∨ P q)) → (c = true ↔ ∃ q ∈ ol'.take (k + 1), P q) := fun {b P c} h1 h2 => by
    rw [h2, h1, et]
    constructor
    · rintro (⟨q', h3, h4⟩ | h4)
      · exact ⟨q', List.mem_append_left _ h3, h4⟩
      · exact ⟨q, by simp, h4⟩
    · rintro ⟨q', h3, h4⟩
      rcases List.mem_append.1 h3 with h3 | h3
      · exact .inl ⟨q', h3, h4⟩
      · rw [List.mem_singleton] at h3; subst h3; exact .inr h4
  have nx : ∀ {w' : World} {c15 c16 : Bool}, (c15 = true ↔ (b15 = true ∨ Stp g q y)) → (c16 = true ↔ (b16 = true ∨ Stp g y q)) → St w' [cel k76 (bv M0), has H] → inI ((k : Int) + 1) ∧ (∃ k' : Nat, (k : Int) + 1 = k' ∧ k' ≤ ol'.length ∧ (c15 = true ↔ ∃ q ∈ ol'.take k', Stp g q y) ∧ (c16 = true ↔ ∃ q ∈ ol'.take k', Stp g y q) ∧ St w' [cel k76 (bv M0), has H]) ∧ ol'.length - ((k : Int) + 1).toNat < ol'.length - (k : Int).toNat :=
    fun h1 h2 h3 => ⟨⟨by omega, by omega⟩, ⟨k + 1, by simp, by omega, grow hb15 h1, grow hb16 h2, h3⟩, msr hlt2⟩
  have d1 : decide (((g.T + y : Nat) : Int) ∈ addT g.T (mbI vq)) = true ↔ Stp g q y := by rw [decide_eq_true_eq, inr, stp hvq]
  have d2 : decide (((g.T + q : Nat) : Int) ∈ addT g.T (mbI vy)) = true ↔ Stp g y q := by rw [decide_eq_true_eq, inr, stp hvy]
  refine ⟨fun w' => sub H (hp w'), sH, br_intro (fun hb16t => fun w49 hd49 => ?_) fun hb16f => ?_⟩
  · have h := h.drawn hd49
    have sH9 : sub H (hp w49) := rdH 1 h.l
    refine ⟨fun w' => sub H (hp w'), sH9, br_intro (fun hb15t => nx (by simp [hb15t]) (by simp [hb16t]) h) fun hb15f => idx_i hqa hlt2 ⟨((g.T + q : Nat) : Int), fun w' s => hqc _ s, ⟨by omega, by omega⟩, ?_⟩⟩
    rw [eq]
    refine idx_i haq hqN ⟨_, _, _, fun w' s => hcq _ s, idx_i hya hlt ⟨((g.T + y : Nat) : Int), fun w' s => hyc _ s, (l_in (hrq.mono sH9) (by omega)).mono ?_⟩⟩
    rintro _ w53 ⟨rfl, e53⟩
    have h := h.eq e53
    exact ⟨_, rfl, rdH 1 h.l, nx (by rw [d1, hb15f]; simp) (by simp [hb16t]) h⟩
  · refine idx_i hya hlt ⟨((g.T + y : Nat) : Int), fun w' s => hyc _ s, ⟨by omega, by omega⟩, ?_⟩
    rw [ey]
    refine idx_i hay hyN ⟨_, _, _, fun w' s => hcy _ s, idx_i hqa hlt2 ⟨((g.T + q : Nat) : Int), fun w' s => hqc _ s, (l_in (hry.mono sH) (by omega)).mono ?_⟩⟩
    rintro _ w57 ⟨rfl, e57⟩
    have h := h.eq e57
    refine ⟨_, rfl, rdH 1 h.l, fun w58 hd58 => ?_⟩
    have h := h.drawn hd58
    have sH8 : sub H (hp w58) := rdH 1 h.l
    refine ⟨fun w' => sub H (hp w'), sH8, br_intro (fun hb15t => nx (by simp [hb15t]) (by rw [d2, hb16f]; simp) h) fun hb15f => idx_i hqa hlt2 ⟨((g.T + q : Nat) : Int), fun w' s => hqc _ s, ⟨by omega, by omega⟩, ?_⟩⟩
    rw [eq]
    refine idx_i haq hqN ⟨_, _, _, fun w' s => hcq _ s, idx_i hya hlt ⟨((g.T + y : Nat) : Int), fun w' s => hyc _ s, (l_in (hrq.mono sH8) (by omega)).mono ?_⟩⟩
    rintro _ w62 ⟨rfl, e62⟩
    have h := h.eq e62
    exact ⟨_, rfl, rdH 1 h.l, nx (by rw [d1, hb15f]; simp) (by rw [d2, hb16f]; simp) h⟩
end
end Go.Proofs.YtcapljamcepmkaaDoor
set_option linter.unusedVariables false
namespace Go.V
open Go.RowKit Go.WideShapes Go.ChangeShapes
theorem cellH_of {w : World} {a : Addr} {v : Value} (h : w.cell? a = some v) : cellH (hp w) a = some v := by
  unfold World.cell? at h
  unfold cellH hp
  cases ho : w.heap[a.block]? with
  | none => rw [ho] at h; cases h
  | some o => rw [ho] at h; cases o <;> first | exact h | cases h
theorem mapM_get' {α β : Type} {f : α → Option β} : ∀ {l : List α} {r : List β}, l.mapM f = some r → r.length = l.length ∧ ∀ (i : Nat) (a : α) (b : β), l[i]? = some a → r[i]? = some b → f a = some b
  | [], r, h => by
    simp at h; subst h; exact ⟨rfl, fun i a b ha => by simp at ha⟩
  | x :: l, r, h => by
    simp only [List.mapM_cons, Option.bind_eq_bind, Option.bind_eq_some_iff, Option.pure_def, Option.some.injEq] at h
    obtain ⟨b, hb, r', hr', rfl⟩ := h
    obtain ⟨h1, h2⟩ := mapM_get' hr'
    refine ⟨by simp [h1], fun i a b' ha hb' => ?_⟩
    cases i with
    | zero => simp at ha hb'; subst ha; subst hb'; exact hb
    | succ i => exact h2 i a b' (by simpa using ha) (by simpa using hb')
theorem cells_row {w : World} {base n : Nat} {a : Addr} {vs : List Value} (h : w.cells? base a n = some vs) : rowH (hp w) a vs := by
  unfold World.cells? at h
  split at h
  · obtain ⟨h1, h2⟩ := mapM_get' h
    intro j v hj
    have hlt := (List.getElem?_eq_some_iff.1 hj).1
    rw [h1, List.length_range] at hlt
    exact cellH_of (h2 j j v (by simp [hlt]) hj)
  · cases h
theorem weightsAll_get {H : Type} {P : Program} {e : TypeId} {N : Nat} : ∀ {l : List (DataW H)}, (DataW.weightsAll P e l).all (· ≤ N) = true → ∀ d ∈ l, (d.weights P e).all (· ≤ N) = true
  | [], _, d, hd => by simp at hd
  | x :: l, h, d, hd => by
    rw [DataW.weightsAll, List.all_append, Bool.and_eq_true] at h
    rcases List.mem_cons.1 hd with rfl | hd
    · exact h.1
    · exact weightsAll_get h.2 d hd
theorem weightsEach_get {H : Type} {P : Program} {N : Nat} : ∀ {ts : List TypeId} {l : List (DataW H)}, (DataW.weightsEach P ts l).all (· ≤ N) = true → ∀ (i : Nat) t d, ts[i]? = some t → l[i]? = some d → (d.weights P t).all (· ≤ N) = true
  | [], l, _, i, t, d, ht, _ => by simp at ht
  | _ :: _, [], _, i, t, d, _, hd => by simp at hd
  | t0 :: ts, x :: l, h, i, t, d, ht, hd => by
    rw [DataW.weightsEach, List.all_append, Bool.and_eq_true] at h
    cases i with
    | zero => simp at ht hd; subst ht; subst hd; exact h.1
    | succ i => exact weightsEach_get h.2 i t d (by simpa using ht) (by simpa using hd)
def Opn (P : Program) (α : Type) [Rep α] (bd : α → Prop) (t : TypeId) : Prop :=
  ∀ {H : Type} (enc : TypeId × Value → H) (W : World) (n : Nat) (cs : List Value) (x : DataW H × List MemPlace), DataW.trod enc P W 0 (fun _ => true) true n t cs = some x → (x.1.weights P t).all (· ≤ reachBytes) = true → ∃ y : α, rd (hp W) y cs ∧ bd y
def anyS : ByteArray → Prop := fun s => s.size ≤ reachBytes
def anyL {α : Type} (bytes : Nat) (bd : α → Prop) : List α → Prop := fun xs => xs.length * bytes ≤ reachBytes ∧ ∀ x ∈ xs, bd x
section
variable {P : Program} {t e : TypeId}
theorem opn_int (ht : P.underlying t = some (.int .i64)) : Opn P Int anyI t := by
  intro H enc W n cs x h hw
  obtain ⟨z, rfl, _, hwf⟩ := DataW.trod_int ht h
  refine ⟨z, rfl, ?_⟩
  have : IntKind.i64.min ≤ z ∧ z ≤ IntKind.i64.max := by simpa [Lit.wf] using hwf
  exact this
theorem opn_str (ht : P.underlying t = some .string) : Opn P ByteArray anyS t := by
  intro H enc W n cs x h hw
  obtain ⟨z, rfl, rfl, _⟩ := DataW.trod_string ht h
  refine ⟨z, rfl, ?_⟩
  simpa [DataW.weights, anyS] using hw
theorem opn_slice {α : Type} [Rep α] {bd : α → Prop} {bb : Nat} (ht : P.underlying t = some (.slice e)) (hc : P.cellsOf e = Rep.n α) (hb : P.bytesOf e = bb) (he : Opn P α bd e) : Opn P (List α) (anyL bb bd) t := by
  intro H enc W n cs x h hw
  rcases DataW.trod_slice ht h with ⟨rfl, rfl⟩ | ⟨a, len, cap, elems, rest, m, rfl, rfl, rfl, _, hlc, hcm, hel, hg, _, _⟩
  · exact ⟨[], ⟨none, 0, 0, rfl, Nat.le_refl _, rdS.nil⟩, by simp [reachBytes], fun x hx => by simp at hx⟩
  · simp only [DataW.weights, ht, List.all_cons, List.all_append, Bool.and_eq_true, decide_eq_true_eq, List.length_map] at hw
    obtain ⟨hw1, hw2, _⟩ := hw
    have key : ∀ k, k ≤ len → ∃ ys : List α, ys.length = k ∧ (∀ i y, ys[i]? = some y → ∃ vs, rowH (hp W) (a.add (mulS i (Rep.n α))) vs ∧ rd (hp W) y vs) ∧ ∀ y ∈ ys, bd y := by
      intro k
      induction k with
      | zero => exact fun _ => ⟨[], rfl, fun i y hy => by simp at hy, fun y hy => by simp at hy⟩
      | succ k ih =>
        intro hk
        obtain ⟨ys, h1, h2, h3⟩ := ih (by omega)
        have hgk := hg k (by omega)
        obtain ⟨d, hd⟩ : ∃ d, elems[k]? = some d := ⟨elems[k]'(by omega), List.getElem?_eq_getElem _⟩
        rw [hd, Option.bind_eq_some_iff] at hgk
        obtain ⟨vs, hv1, hv2⟩ := hgk
        obtain ⟨y, hy1, hy2⟩ := he enc W m vs d hv2 (weightsAll_get hw2 _ (by
          have := List.mem_of_getElem? hd
          exact List.mem_map_of_mem this))
        refine ⟨ys ++ [y], by simp [h1], fun i z hz => ?_, fun z hz => ?_⟩
        · by_cases hi : i < k
          · rw [List.getElem?_append_left (by omega)] at hz
            exact h2 i z hz
          · have : i = k := by
              have := (List.getElem?_eq_some_iff.1 hz).1
              simp at this; omega
            subst this
            rw [List.getElem?_append_right (by omega), h1, Nat.sub_self] at hz
            cases hz
            refine ⟨vs, ?_, hy1⟩
            rw [mulS_eq, ← hc]
            exact cells_row hv1
        · rcases List.mem_append.1 hz with hz | hz
          · exact h3 z hz
          · simp at hz; subst hz; exact hy2
    obtain ⟨ys, h1, h2, h3⟩ := key len (Nat.le_refl _)
    refine ⟨ys, ⟨some a, len, cap, rfl, hlc, h1, fun i y hy => ?_⟩, ?_, h3⟩
    · obtain ⟨vs, h4, h5⟩ := h2 i y hy
      exact ⟨a, vs, rfl, h4, h5⟩
    · rw [h1, ← hb, ← hel]
      exact Nat.le_trans (Nat.mul_le_mul_right _ (Nat.le_add_right _ _)) hw1
theorem opn_struct {fs : Array Field} (ht : P.underlying t = some (.struct fs)) {H : Type} {enc : TypeId × Value → H} {W : World} {n : Nat} {cs : List Value} {x : DataW H × List MemPlace} (h : DataW.trod enc P W 0 (fun _ => true) true n t cs = some x) (hw : (x.1.weights P t).all (· ≤ reachBytes) = true) :
    cs.length = P.cellsOf t ∧ ∀ (i : Nat) (f : Field) (ty k o : Nat), fs[i]? = some f → P.cellsOf ty = k → f.type = ty → f.offset = o → ∃ (m : Nat) (d : DataW H × List MemPlace), DataW.trod enc P W 0 (fun _ => true) true m ty ((cs.drop o).take k) = some d ∧ (d.1.weights P ty).all (· ≤ reachBytes) = true := by
  obtain ⟨xs, m, rfl, rfl, hl, hxs, hf⟩ := DataW.trod_struct ht h
  refine ⟨hl, ?_⟩
  rintro i f _ _ _ hi rfl rfl rfl
  have hlt := (Array.getElem?_eq_some_iff.1 hi).1
  obtain ⟨d, hd⟩ : ∃ d, xs[i]? = some d := ⟨xs[i]'(by omega), List.getElem?_eq_getElem _⟩
  refine ⟨m, d, by rw [hf i f hi, hd], ?_⟩
  simp only [DataW.weights, ht] at hw
  exact weightsEach_get hw i f.type d.1 (by simp [hi]) (by simp [hd])
theorem opn_arg {α : Type} [Rep α] {bd : α → Prop} (ho : Opn P α bd t) {H : Type} {enc : TypeId × Value → H} {W : World} {v : Value} {d : DataW H} {ps : List MemPlace} (h : DataW.Trod enc P W 0 (fun _ => true) true t v d ps)
    (hw : (d.weights P t).all (· ≤ reachBytes) = true) : ∃ y : α, rd (hp W) y v.cells.toList ∧ bd y := by
  obtain ⟨n, h⟩ := h
  exact ho enc W n _ _ h hw
theorem arg_struct {α : Type} [Rep α] {bd : α → Prop} {fs : Array Field} (ho : Opn P α bd t) (ht : P.underlying t = some (.struct fs)) {H : Type} {enc : TypeId × Value → H} {W : World} {b : Nat} {v : Value} {d : DataW H} {ps : List MemPlace}
    (hval : Value.okWide P W .any b t v) (h : DataW.Trod enc P W 0 (fun _ => true) true t v d ps) (hw : (d.weights P t).all (· ≤ reachBytes) = true) : ∃ (x : α) (cs : List Value), v = .agg ⟨cs⟩ ∧ rd (hp W) x cs ∧ bd x := by
  obtain ⟨x, hr, hb⟩ := opn_arg ho h hw
  simp only [Value.okWide, ht] at hval
  obtain ⟨cs, rfl, _⟩ := hval
  exact ⟨x, cs.toList, rfl, hr, hb⟩
theorem below_of {w w' : World} (h : Ev w w') (g : Gr w w') : Below w.heap.size w w' := by
  refine ⟨h.os, h.tape, h.output, h.size, fun k hk => ?_⟩
  cases ho : w.heap[k]? with
  | none => rw [Array.getElem?_eq_none_iff] at ho; omega
  | some o =>
    by_cases hd : notD o = true
    · have : hp w k = some o := by unfold hp; rw [ho, hidD_not hd]
      exact hidD_some (g k o this)
    · cases o <;> first | exact absurd rfl hd | exact h.dfr _ _ ho
theorem trodAll_below (hl : laidOutB P = true) {H : Type} {enc : TypeId × Value → H} {W W' : World} (hb : Below W.heap.size W W') {sp : Nat → Bool} : ∀ {ts : List TypeId} {vs : List Value} {ds : List (DataW H)} {ps : List MemPlace},
    (ts.all fun t => P.readableRec t && decide (t < P.types.size)) = true → DataW.TrodAll enc P W 0 (fun _ => true) true ts vs ds ps → (∀ x ∈ ps, x.block < W.heap.size) → (∀ x ∈ ps, sp x.block = true) →
    DataW.TrodAll enc P W' 0 sp true ts vs ds ps
  | [], [], [], ps, _, h, _, _ => h
  | [], _ :: _, _, _, _, h, _, _ => h.elim
  | [], [], _ :: _, _, _, h, _, _ => h.elim
  | _ :: _, [], _, _, _, h, _, _ => h.elim
  | _ :: _, _ :: _, [], _, _, h, _, _ => h.elim
  | t :: ts, v :: vs, d :: ds, ps, ht, h, hlt, hsp => by
    obtain ⟨p, q, h1, h2, rfl⟩ := h
    rw [List.all_cons, Bool.and_eq_true, Bool.and_eq_true, decide_eq_true_eq] at ht
    exact ⟨p, q, WideElems.Trod_stays hl ht.1.1 ht.1.2 h1 (fun x hx => hb.same (hlt x (by simp [hx]))) (fun x hx => hsp x (by simp [hx])), trodAll_below hl hb ht.2 h2 (fun x hx => hlt x (by simp [hx])) (fun x hx => hsp x (by simp [hx])), rfl⟩
theorem law_post {H : Type} {enc : TypeId × Value → H} {s : ChangeSpec} {f : Func} {W W' : World} {args : Array Value} {ds gs : List (DataW H)} {before : List MemPlace} {tb : TypeId} (hv : s.vars = []) (hrt : f.resultTypes = #[tb]) (htb : P.underlying tb = some .bool)
    (hsp : s.fn H (ds ++ gs) = { results := [.lit (.bool true)], args := ds }) (hl : laidOutB P = true) (hrd : (f.params.toList.all fun t => P.readableRec t && decide (t < P.types.size)) = true)
    (hW : DataW.Whole enc P f.params.toList s.vars false W args.toList ds gs before) (hE : Ev W W') (hg : Gr W W') : s.post enc P f false true false false W args (.bool true) W' := by
  have hb := below_of hE hg
  have hlt : ∀ p ∈ before, p.block < W.heap.size := fun p hp => hW.lt p hp
  have hold : ∀ p ∈ before, (fun b => decide (b < W.heap.size)) p.block = true := fun p hp => by simpa using hlt p hp
  have hW' := hW
  obtain ⟨p, q, h1, h2, rfl, h3, h4⟩ := hW
  have hq : q = [] := by
    rw [hv] at h2
    cases gs with
    | nil => exact h2
    | cons _ _ => exact h2.elim
  subst hq
  rw [List.append_nil] at *
  have hargs : ∀ sp : Nat → Bool, (∀ x ∈ p, sp x.block = true) → DataW.TrodAll enc P W' 0 sp true f.params.toList args.toList (s.fn H (ds ++ gs)).args p := fun sp hs => by
    rw [hsp]; exact trodAll_below hl hb hrd h1 hlt hs
  have hvars : ∀ sp : Nat → Bool, DataW.TrodVars enc P W' sp s.vars (s.fn H (ds ++ gs)).vars [] := fun sp => by
    rw [hsp, hv]; exact rfl
  have hres : ∀ (b : Nat) (sp : Nat → Bool) (hd : Bool), DataW.TrodAll enc P W' b sp hd f.resultTypes.toList ((Value.bool true).resultList f.resultTypes.size) (s.fn H (ds ++ gs)).results [] := fun b sp hd => by
    rw [hsp, hrt]; exact trodAll_cons_mk (shut_bool htb _) trodAll_mk0
  have hok : ∀ (j : Nat) (t : TypeId) (r : Value), f.resultTypes[j]? = some t → ((Value.bool true).resultList f.resultTypes.size)[j]? = some r → Value.okWide P W' .any 0 t r := ok_one hrt rfl (okWide_bool_mk htb _)
  refine ⟨ds, gs, p, [], p, [], hW', hres _ _ _, hargs _ hold, hvars _, World.keptBut_mono (fun x hx => ⟨hx, ?_⟩) (hb.frame (· ∈ p)), fun _ => ?_⟩
  · exact Or.inr (by simpa using hx)
  · refine ⟨hok, _, _, ([] ++ p) ++ [], ⟨[] ++ p, [], trodAll_append (hargs _ (fun _ _ => rfl)) (hres _ _ _), hvars _, rfl, ?_, ?_⟩, ?_⟩
    · intro b off hp
      have hin : MemPlace.cell b off ∈ p := by simpa using hp
      rw [hb.frozen (hlt _ hin)]
      exact h3 b off hin
    · intro ha; cases ha
    · intro x hx _
      simpa using hx
end
end Go.V
set_option linter.unusedVariables false
namespace Go.Proofs.YtcapljamcepmkaaDoor
open Go.V Go.RowKit Go.WideShapes Go.ChangeShapes Go.ChangeAt
theorem ownK : ownKnob Tryd.prog.godebug = none := by kernel_rfl
theorem laidO : laidOutB Tryd.prog = true := by kernel_rfl
theorem cellsI : Tryd.prog.cellsOf 3 = 1 := by kernel_rfl
theorem bytesI : Tryd.prog.bytesOf 3 = 8 := by kernel_rfl
theorem cellsStr : Tryd.prog.cellsOf 9 = 1 := by kernel_rfl
theorem bytesStr : Tryd.prog.bytesOf 9 = 16 := by kernel_rfl
theorem cellsS24 : Tryd.prog.cellsOf 24 = 1 := by kernel_rfl
theorem cellsS22 : Tryd.prog.cellsOf 22 = 1 := by kernel_rfl
theorem cellsS23 : Tryd.prog.cellsOf 23 = 1 := by kernel_rfl
theorem cellsS25 : Tryd.prog.cellsOf 25 = 1 := by kernel_rfl
theorem cellsT : Tryd.prog.cellsOf 73 = 2 := by kernel_rfl
theorem bytesT : Tryd.prog.bytesOf 73 = 24 := by kernel_rfl
theorem cellsP : Tryd.prog.cellsOf 41 = 3 := by kernel_rfl
theorem bytesP : Tryd.prog.bytesOf 41 = 40 := by kernel_rfl
theorem cellsG : Tryd.prog.cellsOf 27 = 5 := by kernel_rfl
theorem oInt : Opn Tryd.prog Int anyI 3 := opn_int Tryd.underlying3
theorem oInts : Opn Tryd.prog (List Int) (anyL 8 anyI) 24 := opn_slice Tryd.underlying24 cellsI bytesI oInt
theorem oStr : Opn Tryd.prog ByteArray anyS 9 := opn_str Tryd.underlying9
theorem oStrs : Opn Tryd.prog (List ByteArray) (anyL 16 anyS) 23 := opn_slice Tryd.underlying23 cellsStr bytesStr oStr
theorem oTerm : Opn Tryd.prog TermT (fun t => anyS t.name ∧ anyI t.level) 73 := by
  intro H enc W n cs x h hw
  obtain ⟨hl, hf⟩ := opn_struct Tryd.underlying73 h hw
  rw [cellsT] at hl
  obtain ⟨_, _, t0, w0⟩ := hf 0 _ 9 1 0 rfl cellsStr rfl rfl
  obtain ⟨_, _, t1, w1⟩ := hf 1 _ 3 1 1 rfl cellsI rfl rfl
  obtain ⟨y0, r0, b0⟩ := oStr enc W _ _ _ t0 w0
  obtain ⟨y1, r1, b1⟩ := oInt enc W _ _ _ t1 w1
  match cs, hl with
  | [c0, c1], _ =>
    have e0 : [c0] = [.string y0] := r0
    have e1 : [c1] = [.int .i64 y1] := r1
    cases e0; cases e1
    exact ⟨⟨y0, y1⟩, rfl, b0, b1⟩
theorem oTerms : Opn Tryd.prog (List TermT) (anyL 24 fun t => anyS t.name ∧ anyI t.level) 22 := opn_slice Tryd.underlying22 cellsT bytesT oTerm
theorem oProd : Opn Tryd.prog ProdT (fun p => anyI p.left ∧ anyL 8 anyI p.right ∧ anyI p.level) 41 := by
  intro H enc W n cs x h hw
  obtain ⟨hl, hf⟩ := opn_struct Tryd.underlying41 h hw
  rw [cellsP] at hl
  obtain ⟨_, _, t0, w0⟩ := hf 0 _ 3 1 0 rfl cellsI rfl rfl
  obtain ⟨_, _, t1, w1⟩ := hf 1 _ 24 1 1 rfl cellsS24 rfl rfl
  obtain ⟨_, _, t2, w2⟩ := hf 2 _ 3 1 2 rfl cellsI rfl rfl
  obtain ⟨y0, r0, b0⟩ := oInt enc W _ _ _ t0 w0
  obtain ⟨y1, ⟨a, l, c, r1, hlc, r1'⟩, b1⟩ := oInts enc W _ _ _ t1 w1
  obtain ⟨y2, r2, b2⟩ := oInt enc W _ _ _ t2 w2
  match cs, hl with
  | [c0, c1, c2], _ =>
    have e0 : [c0] = [.int .i64 y0] := r0
    have e1 : [c1] = [.slice a l c] := r1
    have e2 : [c2] = [.int .i64 y2] := r2
    cases e0; cases e1; cases e2
    exact ⟨⟨y0, y1, y2⟩, ⟨a, l, c, rfl, hlc, r1'⟩, b0, b1, b2⟩
theorem oProds : Opn Tryd.prog (List ProdT) (anyL 40 fun p => anyI p.left ∧ anyL 8 anyI p.right ∧ anyI p.level) 25 := opn_slice Tryd.underlying25 cellsP bytesP oProd
def okG2 (g : GramT) : Prop := okG g ∧ g.terms.length * 24 ≤ 140737488355328 ∧ g.nons.length * 16 ≤ 140737488355328
theorem oGram : Opn Tryd.prog GramT okG2 27 := by
  intro H enc W n cs x h hw
  obtain ⟨hl, hf⟩ := opn_struct Tryd.underlying27 h hw
  rw [cellsG] at hl
  obtain ⟨_, _, t0, w0⟩ := hf 0 _ 22 1 0 rfl cellsS22 rfl rfl
  obtain ⟨_, _, t1, w1⟩ := hf 1 _ 23 1 1 rfl cellsS23 rfl rfl
  obtain ⟨_, _, t2, w2⟩ := hf 2 _ 24 1 2 rfl cellsS24 rfl rfl
  obtain ⟨_, _, t3, w3⟩ := hf 3 _ 3 1 3 rfl cellsI rfl rfl
  obtain ⟨_, _, t4, w4⟩ := hf 4 _ 25 1 4 rfl cellsS25 rfl rfl
  obtain ⟨y0, ⟨a0, l0, c0', r0, k0, q0⟩, b0⟩ := oTerms enc W _ _ _ t0 w0
  obtain ⟨y1, ⟨a1, l1, c1', r1, k1, q1⟩, b1⟩ := oStrs enc W _ _ _ t1 w1
  obtain ⟨y2, ⟨a2, l2, c2', r2, k2, q2⟩, b2⟩ := oInts enc W _ _ _ t2 w2
  obtain ⟨y3, r3, b3⟩ := oInt enc W _ _ _ t3 w3
  obtain ⟨y4, ⟨a4, l4, c4', r4, k4, q4⟩, b4⟩ := oProds enc W _ _ _ t4 w4
  match cs, hl with
  | [c0, c1, c2, c3, c4], _ =>
    have e0 : [c0] = [.slice a0 l0 c0'] := r0
    have e1 : [c1] = [.slice a1 l1 c1'] := r1
    have e2 : [c2] = [.slice a2 l2 c2'] := r2
    have e3 : [c3] = [.int .i64 y3] := r3
    have e4 : [c4] = [.slice a4 l4 c4'] := r4
    cases e0; cases e1; cases e2; cases e3; cases e4
    refine ⟨⟨y0, y1, y2, y3, y4⟩, ⟨⟨a0, l0, c0', a1, l1, c1', a2, l2, c2', y3, a4, l4, c4'⟩, rfl, q0, q1, q2, rfl, q4, k0, k1, k2, k4⟩, ?_⟩
    have z0 := b0.1
    have z1 := b1.1
    have z2 := b2.1
    have z4 := b4.1
    unfold reachBytes at z0 z1 z2 z4
    refine ⟨⟨by show y0.length ≤ _; omega, by show y1.length ≤ _; omega, by show y2.length ≤ _; omega, by show y4.length * 40 ≤ _; omega, fun t ht => ⟨?_, (b0.2 t ht).2⟩, fun s hs => ?_, fun p hp => ?_⟩, by show y0.length * 24 ≤ _; omega, by show y1.length * 16 ≤ _; omega⟩
    · have := (b0.2 t ht).1; unfold anyS reachBytes at this; omega
    · have := b1.2 s hs; unfold anyS reachBytes at this; omega
    · have := (b4.2 p hp).2.1.1; unfold reachBytes at this; omega
theorem gTab : Tryd.prog.globalNamed "math/bits.deBruijn64tab" = some 0 := by kernel_rfl
theorem gTabType : (Tryd.prog.globals[0]?).map (·.type) = some 148 := by kernel_rfl
theorem cellsTab : Tryd.prog.cellsOf 148 = 64 := by kernel_rfl
theorem cellsTabE : Tryd.prog.cellsOf 5 = 1 := by kernel_rfl
theorem table {W : World} (h : laidMetH Tryd.prog [("math/bits.deBruijn64tab", Rows.laid_math_bits_deBruijn64tab)] W) : tabA (hp W) := by
  have ht : Lib.TabIs Tryd.prog W "math/bits.deBruijn64tab" .u8 (Lib.deBruijn64tab.map fun (k : Nat) => (k : Int)) :=
    Lib.tabIs_of_head (rest := []) gTab gTabType Tryd.underlying148 Tryd.underlying5 cellsTabE cellsTab h
  refine .inr ⟨_, rfl, fun j v hj => ?_⟩
  have hlt := (List.getElem?_eq_some_iff.1 hj).1
  have hc := ht.cell gTab j (by simpa [tabV] using hlt)
  rw [add_lit0]
  refine cellH_of (hc.trans ?_)
  rw [← hj]
  simp only [tabV, List.getElem?_map, List.length_map] at hj hlt ⊢
  rw [List.getElem?_eq_getElem hlt]
  simp [hlt]
noncomputable def laidWorld (os : Os) : World :=
  { World.holding Tryd.prog os ⟨#[], #[], []⟩ with heap := (World.holding Tryd.prog os ⟨#[], #[], []⟩).heap.modify 0 fun
      | .cells _ t frozen => .cells ⟨tabV⟩ t frozen
      | o => o }
end Go.Proofs.YtcapljamcepmkaaDoor
