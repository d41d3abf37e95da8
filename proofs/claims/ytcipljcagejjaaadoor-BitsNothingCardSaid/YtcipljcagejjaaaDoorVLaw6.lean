/- Laws of sets (6): scripts. -/
import Derived.Test.YtcipljcagejjaaaDoorVLaw5
set_option linter.unusedVariables false
namespace Go.V
structure OpT where
  k : Int
  a : Int
  b : Int
  l : List Int
instance : Rep OpT :=
  { n := 4, rd := fun h o vs => ∃ a l c, vs = [.int .i64 o.k, .int .i64 o.a, .int .i64 o.b, .slice a l c] ∧ l ≤ c ∧ rdS h o.l a l,
    mono := fun s ⟨a, l, c, h1, h3, h2⟩ => ⟨a, l, c, h1, h3, h2.mono s⟩, len := fun ⟨_, _, _, h, _⟩ => by rw [h]; rfl }
def anyO : OpT → Prop := fun o => anyI o.k ∧ anyI o.a ∧ anyI o.b ∧ o.l.length * 8 ≤ 140737488351232 ∧ ∀ x ∈ o.l, anyI x
theorem idx_n {a : Option Addr} {ad : Addr} {len i sz : Nat} {k : Addr → Prop} (ha : a = some ad) (hi : i < len) (hk : k (ad.add (mulS i sz))) : idx a len (i : Int) sz k :=
  ⟨ad, ha, by omega, by omega, by simpa using hk⟩
theorem wrl_open {w : World} {L : List Asn} {b n : Nat} {ps qs : List Nat} (h : St w (wrlA b ps qs n :: L)) : ∃ ax cx ar cr, St w (cel b [.slice ax n cx, .slice ar n cr] :: own 1 ax n cx (pv (ps.map bk)) :: own 1 ar n cr (pv (qs.map bk)) :: L) := by
  obtain ⟨⟨⟨ax, cx⟩, ⟨ar, cr⟩⟩, h⟩ := St.ex.1 h
  exact ⟨ax, cx, ar, cr, St.flat.1 h⟩
end Go.V
namespace Go.Proofs.YtcipljcagejjaaaDoor
open Go.V
section
variable {w : World} {L : List Asn} {a : Option Addr} {l c n : Nat} {ops : List OpT}
set_option maxHeartbeats 1000000 in
theorem l_BitsPlays (hx : rdS (hp w) ops a l) (hb : l ≤ 4611686018427387904) (ho : ∀ o ∈ ops, anyO o) (ht : tabA (hp w)) : Run Tryd.prog n_presagelaw01_BitsPlays [.slice a l c] w fun v w' => v = .bool true ∧ Gr w w' := by
  refine run_presagelaw01_BitsPlays _ _ _ w _ ?_
  have hfin : ∀ w', sub (hp w) (hp w') → Gr w w' := fun w' h => h
  refine l_awake.mono ?_
  rintro _ w1 ⟨rfl, hg⟩
  have hs := (St.all w).gr hg
  unfold V.all at hs
  generalize hp w = h0 at *
  refine ⟨_, rfl, br_f rfl (newC_i hs fun k1 w2 h => ?_)⟩
  have h : St w2 [wrlA k1 [] [] ([] : List (List Bool)).length, sta (setsA [] []), sta (refsA [] []), has h0] :=
    St.ex.2 ⟨((none, 0), (none, 0)), St.flat.2 (show St w2 [cel k1 [.slice none 0 0, .slice none 0 0], own 1 none 0 0 [], own 1 none 0 0 [], sta [], sta [], has h0] from
      ((own_nil 1 (own_nil 1 ((St.flat (M := []).2 (St.flat (M := []).2 h)))))).pick 6 [4, 0, 1, 2, 3, 5])⟩
  refine ⟨fun n1 w => ∃ (j : Nat) (ps qs : List Nat) (vss : List (List Bool)), n1 = j ∧ j ≤ l ∧ ps.length = vss.length ∧ qs.length = vss.length ∧ vss.length ≤ 64 ∧ St w [wrlA k1 ps qs vss.length, sta (setsA ps vss), sta (refsA qs vss), has h0], fun n1 _ => l - n1.toNat,
    ⟨0, [], [], [], rfl, by omega, rfl, rfl, by simp, h⟩, ?_⟩
  clear h
  rintro _ n1 w3 ⟨j, ps, qs, vss, rfl, hj, hps, hqs, hn, h⟩
  have hl := hx.1
  obtain ⟨ax, cx, ar, cr, h'⟩ := wrl_open h
  refine br_intro (fun hlt => ?_) fun hlt => ?_
  · have hlt : j < l := by have := of_decide_eq_true hlt; omega
    obtain ⟨o, ad, vs, ho1, rfl, hr, al, ll, cl, rfl, hlc, hrd⟩ := hx.get hlt
    obtain ⟨q1, q2, q3, q4, q5⟩ := ho o (List.mem_of_getElem? ho1)
    have hr := hr.mono (rdH 3 h.l)
    have rd0 := hr.cell0 (sub.refl _)
    have skip : inI ((j : Int) + 1) ∧ (∃ (j' : Nat) (ps qs : List Nat) (vss : List (List Bool)), (j : Int) + 1 = j' ∧ j' ≤ l ∧ ps.length = vss.length ∧ qs.length = vss.length ∧ vss.length ≤ 64 ∧ St w3 [wrlA k1 ps qs vss.length, sta (setsA ps vss), sta (refsA qs vss), has h0]) ∧ l - ((j : Int) + 1).toNat < l - (j : Int).toNat :=
      ⟨⟨by omega, by omega⟩, ⟨j + 1, ps, qs, vss, by simp, by omega, hps, hqs, hn, h⟩, msr hlt⟩
    have step : (vss.length < 64 ∨ (o.k.tmod 8 ≠ 0 ∧ o.k.tmod 8 ≠ 6 ∧ o.k.tmod 8 ≠ -6)) → Run Tryd.prog n_presagelaw01_world_step [.pointer (some ⟨k1, 0, none⟩), .agg #[.int .i64 o.k, .int .i64 o.a, .int .i64 o.b, .slice al ll cl]] w3 fun v w' => v = .bool true ∧
        (inI ((j : Int) + 1) ∧ (∃ (j' : Nat) (ps qs : List Nat) (vss : List (List Bool)), (j : Int) + 1 = j' ∧ j' ≤ l ∧ ps.length = vss.length ∧ qs.length = vss.length ∧ vss.length ≤ 64 ∧ St w' [wrlA k1 ps qs vss.length, sta (setsA ps vss), sta (refsA qs vss), has h0]) ∧ l - ((j : Int) + 1).toNat < l - (j : Int).toNat) := fun hc => by
      refine (l_step o.k o.a o.b q2 q3 hrd (by rw [← hrd.1]; omega) ht q5 hps hqs hn h).mono ?_
      rintro _ w' ⟨rfl, ps', qs', vss', e1, e2, e3, e4, e5⟩
      exact ⟨rfl, ⟨by omega, by omega⟩, ⟨j + 1, ps', qs', vss', by simp, by omega, e1, e2, by omega, e5⟩, msr hlt⟩
    refine ⟨ax, _, cx, h'.cell 0, br_intro (fun h3 => ?_) fun h3 => ?_⟩
    · have h3 : 64 ≤ vss.length := by have := of_decide_eq_true h3; omega
      refine idx_n rfl hlt ⟨_, rd0, by unfold nz; decide, br_intro (fun _ => skip) fun h4 => idx_n rfl hlt ⟨_, rd0, by unfold nz; decide, br_intro (fun _ => skip) fun h5 => idx_n rfl hlt ⟨_, rd0, by unfold nz; decide, br_intro (fun _ => skip) fun h6 => ?_⟩⟩⟩
      refine idx_n rfl hlt ⟨_, _, _, _, _, _, hr.at (sub.refl _) rfl, (step (.inr ⟨by simpa using h4, by simpa using h5, by simpa using h6⟩)).mono ?_⟩
      rintro _ w4 ⟨rfl, hq⟩
      exact ⟨_, rfl, br_f rfl hq⟩
    · have h3 : vss.length < 64 := by have := of_decide_eq_false h3; omega
      refine idx_n rfl hlt ⟨_, _, _, _, _, _, hr.at (sub.refl _) rfl, (step (.inl h3)).mono ?_⟩
      rintro _ w4 ⟨rfl, hq⟩
      exact ⟨_, rfl, br_f rfl hq⟩
  · clear hlt h
    have h := h'
    refine ⟨fun n w => ∃ i : Nat, n = i ∧ i ≤ vss.length ∧ St w [cel k1 [.slice ax vss.length cx, .slice ar vss.length cr], own 1 ax vss.length cx (pv (ps.map bk)), own 1 ar vss.length cr (pv (qs.map bk)), sta (setsA ps vss), sta (refsA qs vss), has h0], fun n _ => vss.length - n.toNat, ⟨0, rfl, by omega, h⟩, ?_⟩
    clear h h'
    rintro _ n2 w6 ⟨i, rfl, hi, h⟩
    refine ⟨ax, _, cx, h.cell 0, br_intro (fun hlt => ?_) fun hlt => ⟨rfl, hfin _ (rdH 5 h.l)⟩⟩
    have hlt : i < vss.length := by have := of_decide_eq_true hlt; omega
    intro w7 hd
    have h := h.drawn hd
    have rb := rdCel (b := k1) (vs := [.slice ax vss.length cx, .slice ar vss.length cr]) 0 h.l
    have rp := rdPt (os := ps.map bk) (a := ax) (l := vss.length) (c := cx) 1 h.l rfl rfl (by simp [hps])
    have rq := rdPt (os := qs.map bk) (a := ar) (l := vss.length) (c := cr) 2 h.l rfl rfl (by simp [hqs])
    obtain ⟨p, gp⟩ : ∃ p, ps[i]? = some p := ⟨ps[i]'(by omega), List.getElem?_eq_getElem _⟩
    obtain ⟨q, gq⟩ : ∃ q, qs[i]? = some q := ⟨qs[i]'(by omega), List.getElem?_eq_getElem _⟩
    obtain ⟨v, gv⟩ : ∃ v, vss[i]? = some v := ⟨vss[i], List.getElem?_eq_getElem _⟩
    obtain ⟨_, ad, g1, rfl, g2⟩ := rp.get1 hlt
    rw [List.getElem?_map, gp] at g1
    cases g1
    obtain ⟨_, ad2, g3, rfl, g4⟩ := rq.get1 hlt
    rw [List.getElem?_map, gq] at g3
    cases g3
    refine ⟨fun w => sub (hp w7) (hp w), sub.refl _, _, _, cx, fun w s => rb.cell0 s, idx_i rfl hlt ⟨bk p, fun w s => g2 w s, _, _, cr, fun w s => rb.cell s (j := 1) rfl, idx_i rfl hlt ⟨bk q, fun w s => g4 w s, (l_is (rdSS 3 h.l gp gv) (rdRR 4 h.l gq gv) (rdV.mono (rdH 5 h.l) ht)).mono ?_⟩⟩⟩
    rintro _ w12 ⟨rfl, hg⟩
    exact ⟨_, rfl, hg, br_f rfl ⟨⟨by omega, by omega⟩, ⟨i + 1, by simp, by omega, h.gr hg⟩, msr hlt⟩⟩
end
end Go.Proofs.YtcipljcagejjaaaDoor
