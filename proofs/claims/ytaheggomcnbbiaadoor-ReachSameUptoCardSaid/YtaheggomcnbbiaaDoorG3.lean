/- Texts of this claim, one behind the other. -/
import Derived.Test.YtaheggomcnbbiaaDoorG2
import Derived.Test.YtaheggomcnbbiaaDoorG1
set_option linter.unusedVariables false
namespace Go.V
def FitsP (g : GramT) (added : Nat) : Prop := SymsOk g added ∧ PrdsOk g added
theorem leftsL_pos {l : List Int} (h : 0 < l.length) : 0 < (leftsL l).length := by
  obtain ⟨x, hx⟩ := List.exists_mem_of_length_pos h
  exact List.length_pos_of_mem (mem_leftsL.2 hx)
def fitSizes (g : GramT) (added : Nat) : Prop := g.nons.length ≤ 64 + added ∧ g.terms.length ≤ 65 ∧ g.prods.length ≤ 96 + added ∧ added < g.prods.length ∧ g.levels.length ≤ 64
theorem fits_iff {g : GramT} {added : Nat} : FitsP g added ↔ fitSizes g added ∧ (g.terms.length : Int) - 1 + g.nons.length - added ≤ 64 ∧ TermsP g ∧ LevelsP g ∧ NonsP g added ∧ (∀ p ∈ g.prods.drop added, prodOk g added p) ∧ ((leftsG g added).length : Int) = (g.N : Int) - added ∧ (g.T : Int) + added ≤ g.start ∧ g.start < g.T + g.N := by
  unfold FitsP
  rw [syms_iff]
  constructor
  · rintro ⟨⟨h1, h2, h3, h4, h5, h6, h7, h8⟩, p1, p2, p3, p4, p5, p6⟩
    exact ⟨⟨h3, h2, p2, p1, h4⟩, by omega, h6, h7, h8, p3, p4, p5, p6⟩
  · rintro ⟨⟨h3, h2, p2, p1, h4⟩, h5, h6, h7, h8, p3, p4, p5, p6⟩
    have hpos : 0 < (leftsG g added).length := leftsL_pos (by simp; omega)
    have hN : g.N = g.nons.length := rfl
    have hT : 1 ≤ g.terms.length := by have := (List.getElem?_eq_some_iff.1 h6.1).1; omega
    exact ⟨⟨by omega, h2, h3, h4, by omega, h6, h7, h8⟩, p1, p2, p3, p4, p5, p6⟩
theorem rising {l : List Int} {T N : Nat} (hn : l.Nodup) (hr : ∀ x ∈ l, (T : Int) ≤ x ∧ x < T + N) (hl : l.length = N) : sortedL l ↔ ∀ (i : Nat) x, l[i]? = some x → x = T + i := by
  constructor
  · intro hs
    have lo : ∀ (i : Nat) x, l[i]? = some x → (T : Int) + i ≤ x := by
      intro i
      induction i with
      | zero => intro x hx; have := (hr x (List.mem_of_getElem? hx)).1; omega
      | succ i ih =>
        intro x hx
        have hlt := (List.getElem?_eq_some_iff.1 hx).1
        obtain ⟨y, hy⟩ : ∃ y, l[i]? = some y := ⟨l[i]'(by omega), List.getElem?_eq_getElem _⟩
        have h1 := ih y hy
        have h2 := hs i y x hy hx
        have h3 : y ≠ x := fun e => by
          subst e
          have := (List.getElem?_inj (by omega : i < l.length) hn).1 (hy.trans hx.symm)
          omega
        omega
    have hi : ∀ (k i : Nat) x, i + k + 1 = N → l[i]? = some x → x ≤ (T : Int) + i := by
      intro k
      induction k with
      | zero => intro i x hk hx; have := (hr x (List.mem_of_getElem? hx)).2; omega
      | succ k ih =>
        intro i x hk hx
        obtain ⟨y, hy⟩ : ∃ y, l[i + 1]? = some y := ⟨l[i + 1]'(by omega), List.getElem?_eq_getElem _⟩
        have h1 := ih (i + 1) y (by omega) hy
        have h2 := hs i x y hx hy
        have h3 : x ≠ y := fun e => by
          subst e
          have := (List.getElem?_inj (by omega : i < l.length) hn).1 (hx.trans hy.symm)
          omega
        omega
    intro i x hx
    have hlt := (List.getElem?_eq_some_iff.1 hx).1
    have h1 := lo i x hx
    have h2 := hi (N - 1 - i) i x (by omega) hx
    omega
  · intro h i x y hx hy
    have h1 := h i x hx
    have h2 := h (i + 1) y hy
    omega
theorem valid_iff {g : GramT} : ValidP g ↔ FitsP g 0 ∧ ∀ (i : Nat) y, (leftsG g 0)[i]? = some y → y = (g.T : Int) + i := by
  unfold ValidP FitsP
  constructor
  · rintro ⟨h1, h2, h3⟩
    refine ⟨⟨h1, h2⟩, ?_⟩
    refine (rising (N := g.N) (leftsL_nodup _) (fun y hy => ?_) ?_).1 h3
    · have := mem_leftsL.1 hy
      obtain ⟨p, hp, rfl⟩ := List.mem_map.1 this
      have := (h2.2.2.1 p hp).1; omega
    · have := h2.2.2.2.1; have hN : g.N = g.nons.length := rfl; show (leftsG g 0).length = g.N; omega
  · rintro ⟨⟨h1, h2⟩, h3⟩
    refine ⟨h1, h2, ?_⟩
    refine (rising (T := g.T) (N := g.N) (leftsL_nodup _) (fun y hy => ?_) ?_).2 h3
    · have := mem_leftsL.1 hy
      obtain ⟨p, hp, rfl⟩ := List.mem_map.1 this
      have := (h2.2.2.1 p hp).1; omega
    · have := h2.2.2.2.1; have hN : g.N = g.nons.length := rfl; show (leftsG g 0).length = g.N; omega
end Go.V
namespace Go.Proofs.YtaheggomcnbbiaaDoor
open Go.V
section
variable {w : World} {L : List Asn} {g : GramT} {x : GA} {s : ByteArray}
def lett (c : Nat) : Bool := decide (c = 95) || (decide (65 ≤ c) && decide (c ≤ 90)) || (decide (97 ≤ c) && decide (c ≤ 122))
theorem okN_lett {i c : Nat} : okN i c = (lett c || (decide (i ≠ 0) && decide (48 ≤ c) && decide (c ≤ 57))) := rfl
theorem d_IsName (hs : s.size ≤ 4611686018427387904) : Run Tryd.prog n_presageref02_IsName [.string s] w fun v w' => v = .bool (isNameS s) ∧ w' = w := by
  refine run_presageref02_IsName _ w _ ?_
  refine ⟨fun n w' => ∃ j : Nat, n = j ∧ j ≤ s.size ∧ (∀ i, i < j → okN i (byt s i) = true) ∧ w' = w, fun n _ => s.size - n.toNat, ⟨0, rfl, by omega, fun i hi => by omega, rfl⟩, ?_⟩
  rintro _ n w1 ⟨j, rfl, hj, hall, rfl⟩
  refine br_intro (fun h => ?_) fun h => ?_
  · have h : j < s.size := by have := of_decide_eq_true h; omega
    have hin : inS (j : Int) s.size := ⟨by omega, by omega⟩
    have hc : ((sb s j).toNat : Int) = (byt s j : Nat) := rfl
    rw [Int.toNat_natCast, hc]
    refine ⟨fun w' => okN j (byt s j) = true ∧ w' = w1, ⟨fun b w' => b = lett (byt s j) ∧ w' = w1, ⟨hin, ?_⟩, ?_⟩, ?_⟩
    · generalize byt s j = c
      have h95 : ((c : Int) == 95) = decide (c = 95) := by rw [Bool.eq_iff_iff]; simp only [beq_iff_eq, decide_eq_true_eq]; omega
      unfold lett
      rw [h95]
      refine br_intro (fun h1 => ⟨hin, br_intro (fun h2 => ⟨?_, rfl⟩) fun h2 => ⟨hin, br_intro (fun h3 => ⟨hin, br_intro (fun h4 => ⟨?_, rfl⟩) fun h4 => ⟨hin, ?_, rfl⟩⟩) fun h3 => ⟨hin, ?_, rfl⟩⟩⟩) fun h1 => ⟨hin, br_intro (fun h3 => ⟨hin, br_intro (fun h4 => ⟨?_, rfl⟩) fun h4 => ⟨hin, ?_, rfl⟩⟩) fun h3 => ⟨hin, ?_, rfl⟩⟩
      all_goals
        rw [Bool.eq_iff_iff]
        simp only [Bool.or_eq_true, Bool.and_eq_true, decide_eq_true_eq, decide_eq_false_iff_not, true_iff] at *
        omega
    · rintro _ b w2 ⟨hb, rfl⟩
      rw [okN_lett, ← hb]
      have bad : okN j (byt s j) = false → Value.bool false = Value.bool (isNameS s) ∧ w2 = w2 := fun hno => by
        refine ⟨?_, rfl⟩
        have : (List.range s.size).all (fun i => okN i (byt s i)) = false := by
          rw [List.all_eq_false]; exact ⟨j, by simpa using h, by simp [hno]⟩
        unfold isNameS; rw [this]; simp
      rw [okN_lett, ← hb] at bad
      generalize byt s j = c at bad
      refine ⟨hin, br_intro (fun h1 => ⟨hin, br_intro (fun h2 => br_intro (fun h3 => br_intro (fun h4 => bad ?_) fun h4 => ⟨?_, rfl⟩) fun h3 => ⟨?_, rfl⟩) fun h2 => br_intro (fun h3 => bad ?_) fun h3 => ⟨?_, rfl⟩⟩) fun h1 => br_intro (fun h3 => bad ?_) fun h3 => ⟨?_, rfl⟩⟩
      all_goals cases b
      all_goals first | (cases h3; done) | simp [okN_lett]
      all_goals
        simp only [Bool.not_eq_true', Bool.not_eq_false', decide_eq_true_eq, decide_eq_false_iff_not] at *
        omega
    · rintro _ w2 ⟨hok, rfl⟩
      refine ⟨⟨by omega, by omega⟩, ⟨j + 1, by simp, by omega, fun i hi => ?_, rfl⟩, by dsimp only; omega⟩
      by_cases e : i = j
      · subst e; exact hok
      · exact hall i (by omega)
  · have h : j = s.size := by have := of_decide_eq_false h; omega
    have hall' : (List.range s.size).all (fun i => okN i (byt s i)) = true := all_range.2 (by rw [← h]; exact hall)
    unfold isNameS
    rw [hall']
    refine br_intro (fun h => ?_) fun h => ?_
    · have h : 1 ≤ s.size := by have := of_decide_eq_true h; omega
      refine ⟨?_, rfl⟩
      have e : decide ((s.size : Int) ≤ 16) = decide (s.size ≤ 16) := by rw [Bool.eq_iff_iff]; simp only [decide_eq_true_eq]; omega
      rw [e]; simp [h]
    · have h : ¬ 1 ≤ s.size := by have := of_decide_eq_false h; omega
      exact ⟨by simp [h], rfl⟩
theorem d_levelsFit (hg : gR (hp w) g x) (hb : okG g) : Run Tryd.prog n_presageref02_levelsFit [.agg ⟨x.cells⟩] w fun v w' => (∃ r : Bool, v = .bool r ∧ (r = true ↔ LevelsP g)) ∧ Gr w w' := by
  refine run_presageref02_levelsFit _ _ _ _ _ _ _ _ _ _ _ _ _ w _ ?_
  refine gbox hg fun k1 w1 gw hg B => ?_
  obtain ⟨b1, b2, b3, b4, b5, b6, b7⟩ := hb
  have tl := hg.t.1
  have ll := hg.l.1
  have no : ∀ {w'}, Gr w1 w' → ¬ LevelsP g → (∃ r : Bool, Value.bool false = .bool r ∧ (r = true ↔ LevelsP g)) ∧ Gr w w' := fun {w'} gg hn => ⟨⟨false, rfl, ⟨fun h => (by cases h), fun h => absurd h hn⟩⟩, gw.trans gg⟩
  refine ⟨fun n w' => ∃ i : Nat, n = i ∧ i ≤ x.ll ∧ (∀ (k : Nat) v, k < i → g.levels[k]? = some v → 1 ≤ v ∧ v ≤ 3 ∧ ∃ t ∈ g.terms, t.level = (k : Int) + 1) ∧ w' = w1, fun n _ => x.ll - n.toNat, ⟨0, rfl, by omega, fun k v hk => by omega, rfl⟩, ?_⟩
  rintro _ n1 w2 ⟨i, rfl, hi, hok, rfl⟩
  refine ⟨_, _, _, B.c2 (sub.refl _), br_intro (fun hlt => ?_) fun hlt => ?_⟩
  · have hlt : i < x.ll := by have := of_decide_eq_true hlt; omega
    obtain ⟨v, ad, hv1, hva, hv2⟩ := hg.l.get1 hlt
    refine ⟨fun b n w' => ∃ k : Nat, n = k ∧ k ≤ x.tl ∧ (b = true ↔ ∃ t ∈ g.terms.take k, t.level = (i : Int) + 1) ∧ w' = w2, fun b n _ => x.tl - n.toNat, ⟨0, rfl, by omega, by simp, rfl⟩, ?_⟩
    rintro _ b n2 w3 ⟨k, rfl, hk, hbk, rfl⟩
    refine ⟨_, _, _, B.c0 (sub.refl _), br_intro (fun hlt2 => ?_) fun hlt2 => ?_⟩
    · have hlt2 : k < x.tl := by have := of_decide_eq_true hlt2; omega
      obtain ⟨t, ad2, vs, ht1, hta, ht2, ht3⟩ := hg.t.get hlt2
      have ht3 : vs = [.string t.name, .int .i64 t.level] := ht3
      subst ht3
      have et : g.terms.take (k + 1) = g.terms.take k ++ [t] := by rw [List.take_add_one, ht1]; rfl
      refine br_intro (fun h1 => ?_) fun h1 => ?_
      · subst h1
        refine ⟨⟨by omega, by omega⟩, ⟨k + 1, by simp, by omega, ?_, rfl⟩, msr hlt2⟩
        obtain ⟨t', h1, h2⟩ := hbk.1 rfl
        exact ⟨fun _ => ⟨t', by rw [et]; exact List.mem_append.2 (.inl h1), h2⟩, fun _ => rfl⟩
      · subst h1
        refine ⟨_, _, _, B.c0 (sub.refl _), idx_n hta hlt2 ⟨_, ht2.cell (sub.refl _) (j := 1) rfl, ⟨by omega, by omega⟩, ⟨by omega, by omega⟩, ⟨k + 1, by simp, by omega, ?_, rfl⟩, msr hlt2⟩⟩
        rw [et]
        constructor
        · intro h; exact ⟨t, by simp, by simpa using h⟩
        · rintro ⟨t', h1, h2⟩
          rcases List.mem_append.1 h1 with h1 | h1
          · have := hbk.2 ⟨t', h1, h2⟩; cases this
          · simp at h1; subst h1; simpa using h2
    · have hlt2 : k = x.tl := by have := of_decide_eq_false hlt2; omega
      rw [List.take_of_length_le (by omega)] at hbk
      refine br_intro (fun h1 => no (Gr.refl _) fun hp => ?_) fun h1 => ?_
      · have := hbk.2 (hp i v hv1).2.2
        rw [this] at h1; cases h1
      have h1 : b = true := by simpa using h1
      refine ⟨_, _, _, B.c2 (sub.refl _), idx_i hva hlt ⟨_, hv2 _ (sub.refl _), br_intro (fun h2 => no (Gr.refl _) fun hp => ?_) fun h2 => ⟨_, _, _, B.c2 (sub.refl _), idx_i hva hlt ⟨_, hv2 _ (sub.refl _), br_intro (fun h3 => no (Gr.refl _) fun hp => ?_) fun h3 => ?_⟩⟩⟩⟩
      · have := of_decide_eq_true h2; have := (hp i v hv1).1; omega
      · have := of_decide_eq_true h3; have := (hp i v hv1).2.1; omega
      · have h2 := of_decide_eq_false h2
        have h3 := of_decide_eq_false h3
        refine ⟨⟨by omega, by omega⟩, ⟨i + 1, by simp, by omega, fun k' v' hk' hv' => ?_, rfl⟩, msr hlt⟩
        by_cases e : k' = i
        · subst e; rw [hv1] at hv'; cases hv'; exact ⟨by omega, by omega, hbk.1 h1⟩
        · exact hok k' v' (by omega) hv'
  · have hlt : i = x.ll := by have := of_decide_eq_false hlt; omega
    subst hlt
    exact ⟨⟨true, rfl, ⟨fun _ i v hv => hok i v (by have := (List.getElem?_eq_some_iff.1 hv).1; omega) hv, fun _ => rfl⟩⟩, gw⟩
theorem d_nonsFit (hg : gR (hp w) g x) (hb : okG g) (added : Nat) : Run Tryd.prog n_presageref02_nonsFit [.agg ⟨x.cells⟩, .int .i64 (added : Int)] w fun v w' => (∃ r : Bool, v = .bool r ∧ (r = true ↔ NonsP g added)) ∧ Gr w w' := by
  refine run_presageref02_nonsFit _ _ _ _ _ _ _ _ _ _ _ _ _ _ w _ ?_
  refine gbox hg fun k1 w1 gw hg B => ?_
  obtain ⟨b1, b2, b3, b4, b5, b6, b7⟩ := hb
  have nl := hg.n.1
  have no : ∀ {w'}, Gr w1 w' → ¬ NonsP g added → (∃ r : Bool, Value.bool false = .bool r ∧ (r = true ↔ NonsP g added)) ∧ Gr w w' := fun {w'} gg hn => ⟨⟨false, rfl, ⟨fun h => (by cases h), fun h => absurd h hn⟩⟩, gw.trans gg⟩
  refine ⟨fun n w' => ∃ i : Nat, n = ((added + i : Nat) : Int) ∧ (added + i ≤ x.nl ∨ i = 0) ∧ ((g.nons.drop added).take i).Nodup ∧ (∀ s ∈ (g.nons.drop added).take i, isNameS s = true) ∧ Gr w1 w', fun n _ => x.nl - n.toNat, ⟨0, rfl, .inr rfl, by simp, by simp, Gr.refl _⟩, ?_⟩
  rintro _ n1 w2 ⟨i, rfl, hi, hnd, hok, g2⟩
  refine ⟨_, _, _, B.c1 g2, br_intro (fun hlt => ?_) fun hlt => ?_⟩
  · have hlt : added + i < x.nl := by have := of_decide_eq_true hlt; omega
    obtain ⟨s, ad, hs1, hsa, hs2⟩ := hg.n.get1 hlt
    have hs1' : (g.nons.drop added)[i]? = some s := by rw [List.getElem?_drop]; exact hs1
    have hsm := List.mem_of_getElem? hs1'
    have et : (g.nons.drop added).take (i + 1) = (g.nons.drop added).take i ++ [s] := by rw [List.take_add_one, hs1']; rfl
    refine ⟨_, _, _, B.c1 g2, idx_i hsa hlt ⟨_, hs2 _ g2, (d_IsName (by have := b6 s (List.mem_of_mem_drop hsm); omega)).mono ?_⟩⟩
    rintro _ w2 ⟨rfl, rfl⟩
    refine ⟨_, rfl, br_intro (fun h1 => no g2 fun hp => ?_) fun h1 => ?_⟩
    · rw [hp.2 s hsm] at h1; cases h1
    have h1 : isNameS s = true := by simpa using h1
    refine ⟨fun n w' => ∃ k : Nat, n = ((added + k : Nat) : Int) ∧ k ≤ i ∧ (∀ u ∈ (g.nons.drop added).take k, u ≠ s) ∧ Gr w1 w', fun n _ => x.nl - n.toNat, ⟨0, rfl, by omega, by simp, g2⟩, ?_⟩
    rintro _ n2 w4 ⟨k, rfl, hk, hne, g4⟩
    refine br_intro (fun hlt2 => ?_) fun hlt2 => ?_
    · have hlt2 : k < i := by have := of_decide_eq_true hlt2; omega
      obtain ⟨u, ad', hu1, hua, hu2⟩ := hg.n.get1 (by omega : added + k < x.nl)
      rw [hsa] at hua; cases hua
      have hu1' : (g.nons.drop added)[k]? = some u := by rw [List.getElem?_drop]; exact hu1
      intro w5 hd
      have g5 : Gr w1 w5 := g4.trans (Gr.of_eq (hp_drawn hd))
      refine ⟨fun w' => Gr w1 w', g5, _, _, _, fun w' s => B.c1 s, idx_i hsa (by omega) ⟨_, fun w' s => hu2 _ s, _, _, _, fun w' s => B.c1 s, idx_i hsa hlt ⟨_, fun w' s => hs2 _ s, ?_⟩⟩⟩
      rw [bs_eq]
      refine br_intro (fun h => no g5 fun hp => ?_) fun h => ?_
      · have h := of_decide_eq_true h
        subst h
        have := (List.getElem?_inj (List.getElem?_eq_some_iff.1 hu1').1 hp.1).1 (hu1'.trans hs1'.symm)
        omega
      · have h := of_decide_eq_false h
        refine ⟨⟨by omega, by omega⟩, ⟨k + 1, by omega, by omega, fun u' hu' => ?_, g5⟩, by dsimp only; omega⟩
        rw [List.take_add_one, hu1'] at hu'
        rcases List.mem_append.1 hu' with hu' | hu'
        · exact hne u' hu'
        · simp at hu'; subst hu'; exact h
    · have hlt2 : k = i := by have := of_decide_eq_false hlt2; omega
      subst hlt2
      refine ⟨⟨by omega, by omega⟩, ⟨k + 1, by omega, by omega, ?_, fun t' ht' => ?_, g4⟩, by dsimp only; omega⟩
      · rw [et]; exact nodup_snoc.2 ⟨hnd, fun hm => hne s hm rfl⟩
      · rw [et] at ht'
        rcases List.mem_append.1 ht' with ht' | ht'
        · exact hok t' ht'
        · simp at ht'; subst ht'; exact h1
  · have hlt := of_decide_eq_false hlt
    rw [List.take_of_length_le (by simp; omega)] at hok hnd
    exact ⟨⟨true, rfl, ⟨fun _ => ⟨hnd, hok⟩, fun _ => rfl⟩⟩, gw.trans g2⟩
theorem d_Symbols (hg : gR (hp w) g x) (hb : okG g) : Run Tryd.prog n_presageref02_Symbols [.agg ⟨x.cells⟩] w fun v w' => v = .int .i64 ((g.T : Int) + g.N) ∧ Gr w w' := by
  refine run_presageref02_Symbols _ _ _ _ _ _ _ _ _ _ _ _ _ w _ ?_
  refine gbox hg fun k1 w1 gw hg B => ?_
  have tl := hg.t.1
  have nl := hg.n.1
  obtain ⟨b1, b2, b3, b4, b5, b6, b7⟩ := hb
  exact ⟨_, _, _, B.c0 (sub.refl _), _, _, _, B.c1 (sub.refl _), ⟨by omega, by omega⟩, by unfold GramT.T GramT.N; rw [tl, nl], gw⟩
set_option maxHeartbeats 1000000 in
theorem d_prodsFit (hg : gR (hp w) g x) (hb : okG g) (added : Nat) : Run Tryd.prog n_presageref02_prodsFit [.agg ⟨x.cells⟩, .int .i64 (added : Int), .int .i64 ((g.T : Int) + added)] w fun v w' => (∃ r : Bool, v = .bool r ∧ (r = true ↔ ∀ p ∈ g.prods.drop added, prodOk g added p)) ∧ Gr w w' := by
  refine run_presageref02_prodsFit _ _ _ _ _ _ _ _ _ _ _ _ _ _ _ w _ ?_
  refine gbox hg fun k1 w1 gw hg B => ?_
  have hb' := hb
  obtain ⟨b1, b2, b3, b4, b5, b6, b7⟩ := hb
  have tl : g.T = x.tl := hg.t.1
  have nl : g.N = x.nl := hg.n.1
  have ll := hg.l.1
  have pl := hg.p.1
  have no : ∀ {w'}, Gr w1 w' → ¬ (∀ p ∈ g.prods.drop added, prodOk g added p) → (∃ r : Bool, Value.bool false = .bool r ∧ (r = true ↔ ∀ p ∈ g.prods.drop added, prodOk g added p)) ∧ Gr w w' := fun {w'} gg hn => ⟨⟨false, rfl, ⟨fun h => (by cases h), fun h => absurd h hn⟩⟩, gw.trans gg⟩
  refine ⟨fun n w' => ∃ j : Nat, n = ((added + j : Nat) : Int) ∧ (added + j ≤ x.pl ∨ j = 0) ∧ (∀ p ∈ (g.prods.drop added).take j, prodOk g added p) ∧ Gr w1 w', fun n _ => x.pl - n.toNat, ⟨0, rfl, .inr rfl, by simp, Gr.refl _⟩, ?_⟩
  rintro _ n1 w2 ⟨j, rfl, hj, hok, g2⟩
  refine ⟨_, _, _, B.c4 g2, br_intro (fun hlt => ?_) fun hlt => ?_⟩
  · have hlt : added + j < x.pl := by have := of_decide_eq_true hlt; omega
    obtain ⟨p, ad, vs, hp1, hpa, hp2, ra, rl, rc, rfl, hrc, hp3⟩ := hg.p.get hlt
    have hp1' : (g.prods.drop added)[j]? = some p := by rw [List.getElem?_drop]; exact hp1
    have hpm := List.mem_of_getElem? hp1'
    have rl1 := hp3.1
    have b7' := b7 p (List.mem_of_mem_drop hpm)
    refine ⟨_, _, _, B.c4 g2, idx_n hpa hlt ⟨_, _, _, _, _, hp2.at g2 rfl, newC_i (St.all w2) fun k8 w3 h => stR_i h rfl (by simp [oneC]) fun w4 h => ?_⟩⟩
    have g4 : Gr w1 w4 := g2.trans h.gone1
    have hbox : rowH (hp w4) ⟨k8, 0, none⟩ [.int .i64 p.left, .slice ra rl rc, .int .i64 p.level] := h.row
    have d0 := fun (w' : World) (s : Gr w4 w') => hbox.cell0 s
    have d1 := fun (w' : World) (s : Gr w4 w') => hbox.cell s (j := 1) (v := .slice ra rl rc) rfl
    have d2 := fun (w' : World) (s : Gr w4 w') => hbox.cell s (j := 2) (v := .int .i64 p.level) rfl
    refine ⟨fun b w' => (b = false ↔ ((g.T : Int) + added ≤ p.left ∧ p.left < g.T + g.N ∧ 0 ≤ p.level ∧ p.level ≤ g.levels.length)) ∧ Gr w4 w', ?_, ?_⟩
    · intro w5 hd
      have g5 : Gr w4 w5 := Gr.of_eq (hp_drawn hd)
      refine ⟨fun w' => Gr w4 w', g5, _, fun w' s => d0 _ s, br_intro (fun h1 => ⟨?_, g5⟩) fun h1 => ?_⟩
      · have := of_decide_eq_true h1
        simp; omega
      have h1 := of_decide_eq_false h1
      refine ⟨_, fun w' s => d0 _ s, _, _, _, _, _, _, _, _, _, _, _, _, _, fun w' s => B.row (g4.trans s), (d_Symbols (x := x) (hg.mono (g4.trans g5)) hb').mono ?_⟩
      rintro _ w9 ⟨rfl, g9⟩
      have g9 : Gr w4 w9 := g5.trans g9
      refine ⟨_, rfl, fun w' => Gr w4 w', g9, fun _ h => h, br_intro (fun h2 => ⟨?_, g9⟩) fun h2 => ?_⟩
      · have := of_decide_eq_true h2
        simp; omega
      have h2 := of_decide_eq_false h2
      refine ⟨_, fun w' s => d2 _ s, br_intro (fun h3 => ⟨?_, g9⟩) fun h3 => ?_⟩
      · have := of_decide_eq_true h3
        simp; omega
      have h3 := of_decide_eq_false h3
      refine ⟨_, fun w' s => d2 _ s, _, _, _, fun w' s => B.c2 (g4.trans s), ?_, g9⟩
      rw [decide_eq_false_iff_not]; omega
    rintro _ b2 w13 ⟨hb2, g13⟩
    refine br_intro (fun hbt => ?_) fun hbf => ?_
    · subst hbt
      exact no (g4.trans g13) fun h => by have := hb2.2 (h p hpm).1; cases this
    have hpok := hb2.1 hbf
    refine ⟨fun n w' => ∃ i : Nat, n = i ∧ i ≤ rl ∧ (∀ (k : Nat) s, k < i → p.right[k]? = some s → symOk g added s) ∧ Gr w4 w', fun n _ => rl - n.toNat, ⟨0, rfl, by omega, fun k s hk => by omega, g13⟩, ?_⟩
    rintro _ n8 w14 ⟨i, rfl, hi, hsy, g14⟩
    refine ⟨_, _, _, d1 _ g14, br_intro (fun hlt2 => ?_) fun hlt2 => ?_⟩
    · have hlt2 : i < rl := by have := of_decide_eq_true hlt2; omega
      obtain ⟨s, ad2, hs1, hsa, hs2⟩ := hp3.get1 hlt2
      have bad : ∀ {w'}, Gr w4 w' → ¬ symOk g added s → _ := fun {w'} gg hn => no (g4.trans gg) (fun hq => hn ((hq p hpm).2 s (List.mem_of_getElem? hs1)))
      have good : ∀ {w'}, Gr w4 w' → symOk g added s → inI ((i : Int) + 1) ∧ (∃ i' : Nat, (i : Int) + 1 = i' ∧ i' ≤ rl ∧ (∀ (k : Nat) s, k < i' → p.right[k]? = some s → symOk g added s) ∧ Gr w4 w') ∧ rl - ((i : Int) + 1).toNat < rl - (i : Int).toNat := fun {w'} gg hgd => by
        refine ⟨⟨by omega, by omega⟩, ⟨i + 1, by simp, by omega, fun k s' hk hs' => ?_, gg⟩, msr hlt2⟩
        by_cases e : k = i
        · subst e; rw [hs1] at hs'; cases hs'; exact hgd
        · exact hsy k s' (by omega) hs'
      refine ⟨_, _, _, d1 _ g14, idx_i hsa hlt2 ⟨s, hs2 _ (g4.trans g14), br_intro (fun h1 => bad g14 ?_) fun h1 => ?_⟩⟩
      · have := of_decide_eq_true h1; unfold symOk; omega
      refine ⟨_, _, _, _, _, _, _, _, _, _, _, _, _, B.row (g4.trans g14), (d_Symbols (x := x) (hg.mono (g4.trans g14)) hb').mono ?_⟩
      rintro _ w15 ⟨rfl, g15⟩
      have g15 : Gr w4 w15 := g14.trans g15
      refine ⟨_, rfl, br_intro (fun h2 => bad g15 ?_) fun h2 => ⟨_, _, _, B.c0 (g4.trans g15), br_intro (fun h3 => br_intro (fun h4 => bad g15 ?_) fun h4 => good g15 ?_) fun h3 => good g15 ?_⟩⟩
      · have := of_decide_eq_true h2; unfold symOk; omega
      · have h3 := of_decide_eq_true h3; have h4 := of_decide_eq_true h4; unfold symOk; omega
      · have h1 := of_decide_eq_false h1; have h2 := of_decide_eq_false h2; have h3 := of_decide_eq_true h3; have h4 := of_decide_eq_false h4; unfold symOk; omega
      · have h1 := of_decide_eq_false h1; have h2 := of_decide_eq_false h2; have h3 := of_decide_eq_false h3; unfold symOk; omega
    have hlt2 : i = rl := by have := of_decide_eq_false hlt2; omega
    subst hlt2
    refine ⟨⟨by omega, by omega⟩, ⟨j + 1, by omega, by omega, fun q hq => ?_, g4.trans g14⟩, by dsimp only; omega⟩
    rw [List.take_add_one, hp1'] at hq
    rcases List.mem_append.1 hq with hq | hq
    · exact hok q hq
    · simp at hq; subst hq
      exact ⟨hpok, fun s hs => by
        obtain ⟨k, hk, e⟩ := List.mem_iff_getElem.1 hs
        exact hsy k s (by omega) (by rw [← e]; exact List.getElem?_eq_getElem hk)⟩
  · have hlt := of_decide_eq_false hlt
    rw [List.take_of_length_le (by simp; omega)] at hok
    exact ⟨⟨true, rfl, ⟨fun _ => hok, fun _ => rfl⟩⟩, gw.trans g2⟩
set_option maxHeartbeats 1000000 in
theorem d_lefts (hg : gR (hp w) g x) (hb : okG g) (added : Nat) : Run Tryd.prog n_presageref02_lefts [.agg ⟨x.cells⟩, .int .i64 (added : Int)] w fun v w' => ∃ a c, v = .slice a (leftsG g added).length c ∧ St w' (own 1 a (leftsG g added).length c (iv (leftsG g added)) :: all w) := by
  refine run_presageref02_lefts _ _ _ _ _ _ _ _ _ _ _ _ _ _ w _ ?_
  refine gbox hg fun k1 w1 gw hg B => ?_
  obtain ⟨b1, b2, b3, b4, b5, b6, b7⟩ := hb
  have pl := hg.p.1
  have hfin : ∀ {w' : World} {A : Asn}, St w' (A :: all w1) → St w' (A :: all w) := fun h => h.on1 (has_i gw)
  refine ⟨fun o l' c' n w' => ∃ j : Nat, n = ((added + j : Nat) : Int) ∧ (added + j ≤ x.pl ∨ j = 0) ∧ (leftsL (((g.prods.drop added).map ProdT.left).take j)).length = l' ∧
      St w' (own 1 o l' c' (iv (leftsL (((g.prods.drop added).map ProdT.left).take j))) :: all w1), fun _ _ _ n _ => x.pl - n.toNat, ⟨0, rfl, .inr rfl, rfl, own_nil 1 (St.all w1)⟩, ?_⟩
  rintro _ o1 _ c1 n1 w2 ⟨j, rfl, hj, rfl, h⟩
  have g2 : Gr w1 w2 := h.gone1
  have hll : (leftsL (((g.prods.drop added).map ProdT.left).take j)).length ≤ j := Nat.le_trans (leftsL_len _) (by simp; omega)
  refine ⟨_, _, _, B.c4 g2, br_intro (fun hlt => ?_) fun hlt => ?_⟩
  · have hlt : added + j < x.pl := by have := of_decide_eq_true hlt; omega
    obtain ⟨p, ad, vs, hp1, hpa, hp2, ra, rl, rc, rfl, hrc, hp3⟩ := hg.p.get hlt
    have hp1' : (g.prods.drop added)[j]? = some p := by rw [List.getElem?_drop]; exact hp1
    have hlp : ((g.prods.drop added).map ProdT.left)[j]? = some p.left := by rw [List.getElem?_map, hp1']; rfl
    have et := leftsL_take hlp
    generalize hLJ : leftsL (((g.prods.drop added).map ProdT.left).take j) = LJ at *
    refine ⟨fun b n w' => ∃ k : Nat, n = k ∧ k ≤ LJ.length ∧ (b = true ↔ p.left ∈ LJ.take k) ∧ St w' (own 1 o1 LJ.length c1 (iv LJ) :: all w1), fun b n _ => LJ.length - n.toNat, ⟨0, rfl, by omega, by simp, h⟩, ?_⟩
    clear h g2
    rintro _ b n2 w3 ⟨k, rfl, hk, hbk, h⟩
    refine br_intro (fun hlt2 => ?_) fun hlt2 => ?_
    · have hlt2 : k < LJ.length := by have := of_decide_eq_true hlt2; omega
      intro w4 hd
      have h := h.drawn hd
      have g4 : Gr w1 w4 := h.gone1
      obtain ⟨y, ad2, hy1, rfl, hy2⟩ := (own_rdI h).get1 hlt2
      have ey : LJ.take (k + 1) = LJ.take k ++ [y] := take_succ_get hy1
      refine ⟨fun w' => Gr w4 w', Gr.refl _, br_intro (fun h1 => ?_) fun h1 => ?_⟩
      · subst h1
        exact ⟨⟨by omega, by omega⟩, ⟨k + 1, by simp, by omega, ⟨fun _ => by rw [ey]; exact List.mem_append.2 (.inl (hbk.1 rfl)), fun _ => rfl⟩, h⟩, msr hlt2⟩
      · subst h1
        refine idx_i rfl hlt2 ⟨y, fun w' s => hy2 _ s, _, _, _, fun w' s => B.c4 (g4.trans s), idx_n hpa hlt ⟨_, fun w' s => hp2.cell0 (g4.trans s), ⟨by omega, by omega⟩, ⟨k + 1, by simp, by omega, ?_, h⟩, msr hlt2⟩⟩
        rw [ey, List.mem_append]
        have : p.left ∉ LJ.take k := fun hm => by have := hbk.2 hm; cases this
        simp only [this, false_or, List.mem_singleton, beq_iff_eq]
        exact eq_comm
    · have hlt2 : k = LJ.length := by have := of_decide_eq_false hlt2; omega
      subst hlt2
      rw [List.take_length] at hbk
      refine br_intro (fun h1 => ?_) fun h1 => ?_
      · have h1 : p.left ∉ LJ := fun hm => by rw [hbk.2 hm] at h1; cases h1
        refine ⟨_, _, _, B.c4 h.gone1, idx_n hpa hlt ⟨_, hp2.cell0 h.gone1, newC_i h fun k10 w8 h => ?_⟩⟩
        refine (app_one tyOk (rfl : kdOfT Ty _ = .slice _) (rfl : kdOfT Ty _ = .slice _) rfl rfl rfl h rfl (by simp [oneC]) (by show (_ + 1) * 8 ≤ _; omega) (by omega)).mono ?_
        rintro _ w10 ⟨a', c', rfl, h⟩
        have e2 : leftsL (((g.prods.drop added).map ProdT.left).take (j + 1)) = LJ ++ [p.left] := by rw [et]; unfold addL; rw [if_neg h1]
        refine ⟨_, _, _, rfl, ⟨by omega, by omega⟩, ⟨j + 1, by omega, by omega, by rw [e2]; simp, ?_⟩, by dsimp only; omega⟩
        rw [e2]
        have e3 : ∀ l : List Int, iv (l ++ [p.left]) = iv l ++ [.int .i64 p.left] := fun l => by simp [iv]
        rw [e3]
        exact h.pick 3 [0, 2]
      · have h1 : p.left ∈ LJ := hbk.1 (by simpa using h1)
        have e2 : leftsL (((g.prods.drop added).map ProdT.left).take (j + 1)) = LJ := by rw [et]; unfold addL; rw [if_pos h1]
        refine ⟨⟨by omega, by omega⟩, ⟨j + 1, by omega, by omega, by rw [e2], ?_⟩, by dsimp only; omega⟩
        rw [e2]; exact h
  · have hlt := of_decide_eq_false hlt
    have el : ((g.prods.drop added).map ProdT.left).take j = (g.prods.drop added).map ProdT.left := List.take_of_length_le (by simp; omega)
    rw [el] at h ⊢
    exact ⟨o1, c1, rfl, hfin h⟩
end
end Go.Proofs.YtaheggomcnbbiaaDoor
set_option linter.unusedVariables false
namespace Go.V
theorem Gr.drawn {w w' : World} (h : V.drawn w w') : Gr w w' := Gr.of_eq (hp_drawn h)
theorem own_rdI {w : World} {L : List Asn} {a : Option Addr} {l c : Nat} {xs : List Int} (h : St w (own 1 a l c (iv xs) :: L)) : rdS (hp w) xs a l := by
  have hl := own_len h
  obtain ⟨h1, s, ha⟩ := h.first
  exact (rdS_of_row (by simpa [iv] using hl) (own_rdVh ha)).mono s
theorem closed_iff {g : GramT} : ClosedP g ↔ (2 ≤ g.nons.length ∧ g.nons[0]? = some .empty ∧ 2 ≤ g.prods.length ∧ ∃ p, g.prods[0]? = some p ∧ p.left = (g.T : Int) ∧ p.right = [g.start] ∧ p.level = 0) ∧ FitsP g 1 := by
  unfold ClosedP FitsP
  constructor
  · rintro ⟨h1, h2, h3, h4⟩
    have := (syms_iff.1 h2).1
    have := (fits_iff.1 ⟨h2, h3⟩).1.2.2.2.1
    exact ⟨⟨by omega, h1, by omega, h4⟩, h2, h3⟩
  · rintro ⟨⟨_, h1, _, h4⟩, h2, h3⟩
    exact ⟨h1, h2, h3, h4⟩
end Go.V
namespace Go.Proofs.YtaheggomcnbbiaaDoor
open Go.V
section
variable {w : World} {L : List Asn} {g : GramT} {x : GA} {s : ByteArray}
set_option maxHeartbeats 1000000 in
theorem d_fits (hg : gR (hp w) g x) (hb : okG g) (added : Nat) (ha : added ≤ 1) : Run Tryd.prog n_presageref02_fits [.agg ⟨x.cells⟩, .int .i64 (added : Int)] w fun v w' => (∃ r : Bool, v = .bool r ∧ (r = true ↔ FitsP g added)) ∧ Gr w w' := by
  refine run_presageref02_fits _ _ _ _ _ _ _ _ _ _ _ _ _ _ w _ ?_
  refine gbox hg fun k1 w1 gw hg B => ?_
  have hb' := hb
  obtain ⟨b1, b2, b3, b4, b5, b6, b7⟩ := hb
  have tl := hg.t.1
  have nl := hg.n.1
  have ll := hg.l.1
  have pl := hg.p.1
  have hT : g.T = x.tl := tl
  have hN : g.N = x.nl := nl
  have hst := hg.s
  rw [fits_iff]
  unfold fitSizes
  rw [hT, hN, tl, nl, ll, pl]
  generalize hP : (_ ∧ _ : Prop) = P
  have no : ∀ {w'}, Gr w1 w' → ¬ P → (∃ r : Bool, Value.bool false = .bool r ∧ (r = true ↔ P)) ∧ Gr w w' := fun {w'} gg hn => ⟨⟨false, rfl, ⟨fun h => (by cases h), fun h => absurd h hn⟩⟩, gw.trans gg⟩
  refine ⟨fun b w' => (b = false ↔ (x.nl ≤ 64 + added ∧ x.tl ≤ 65 ∧ x.pl ≤ 96 + added ∧ added < x.pl ∧ x.ll ≤ 64)) ∧ w' = w1, ?_, ?_⟩
  · refine ⟨_, _, _, B.c1 (sub.refl _), ⟨by omega, by omega⟩, br_intro (fun h1 => ⟨?_, rfl⟩) fun h1 => ⟨_, _, _, B.c0 (sub.refl _), br_intro (fun h2 => ⟨?_, rfl⟩) fun h2 => ⟨_, _, _, B.c4 (sub.refl _), ⟨by omega, by omega⟩, br_intro (fun h3 => ⟨?_, rfl⟩) fun h3 => ⟨_, _, _, B.c4 (sub.refl _), ⟨by omega, by omega⟩, br_intro (fun h4 => ⟨?_, rfl⟩) fun h4 => ⟨_, _, _, B.c2 (sub.refl _), ?_, rfl⟩⟩⟩⟩⟩
    all_goals simp only [decide_eq_true_eq, decide_eq_false_iff_not, Bool.true_eq_false, false_iff] at *
    all_goals omega
  rintro _ b w2 ⟨hb0, rfl⟩
  refine br_intro (fun h1 => no (Gr.refl _) fun hp => ?_) fun h1 => ?_
  · rw [← hP] at hp
    have := hb0.2 hp.1
    rw [h1] at this; cases this
  obtain ⟨z1, z2, z3, z4, z5⟩ := hb0.1 h1
  refine ⟨_, _, _, B.c0 (sub.refl _), ⟨by omega, by omega⟩, _, _, _, B.c1 (sub.refl _), ⟨by omega, by omega⟩, ⟨by omega, by omega⟩, br_intro (fun h2 => no (Gr.refl _) fun hp => ?_) fun h2 => ?_⟩
  · rw [← hP] at hp
    have := of_decide_eq_true h2; have := hp.2.1; omega
  have h2 := of_decide_eq_false h2
  refine ⟨_, _, _, _, _, _, _, _, _, _, _, _, _, B.row (sub.refl _), (d_termsFit (x := x) hg hb').mono ?_⟩
  rintro _ w3 ⟨⟨r1, rfl, e1⟩, g3⟩
  refine ⟨_, rfl, br_intro (fun h3 => no g3 fun hp => ?_) fun h3 => ?_⟩
  · rw [← hP] at hp
    have := e1.2 hp.2.2.1; rw [this] at h3; cases h3
  have h3 : r1 = true := by simpa using h3
  have e1 := e1.1 h3
  refine ⟨_, _, _, _, _, _, _, _, _, _, _, _, _, B.row g3, (d_levelsFit (x := x) (hg.mono g3) hb').mono ?_⟩
  rintro _ w4 ⟨⟨r2, rfl, e2⟩, g4⟩
  have g4 : Gr w2 w4 := g3.trans g4
  refine ⟨_, rfl, _, _, _, _, _, _, _, _, _, _, _, _, _, B.row g4, (d_nonsFit (x := x) (hg.mono g4) hb' added).mono ?_⟩
  rintro _ w5 ⟨⟨r3, rfl, e3⟩, g5⟩
  have g5 : Gr w2 w5 := g4.trans g5
  have hpf := d_prodsFit (x := x) (hg.mono g5) hb' added
  rw [hT] at hpf
  refine ⟨_, rfl, _, _, _, _, _, _, _, _, _, _, _, _, _, B.row g5, _, _, _, B.c0 g5, ⟨by omega, by omega⟩, hpf.mono ?_⟩
  rintro _ w6 ⟨⟨r4, rfl, e4⟩, g6⟩
  have g6 : Gr w2 w6 := g5.trans g6
  refine ⟨_, rfl, _, _, _, _, _, _, _, _, _, _, _, _, _, B.row g6, (d_lefts (x := x) (hg.mono g6) hb' added).mono ?_⟩
  rintro _ w7 ⟨a, c, rfl, h7⟩
  have g7 : Gr w2 w7 := g6.trans h7.gone1
  refine ⟨_, _, _, rfl, fun w8 hd => ⟨fun w' => Gr w2 w', g7.trans (Gr.drawn hd), ?_⟩⟩
  have g8 : Gr w2 w8 := g7.trans (Gr.drawn hd)
  refine br_intro (fun i1 => br_intro (fun i2 => br_intro (fun i3 => ⟨_, _, _, fun w' s => B.c1 s, ⟨by omega, by omega⟩, br_intro (fun i4 => ⟨_, fun w' s => B.c3 s, _, _, _, fun w' s => B.c0 s, ⟨by omega, by omega⟩, br_intro (fun i5 => ⟨_, fun w' s => B.c3 s, _, _, _, _, _, _, _, _, _, _, _, _, _, fun w' s => B.row s, (d_Symbols (x := x) (hg.mono g8) hb').mono ?_⟩) fun i5 => no g8 fun hp => ?_⟩) fun i4 => no g8 fun hp => ?_⟩) fun i3 => no g8 fun hp => ?_) fun i2 => no g8 fun hp => ?_) fun i1 => no g8 fun hp => ?_
  · rintro _ w9 ⟨rfl, g9⟩
    have g9 : Gr w2 w9 := g8.trans g9
    refine ⟨_, rfl, g9, ⟨_, rfl, ?_⟩, gw.trans g9⟩
    rw [← hP, hT, hN, decide_eq_true_eq, ← hst]
    have i4 := eq_of_beq i4
    have i5 := of_decide_eq_true i5
    exact ⟨fun h => ⟨⟨z1, z2, z3, z4, z5⟩, by omega, e1, e2.1 i1, e3.1 i2, e4.1 i3, i4, i5, h⟩, fun h => h.2.2.2.2.2.2.2.2⟩
  · rw [← hP, ← hst] at hp
    have := of_decide_eq_false i5; have := hp.2.2.2.2.2.2.2.1; omega
  · rw [← hP] at hp
    have := hp.2.2.2.2.2.2.1
    simp only [beq_eq_false_iff_ne, ne_eq] at i4
    omega
  · rw [← hP] at hp
    rw [e4.2 hp.2.2.2.2.2.1] at i3; cases i3
  · rw [← hP] at hp
    rw [e3.2 hp.2.2.2.2.1] at i2; cases i2
  · rw [← hP] at hp
    rw [e2.2 hp.2.2.2.1] at i1; cases i1
set_option maxHeartbeats 1000000 in
theorem d_Valid (hg : gR (hp w) g x) (hb : okG g) : Run Tryd.prog n_presageref02_Valid [.agg ⟨x.cells⟩] w fun v w' => (∃ r : Bool, v = .bool r ∧ (r = true ↔ ValidP g)) ∧ Gr w w' := by
  refine run_presageref02_Valid _ _ _ _ _ _ _ _ _ _ _ _ _ w _ ?_
  refine gbox hg fun k1 w1 gw hg B => ?_
  have hT : g.T = x.tl := hg.t.1
  rw [valid_iff]
  have no : ∀ {w'}, Gr w1 w' → ¬ (FitsP g 0 ∧ ∀ (i : Nat) y, (leftsG g 0)[i]? = some y → y = (g.T : Int) + i) → (∃ r : Bool, Value.bool false = .bool r ∧ (r = true ↔ (FitsP g 0 ∧ ∀ (i : Nat) y, (leftsG g 0)[i]? = some y → y = (g.T : Int) + i))) ∧ Gr w w' := fun {w'} gg hn => ⟨⟨false, rfl, ⟨fun h => (by cases h), fun h => absurd h hn⟩⟩, gw.trans gg⟩
  refine ⟨_, _, _, _, _, _, _, _, _, _, _, _, _, B.row (sub.refl _), (d_fits (x := x) hg hb 0 (by omega)).mono ?_⟩
  rintro _ w2 ⟨⟨r, rfl, e⟩, g2⟩
  refine ⟨_, rfl, br_intro (fun h1 => no g2 fun hp => ?_) fun h1 => ?_⟩
  · rw [e.2 hp.1] at h1; cases h1
  have h1 : r = true := by simpa using h1
  have hf := e.1 h1
  have hz := (fits_iff.1 hf).1
  refine ⟨_, _, _, _, _, _, _, _, _, _, _, _, _, B.row g2, (d_lefts (x := x) (hg.mono g2) hb 0).mono ?_⟩
  rintro _ w3 ⟨a, c, rfl, h3⟩
  have hl : (leftsG g 0).length ≤ 96 := by
    refine Nat.le_trans (leftsL_len _) ?_
    have := hz.2.2.1
    simp; omega
  have hsm := hz.2.1
  have ht : g.T = g.terms.length := rfl
  refine ⟨_, _, _, rfl, fun n w' => ∃ i : Nat, n = i ∧ i ≤ (leftsG g 0).length ∧ (∀ (k : Nat) y, k < i → (leftsG g 0)[k]? = some y → y = (g.T : Int) + k) ∧ St w' (own 1 a (leftsG g 0).length c (iv (leftsG g 0)) :: all w2), fun n _ => (leftsG g 0).length - n.toNat, ⟨0, rfl, by omega, fun k y hk => by omega, h3⟩, ?_⟩
  rintro _ n w4 ⟨i, rfl, hi, hok, h4⟩
  refine br_intro (fun hlt => ?_) fun hlt => ?_
  · have hlt : i < (leftsG g 0).length := by have := of_decide_eq_true hlt; omega
    intro w5 hd
    have h5 := h4.drawn hd
    have g5 : Gr w1 w5 := g2.trans h5.gone1
    obtain ⟨y, ad, hy1, hya, hy2⟩ := (own_rdI h5).get1 hlt
    refine ⟨fun w' => sub (hp w5) (hp w'), sub.refl _, idx_i hya hlt ⟨y, fun w' s => hy2 _ s, _, _, _, fun w' s => B.c0 (sub.trans g5 s), ⟨by omega, by omega⟩, br_intro (fun h6 => no g5 fun hp => ?_) fun h6 => ?_⟩⟩
    · have := hp.2 i y hy1
      simp only [bne_iff_ne, ne_eq] at h6; omega
    · have h6 : y = (x.tl : Int) + i := by simpa using h6
      refine ⟨⟨by omega, by omega⟩, ⟨i + 1, by simp, by omega, fun k z hk hz' => ?_, h5⟩, msr hlt⟩
      by_cases ek : k = i
      · subst ek; rw [hy1] at hz'; cases hz'; rw [hT]; exact h6
      · exact hok k z (by omega) hz'
  · have hlt : i = (leftsG g 0).length := by have := of_decide_eq_false hlt; omega
    subst hlt
    exact ⟨⟨true, rfl, ⟨fun _ => ⟨hf, fun i y hy => hok i y (List.getElem?_eq_some_iff.1 hy).1 hy⟩, fun _ => rfl⟩⟩, gw.trans (g2.trans h4.gone1)⟩
end
end Go.Proofs.YtaheggomcnbbiaaDoor
set_option linter.unusedVariables false
namespace Go.V
def EitherP (g : GramT) : Prop := ValidP g ∨ ClosedP g
theorem add0 (ad : Addr) (n : Nat) : ad.add (mulS 0 n) = ad := by simp [mulS_eq, Addr.add]
end Go.V
namespace Go.Proofs.YtaheggomcnbbiaaDoor
open Go.V
section
variable {w : World} {L : List Asn} {g : GramT} {x : GA} {s : ByteArray}
set_option maxHeartbeats 1000000 in
theorem d_Closed (hg : gR (hp w) g x) (hb : okG g) : Run Tryd.prog n_presageref02_Closed [.agg ⟨x.cells⟩] w fun v w' => (∃ r : Bool, v = .bool r ∧ (r = true ↔ ClosedP g)) ∧ Gr w w' := by
  refine run_presageref02_Closed _ _ _ _ _ _ _ _ _ _ _ _ _ w _ ?_
  refine gbox hg fun k1 w1 gw hg B => ?_
  have tl := hg.t.1
  have nl := hg.n.1
  have pl := hg.p.1
  have hT : g.T = x.tl := tl
  have hst := hg.s
  rw [closed_iff]
  generalize hP : (_ ∧ _ : Prop) = P
  have no : ∀ {w'}, Gr w1 w' → ¬ P → (∃ r : Bool, Value.bool false = .bool r ∧ (r = true ↔ P)) ∧ Gr w w' := fun {w'} gg hn => ⟨⟨false, rfl, ⟨fun h => (by cases h), fun h => absurd h hn⟩⟩, gw.trans gg⟩
  refine ⟨fun b w' => (b = false ↔ (2 ≤ g.nons.length ∧ g.nons[0]? = some .empty ∧ 2 ≤ g.prods.length)) ∧ w' = w1, ?_, ?_⟩
  · refine ⟨_, _, _, B.c1 (sub.refl _), br_intro (fun h1 => ⟨?_, rfl⟩) fun h1 => ?_⟩
    · have := of_decide_eq_true h1; simp; omega
    have h1 := of_decide_eq_false h1
    obtain ⟨s, ad, hs1, hsa, hs2⟩ := hg.n.get1 (i := 0) (by omega)
    refine ⟨_, _, _, B.c1 (sub.refl _), idx_0 hsa (by omega) ⟨s, hs2 _ (sub.refl _), ?_⟩⟩
    rw [bs_eq]
    change br (!decide (s = .empty)) _ _
    refine br_intro (fun h2 => ⟨?_, rfl⟩) fun h2 => ⟨_, _, _, B.c4 (sub.refl _), ?_, rfl⟩
    · have h2 : s ≠ .empty := by simpa using h2
      rw [hs1]; simp [h2]
    · have h2 : s = .empty := by simpa using h2
      rw [hs1, decide_eq_false_iff_not]; simp [h2]; omega
  rintro _ b w2 ⟨hb0, rfl⟩
  refine br_intro (fun h1 => no (Gr.refl _) fun hp => ?_) fun h1 => ?_
  · rw [← hP] at hp
    have := hb0.2 ⟨hp.1.1, hp.1.2.1, hp.1.2.2.1⟩
    rw [h1] at this; cases this
  obtain ⟨z1, z2, z3⟩ := hb0.1 h1
  obtain ⟨p, ad, vs, hp1, hpa, hp2, a, l, c, rfl, hlc, hp3⟩ := hg.p.get (i := 0) (by omega)
  rw [add0] at hp2
  refine ⟨_, _, _, B.c4 (sub.refl _), idx_0 hpa (by omega) ⟨_, _, _, _, _, hp2.at (sub.refl _) rfl, newC_i (St.all w2) fun k w3 h3 => stR_i h3 rfl (by intro v hv; simp at hv; rcases hv with rfl | rfl | rfl <;> rfl) fun w4 h4 => ?_⟩⟩
  intro w5 hd
  have h5 := h4.drawn hd
  have g5 : Gr w2 w5 := h5.gone1
  have rb := h5.row
  have pr := hp3.mono g5
  have hP' : P ↔ ((p.left = (x.tl : Int) ∧ l = 1 ∧ p.right = [g.start] ∧ p.level = 0) ∧ FitsP g 1) := by
    rw [← hP]
    constructor
    · rintro ⟨⟨_, _, _, q, hq, q1, q2, q3⟩, hf⟩
      rw [hp1] at hq; cases hq
      exact ⟨⟨by omega, by rw [← hp3.1, q2]; rfl, q2, q3⟩, hf⟩
    · rintro ⟨⟨q1, _, q2, q3⟩, hf⟩
      exact ⟨⟨z1, z2, z3, p, hp1, by omega, q2, q3⟩, hf⟩
  refine ⟨fun w' => sub (hp w5) (hp w'), sub.refl _, _, fun w' s => rb.cell0 s, _, _, _, fun w' s => B.c0 (sub.trans g5 s), br_intro (fun h6 => no g5 fun hp => ?_) fun h6 => ⟨_, _, _, fun w' s => rb.cell s (j := 1) rfl, br_intro (fun h7 => no g5 fun hp => ?_) fun h7 => ?_⟩⟩
  · have := (hP'.1 hp).1.1
    simp only [bne_iff_ne, ne_eq] at h6; omega
  · have := (hP'.1 hp).1.2.1
    simp only [bne_iff_ne, ne_eq] at h7; omega
  have h6 : p.left = (x.tl : Int) := by simpa using h6
  have h7 : l = 1 := by have h7 : (l : Int) = 1 := by simpa using h7
                        omega
  obtain ⟨y, ad2, hy1, hya, hy2⟩ := pr.get1 (i := 0) (by omega)
  have hr : p.right = [y] := by
    have hl := pr.1
    match hq : p.right, hl, hy1 with
    | [z], _, hy1 => simp at hy1; rw [hy1]
    | [], hl, _ => simp at hl; omega
    | _ :: _ :: _, hl, _ => simp at hl; omega
  refine ⟨_, _, _, fun w' s => rb.cell s (j := 1) rfl, idx_0 hya (by omega) ⟨y, fun w' s => hy2 _ s, _, fun w' s => B.c3 (sub.trans g5 s), br_intro (fun h8 => no g5 fun hp => ?_) fun h8 => ⟨_, fun w' s => rb.cell s (j := 2) rfl, br_intro (fun h9 => no g5 fun hp => ?_) fun h9 => ?_⟩⟩⟩
  · have := (hP'.1 hp).1.2.2.1
    rw [hr] at this
    simp only [bne_iff_ne, ne_eq] at h8
    simp at this; omega
  · have := (hP'.1 hp).1.2.2.2
    simp only [bne_iff_ne, ne_eq] at h9; omega
  have h8 : y = x.s := by simpa using h8
  have h9 : p.level = 0 := by simpa using h9
  refine ⟨_, _, _, _, _, _, _, _, _, _, _, _, _, B.row g5, (d_fits (x := x) (hg.mono g5) hb 1 (by omega)).mono ?_⟩
  rintro _ w6 ⟨⟨r, rfl, e⟩, g6⟩
  refine ⟨_, rfl, ⟨r, rfl, ?_⟩, gw.trans (g5.trans g6)⟩
  rw [hP', e]
  exact ⟨fun h => ⟨⟨h6, h7, by rw [hr, h8, hst], h9⟩, h⟩, fun h => h.2⟩
set_option maxHeartbeats 1000000 in
theorem g_Closed (hg : gR (hp w) g x) (hb : okG g) : Run Tryd.prog n_gram_Closed [.agg ⟨x.cells⟩] w fun v w' => (∃ r : Bool, v = .bool r ∧ (r = true ↔ ClosedP g)) ∧ Gr w w' := by
  refine run_gram_Closed _ _ _ _ _ _ _ _ _ _ _ _ _ w _ ?_
  refine gbox hg fun k1 w1 gw hg B => ?_
  have tl := hg.t.1
  have nl := hg.n.1
  have pl := hg.p.1
  have hT : g.T = x.tl := tl
  have hst := hg.s
  have no : ∀ {w'}, Gr w1 w' → ¬ ClosedP g → (∃ r : Bool, Value.bool false = .bool r ∧ (r = true ↔ ClosedP g)) ∧ Gr w w' := fun {w'} gg hn => ⟨⟨false, rfl, ⟨fun h => (by cases h), fun h => absurd h hn⟩⟩, gw.trans gg⟩
  refine ⟨fun b w' => (b = false ↔ (g.nons[0]? = some .empty ∧ SymsOk g 1)) ∧ Gr w1 w', ?_, ?_⟩
  · refine ⟨_, _, _, B.c1 (sub.refl _), br_intro (fun h1 => ⟨?_, Gr.refl _⟩) fun h1 => ?_⟩
    · have h1 : x.nl = 0 := by have := eq_of_beq h1; omega
      have : g.nons[0]? = none := List.getElem?_eq_none (by omega)
      rw [this]; simp
    have h1 : x.nl ≠ 0 := fun h => by rw [h] at h1; simp at h1
    obtain ⟨s, ad, hs1, hsa, hs2⟩ := hg.n.get1 (i := 0) (by omega)
    refine ⟨_, _, _, B.c1 (sub.refl _), idx_0 hsa (by omega) ⟨s, hs2 _ (sub.refl _), ?_⟩⟩
    rw [bs_eq]
    change br (!decide (s = .empty)) _ _
    refine br_intro (fun h2 => ⟨?_, Gr.refl _⟩) fun h2 => ⟨_, _, _, _, _, _, _, _, _, _, _, _, _, B.row (sub.refl _), (g_symbols (x := x) hg hb 1 (by omega)).mono ?_⟩
    · have h2 : s ≠ .empty := by simpa using h2
      rw [hs1]; simp [h2]
    · have h2 : s = .empty := by simpa using h2
      rintro _ w2 ⟨⟨r, rfl, e⟩, g2⟩
      refine ⟨_, rfl, ?_, g2⟩
      rw [hs1, ← e]; simp [h2]
  rintro _ b w2 ⟨hb0, g2⟩
  refine br_intro (fun h1 => no g2 fun hp => ?_) fun h1 => ?_
  · have := hb0.2 ⟨hp.1, hp.2.1⟩
    rw [h1] at this; cases this
  obtain ⟨z1, z2⟩ := hb0.1 h1
  refine ⟨_, _, _, _, _, _, _, _, _, _, _, _, _, B.row g2, (g_productions (x := x) (hg.mono g2) hb 1 (by omega)).mono ?_⟩
  rintro _ w3 ⟨a3, l3, c3, xs, r2, rfl, hr2, hxs, h3⟩
  have g3 : Gr w1 w3 := g2.trans h3.gone1
  refine ⟨_, _, _, _, rfl, _, _, _, B.c4 g3, fun w5 hd => ?_⟩
  have g5 : Gr w1 w5 := g3.trans (Gr.drawn hd)
  refine ⟨fun w' => sub (hp w5) (hp w'), sub.refl _, br_intro (fun h4 => ?_) fun h4 => no g5 fun hp => ?_⟩
  rotate_left
  · rw [hr2.2 hp.2.2.1] at h4; cases h4
  have hpr := hr2.1 h4
  have hpl : 0 < x.pl := by have := hpr.1; omega
  obtain ⟨p, ad, vs, hp1, hpa, hp2, a, l, c, rfl, hlc, hp3⟩ := hg.p.get (i := 0) hpl
  rw [add0] at hp2
  have pr := hp3.mono g5
  have rb := hp2.mono g5
  have hP' : ClosedP g ↔ (p.left = (x.tl : Int) ∧ l = 1 ∧ p.right = [g.start] ∧ p.level = 0) := by
    unfold ClosedP
    constructor
    · rintro ⟨_, _, _, q, hq, q1, q2, q3⟩
      rw [hp1] at hq; cases hq
      exact ⟨by omega, by rw [← hp3.1, q2]; rfl, q2, q3⟩
    · rintro ⟨q1, _, q2, q3⟩
      exact ⟨z1, z2, hpr, p, hp1, by omega, q2, q3⟩
  refine idx_0 hpa hpl ⟨_, fun w' s => rb.cell0 s, _, _, _, fun w' s => B.c0 (sub.trans g5 s), br_intro (fun h6 => ?_) fun h6 => no g5 fun hp => ?_⟩
  rotate_left
  · have := (hP'.1 hp).1
    simp only [beq_eq_false_iff_ne, ne_eq] at h6; omega
  have h6 := eq_of_beq h6
  refine idx_0 hpa hpl ⟨_, _, _, fun w' s => rb.cell s (j := 1) rfl, br_intro (fun h7 => ?_) fun h7 => no g5 fun hp => ?_⟩
  rotate_left
  · have := (hP'.1 hp).2.1
    simp only [beq_eq_false_iff_ne, ne_eq] at h7; omega
  have h7 : l = 1 := by have := eq_of_beq h7; omega
  obtain ⟨y, ad2, hy1, hya, hy2⟩ := pr.get1 (i := 0) (by omega)
  have hr : p.right = [y] := by
    have hl := pr.1
    match hq : p.right, hl, hy1 with
    | [z], _, hy1 => simp at hy1; rw [hy1]
    | [], hl, _ => simp at hl; omega
    | _ :: _ :: _, hl, _ => simp at hl; omega
  refine idx_0 hpa hpl ⟨_, _, _, fun w' s => rb.cell s (j := 1) rfl, idx_0 hya (by omega) ⟨y, fun w' s => hy2 _ s, _, fun w' s => B.c3 (sub.trans g5 s), br_intro (fun h8 => ?_) fun h8 => no g5 fun hp => ?_⟩⟩
  rotate_left
  · have := (hP'.1 hp).2.2.1
    rw [hr] at this
    simp only [beq_eq_false_iff_ne, ne_eq] at h8
    simp at this; omega
  have h8 := eq_of_beq h8
  refine idx_0 hpa hpl ⟨_, fun w' s => rb.cell s (j := 2) rfl, ⟨_, rfl, ?_⟩, gw.trans g5⟩
  rw [hP', beq_iff_eq]
  exact ⟨fun h => ⟨h6, h7, by rw [hr, h8, hst], h⟩, fun h => h.2.2.2⟩
end
end Go.Proofs.YtaheggomcnbbiaaDoor
set_option linter.unusedVariables false
namespace Go.Proofs.YtaheggomcnbbiaaDoor
open Go.V
end Go.Proofs.YtaheggomcnbbiaaDoor
set_option linter.unusedVariables false
namespace Go.V
def rowB (nl : List Bool) (vs : List (List Bool)) : List Bool → List Int → List Bool
  | bs, [] => bs
  | bs, s :: r => if fnB nl s.toNat then rowB nl vs (addB bs (mbI (vs.getD s.toNat []))) r else addB bs (mbI (vs.getD s.toNat []))
def rowN (nl : List Bool) (row : List Int) : Bool := row.all fun s => fnB nl s.toNat
theorem rowB_nil (nl : List Bool) (vs : List (List Bool)) (bs : List Bool) : rowB nl vs bs [] = bs := rfl
theorem rowB_cons (nl : List Bool) (vs : List (List Bool)) (bs : List Bool) (s : Int) (r : List Int) : rowB nl vs bs (s :: r) = if fnB nl s.toNat then rowB nl vs (addB bs (mbI (vs.getD s.toNat []))) r else addB bs (mbI (vs.getD s.toNat [])) := rfl
end Go.V
namespace Go.Proofs.YtaheggomcnbbiaaDoor
open Go.V
section
variable {w : World} {L : List Asn} {a an ao : Option Addr} {l c nl cn ol co ks : Nat} {p : Option Addr} {bs nulls : List Bool} {row : List Int} {os : List (Option Addr)} {vss : List (List Bool)} {gs : List Value}
end
end Go.Proofs.YtaheggomcnbbiaaDoor
set_option linter.unusedVariables false
namespace Go.V
inductive Nul (g : GramT) : Int → Prop
  | mk (p : ProdT) : p ∈ g.prods → (∀ s ∈ p.right, Nul g s) → Nul g p.left
inductive Fst (g : GramT) : Int → Nat → Prop
  | tm (t : Nat) : t < g.T → Fst g (t : Int) t
  | pr (p : ProdT) (i : Nat) (s : Int) (t : Nat) : p ∈ g.prods → p.right[i]? = some s → (∀ x ∈ p.right.take i, Nul g x) → Fst g s t → Fst g p.left t
def NulR (g : GramT) (row : List Int) : Prop := ∀ s ∈ row, Nul g s
def FstR (g : GramT) (row : List Int) (t : Nat) : Prop := ∃ (i : Nat) (s : Int), row[i]? = some s ∧ (∀ x ∈ row.take i, Nul g x) ∧ Fst g s t
theorem rowN_iff {nl : List Bool} {row : List Int} : rowN nl row = true ↔ ∀ s ∈ row, fnB nl s.toNat = true := by
  unfold rowN; rw [List.all_eq_true]
theorem fnB_rowB (nl : List Bool) (vs : List (List Bool)) : ∀ (row : List Int) (bs : List Bool) (k : Nat), fnB (rowB nl vs bs row) k = true ↔ fnB bs k = true ∨ (k < bs.length ∧ ∃ (i : Nat) (s : Int), row[i]? = some s ∧ (∀ x ∈ row.take i, fnB nl x.toNat = true) ∧ fnB (vs.getD s.toNat []) k = true)
  | [], bs, k => by rw [rowB_nil]; simp
  | s :: r, bs, k => by
    rw [rowB_cons]
    constructor
    · intro h
      by_cases hz : fnB nl s.toNat = true
      · rw [if_pos hz, fnB_rowB nl vs r] at h
        rw [fnB_add_mb, addB_len, Bool.or_eq_true, Bool.and_eq_true, decide_eq_true_eq] at h
        rcases h with (h | ⟨h1, h2⟩) | ⟨h1, i, y, h2, h3, h4⟩
        · exact .inl h
        · exact .inr ⟨h1, 0, s, rfl, by simp, h2⟩
        · refine .inr ⟨h1, i + 1, y, h2, ?_, h4⟩
          intro x hx
          rw [List.take_succ_cons] at hx
          rcases List.mem_cons.1 hx with rfl | hx
          · exact hz
          · exact h3 x hx
      · rw [if_neg hz, fnB_add_mb, Bool.or_eq_true, Bool.and_eq_true, decide_eq_true_eq] at h
        rcases h with h | ⟨h1, h2⟩
        · exact .inl h
        · exact .inr ⟨h1, 0, s, rfl, by simp, h2⟩
    · intro h
      have hu : (fnB bs k = true ∨ (k < bs.length ∧ fnB (vs.getD s.toNat []) k = true)) → fnB (addB bs (mbI (vs.getD s.toNat []))) k = true := fun h => by
        rw [fnB_add_mb, Bool.or_eq_true, Bool.and_eq_true, decide_eq_true_eq]; exact h
      by_cases hz : fnB nl s.toNat = true
      · rw [if_pos hz, fnB_rowB nl vs r, addB_len]
        rcases h with h | ⟨h1, i, y, h2, h3, h4⟩
        · exact .inl (hu (.inl h))
        · match i, h2, h3 with
          | 0, h2, _ => cases h2; exact .inl (hu (.inr ⟨h1, h4⟩))
          | i + 1, h2, h3 => exact .inr ⟨h1, i, y, h2, fun x hx => h3 x (by rw [List.take_succ_cons]; exact List.mem_cons_of_mem _ hx), h4⟩
      · rw [if_neg hz]
        rcases h with h | ⟨h1, i, y, h2, h3, h4⟩
        · exact hu (.inl h)
        · match i, h2, h3 with
          | 0, h2, _ => cases h2; exact hu (.inr ⟨h1, h4⟩)
          | i + 1, h2, h3 => exact absurd (h3 s (by rw [List.take_succ_cons]; exact List.mem_cons_self)) hz
def InG (g : GramT) : Prop := ∀ p ∈ g.prods, ((g.T : Int) ≤ p.left ∧ p.left < g.T + g.N) ∧ ∀ s ∈ p.right, 0 ≤ s ∧ s < (g.T : Int) + g.N
structure MkF (g : GramT) (nl : List Bool) (vs : List (List Bool)) : Prop where
  ln : nl.length = g.T + g.N
  lv : vs.length = g.T + g.N
  le : ∀ v ∈ vs, v.length = g.T
  sn : ∀ i, fnB nl i = true → Nul g (i : Int)
  sv : ∀ i t, fnB (vs.getD i []) t = true → Fst g (i : Int) t
  tm : ∀ t, t < g.T → fnB (vs.getD t []) t = true
def ClP (nl : List Bool) (vs : List (List Bool)) (p : ProdT) : Prop := (rowN nl p.right = true → fnB nl p.left.toNat = true) ∧ rowB nl vs (vs.getD p.left.toNat []) p.right = vs.getD p.left.toNat []
theorem toNat_back {s : Int} (h : 0 ≤ s) : ((s.toNat : Nat) : Int) = s := by omega
theorem MkF.row {g : GramT} {nl : List Bool} {vs : List (List Bool)} (m : MkF g nl vs) {row : List Int} (hr : ∀ s ∈ row, 0 ≤ s ∧ s < (g.T : Int) + g.N) : (rowN nl row = true → NulR g row) ∧ ∀ bs t, fnB (rowB nl vs bs row) t = true → fnB bs t = true ∨ FstR g row t := by
  refine ⟨fun h s hs => ?_, fun bs t h => ?_⟩
  · have := m.sn _ (rowN_iff.1 h s hs)
    rwa [toNat_back (hr s hs).1] at this
  · rcases (fnB_rowB nl vs row bs t).1 h with h | ⟨_, i, s, h1, h2, h3⟩
    · exact .inl h
    · refine .inr ⟨i, s, h1, fun x hx => ?_, ?_⟩
      · have := m.sn _ (h2 x hx)
        rwa [toNat_back (hr x (List.mem_of_mem_take hx)).1] at this
      · have := m.sv _ _ h3
        rwa [toNat_back (hr s (List.mem_of_getElem? h1)).1] at this
theorem Nul.left {g : GramT} (hg : InG g) {s : Int} (h : Nul g s) : (g.T : Int) ≤ s ∧ s < g.T + g.N := by
  cases h with | mk p hp _ => exact (hg p hp).1
theorem Fst.lt {g : GramT} {s : Int} {t : Nat} (h : Fst g s t) : t < g.T := by
  induction h with
  | tm t h => exact h
  | pr p i s t _ _ _ _ ih => exact ih
structure AllF (g : GramT) (nl : List Bool) (vs : List (List Bool)) : Prop where
  ln : nl.length = g.T + g.N
  lv : vs.length = g.T + g.N
  le : ∀ v ∈ vs, v.length = g.T
  nn : ∀ i, fnB nl i = true ↔ Nul g (i : Int)
  nv : ∀ i t, fnB (vs.getD i []) t = true ↔ Fst g (i : Int) t
theorem MkF.getD_len {g : GramT} {nl : List Bool} {vs : List (List Bool)} (m : MkF g nl vs) {i : Nat} (hi : i < g.T + g.N) : (vs.getD i []).length = g.T := by
  have h : vs[i]? = some (vs[i]'(by rw [m.lv]; exact hi)) := List.getElem?_eq_getElem _
  rw [List.getD, h]
  exact m.le _ (List.mem_of_getElem? h)
theorem MkF.all {g : GramT} {nl : List Bool} {vs : List (List Bool)} (hg : InG g) (m : MkF g nl vs) (hc : ∀ p ∈ g.prods, ClP nl vs p) : AllF g nl vs := by
  have cn : ∀ s, Nul g s → fnB nl s.toNat = true := fun s h => by
    induction h with
    | mk p hp _ ih => exact (hc p hp).1 (rowN_iff.2 ih)
  have cv : ∀ s t, Fst g s t → fnB (vs.getD s.toNat []) t = true := fun s t h => by
    induction h with
    | tm t h => exact m.tm t h
    | pr p i s t hp hi hx hs ih =>
      have hl := (hg p hp).1
      rw [← (hc p hp).2, fnB_rowB]
      exact .inr ⟨by rw [m.getD_len (by omega)]; exact hs.lt, i, s, hi, fun x hx' => cn x (hx x hx'), ih⟩
  exact ⟨m.ln, m.lv, m.le, fun i => ⟨m.sn i, fun h => cn _ h⟩, fun i t => ⟨m.sv i t, fun h => cv _ _ h⟩⟩
theorem AllF.row {g : GramT} {nl : List Bool} {vs : List (List Bool)} (m : AllF g nl vs) {row : List Int} (hr : ∀ s ∈ row, 0 ≤ s ∧ s < (g.T : Int) + g.N) : (rowN nl row = true ↔ NulR g row) ∧ ∀ bs t, fnB (rowB nl vs bs row) t = true ↔ fnB bs t = true ∨ (t < bs.length ∧ FstR g row t) := by
  refine ⟨?_, fun bs t => ?_⟩
  · rw [rowN_iff]
    refine forall_congr' fun s => ⟨fun h hs => ?_, fun h hs => ?_⟩
    · have := (m.nn _).1 (h hs); rwa [toNat_back (hr s hs).1] at this
    · exact (m.nn _).2 (by rw [toNat_back (hr s hs).1]; exact h hs)
  · rw [fnB_rowB]
    refine or_congr Iff.rfl (and_congr Iff.rfl (exists_congr fun i => exists_congr fun s => ?_))
    refine ⟨fun ⟨h1, h2, h3⟩ => ⟨h1, fun x hx => ?_, ?_⟩, fun ⟨h1, h2, h3⟩ => ⟨h1, fun x hx => ?_, ?_⟩⟩
    · have := (m.nn _).1 (h2 x hx); rwa [toNat_back (hr x (List.mem_of_mem_take hx)).1] at this
    · have := (m.nv _ _).1 h3; rwa [toNat_back (hr s (List.mem_of_getElem? h1)).1] at this
    · exact (m.nn _).2 (by rw [toNat_back (hr x (List.mem_of_mem_take hx)).1]; exact h2 x hx)
    · exact (m.nv _ _).2 (by rw [toNat_back (hr s (List.mem_of_getElem? h1)).1]; exact h3)
def opn (v : List Bool) : Nat := v.length - cntB v
end Go.V
set_option linter.unusedVariables false
namespace Go.V
theorem exists_least {P : Nat → Prop} (h : ∃ m, P m) : ∃ m, P m ∧ ∀ k, P k → m ≤ k := by
  obtain ⟨m, hm⟩ := h
  induction m using Nat.strongRecOn with
  | _ m ih =>
    by_cases hl : ∃ k, k < m ∧ P k
    · obtain ⟨k, hk, hp⟩ := hl
      exact ih k hk hp
    · exact ⟨m, hm, fun k hk => Nat.le_of_not_lt fun hlt => hl ⟨k, hlt, hk⟩⟩
theorem least_fn {α : Type} (P : α → Nat → Prop) : ∃ μ : α → Nat, (∀ x m, P x m → μ x ≤ m) ∧ ∀ x, (∃ m, P x m) → P x (μ x) := by
  have h : ∀ x, ∃ m, (∀ k, P x k → m ≤ k) ∧ ((∃ k, P x k) → P x m) := fun x => by
    by_cases hx : ∃ k, P x k
    · obtain ⟨m, h1, h2⟩ := exists_least hx
      exact ⟨m, h2, fun _ => h1⟩
    · exact ⟨0, fun k hk => absurd ⟨k, hk⟩ hx, fun h => absurd h hx⟩
  exact ⟨fun x => (h x).choose, fun x => (h x).choose_spec.1, fun x => (h x).choose_spec.2⟩
theorem cnt_mono2 {m m' : Nat → Bool} (h : ∀ k, m k = true → m' k = true) : ∀ n, cnt n m ≤ cnt n m' ∧ (cnt n m = cnt n m' → ∀ k, k < n → m k = m' k)
  | 0 => ⟨Nat.le_refl _, fun _ k hk => by omega⟩
  | n + 1 => by
    obtain ⟨h1, h2⟩ := cnt_mono2 h n
    rw [cnt_succ, cnt_succ]
    have h3 := h n
    cases e : m n <;> cases e' : m' n
    · refine ⟨by simpa using h1, fun he k hk => ?_⟩
      by_cases ek : k = n
      · subst ek; rw [e, e']
      · exact h2 (by simpa using he) k (by omega)
    · simp only [Bool.false_eq_true, if_false, if_true]
      exact ⟨by omega, fun he => by omega⟩
    · rw [e, e'] at h3; simp at h3
    · refine ⟨by simpa using h1, fun he k hk => ?_⟩
      by_cases ek : k = n
      · subst ek; rw [e, e']
      · exact h2 (by simpa using he) k (by omega)
theorem cntB_inj {bs cs : List Bool} (hl : cs.length = bs.length) (hs : ∀ k, fnB bs k = true → fnB cs k = true) (hc : cntB cs = cntB bs) : cs = bs := by
  refine fnB_inj hl fun k => ?_
  by_cases hk : k < bs.length
  · unfold cntB at hc
    rw [hl] at hc
    exact ((cnt_mono2 hs bs.length).2 hc.symm k hk).symm
  · rw [fnB_out (by omega), fnB_out (by omega)]
theorem fnB_setT {nl : List Bool} {k : Nat} (hk : k < nl.length) (j : Nat) : fnB (nl.set k true) j = (fnB nl j || j == k) := by
  unfold fnB
  rw [List.getD_eq_getElem?_getD, List.getD_eq_getElem?_getD, List.getElem?_set]
  by_cases e : k = j
  · subst e; simp [hk]
  · have : ¬ j = k := fun h => e h.symm
    simp [e, this]
theorem opn_set {nl : List Bool} {k : Nat} (hk : k < nl.length) (hf : fnB nl k = false) : opn (nl.set k true) + 1 = opn nl := by
  have h1 : cntB (nl.set k true) = cntB nl + 1 := by
    unfold cntB
    rw [List.length_set, ← cnt_add hk hf]
    exact cnt_congr fun j _ => fnB_setT hk j
  have h2 := cntB_le (nl.set k true)
  rw [List.length_set] at h2
  unfold opn
  rw [List.length_set]
  omega
theorem getD_setV {vs : List (List Bool)} {k : Nat} (hk : k < vs.length) (v : List Bool) (j : Nat) : (vs.set k v).getD j [] = if j = k then v else vs.getD j [] := by
  rw [List.getD_eq_getElem?_getD, List.getD_eq_getElem?_getD, List.getElem?_set]
  by_cases e : k = j
  · subst e; simp [hk]
  · have : ¬ j = k := fun h => e h.symm
    simp [e, this]
theorem inG {g : GramT} (h : EitherP g) : InG g ∧ g.T ≤ 65 ∧ g.N ≤ 65 ∧ 0 < g.N ∧ 0 < g.T ∧ g.prods.length ≤ 97 := by
  have hT : g.T = g.terms.length := rfl
  have hN : g.N = g.nons.length := rfl
  rcases h with ⟨s, p, _⟩ | ⟨h0, s, p, q, hq, q1, q2, q3⟩
  · have h2 := syms_iff.1 s
    have t0 : 0 < g.terms.length := (List.getElem?_eq_some_iff.1 s.1).1
    refine ⟨fun r hr => ?_, by omega, by omega, by omega, by omega, by have := p.2.1; omega⟩
    have := p.2.2.1 r hr
    exact ⟨⟨by have := this.1.1; omega, this.1.2.1⟩, fun y hy => by have := this.2 y hy; unfold symOk at this; omega⟩
  · have h2 := syms_iff.1 s
    have t0 : 0 < g.terms.length := (List.getElem?_eq_some_iff.1 s.1).1
    refine ⟨fun r hr => ?_, by omega, by omega, by omega, by omega, by have := p.2.1; omega⟩
    have hd : r = q ∨ r ∈ g.prods.drop 1 := by
      cases hg : g.prods with
      | nil => rw [hg] at hr; cases hr
      | cons a l =>
        rw [hg] at hr hq
        cases hq
        rcases List.mem_cons.1 hr with h | h
        · exact .inl h
        · exact .inr h
    rcases hd with rfl | hd
    · refine ⟨by omega, fun y hy => ?_⟩
      rw [q2, List.mem_singleton] at hy
      subst hy
      have := p.2.2.2.2; omega
    · have := p.2.2.1 r hd
      exact ⟨⟨by have := this.1.1; omega, this.1.2.1⟩, fun y hy => by have := this.2 y hy; unfold symOk at this; omega⟩
end Go.V
set_option linter.unusedVariables false
namespace Go.V
theorem name_it {α : Sort _} (a : α) : ∃ q, q = a := ⟨a, rfl⟩
def FC (x : GA) (k14 n : Nat) (o : Option Addr) (j c : Nat) : List Value := [.slice x.ta x.tl x.tc, .slice x.na x.nl x.nc, .slice x.la x.ll x.lc, .int .i64 x.s, .slice x.pa x.pl x.pc, .slice (some ⟨k14, 0, none⟩) n n, .slice o j c]
end Go.V
namespace Go.Proofs.YtaheggomcnbbiaaDoor
open Go.V
section
variable {w : World} {L : List Asn} {g : GramT} {x : GA}
end
end Go.Proofs.YtaheggomcnbbiaaDoor
set_option linter.unusedVariables false
namespace Go.V
def NnP (g : GramT) (nn : List Bool) : Prop := nn.length = g.N ∧ ∀ i : Nat, fnB nn i = true ↔ Nul g ((g.T + i : Nat) : Int)
def BsP (g : GramT) (row : List Int) (bs : List Bool) : Prop := bs.length = g.T ∧ ∀ t, fnB bs t = true ↔ FstR g row t
def SyP (g : GramT) (row : List Int) : Prop := ∀ s ∈ row, 0 ≤ s ∧ s < (g.T : Int) + g.N
theorem fnB_dropL (l : List Bool) (k i : Nat) : fnB (l.drop k) i = fnB l (k + i) := by
  unfold fnB; rw [List.getD_eq_getElem?_getD, List.getD_eq_getElem?_getD, List.getElem?_drop]
theorem BsP.inj {g : GramT} {row : List Int} {bs cs : List Bool} (h : BsP g row bs) (k : BsP g row cs) : bs = cs :=
  fnB_inj (h.1.trans k.1.symm) fun i => by rw [Bool.eq_iff_iff, h.2, k.2]
theorem NnP.inj {g : GramT} {bs cs : List Bool} (h : NnP g bs) (k : NnP g cs) : bs = cs :=
  fnB_inj (h.1.trans k.1.symm) fun i => by rw [Bool.eq_iff_iff, h.2, k.2]
end Go.V
namespace Go.Proofs.YtaheggomcnbbiaaDoor
open Go.V
section
variable {w : World} {L : List Asn} {g : GramT} {x : GA}
end
end Go.Proofs.YtaheggomcnbbiaaDoor
set_option linter.unusedVariables false
namespace Go.V
def SsP (g : GramT) (bss : List (List Bool)) : Prop := bss.length = g.N ∧ ∀ (i : Nat) bs, bss[i]? = some bs → bs.length = g.T ∧ ∀ t, fnB bs t = true ↔ Fst g ((g.T + i : Nat) : Int) t
theorem SsP.inj {g : GramT} {bs cs : List (List Bool)} (h : SsP g bs) (k : SsP g cs) : bs = cs := by
  apply List.ext_getElem?
  intro i
  cases h1 : bs[i]? with
  | none =>
    have := List.getElem?_eq_none_iff.1 h1
    exact (List.getElem?_eq_none (by rw [k.1, ← h.1]; exact this)).symm
  | some b =>
    have hl := (List.getElem?_eq_some_iff.1 h1).1
    obtain ⟨c, h2⟩ : ∃ c, cs[i]? = some c := ⟨cs[i]'(by rw [k.1, ← h.1]; exact hl), List.getElem?_eq_getElem _⟩
    rw [h2]
    obtain ⟨a1, a2⟩ := h.2 i b h1
    obtain ⟨b1, b2⟩ := k.2 i c h2
    exact congrArg some (fnB_inj (a1.trans b1.symm) fun t => by rw [Bool.eq_iff_iff, a2, b2])
end Go.V
namespace Go.Proofs.YtaheggomcnbbiaaDoor
open Go.V
section
variable {w : World} {L : List Asn} {g : GramT} {x : GA}
end
end Go.Proofs.YtaheggomcnbbiaaDoor
set_option linter.unusedVariables false
namespace Go.V
end Go.V
namespace Go.Proofs.YtaheggomcnbbiaaDoor
open Go.V
section
variable {w : World} {L : List Asn} {a a2 : Option Addr} {l l2 c c2 : Nat} {xs ys : List Int}
end
end Go.Proofs.YtaheggomcnbbiaaDoor
set_option linter.unusedVariables false
namespace Go.V
def by1 (n : UInt8) : ByteArray := ⟨⟨[n]⟩⟩
theorem rowH.part {h : Hp} {b : Nat} {vs : List Value} (r : rowH h ⟨b, 0, none⟩ vs) (i n : Nat) : rowH h ((⟨b, 0, none⟩ : Addr).add (mulS i n)) ((vs.drop (i * n)).take n) := fun j v hj => by
  rw [List.getElem?_take] at hj
  split at hj
  · rw [List.getElem?_drop] at hj
    rw [add_add, mulS_eq]
    exact r _ v hj
  · cases hj
end Go.V
set_option linter.unusedVariables false
namespace Go.V
theorem rdS_lit {α : Type} [Rep α] {h : Hp} {xs : List α} {b : Nat} {vs : List Value} (r : rowH h ⟨b, 0, none⟩ vs) (hx : ∀ (i : Nat) x, xs[i]? = some x → rd h x ((vs.drop (i * Rep.n α)).take (Rep.n α))) : rdS h xs (some ⟨b, 0, none⟩) xs.length :=
  ⟨rfl, fun i x hi => ⟨_, _, rfl, r.part i _, hx i x hi⟩⟩
end Go.V
namespace Go.Proofs.YtaheggomcnbbiaaDoor
open Go.V
section
variable {w : World} {L : List Asn}
end
end Go.Proofs.YtaheggomcnbbiaaDoor
set_option linter.unusedVariables false
namespace Go.V
end Go.V
namespace Go.Proofs.YtaheggomcnbbiaaDoor
open Go.V
section
variable {w : World} {L : List Asn}
end
end Go.Proofs.YtaheggomcnbbiaaDoor
set_option linter.unusedVariables false
namespace Go.V
end Go.V
set_option linter.unusedVariables false
namespace Go.Proofs.YtaheggomcnbbiaaDoor
open Go.V
end Go.Proofs.YtaheggomcnbbiaaDoor
set_option linter.unusedVariables false
namespace Go.Proofs.YtaheggomcnbbiaaDoor
open Go.V
section
variable {w : World} {L : List Asn} {g : GramT} {x : GA} {a a2 : Option Addr} {l l2 c c2 : Nat} {xs ys : List Int}
end
end Go.Proofs.YtaheggomcnbbiaaDoor
set_option linter.unusedVariables false
namespace Go.V
end Go.V
namespace Go.Proofs.YtaheggomcnbbiaaDoor
open Go.V
section
variable {w : World} {L : List Asn} {g : GramT} {x : GA}
end
end Go.Proofs.YtaheggomcnbbiaaDoor
set_option linter.unusedVariables false
namespace Go.V
def Hop (g : GramT) (s y : Int) : Prop := ∃ p ∈ g.prods, p.left = s ∧ ∃ n : Nat, p.right[n]? = some y ∧ ∀ x ∈ p.right.take n, Nul g x
theorem Fst.hop {g : GramT} {s0 : Int} {ms : List Bool} (h0 : (g.T : Int) ≤ s0) (iG : InG g) (hc : ∀ s y, (s = s0 ∨ (0 ≤ s ∧ fnB ms s.toNat = true)) → Hop g s y → fnB ms y.toNat = true) {s : Int} {t : Nat} (h : Fst g s t) : (s = s0 ∨ (0 ≤ s ∧ fnB ms s.toNat = true)) → fnB ms t = true := by
  induction h with
  | tm t ht =>
    rintro (h | ⟨_, h⟩)
    · omega
    · simpa using h
  | pr p i s' t hp h1 h2 h3 ih =>
    intro hR
    exact ih (.inr ⟨((iG p hp).2 s' (List.mem_of_getElem? h1)).1, hc _ _ hR ⟨p, hp, rfl, i, h1, h2⟩⟩)
structure Srch (g : GramT) (s0 : Int) (ms : List Bool) (xs : List Int) (D : Int → Prop) : Prop where
  ln : ms.length = g.T + g.N
  rg : ∀ y ∈ xs, 0 ≤ y ∧ y < (g.T : Int) + g.N
  cl : ∀ s, (s = s0 ∨ (0 ≤ s ∧ fnB ms s.toNat = true)) → s ∈ xs ∨ D s ∨ ∀ y, Hop g s y → fnB ms y.toNat = true
theorem Srch.push {g : GramT} {s0 : Int} {ms : List Bool} {xs : List Int} {D : Int → Prop} {y : Int} (h : Srch g s0 ms xs D) (hy : 0 ≤ y ∧ y < (g.T : Int) + g.N) : Srch g s0 (ms.set y.toNat true) (xs ++ [y]) D := by
  have hk : y.toNat < ms.length := by rw [h.ln]; omega
  refine ⟨by rw [List.length_set]; exact h.ln, fun z hz => ?_, fun s hs => ?_⟩
  · rcases List.mem_append.1 hz with hz | hz
    · exact h.rg z hz
    · simp at hz; subst hz; exact hy
  · have mono : ∀ k, fnB ms k = true → fnB (ms.set y.toNat true) k = true := fun k hk' => by rw [fnB_setT hk, hk']; rfl
    by_cases e : s = y
    · exact .inl (by simp [e])
    · have : s = s0 ∨ (0 ≤ s ∧ fnB ms s.toNat = true) := by
        rcases hs with hs | ⟨h1, h2⟩
        · exact .inl hs
        · rw [fnB_setT hk, Bool.or_eq_true, beq_iff_eq] at h2
          rcases h2 with h2 | h2
          · exact .inr ⟨h1, h2⟩
          · omega
      rcases h.cl s this with h | h | h
      · exact .inl (List.mem_append.2 (.inl h))
      · exact .inr (.inl h)
      · exact .inr (.inr fun z hz => mono _ (h z hz))
theorem Srch.done {g : GramT} {s0 : Int} {ms : List Bool} {xs : List Int} {s1 : Int} (h : Srch g s0 ms xs (· = s1)) (hd : ∀ y, Hop g s1 y → fnB ms y.toNat = true) : Srch g s0 ms xs fun _ => False :=
  ⟨h.ln, h.rg, fun s hs => by
    rcases h.cl s hs with h | rfl | h
    · exact .inl h
    · exact .inr (.inr hd)
    · exact .inr (.inr h)⟩
end Go.V
namespace Go.Proofs.YtaheggomcnbbiaaDoor
open Go.V
section
variable {w : World} {L : List Asn} {g : GramT} {x : GA}
end
end Go.Proofs.YtaheggomcnbbiaaDoor
set_option linter.unusedVariables false
namespace Go.V
theorem name_it0 {α : Sort _} (a : α) : ∃ q, q = a := ⟨a, rfl⟩
theorem rowH_app {h : Hp} {a : Addr} {us vs : List Value} (h1 : rowH h a us) (h2 : rowH h (a.add us.length) vs) : rowH h a (us ++ vs) := fun j v hj => by
  by_cases hl : j < us.length
  · rw [List.getElem?_append_left hl] at hj; exact h1 j v hj
  · rw [List.getElem?_append_right (by omega)] at hj
    have := h2 _ v hj
    rw [add_add, show us.length + (j - us.length) = j from by omega] at this
    exact this
theorem rowH_flat {α : Type} {h : Hp} {n : Nat} {f : α → List Value} (hf : ∀ x, (f x).length = n) : ∀ (ts : List α) (ad : Addr), (∀ (i : Nat) x, ts[i]? = some x → rowH h (ad.add (mulS i n)) (f x)) → rowH h ad (ts.flatMap f)
  | [], ad, _ => fun j v hj => by simp at hj
  | t :: ts, ad, hh => by
    rw [List.flatMap_cons]
    refine rowH_app ?_ ?_
    · have := hh 0 t rfl
      rwa [mulS_eq, Nat.zero_mul, show ad.add 0 = ad from by simp [Addr.add]] at this
    · rw [hf]
      refine rowH_flat hf ts _ fun i x hx => ?_
      have := hh (i + 1) x hx
      rw [add_add, mulS_eq]
      rwa [mulS_eq, Nat.succ_mul, Nat.add_comm] at this
theorem rowH_unflat {α : Type} {h : Hp} {n : Nat} {f : α → List Value} (hf : ∀ x, (f x).length = n) : ∀ (ts : List α) (ad : Addr), rowH h ad (ts.flatMap f) → ∀ (i : Nat) x, ts[i]? = some x → rowH h (ad.add (mulS i n)) (f x)
  | [], ad, _, i, x, hx => by simp at hx
  | t :: ts, ad, hh, i, x, hx => by
    rw [List.flatMap_cons] at hh
    match i, hx with
    | 0, hx =>
      cases hx
      rw [mulS_eq, Nat.zero_mul, show ad.add 0 = ad from by simp [Addr.add]]
      exact hh.take
    | i + 1, hx =>
      have := rowH_unflat hf ts _ hh.drop i x hx
      rw [hf, add_add, mulS_eq] at this
      rwa [mulS_eq, Nat.succ_mul, Nat.add_comm]
def termV (t : TermT) : List Value := [.string t.name, .int .i64 t.level]
def termsV (ts : List TermT) : List Value := ts.flatMap termV
def prodV (p : (Option Addr × Nat) × ProdT) : List Value := [.int .i64 p.2.left, .slice p.1.1 p.2.right.length p.1.2, .int .i64 p.2.level]
def prodsV (os : List (Option Addr × Nat)) (ps : List ProdT) : List Value := (os.zip ps).flatMap prodV
def rightsA (os : List (Option Addr × Nat)) (ps : List ProdT) : List Asn := List.zipWith (fun o p => own 1 o.1 p.right.length o.2 (iv p.right)) os ps
theorem termsV_len (ts : List TermT) : (termsV ts).length = ts.length * 2 := by
  induction ts with
  | nil => rfl
  | cons t ts ih => simp only [termsV, List.flatMap_cons, List.length_append, List.length_cons, termV, List.length_nil] at ih ⊢; omega
theorem rdT_row {h : Hp} {ts : List TermT} {ad : Addr} {l : Nat} (r : rdS h ts (some ad) l) : rowH h ad (termsV ts) :=
  rowH_flat (f := termV) (n := 2) (fun _ => rfl) ts ad fun i x hx => by
    obtain ⟨ad', vs, e, h1, h2⟩ := r.2 i x hx
    cases e
    have h2 : vs = termV x := h2
    rw [← h2]; exact h1
theorem rdT_own {h : Hp} {ts : List TermT} {a : Option Addr} {l c : Nat} (hl : ts.length = l) (r : own 2 a l c (termsV ts) h) : rdS h ts a l := by
  refine ⟨hl, fun i x hx => ?_⟩
  rcases own_rdVh r with e | ⟨ad, rfl, hc⟩
  · have := termsV_len ts
    rw [e] at this
    have h0 := (List.getElem?_eq_some_iff.1 hx).1
    simp at this; omega
  · exact ⟨ad, termV x, rfl, rowH_unflat (f := termV) (n := 2) (fun _ => rfl) ts ad hc i x hx, rfl⟩
theorem prodsV_row {os : List (Option Addr × Nat)} {ps : List ProdT} {h : Hp} {ad : Addr} (hr : rowH h ad (prodsV os ps)) {i : Nat} {o : Option Addr × Nat} {p : ProdT} (ho : os[i]? = some o) (hp : ps[i]? = some p) : rowH h (ad.add (mulS i 3)) [.int .i64 p.left, .slice o.1 p.right.length o.2, .int .i64 p.level] :=
  rowH_unflat (f := prodV) (n := 3) (fun _ => rfl) (os.zip ps) ad hr i (o, p) (by rw [List.getElem?_zip_eq_some]; exact ⟨ho, hp⟩)
theorem prodsV_len {os : List (Option Addr × Nat)} {ps : List ProdT} (h : os.length = ps.length) : (prodsV os ps).length = ps.length * 3 := by
  have : ∀ zs : List ((Option Addr × Nat) × ProdT), (zs.flatMap prodV).length = zs.length * 3 := fun zs => by
    induction zs with
    | nil => rfl
    | cons t ts ih => simp only [List.flatMap_cons, List.length_append, List.length_cons, prodV, List.length_nil] at ih ⊢; omega
  unfold prodsV; rw [this, List.length_zip, h, Nat.min_self]
theorem prodsV_snoc {os : List (Option Addr × Nat)} {ps : List ProdT} (h : os.length = ps.length) (o : Option Addr × Nat) (p : ProdT) : prodsV (os ++ [o]) (ps ++ [p]) = prodsV os ps ++ prodV (o, p) := by
  unfold prodsV; rw [List.zip_append h]; simp
theorem rightsA_snoc {os : List (Option Addr × Nat)} {ps : List ProdT} (h : os.length = ps.length) (o : Option Addr × Nat) (p : ProdT) : rightsA (os ++ [o]) (ps ++ [p]) = rightsA os ps ++ [own 1 o.1 p.right.length o.2 (iv p.right)] := by
  unfold rightsA; rw [List.zipWith_append h]; rfl
def ownG (g : GramT) (x : GA) (os : List (Option Addr × Nat)) : List Asn := [own 3 x.pa g.prods.length x.pc (prodsV os g.prods), sta (rightsA os g.prods), own 2 x.ta g.terms.length x.tc (termsV g.terms), own 1 x.na g.nons.length x.nc (g.nons.map fun s => Value.string s), own 1 x.la g.levels.length x.lc (iv g.levels)]
structure ownX (g : GramT) (x : GA) : Prop where
  t : x.tl = g.terms.length
  n : x.nl = g.nons.length
  l : x.ll = g.levels.length
  s : x.s = g.start
  p : x.pl = g.prods.length
theorem rdRight {L : List Asn} {h : Hp} {os : List (Option Addr × Nat)} {ps : List ProdT} {k : Nat} {o : Option Addr × Nat} {p : ProdT} (i : Nat) (hl : starL L h) (ho : os[k]? = some o) (hp : ps[k]? = some p) (e : nthA L i = sta (rightsA os ps) := by rfl) (hi : Nat.blt i (lenA L) = true := by rfl) : rdS h p.right o.1 p.right.length ∧ p.right.length ≤ o.2 := by
  obtain ⟨h1, s, ha⟩ := starL_nth i (by simpa [lenA_eq] using hi) hl
  rw [e] at ha
  obtain ⟨h2, s2, hb⟩ := starL_in (A := own 1 o.1 p.right.length o.2 (iv p.right)) (List.mem_of_getElem? (i := k) (by unfold rightsA; rw [List.getElem?_zipWith, ho, hp])) ha
  refine ⟨(rdI_of rfl (own_rdVh hb)).mono (s2.trans s), ?_⟩
  rcases hb with ⟨_, h, h', _⟩ | ⟨_, _, _, _, _, _, _, _, h⟩ <;> omega
theorem rdA {L : List Asn} {h : Hp} {A : Asn} (i : Nat) (hl : starL L h) (e : nthA L i = A := by rfl) (hi : Nat.blt i (lenA L) = true := by rfl) : ∃ h1, sub h1 h ∧ A h1 := by
  obtain ⟨h1, s, ha⟩ := starL_nth i (by simpa [lenA_eq] using hi) hl
  exact ⟨h1, s, e ▸ ha⟩
theorem ownH_le' {sz l c : Nat} {a : Option Addr} {vs : List Value} {h : Hp} (ha : own sz a l c vs h) : l ≤ c := by
  rcases ha with ⟨_, rfl, rfl, _⟩ | ⟨_, _, _, _, _, _, _, _, h⟩
  · exact Nat.le_refl _
  · exact h
theorem ownG_gR {g : GramT} {x : GA} {os : List (Option Addr × Nat)} {L : List Asn} {h : Hp} (hx : ownX g x) (ho : os.length = g.prods.length) (hs : starL (ownG g x os ++ L) h) : gR h g x := by
  obtain ⟨h1, s1, a1⟩ := rdA (A := own 3 x.pa g.prods.length x.pc (prodsV os g.prods)) 0 hs
  obtain ⟨h2, s2, a2⟩ := rdA (A := own 2 x.ta g.terms.length x.tc (termsV g.terms)) 2 hs
  obtain ⟨h3, s3, a3⟩ := rdA (A := own 1 x.na g.nons.length x.nc (g.nons.map fun s => Value.string s)) 3 hs
  obtain ⟨h4, s4, a4⟩ := rdA (A := own 1 x.la g.levels.length x.lc (iv g.levels)) 4 hs
  obtain ⟨q1, q2, q3, q4, q5⟩ := hx
  refine ⟨?_, ?_, ?_, q4, ?_, ?_, ?_, ?_, ?_⟩
  · rw [q1]; exact (rdT_own rfl a2).mono s2
  · rw [q2]; exact (rdS_of_row rfl (own_rdVh a3)).mono s3
  · rw [q3]; exact (rdI_of rfl (own_rdVh a4)).mono s4
  · rw [q5]
    refine ⟨rfl, fun i p hp => ?_⟩
    have hi := (List.getElem?_eq_some_iff.1 hp).1
    obtain ⟨o, hoi⟩ : ∃ o, os[i]? = some o := ⟨os[i]'(by omega), List.getElem?_eq_getElem _⟩
    rcases own_rdVh a1 with e | ⟨ad, e, hc⟩
    · have := prodsV_len ho
      rw [e] at this; simp at this; omega
    · obtain ⟨r1, r2⟩ := rdRight (k := i) (o := o) (p := p) 1 hs hoi hp
      exact ⟨ad, _, e, (prodsV_row hc hoi hp).mono s1, o.1, _, o.2, rfl, r2, r1⟩
  · rw [q1]; exact ownH_le' a2
  · rw [q2]; exact ownH_le' a3
  · rw [q3]; exact ownH_le' a4
  · rw [q5]; exact ownH_le' a1
end Go.V
namespace Go.Proofs.YtaheggomcnbbiaaDoor
open Go.V
section
variable {w : World} {L : List Asn} {g : GramT} {x : GA}
set_option maxHeartbeats 4000000 in
theorem d_Copy (hg : gR (hp w) g x) (hb : okG g) (hbT : g.terms.length * 24 ≤ 140737488355328) (hbN : g.nons.length * 16 ≤ 140737488355328) : Run Tryd.prog n_presageref02_Copy [.agg ⟨x.cells⟩] w fun v w' => ∃ (x' : GA) (os : List (Option Addr × Nat)), v = .agg ⟨x'.cells⟩ ∧ ownX g x' ∧ os.length = g.prods.length ∧ St w' (ownG g x' os ++ all w) := by
  refine run_presageref02_Copy _ _ _ _ _ _ _ _ _ _ _ _ _ w _ ?_
  refine gbox hg fun k1 w1 gw hg B => ?_
  have tl := hg.t.1
  have nl := hg.n.1
  have ll := hg.l.1
  have pl := hg.p.1
  have hst := hg.s
  obtain ⟨b1, b2, b3, b4, b5, b6, b7⟩ := hb
  have gs : sub (hp w) (hp w1) := gw
  have h1 := St.all w1
  unfold V.all at h1
  generalize hH : hp w1 = H at *
  refine newC_i h1 fun k2 w2 h => ⟨_, B.c3 (rdH 1 h.l), newC_i h fun k3 w3 h => stR_i h rfl (by intro v hv; simp at hv; rcases hv with rfl | rfl | rfl | rfl | rfl <;> rfl) fun w4 h => ?_⟩
  refine ⟨_, _, _, h.cell 0, _, _, _, B.c0 (rdH 2 h.l), ?_⟩
  refine (app_own' tyOk (rfl : kdOfT Ty _ = .slice _) rfl rfl rfl (own_nil 2 h) (src_slice (news := termsV g.terms) tyOk (rfl : kdOfT Ty _ = .slice _) (n := x.tl) (by rw [termsV_len, tl]) ?_ (by
      intro u hu
      obtain ⟨t, _, ht⟩ := List.mem_flatMap.1 hu
      simp [termV] at ht; rcases ht with rfl | rfl <;> rfl)) (by show (0 + x.tl) * 24 ≤ _; omega) (by omega)).mono ?_
  · by_cases h0 : x.tl = 0
    · exact .inl h0
    · obtain ⟨t, ad, vs, _, ha, _⟩ := hg.t.get (i := 0) (by omega)
      have ht := hg.t
      rw [ha] at ht
      exact .inr ⟨ad, ha, fun j u hj => (rdT_row ht).cell (rdH 2 h.l) hj⟩
  rintro _ w5 ⟨ta, tc, rfl, h⟩
  rw [Nat.zero_add, ← tl] at h ⊢
  rw [List.nil_append] at h
  refine ⟨_, _, _, rfl, st1_i (h.pick 4 [1, 0, 2, 3]) (by simp) fun w6 h => ?_⟩
  refine ⟨_, _, _, h.cell 1, _, _, _, B.c1 (rdH 3 h.l), ?_⟩
  refine (app_own' tyOk (rfl : kdOfT Ty _ = .slice _) rfl rfl rfl (own_nil 1 h) (src_slice (news := g.nons.map fun s => Value.string s) tyOk (rfl : kdOfT Ty _ = .slice _) (n := x.nl) (by rw [List.length_map, nl, Nat.mul_one]) ?_ (by
      intro u hu
      obtain ⟨t, _, rfl⟩ := List.mem_map.1 hu
      rfl)) (by show (0 + x.nl) * 16 ≤ _; omega) (by omega)).mono ?_
  · rcases (hg.n.mono (rdH 3 h.l)).row with h0 | ⟨ad, ha, hc⟩
    · exact .inl (by have := congrArg List.length h0; rw [List.length_map, nl] at this; exact this)
    · exact .inr ⟨ad, ha, fun j u hj => cellH_w (hc j u hj)⟩
  rintro _ w7 ⟨na, nc, rfl, h⟩
  rw [Nat.zero_add, ← nl] at h ⊢
  rw [List.nil_append] at h
  refine ⟨_, _, _, rfl, ?_⟩
  rw [add_lit0]
  refine st1_i (h.pick 5 [1, 0, 2, 3, 4]) (by simp) fun w8 h => ?_
  refine ⟨_, _, _, h.cell 2, _, _, _, B.c2 (rdH 4 h.l), ?_⟩
  refine (app_own' tyOk (rfl : kdOfT Ty _ = .slice _) rfl rfl rfl (own_nil 1 h) (src_slice (news := iv g.levels) tyOk (rfl : kdOfT Ty _ = .slice _) (n := x.ll) (by rw [iv_len, ll, Nat.mul_one]) ?_ (by
      intro u hu
      obtain ⟨t, _, rfl⟩ := List.mem_map.1 hu
      rfl)) (by show (0 + x.ll) * 8 ≤ _; omega) (by omega)).mono ?_
  · rcases (hg.l.mono (rdH 4 h.l)).iv with h0 | ⟨ad, ha, hc⟩
    · exact .inl (by have := congrArg List.length h0; rw [iv_len, ll] at this; exact this)
    · exact .inr ⟨ad, ha, fun j u hj => cellH_w (hc j u hj)⟩
  rintro _ w9 ⟨la, lc, rfl, h⟩
  rw [Nat.zero_add, ← ll] at h ⊢
  rw [List.nil_append] at h
  refine ⟨_, _, _, rfl, ?_⟩
  rw [add_lit0]
  refine st1_i (h.pick 6 [1, 0, 2, 3, 4, 5]) (by simp) fun w10 h => ?_
  obtain ⟨K, hK⟩ := name_it0 (fun (pa : Option Addr) (j pc : Nat) => [Value.slice ta g.terms.length tc, .slice na g.nons.length nc, .slice la g.levels.length lc, .int .i64 x.s, .slice pa j pc])
  refine ⟨fun n w' => ∃ (j : Nat) (pa : Option Addr) (pc : Nat) (os : List (Option Addr × Nat)), n = j ∧ j ≤ g.prods.length ∧ os.length = j ∧ St w' [cel k3 (K pa j pc), own 3 pa j pc (prodsV os (g.prods.take j)), sta (rightsA os (g.prods.take j)), own 1 la g.levels.length lc (iv g.levels), own 1 na g.nons.length nc (g.nons.map fun s => Value.string s), own 2 ta g.terms.length tc (termsV g.terms), cel k2 [.slice none 0 0, .slice none 0 0, .slice none 0 0, .int .i64 0, .slice none 0 0], has H], fun n _ => g.prods.length - n.toNat, ⟨0, none, 0, [], rfl, by omega, rfl, ?_⟩, ?_⟩
  · have h : St w10 (sta (rightsA [] (g.prods.take 0)) :: _) := St.flat.2 (show St w10 ([] ++ _) from own_nil 3 h)
    rw [hK]
    exact h.pick 8 [2, 1, 0, 3, 4, 5, 6, 7]
  clear h
  rintro _ n w11 ⟨j, pa, pc, os, rfl, hj, hos, h⟩
  have hrl : (g.prods.take j).length = j := by rw [List.length_take]; omega
  refine ⟨_, _, _, B.c4 (rdH 7 h.l), br_intro (fun h2 => ?_) fun h2 => ?_⟩
  · have h2 : j < g.prods.length := by have := of_decide_eq_true h2; omega
    obtain ⟨p, ad, vs, hp1, hpa, hp2, ra, rl, rc, rfl, hrc, hp3⟩ := hg.p.get (i := j) (by omega)
    have hpm := List.mem_of_getElem? hp1
    have b7' := b7 p hpm
    have rl1 := hp3.1
    have et : g.prods.take (j + 1) = g.prods.take j ++ [p] := by rw [List.take_add_one, hp1]; rfl
    intro w12 hd
    have h := h.drawn hd
    refine ⟨fun w => sub H (hp w), rdH 7 h.l, _, _, _, fun w s => B.c4 s, idx_n hpa (by omega) ⟨_, fun w s => hp2.cell0 s, _, _, _, fun w s => B.c4 s, idx_n hpa (by omega) ⟨_, fun w s => hp2.cell s (j := 2) rfl, newC_i h fun k28 w17 h => ⟨rdH 8 h.l, stR_i h rfl (by intro v hv; simp at hv; rcases hv with rfl | rfl | rfl <;> rfl) fun w18 h => ?_⟩⟩⟩⟩
    intro w19 hd
    have h := h.drawn hd
    refine ⟨fun w => rowH (hp w) ⟨k28, 0, none⟩ [.int .i64 p.left, .slice none 0 0, .int .i64 p.level] ∧ sub H (hp w), ⟨rdCel 0 h.l, rdH 8 h.l⟩, _, _, _, fun w s => s.1.cell (sub.refl _) (j := 1) rfl, _, _, _, fun w s => B.c4 s.2, idx_n hpa (by omega) ⟨_, _, _, fun w s => hp2.cell s.2 (j := 1) rfl, ?_⟩⟩
    refine (app_own' tyOk (rfl : kdOfT Ty _ = .slice _) rfl rfl rfl (own_nil 1 h) (src_slice (news := iv p.right) tyOk (rfl : kdOfT Ty _ = .slice _) (n := rl) (by rw [iv_len, rl1, Nat.mul_one]) ?_ (by
      intro u hu
      obtain ⟨t, _, rfl⟩ := List.mem_map.1 hu
      rfl)) (by show (0 + rl) * 8 ≤ _; omega) (by omega)).mono ?_
    · rcases (hp3.mono (rdH 8 h.l)).iv with h0 | ⟨ad, ha, hc⟩
      · exact .inl (by have := congrArg List.length h0; rw [iv_len, rl1] at this; exact this)
      · exact .inr ⟨ad, ha, fun j u hj => cellH_w (hc j u hj)⟩
    rintro _ w23 ⟨qa, qc, rfl, h⟩
    rw [Nat.zero_add, ← rl1] at h ⊢
    rw [List.nil_append] at h
    refine ⟨_, _, _, rfl, ⟨rdCel 1 h.l, rdH 9 h.l⟩, ?_⟩
    rw [add_lit0]
    refine st1_i (h.pick 10 [1, 0, 2, 3, 4, 5, 6, 7, 8, 9]) (by simp) fun w24 h => ?_
    have ck : w24.cell? ((⟨k3, 0, none⟩ : Addr).add 4) = some (.slice pa j pc) := by
      have r : rowH (hp w24) ⟨k3, 0, none⟩ (K pa j pc) := rdCel 2 h.l
      rw [hK] at r
      exact r.cell (sub.refl _) (j := 4) rfl
    refine ⟨_, _, _, ck, _, _, _, _, _, h.row.at (sub.refl _) rfl, newC_i h fun k41 w25 h => ?_⟩
    have h : St w25 [cel k41 (prodV ((qa, qc), p)), cel k28 _, own 1 qa p.right.length qc (iv p.right), cel k3 (K pa j pc), own 3 pa j pc (prodsV os (g.prods.take j)), sta (rightsA os (g.prods.take j)), own 1 la g.levels.length lc (iv g.levels), own 1 na g.nons.length nc (g.nons.map fun s => Value.string s), own 2 ta g.terms.length tc (termsV g.terms), cel k2 [.slice none 0 0, .slice none 0 0, .slice none 0 0, .int .i64 0, .slice none 0 0], has H] := h
    refine (app_one tyOk (rfl : kdOfT Ty _ = .slice _) (rfl : kdOfT Ty _ = .slice _) rfl rfl rfl (h.pick 11 [0, 4, 2, 3, 5, 6, 7, 8, 9, 10]) rfl (by simp [oneC, prodV]) (by show (_ + 1) * 40 ≤ _; omega) (by omega)).mono ?_
    rintro _ w26 ⟨pa', pc', rfl, h⟩
    refine ⟨_, _, _, rfl, ?_⟩
    rw [add_lit0]
    refine st1_i (h.pick 10 [3, 0, 2, 4, 5, 6, 7, 8, 9]) (by rw [hK]; simp) fun w27 h => ?_
    have eK : (K pa j pc).set 4 (.slice pa' (j + 1) pc') = K pa' (j + 1) pc' := by rw [hK]; rfl
    rw [eK] at h
    have h := St.snoc (A := own 1 qa p.right.length qc (iv p.right)) (M := rightsA os (g.prods.take j)) (h.pick 9 [2, 3, 0, 1, 4, 5, 6, 7, 8])
    have e1 := rightsA_snoc (hos.trans hrl.symm) (qa, qc) p
    have e2 := prodsV_snoc (hos.trans hrl.symm) (qa, qc) p
    dsimp only at e1
    rw [← e1, ← et] at h
    refine ⟨⟨by omega, by omega⟩, ⟨j + 1, pa', pc', os ++ [(qa, qc)], by simp, by omega, by simp [hos], ?_⟩, msr h2⟩
    rw [et] at h ⊢
    rw [e2]
    exact h.pick 8 [1, 2, 0, 3, 4, 5, 6, 7]
  · have h2 : j = g.prods.length := by have := of_decide_eq_false h2; omega
    subst h2
    rw [List.take_length] at h
    have r : rowH (hp w11) ⟨k3, 0, none⟩ (K pa g.prods.length pc) := rdCel 0 h.l
    rw [hK] at r
    refine ⟨_, _, _, _, _, _, _, _, _, _, _, _, _, r.at (sub.refl _) rfl, stR_i (h.pick 8 [6, 1, 2, 3, 4, 5, 7]) rfl (by intro v hv; simp at hv; rcases hv with rfl | rfl | rfl | rfl | rfl <;> rfl) fun w28 h => ?_⟩
    refine ⟨_, _, _, _, _, _, _, _, _, _, _, _, _, h.row.at (sub.refl _) rfl, ⟨ta, g.terms.length, tc, na, g.nons.length, nc, la, g.levels.length, lc, x.s, pa, g.prods.length, pc⟩, os, rfl, ⟨rfl, rfl, rfl, hst, rfl⟩, hos, ?_⟩
    exact St.on (N := [_, _, _, _, _]) (h.pick 7 [1, 2, 5, 4, 3, 6]) (has_i gs)
end
end Go.Proofs.YtaheggomcnbbiaaDoor
set_option linter.unusedVariables false
namespace Go.V
theorem valid_sizes {g : GramT} (h : ValidP g) : g.terms.length ≤ 65 ∧ g.nons.length ≤ 64 ∧ g.prods.length ≤ 97 ∧ ¬ g.nons[0]? = some .empty := by
  obtain ⟨iG, bT, bN, pN, pT, bP⟩ := inG (.inl h)
  refine ⟨bT, h.1.2.2.2.1, bP, fun he => ?_⟩
  have := h.1.2.2.2.2.2.2.2.2.2 _ (List.mem_of_getElem? (i := 0) (by simpa using he))
  simp [isNameS] at this
end Go.V
namespace Go.Proofs.YtaheggomcnbbiaaDoor
open Go.V
section
variable {w : World} {L : List Asn} {g : GramT} {x : GA}
end
end Go.Proofs.YtaheggomcnbbiaaDoor
set_option linter.unusedVariables false
namespace Go.V
theorem bv_get {ms : List Bool} {u : Nat} (h : u < ms.length) : (bv ms)[u]? = some (.bool (fnB ms u)) := by
  unfold bv; rw [List.getElem?_map, List.getElem?_eq_getElem h, fnB_get (List.getElem?_eq_getElem h)]; rfl
theorem cel_bit {w : World} {k u : Nat} {ms : List Bool} (r : rowH (hp w) ⟨k, 0, none⟩ (bv ms)) (h : u < ms.length) : w.cell? ((⟨k, 0, none⟩ : Addr).add u) = some (.bool (fnB ms u)) := r.cell (sub.refl _) (j := u) (bv_get h)
theorem bv_setL (ms : List Bool) (u : Nat) (b : Bool) : (bv ms).set u (.bool b) = bv (ms.set u b) := by simp [bv, List.map_set]
theorem rep_bv (n : Nat) : List.replicate n (Value.bool false) = bv (List.replicate n false) := by simp [bv]
end Go.V
namespace Go.Proofs.YtaheggomcnbbiaaDoor
open Go.V
section
variable {w : World} {L : List Asn} {g : GramT} {x : GA} {a an : Option Addr} {l c nl cn : Nat} {row : List Int} {nn : List Bool}
end
end Go.Proofs.YtaheggomcnbbiaaDoor
set_option linter.unusedVariables false
namespace Go.V
def symN (T : Nat) (nn : List Bool) : List Bool := List.replicate T false ++ nn
theorem fnB_symN {T : Nat} {nn : List Bool} (i : Nat) : fnB (symN T nn) i = (decide (T ≤ i) && fnB nn (i - T)) := by
  unfold symN fnB
  rw [List.getD_eq_getElem?_getD, List.getD_eq_getElem?_getD]
  by_cases h : T ≤ i
  · rw [List.getElem?_append_right (by simpa using h), List.length_replicate]; simp [h]
  · rw [List.getElem?_append_left (by simp; omega), List.getElem?_replicate, if_pos (by omega)]
    simp [h]
def slT (T p : Nat) : Value := .slice (some ⟨p, 0, none⟩) T T
end Go.V
namespace Go.Proofs.YtaheggomcnbbiaaDoor
open Go.V
section
variable {w : World} {L : List Asn} {T ks q : Nat} {x : GA} {a an ao : Option Addr} {l c nl cn ol co : Nat} {row : List Int} {nn bs : List Bool} {ps : List Nat} {vs : List (List Bool)}
end
end Go.Proofs.YtaheggomcnbbiaaDoor
set_option linter.unusedVariables false
namespace Go.V
def celsA (ps : List Nat) (vs : List (List Bool)) : List Asn := List.zipWith (fun p v => cel p (bv v)) ps vs
theorem rdCC {L : List Asn} {h : Hp} {ps : List Nat} {vs : List (List Bool)} {k p : Nat} {v : List Bool} (i : Nat) (hl : starL L h) (hp : ps[k]? = some p) (hv : vs[k]? = some v) (e : nthA L i = sta (celsA ps vs) := by rfl) (hi : Nat.blt i (lenA L) = true := by rfl) : rowH h ⟨p, 0, none⟩ (bv v) := by
  obtain ⟨h1, s, ha⟩ := starL_nth i (by simpa [lenA_eq] using hi) hl
  rw [e] at ha
  obtain ⟨h2, s2, hb⟩ := starL_in (A := cel p (bv v)) (List.mem_of_getElem? (i := k) (by unfold celsA; rw [List.getElem?_zipWith, hp, hv])) ha
  exact (cel_row hb).mono (s2.trans s)
theorem rdOwn {L : List Asn} {h : Hp} {a : Option Addr} {sz l c : Nat} {vs : List Value} (i : Nat) (hl : starL L h) (e : nthA L i = own sz a l c vs := by rfl) (hi : Nat.blt i (lenA L) = true := by rfl) : rdV a vs h := by
  obtain ⟨h1, s, ha⟩ := starL_nth i (by simpa [lenA_eq] using hi) hl
  rw [e] at ha
  exact rdV.mono s (own_rdVh ha)
theorem NnP.sym {g : GramT} {nn : List Bool} (h : NnP g nn) (iG : InG g) (i : Nat) : fnB (symN g.T nn) i = true ↔ Nul g (i : Int) := by
  rw [fnB_symN, Bool.and_eq_true, decide_eq_true_eq]
  constructor
  · rintro ⟨h1, h2⟩
    have := (h.2 _).1 h2
    rwa [show ((g.T + (i - g.T) : Nat) : Int) = i from by omega] at this
  · intro hN
    have hl := hN.left iG
    refine ⟨by omega, (h.2 _).2 ?_⟩
    rwa [show ((g.T + (i - g.T) : Nat) : Int) = i from by omega]
theorem NnP.rowN {g : GramT} {nn : List Bool} (h : NnP g nn) (iG : InG g) {p : ProdT} (hp : p ∈ g.prods) : rowN (symN g.T nn) p.right = true → fnB (symN g.T nn) p.left.toNat = true := fun hr => by
  obtain ⟨h1, h2⟩ := iG p hp
  rw [h.sym iG, toNat_back (by omega)]
  refine .mk p hp fun s hs => ?_
  have := (h.sym iG _).1 (rowN_iff.1 hr s hs)
  rwa [toNat_back (h2 s hs).1] at this
end Go.V
namespace Go.Proofs.YtaheggomcnbbiaaDoor
open Go.V
section
variable {w : World} {L : List Asn} {g : GramT} {x : GA}
end
end Go.Proofs.YtaheggomcnbbiaaDoor
set_option linter.unusedVariables false
namespace Go.V
structure TabR (h : Hp) (g : GramT) (x : GA) (b k4 : Nat) (o : Option Addr) (c : Nat) (nn : List Bool) (ps : List Nat) (vs : List (List Bool)) : Prop where
  f : rowH h ⟨b, 0, none⟩ (FC x k4 g.N o (g.T + g.N) c)
  n : rowH h ⟨k4, 0, none⟩ (bv nn)
  p : ∃ ad, o = some ad ∧ rowH h ad (ps.map (slT g.T))
  v : ∀ (i : Nat) p v, ps[i]? = some p → vs[i]? = some v → rowH h ⟨p, 0, none⟩ (bv v)
theorem TabR.mono {h h' : Hp} {g : GramT} {x : GA} {b k4 : Nat} {o : Option Addr} {c : Nat} {nn : List Bool} {ps : List Nat} {vs : List (List Bool)} (s : sub h h') (t : TabR h g x b k4 o c nn ps vs) : TabR h' g x b k4 o c nn ps vs :=
  ⟨t.f.mono s, t.n.mono s, by obtain ⟨ad, e, r⟩ := t.p; exact ⟨ad, e, r.mono s⟩, fun i p v h1 h2 => (t.v i p v h1 h2).mono s⟩
end Go.V
namespace Go.Proofs.YtaheggomcnbbiaaDoor
open Go.V
section
variable {w : World} {L : List Asn} {g : GramT} {x : GA} {b k4 : Nat} {o a : Option Addr} {c l cl : Nat} {nn : List Bool} {ps : List Nat} {vs : List (List Bool)} {row : List Int}
end
end Go.Proofs.YtaheggomcnbbiaaDoor
set_option linter.unusedVariables false
namespace Go.Proofs.YtaheggomcnbbiaaDoor
open Go.V
section
variable {w : World} {L : List Asn} {g : GramT} {x y : GA} {a a2 : Option Addr} {l l2 c c2 : Nat} {xs ys : List Int} {bs : List Bool} {xss : List (List Int)}
end
end Go.Proofs.YtaheggomcnbbiaaDoor
set_option linter.unusedVariables false
namespace Go.V
def NulRes (g : GramT) (e : Int) (nn : List Bool) : Prop := (¬ EitherP g ∧ e = 1 ∧ nn = []) ∨ (EitherP g ∧ e = 0 ∧ NnP g nn)
def SetRes (g : GramT) (e : Int) (bss : List (List Bool)) : Prop := (¬ EitherP g ∧ e = 1 ∧ bss = []) ∨ (EitherP g ∧ e = 0 ∧ SsP g bss)
def RowRes (g : GramT) (row : List Int) (e : Int) (b : Bool) (xs : List Int) : Prop := (¬ (EitherP g ∧ SyP g row) ∧ e = 1 ∧ b = false ∧ xs = []) ∨ ((EitherP g ∧ SyP g row) ∧ e = 0 ∧ (b = true ↔ NulR g row) ∧ ∃ bs, BsP g row bs ∧ xs = mbI bs)
theorem NulRes.inj {g : GramT} {e e' : Int} {nn nn' : List Bool} (h : NulRes g e nn) (k : NulRes g e' nn') : e = e' ∧ nn = nn' := by
  rcases h with ⟨h1, rfl, rfl⟩ | ⟨h1, rfl, h2⟩ <;> rcases k with ⟨k1, rfl, rfl⟩ | ⟨k1, rfl, k2⟩
  · exact ⟨rfl, rfl⟩
  · exact absurd k1 h1
  · exact absurd h1 k1
  · exact ⟨rfl, h2.inj k2⟩
theorem SetRes.inj {g : GramT} {e e' : Int} {nn nn' : List (List Bool)} (h : SetRes g e nn) (k : SetRes g e' nn') : e = e' ∧ nn = nn' := by
  rcases h with ⟨h1, rfl, rfl⟩ | ⟨h1, rfl, h2⟩ <;> rcases k with ⟨k1, rfl, rfl⟩ | ⟨k1, rfl, k2⟩
  · exact ⟨rfl, rfl⟩
  · exact absurd k1 h1
  · exact absurd h1 k1
  · exact ⟨rfl, h2.inj k2⟩
theorem RowRes.inj {g : GramT} {row : List Int} {e e' : Int} {b b' : Bool} {xs xs' : List Int} (h : RowRes g row e b xs) (k : RowRes g row e' b' xs') : e = e' ∧ b = b' ∧ xs = xs' := by
  rcases h with ⟨h1, rfl, rfl, rfl⟩ | ⟨h1, rfl, h2, bs, h3, rfl⟩ <;> rcases k with ⟨k1, rfl, rfl, rfl⟩ | ⟨k1, rfl, k2, bs', k3, rfl⟩
  · exact ⟨rfl, rfl, rfl⟩
  · exact absurd k1 h1
  · exact absurd h1 k1
  · exact ⟨rfl, by rw [Bool.eq_iff_iff, h2, k2], by rw [h3.inj k3]⟩
theorem SetRes.le {g : GramT} {e : Int} {bss : List (List Bool)} (h : SetRes g e bss) : bss.length ≤ 65 ∧ ∀ bs ∈ bss, bs.length ≤ 65 := by
  rcases h with ⟨_, _, rfl⟩ | ⟨he, _, h1, h2⟩
  · simp
  · obtain ⟨iG, bT, bN, pN, pT, bP⟩ := inG he
    refine ⟨by omega, fun bs hb => ?_⟩
    obtain ⟨i, hi, e⟩ := List.mem_iff_getElem.1 hb
    have := (h2 i bs (by rw [← e]; exact List.getElem?_eq_getElem hi)).1
    omega
theorem RowRes.le {g : GramT} {row : List Int} {e : Int} {b : Bool} {xs : List Int} (h : RowRes g row e b xs) : xs.length ≤ 65 := by
  rcases h with ⟨_, _, _, rfl⟩ | ⟨he, _, _, bs, h1, rfl⟩
  · simp
  · obtain ⟨iG, bT, bN, pN, pT, bP⟩ := inG he.1
    have := cntB_le bs
    rw [mbI_len, ]
    have := h1.1
    omega
theorem NulRes.le {g : GramT} {e : Int} {nn : List Bool} (h : NulRes g e nn) : nn.length ≤ 65 := by
  rcases h with ⟨_, _, rfl⟩ | ⟨he, _, h1, h2⟩
  · simp
  · obtain ⟨iG, bT, bN, pN, pT, bP⟩ := inG he
    omega
end Go.V
namespace Go.Proofs.YtaheggomcnbbiaaDoor
open Go.V
section
variable {w : World} {L : List Asn} {g : GramT} {x : GA} {a a2 : Option Addr} {l l2 c c2 : Nat} {bs : List Bool} {row : List Int}
end
end Go.Proofs.YtaheggomcnbbiaaDoor
set_option linter.unusedVariables false
namespace Go.V
end Go.V
namespace Go.Proofs.YtaheggomcnbbiaaDoor
open Go.V
section
variable {w : World} {L : List Asn} {g : GramT} {x : GA} {a a2 : Option Addr} {l l2 c c2 : Nat} {row : List Int}
end
end Go.Proofs.YtaheggomcnbbiaaDoor
set_option linter.unusedVariables false
namespace Go.Proofs.YtaheggomcnbbiaaDoor
open Go.V
abbrev n_reach_Productive : FuncId := 38
def ann_reach_Productive : Ann := { rngs := [], loops := [], joins := [], blocks := [] }
set_option maxRecDepth 100000 in
def vc_reach_Productive (p0g_0a : Option Addr) (p0g_0l : Nat) (p0g_0c : Nat) (p0g_1a : Option Addr) (p0g_1l : Nat) (p0g_1c : Nat) (p0g_2a : Option Addr) (p0g_2l : Nat) (p0g_2c : Nat) (p0g_3 : Int) (p0g_4a : Option Addr) (p0g_4l : Nat) (p0g_4c : Nat) (w : World) (R : Value → World → Prop) : Prop :=
  new w
  (Obj.cells
  (Array.mk [Value.slice p0g_0a p0g_0l p0g_0c, Value.slice p0g_1a p0g_1l p0g_1c, Value.slice p0g_2a p0g_2l p0g_2c, Value.int IntKind.i64 p0g_3, Value.slice p0g_4a p0g_4l p0g_4c])
  27)
  fun (k1 : Nat) (w1 : World) =>
  ∃ (o1 : Option Addr),
  ∃ (k2 : Nat),
  ∃ (k3 : Nat),
  ∃ (o2 : Option Addr),
  ∃ (k4 : Nat),
  ∃ (k5 : Nat),
  ∃ (o3 : Option Addr),
  ∃ (k6 : Nat),
  ∃ (k7 : Nat),
  ∃ (n1 : Int),
  ∃ (o4 : Option Addr),
  ∃ (k8 : Nat),
  ∃ (k9 : Nat),
  V.rowAt w1 (Addr.mk k1 0 none) 0 5 =
  some [Value.slice o1 k2 k3, Value.slice o2 k4 k5, Value.slice o3 k6 k7, Value.int IntKind.i64 n1, Value.slice o4 k8 k9] ∧
  RunE Proofs.Tryd.prog Ev 61
  [Value.agg (Array.mk [Value.slice o1 k2 k3, Value.slice o2 k4 k5, Value.slice o3 k6 k7, Value.int IntKind.i64 n1, Value.slice o4 k8 k9])] w1
  fun (v1 : Value) (w2 : World) =>
  ∃ (b1 : Bool),
  v1 = Value.bool b1 ∧
  br (!b1)
  (∃ (o5 : Option Addr),
  ∃ (k10 : Nat),
  ∃ (k11 : Nat),
  ∃ (o6 : Option Addr),
  ∃ (k12 : Nat),
  ∃ (k13 : Nat),
  ∃ (o7 : Option Addr),
  ∃ (k14 : Nat),
  ∃ (k15 : Nat),
  ∃ (n2 : Int),
  ∃ (o8 : Option Addr),
  ∃ (k16 : Nat),
  ∃ (k17 : Nat),
  V.rowAt w2 (Addr.mk k1 0 none) 0 5 =
  some
  [Value.slice o5 k10 k11, Value.slice o6 k12 k13, Value.slice o7 k14 k15, Value.int IntKind.i64 n2,
  Value.slice o8 k16 k17] ∧
  RunE Proofs.Tryd.prog Ev 72
  [Value.agg
  (Array.mk
  [Value.slice o5 k10 k11, Value.slice o6 k12 k13, Value.slice o7 k14 k15, Value.int IntKind.i64 n2,
  Value.slice o8 k16 k17])]
  w2 fun (v2 : Value) (w3 : World) =>
  ∃ (b2 : Bool),
  v2 = Value.bool b2 ∧
  br (!b2) (R (Value.tuple (Array.mk [Value.slice none 0 0, Value.int IntKind.i64 1])) w3)
  (∃ (o9 : Option Addr),
  ∃ (k18 : Nat),
  ∃ (k19 : Nat),
  ∃ (o10 : Option Addr),
  ∃ (k20 : Nat),
  ∃ (k21 : Nat),
  ∃ (o11 : Option Addr),
  ∃ (k22 : Nat),
  ∃ (k23 : Nat),
  ∃ (n3 : Int),
  ∃ (o12 : Option Addr),
  ∃ (k24 : Nat),
  ∃ (k25 : Nat),
  V.rowAt w3 (Addr.mk k1 0 none) 0 5 =
  some
  [Value.slice o9 k18 k19, Value.slice o10 k20 k21, Value.slice o11 k22 k23,
  Value.int IntKind.i64 n3, Value.slice o12 k24 k25] ∧
  RunE Proofs.Tryd.prog Ev 62
  [Value.agg
  (Array.mk
  [Value.slice o9 k18 k19, Value.slice o10 k20 k21,
  Value.slice o11 k22 k23, Value.int IntKind.i64 n3,
  Value.slice o12 k24 k25])]
  w3 fun (v3 : Value) (w4 : World) =>
  ∃ (o13 : Option Addr),
  ∃ (n4 : Int),
  v3 =
  Value.agg (Array.mk [Value.pointer o13, Value.int IntKind.i64 n4]) ∧
  RunE Proofs.Tryd.prog Ev 73
  [Value.agg (Array.mk [Value.pointer o13, Value.int IntKind.i64 n4])]
  w4 fun (v4 : Value) (w5 : World) =>
  ∃ (o14 : Option Addr),
  ∃ (k26 : Nat),
  ∃ (k27 : Nat),
  v4 = Value.slice o14 k26 k27 ∧
  R
  (Value.tuple
  (Array.mk
  [Value.slice o14 k26 k27, Value.int IntKind.i64 0]))
  w5))
  (∃ (o15 : Option Addr),
  ∃ (k28 : Nat),
  ∃ (k29 : Nat),
  ∃ (o16 : Option Addr),
  ∃ (k30 : Nat),
  ∃ (k31 : Nat),
  ∃ (o17 : Option Addr),
  ∃ (k32 : Nat),
  ∃ (k33 : Nat),
  ∃ (n5 : Int),
  ∃ (o18 : Option Addr),
  ∃ (k34 : Nat),
  ∃ (k35 : Nat),
  V.rowAt w2 (Addr.mk k1 0 none) 0 5 =
  some
  [Value.slice o15 k28 k29, Value.slice o16 k30 k31, Value.slice o17 k32 k33, Value.int IntKind.i64 n5,
  Value.slice o18 k34 k35] ∧
  RunE Proofs.Tryd.prog Ev 62
  [Value.agg
  (Array.mk
  [Value.slice o15 k28 k29, Value.slice o16 k30 k31, Value.slice o17 k32 k33, Value.int IntKind.i64 n5,
  Value.slice o18 k34 k35])]
  w2 fun (v5 : Value) (w6 : World) =>
  ∃ (o19 : Option Addr),
  ∃ (n6 : Int),
  v5 = Value.agg (Array.mk [Value.pointer o19, Value.int IntKind.i64 n6]) ∧
  RunE Proofs.Tryd.prog Ev 73 [Value.agg (Array.mk [Value.pointer o19, Value.int IntKind.i64 n6])] w6
  fun (v6 : Value) (w7 : World) =>
  ∃ (o20 : Option Addr),
  ∃ (k36 : Nat),
  ∃ (k37 : Nat),
  v6 = Value.slice o20 k36 k37 ∧
  R (Value.tuple (Array.mk [Value.slice o20 k36 k37, Value.int IntKind.i64 0])) w7)
set_option maxRecDepth 100000 in
theorem run_reach_Productive (p0g_0a : Option Addr) (p0g_0l : Nat) (p0g_0c : Nat) (p0g_1a : Option Addr) (p0g_1l : Nat) (p0g_1c : Nat) (p0g_2a : Option Addr) (p0g_2l : Nat) (p0g_2c : Nat) (p0g_3 : Int) (p0g_4a : Option Addr) (p0g_4l : Nat) (p0g_4c : Nat) (w : World) (R : Value → World → Prop) (h : vc_reach_Productive p0g_0a p0g_0l p0g_0c p0g_1a p0g_1l p0g_1c p0g_2a p0g_2l p0g_2c p0g_3 p0g_4a p0g_4l p0g_4c w R) : Run Tryd.prog 38 [(.agg #[(.slice p0g_0a p0g_0l p0g_0c), (.slice p0g_1a p0g_1l p0g_1c), (.slice p0g_2a p0g_2l p0g_2c), (.int .i64 p0g_3), (.slice p0g_4a p0g_4l p0g_4c)])] w R :=
  run_ev tyOk fnOk mixed Tryd.func38 ann_reach_Productive ((by kernel_rfl : fnV Tryd.prog Ty Fn Ev ann_reach_Productive Tryd.f38 [(.agg #[(.slice p0g_0a p0g_0l p0g_0c), (.slice p0g_1a p0g_1l p0g_1c), (.slice p0g_2a p0g_2l p0g_2c), (.int .i64 p0g_3), (.slice p0g_4a p0g_4l p0g_4c)])] w R = vc_reach_Productive p0g_0a p0g_0l p0g_0c p0g_1a p0g_1l p0g_1c p0g_2a p0g_2l p0g_2c p0g_3 p0g_4a p0g_4l p0g_4c w R) ▸ h)

abbrev n_reach_productive : FuncId := 62
def ann_reach_productive : Ann := { rngs := [], loops := [], joins := [], blocks := [] }
set_option maxRecDepth 100000 in
def vc_reach_productive (p0g_0a : Option Addr) (p0g_0l : Nat) (p0g_0c : Nat) (p0g_1a : Option Addr) (p0g_1l : Nat) (p0g_1c : Nat) (p0g_2a : Option Addr) (p0g_2l : Nat) (p0g_2c : Nat) (p0g_3 : Int) (p0g_4a : Option Addr) (p0g_4l : Nat) (p0g_4c : Nat) (w : World) (R : Value → World → Prop) : Prop :=
  new w
  (Obj.cells
  (Array.mk [Value.slice p0g_0a p0g_0l p0g_0c, Value.slice p0g_1a p0g_1l p0g_1c, Value.slice p0g_2a p0g_2l p0g_2c, Value.int IntKind.i64 p0g_3, Value.slice p0g_4a p0g_4l p0g_4c])
  27)
  fun (k1 : Nat) (w1 : World) =>
  new w1 (Obj.cells (Array.mk [Value.pointer none, Value.int IntKind.i64 0]) 85) fun (k2 : Nat) (w2 : World) =>
  ∃ (o1 : Option Addr),
  ∃ (k3 : Nat),
  ∃ (k4 : Nat),
  ∃ (o2 : Option Addr),
  ∃ (k5 : Nat),
  ∃ (k6 : Nat),
  ∃ (o3 : Option Addr),
  ∃ (k7 : Nat),
  ∃ (k8 : Nat),
  ∃ (n1 : Int),
  ∃ (o4 : Option Addr),
  ∃ (k9 : Nat),
  ∃ (k10 : Nat),
  V.rowAt w2 (Addr.mk k1 0 none) 0 5 =
  some [Value.slice o1 k3 k4, Value.slice o2 k5 k6, Value.slice o3 k7 k8, Value.int IntKind.i64 n1, Value.slice o4 k9 k10] ∧
  RunE Proofs.Tryd.prog Ev 86
  [Value.agg (Array.mk [Value.slice o1 k3 k4, Value.slice o2 k5 k6, Value.slice o3 k7 k8, Value.int IntKind.i64 n1, Value.slice o4 k9 k10])] w2
  fun (v1 : Value) (w3 : World) =>
  ∃ (o5 : Option Addr),
  ∃ (n2 : Int),
  v1 = Value.agg (Array.mk [Value.pointer o5, Value.int IntKind.i64 n2]) ∧
  new w3 (Obj.cells (Array.mk [Value.pointer none, Value.int IntKind.i64 0]) 85) fun (k11 : Nat) (w4 : World) =>
  stR w4 (Addr.mk k11 0 none) [Value.pointer o5, Value.int IntKind.i64 n2] fun (w5 : World) =>
  ∃ (o6 : Option Addr),
  ∃ (k12 : Nat),
  ∃ (k13 : Nat),
  ∃ (o7 : Option Addr),
  ∃ (k14 : Nat),
  ∃ (k15 : Nat),
  ∃ (o8 : Option Addr),
  ∃ (k16 : Nat),
  ∃ (k17 : Nat),
  ∃ (n3 : Int),
  ∃ (o9 : Option Addr),
  ∃ (k18 : Nat),
  ∃ (k19 : Nat),
  V.rowAt w5 (Addr.mk k1 0 none) 0 5 =
  some
  [Value.slice o6 k12 k13, Value.slice o7 k14 k15, Value.slice o8 k16 k17, Value.int IntKind.i64 n3,
  Value.slice o9 k18 k19] ∧
  RunE Proofs.Tryd.prog Ev 87
  [Value.agg
  (Array.mk
  [Value.slice o6 k12 k13, Value.slice o7 k14 k15, Value.slice o8 k16 k17, Value.int IntKind.i64 n3,
  Value.slice o9 k18 k19]),
  Value.func (Fn.func 88) (Array.mk []) (Array.mk [Value.pointer (some (Addr.mk k11 0 none))])]
  w5 fun (v2 : Value) (w6 : World) =>
  v2 = Value.tuple (Array.mk []) ∧
  ∃ (o10 : Option Addr),
  ∃ (n4 : Int),
  V.rowAt w6 (Addr.mk k11 0 none) 0 2 = some [Value.pointer o10, Value.int IntKind.i64 n4] ∧
  stR w6 (Addr.mk k2 0 none) [Value.pointer o10, Value.int IntKind.i64 n4] fun (w7 : World) =>
  ∃ (o11 : Option Addr),
  ∃ (n5 : Int),
  V.rowAt w7 (Addr.mk k2 0 none) 0 2 = some [Value.pointer o11, Value.int IntKind.i64 n5] ∧
  R (Value.agg (Array.mk [Value.pointer o11, Value.int IntKind.i64 n5])) w7
set_option maxRecDepth 100000 in
theorem run_reach_productive (p0g_0a : Option Addr) (p0g_0l : Nat) (p0g_0c : Nat) (p0g_1a : Option Addr) (p0g_1l : Nat) (p0g_1c : Nat) (p0g_2a : Option Addr) (p0g_2l : Nat) (p0g_2c : Nat) (p0g_3 : Int) (p0g_4a : Option Addr) (p0g_4l : Nat) (p0g_4c : Nat) (w : World) (R : Value → World → Prop) (h : vc_reach_productive p0g_0a p0g_0l p0g_0c p0g_1a p0g_1l p0g_1c p0g_2a p0g_2l p0g_2c p0g_3 p0g_4a p0g_4l p0g_4c w R) : Run Tryd.prog 62 [(.agg #[(.slice p0g_0a p0g_0l p0g_0c), (.slice p0g_1a p0g_1l p0g_1c), (.slice p0g_2a p0g_2l p0g_2c), (.int .i64 p0g_3), (.slice p0g_4a p0g_4l p0g_4c)])] w R :=
  run_ev tyOk fnOk mixed Tryd.func62 ann_reach_productive ((by kernel_rfl : fnV Tryd.prog Ty Fn Ev ann_reach_productive Tryd.f62 [(.agg #[(.slice p0g_0a p0g_0l p0g_0c), (.slice p0g_1a p0g_1l p0g_1c), (.slice p0g_2a p0g_2l p0g_2c), (.int .i64 p0g_3), (.slice p0g_4a p0g_4l p0g_4c)])] w R = vc_reach_productive p0g_0a p0g_0l p0g_0c p0g_1a p0g_1l p0g_1c p0g_2a p0g_2l p0g_2c p0g_3 p0g_4a p0g_4l p0g_4c w R) ▸ h)

abbrev n_reach_useful : FuncId := 64
def ann_reach_useful : Ann := { rngs := [], loops := [], joins := [], blocks := [] }
set_option maxRecDepth 100000 in
def vc_reach_useful (p0g_0a : Option Addr) (p0g_0l : Nat) (p0g_0c : Nat) (p0g_1a : Option Addr) (p0g_1l : Nat) (p0g_1c : Nat) (p0g_2a : Option Addr) (p0g_2l : Nat) (p0g_2c : Nat) (p0g_3 : Int) (p0g_4a : Option Addr) (p0g_4l : Nat) (p0g_4c : Nat) (p1may_0 : Option Addr) (p1may_1 : Int) (w : World) (R : Value → World → Prop) : Prop :=
  new w
  (Obj.cells
  (Array.mk [Value.slice p0g_0a p0g_0l p0g_0c, Value.slice p0g_1a p0g_1l p0g_1c, Value.slice p0g_2a p0g_2l p0g_2c, Value.int IntKind.i64 p0g_3, Value.slice p0g_4a p0g_4l p0g_4c])
  27)
  fun (k1 : Nat) (w1 : World) =>
  new w1 (Obj.cells (Array.mk [Value.pointer p1may_0, Value.int IntKind.i64 p1may_1]) 85) fun (k2 : Nat) (w2 : World) =>
  new w2 (Obj.cells (Array.mk [Value.pointer none, Value.int IntKind.i64 0]) 85) fun (k3 : Nat) (w3 : World) =>
  ∃ (o1 : Option Addr),
  ∃ (k4 : Nat),
  ∃ (k5 : Nat),
  ∃ (o2 : Option Addr),
  ∃ (k6 : Nat),
  ∃ (k7 : Nat),
  ∃ (o3 : Option Addr),
  ∃ (k8 : Nat),
  ∃ (k9 : Nat),
  ∃ (n1 : Int),
  ∃ (o4 : Option Addr),
  ∃ (k10 : Nat),
  ∃ (k11 : Nat),
  V.rowAt w3 (Addr.mk k1 0 none) 0 5 =
  some [Value.slice o1 k4 k5, Value.slice o2 k6 k7, Value.slice o3 k8 k9, Value.int IntKind.i64 n1, Value.slice o4 k10 k11] ∧
  RunE Proofs.Tryd.prog Ev 86
  [Value.agg (Array.mk [Value.slice o1 k4 k5, Value.slice o2 k6 k7, Value.slice o3 k8 k9, Value.int IntKind.i64 n1, Value.slice o4 k10 k11])] w3
  fun (v1 : Value) (w4 : World) =>
  ∃ (o5 : Option Addr),
  ∃ (n2 : Int),
  v1 = Value.agg (Array.mk [Value.pointer o5, Value.int IntKind.i64 n2]) ∧
  new w4 (Obj.cells (Array.mk [Value.pointer none, Value.int IntKind.i64 0]) 85) fun (k12 : Nat) (w5 : World) =>
  stR w5 (Addr.mk k12 0 none) [Value.pointer o5, Value.int IntKind.i64 n2] fun (w6 : World) =>
  ∃ (o6 : Option Addr),
  World.cell? w6 (Addr.mk k2 0 none) = some (Value.pointer o6) ∧
  ∃ (n3 : Int),
  World.cell? w6 (Addr.add (Addr.mk k1 0 none) 3) = some (Value.int IntKind.i64 n3) ∧
  RunE Proofs.Tryd.prog Ev 63 [Value.pointer o6, Value.int IntKind.i64 n3] w6 fun (v2 : Value) (w7 : World) =>
  ∃ (b1 : Bool),
  v2 = Value.bool b1 ∧
  br b1
  (∃ (o7 : Option Addr),
  World.cell? w7 (Addr.mk k12 0 none) = some (Value.pointer o7) ∧
  ∃ (n4 : Int),
  World.cell? w7 (Addr.add (Addr.mk k1 0 none) 3) = some (Value.int IntKind.i64 n4) ∧
  new w7 (Obj.cells (Array.mk [Value.int IntKind.i64 n4]) 3) fun (k13 : Nat) (w8 : World) =>
  RunE Proofs.Tryd.prog Ev 77 [Value.pointer o7, Value.slice (some (Addr.mk k13 0 none)) 1 1] w8
  fun (v3 : Value) (w9 : World) =>
  ∃ (n5 : Int),
  v3 = Value.int IntKind.i64 n5 ∧
  ∃ (o8 : Option Addr),
  ∃ (k14 : Nat),
  ∃ (k15 : Nat),
  ∃ (o9 : Option Addr),
  ∃ (k16 : Nat),
  ∃ (k17 : Nat),
  ∃ (o10 : Option Addr),
  ∃ (k18 : Nat),
  ∃ (k19 : Nat),
  ∃ (n6 : Int),
  ∃ (o11 : Option Addr),
  ∃ (k20 : Nat),
  ∃ (k21 : Nat),
  V.rowAt w9 (Addr.mk k1 0 none) 0 5 =
  some
  [Value.slice o8 k14 k15, Value.slice o9 k16 k17,
  Value.slice o10 k18 k19, Value.int IntKind.i64 n6,
  Value.slice o11 k20 k21] ∧
  RunE Proofs.Tryd.prog Ev 72
  [Value.agg
  (Array.mk
  [Value.slice o8 k14 k15, Value.slice o9 k16 k17,
  Value.slice o10 k18 k19, Value.int IntKind.i64 n6,
  Value.slice o11 k20 k21])]
  w9 fun (v4 : Value) (w10 : World) =>
  ∃ (b2 : Bool),
  v4 = Value.bool b2 ∧
  br b2
  (∃ (o12 : Option Addr),
  World.cell? w10 (Addr.mk k12 0 none) =
  some (Value.pointer o12) ∧
  ∃ (n7 : Int),
  World.cell? w10 (Addr.add (Addr.mk k12 0 none) 1) =
  some (Value.int IntKind.i64 n7) ∧
  new w10
  (Obj.cells (Array.mk [Value.int IntKind.i64 n7]) 3)
  fun (k22 : Nat) (w11 : World) =>
  RunE Proofs.Tryd.prog Ev 77
  [Value.pointer o12,
  Value.slice (some (Addr.mk k22 0 none)) 1 1]
  w11 fun (v5 : Value) (w12 : World) =>
  ∃ (n8 : Int),
  v5 = Value.int IntKind.i64 n8 ∧
  ∃ (o13 : Option Addr),
  ∃ (k23 : Nat),
  ∃ (k24 : Nat),
  ∃ (o14 : Option Addr),
  ∃ (k25 : Nat),
  ∃ (k26 : Nat),
  ∃ (o15 : Option Addr),
  ∃ (k27 : Nat),
  ∃ (k28 : Nat),
  ∃ (n9 : Int),
  ∃ (o16 : Option Addr),
  ∃ (k29 : Nat),
  ∃ (k30 : Nat),
  V.rowAt w12
  (Addr.mk k1 0
  none)
  0 5 =
  some
  [Value.slice o13
  k23 k24,
  Value.slice o14
  k25 k26,
  Value.slice o15
  k27 k28,
  Value.int
  IntKind.i64
  n9,
  Value.slice o16
  k29 k30] ∧
  RunE Proofs.Tryd.prog
  Ev 87
  [Value.agg
  (Array.mk
  [Value.slice
  o13 k23
  k24,
  Value.slice
  o14 k25
  k26,
  Value.slice
  o15 k27
  k28,
  Value.int
  IntKind.i64
  n9,
  Value.slice
  o16 k29
  k30]),
  Value.func
  (Fn.func 90)
  (Array.mk [])
  (Array.mk
  [Value.pointer
  (some
  (Addr.mk
  k12 0
  none)),
  Value.pointer
  (some
  (Addr.mk
  k2 0
  none))])]
  w12
  fun (v6 : Value)
  (w13 : World) =>
  v6 =
  Value.tuple
  (Array.mk
  []) ∧
  ∃ (o17 :
  Option Addr),
  ∃ (n10 : Int),
  V.rowAt w13
  (Addr.mk
  k12 0
  none)
  0 2 =
  some
  [Value.pointer
  o17,
  Value.int
  IntKind.i64
  n10] ∧
  stR w13
  (Addr.mk
  k3 0
  none)
  [Value.pointer
  o17,
  Value.int
  IntKind.i64
  n10]
  fun
  (w14 :
  World) =>
  ∃ (o18 :
  Option
  Addr),
  ∃ (n11 :
  Int),
  V.rowAt
  w14
  (Addr.mk
  k3
  0
  none)
  0
  2 =
  some
  [Value.pointer
  o18,
  Value.int
  IntKind.i64
  n11] ∧
  R
  (Value.agg
  (Array.mk
  [Value.pointer
  o18,
  Value.int
  IntKind.i64
  n11]))
  w14)
  (∃ (o19 : Option Addr),
  ∃ (k31 : Nat),
  ∃ (k32 : Nat),
  ∃ (o20 : Option Addr),
  ∃ (k33 : Nat),
  ∃ (k34 : Nat),
  ∃ (o21 : Option Addr),
  ∃ (k35 : Nat),
  ∃ (k36 : Nat),
  ∃ (n12 : Int),
  ∃ (o22 : Option Addr),
  ∃ (k37 : Nat),
  ∃ (k38 : Nat),
  V.rowAt w10 (Addr.mk k1 0 none) 0 5 =
  some
  [Value.slice o19 k31 k32,
  Value.slice o20 k33 k34,
  Value.slice o21 k35 k36,
  Value.int IntKind.i64 n12,
  Value.slice o22 k37 k38] ∧
  RunE Proofs.Tryd.prog Ev 87
  [Value.agg
  (Array.mk
  [Value.slice o19 k31 k32,
  Value.slice o20 k33 k34,
  Value.slice o21 k35 k36,
  Value.int IntKind.i64 n12,
  Value.slice o22 k37 k38]),
  Value.func (Fn.func 90)
  (Array.mk [])
  (Array.mk
  [Value.pointer
  (some
  (Addr.mk k12 0 none)),
  Value.pointer
  (some
  (Addr.mk k2 0 none))])]
  w10
  fun (v7 : Value) (w15 : World) =>
  v7 = Value.tuple (Array.mk []) ∧
  ∃ (o23 : Option Addr),
  ∃ (n13 : Int),
  V.rowAt w15
  (Addr.mk k12 0 none) 0
  2 =
  some
  [Value.pointer o23,
  Value.int IntKind.i64
  n13] ∧
  stR w15 (Addr.mk k3 0 none)
  [Value.pointer o23,
  Value.int IntKind.i64
  n13]
  fun (w16 : World) =>
  ∃ (o24 : Option Addr),
  ∃ (n14 : Int),
  V.rowAt w16
  (Addr.mk k3 0
  none)
  0 2 =
  some
  [Value.pointer
  o24,
  Value.int
  IntKind.i64
  n14] ∧
  R
  (Value.agg
  (Array.mk
  [Value.pointer
  o24,
  Value.int
  IntKind.i64
  n14]))
  w16))
  (∃ (o25 : Option Addr),
  ∃ (k39 : Nat),
  ∃ (k40 : Nat),
  ∃ (o26 : Option Addr),
  ∃ (k41 : Nat),
  ∃ (k42 : Nat),
  ∃ (o27 : Option Addr),
  ∃ (k43 : Nat),
  ∃ (k44 : Nat),
  ∃ (n15 : Int),
  ∃ (o28 : Option Addr),
  ∃ (k45 : Nat),
  ∃ (k46 : Nat),
  V.rowAt w7 (Addr.mk k1 0 none) 0 5 =
  some
  [Value.slice o25 k39 k40, Value.slice o26 k41 k42, Value.slice o27 k43 k44,
  Value.int IntKind.i64 n15, Value.slice o28 k45 k46] ∧
  RunE Proofs.Tryd.prog Ev 87
  [Value.agg
  (Array.mk
  [Value.slice o25 k39 k40, Value.slice o26 k41 k42, Value.slice o27 k43 k44,
  Value.int IntKind.i64 n15, Value.slice o28 k45 k46]),
  Value.func (Fn.func 90) (Array.mk [])
  (Array.mk
  [Value.pointer (some (Addr.mk k12 0 none)),
  Value.pointer (some (Addr.mk k2 0 none))])]
  w7 fun (v8 : Value) (w17 : World) =>
  v8 = Value.tuple (Array.mk []) ∧
  ∃ (o29 : Option Addr),
  ∃ (n16 : Int),
  V.rowAt w17 (Addr.mk k12 0 none) 0 2 =
  some [Value.pointer o29, Value.int IntKind.i64 n16] ∧
  stR w17 (Addr.mk k3 0 none) [Value.pointer o29, Value.int IntKind.i64 n16]
  fun (w18 : World) =>
  ∃ (o30 : Option Addr),
  ∃ (n17 : Int),
  V.rowAt w18 (Addr.mk k3 0 none) 0 2 =
  some [Value.pointer o30, Value.int IntKind.i64 n17] ∧
  R (Value.agg (Array.mk [Value.pointer o30, Value.int IntKind.i64 n17]))
  w18)
set_option maxRecDepth 100000 in
theorem run_reach_useful (p0g_0a : Option Addr) (p0g_0l : Nat) (p0g_0c : Nat) (p0g_1a : Option Addr) (p0g_1l : Nat) (p0g_1c : Nat) (p0g_2a : Option Addr) (p0g_2l : Nat) (p0g_2c : Nat) (p0g_3 : Int) (p0g_4a : Option Addr) (p0g_4l : Nat) (p0g_4c : Nat) (p1may_0 : Option Addr) (p1may_1 : Int) (w : World) (R : Value → World → Prop) (h : vc_reach_useful p0g_0a p0g_0l p0g_0c p0g_1a p0g_1l p0g_1c p0g_2a p0g_2l p0g_2c p0g_3 p0g_4a p0g_4l p0g_4c p1may_0 p1may_1 w R) : Run Tryd.prog 64 [(.agg #[(.slice p0g_0a p0g_0l p0g_0c), (.slice p0g_1a p0g_1l p0g_1c), (.slice p0g_2a p0g_2l p0g_2c), (.int .i64 p0g_3), (.slice p0g_4a p0g_4l p0g_4c)]), (.agg #[(.pointer p1may_0), (.int .i64 p1may_1)])] w R :=
  run_ev tyOk fnOk mixed Tryd.func64 ann_reach_useful ((by kernel_rfl : fnV Tryd.prog Ty Fn Ev ann_reach_useful Tryd.f64 [(.agg #[(.slice p0g_0a p0g_0l p0g_0c), (.slice p0g_1a p0g_1l p0g_1c), (.slice p0g_2a p0g_2l p0g_2c), (.int .i64 p0g_3), (.slice p0g_4a p0g_4l p0g_4c)]), (.agg #[(.pointer p1may_0), (.int .i64 p1may_1)])] w R = vc_reach_useful p0g_0a p0g_0l p0g_0c p0g_1a p0g_1l p0g_1c p0g_2a p0g_2l p0g_2c p0g_3 p0g_4a p0g_4l p0g_4c p1may_0 p1may_1 w R) ▸ h)

abbrev n_slices_Clone_api_Term_api_Term_ : FuncId := 65
def ann_slices_Clone_api_Term_api_Term_ : Ann := { rngs := [], loops := [], joins := [], blocks := [] }
set_option maxRecDepth 100000 in
def vc_slices_Clone_api_Term_api_Term_ (p0sa : Option Addr) (p0sl : Nat) (p0sc : Nat) (w : World) (R : Value → World → Prop) : Prop :=
  br (Option.isNone p0sa) (R (Value.slice none 0 0) w)
  (new w (Obj.cells (Array.mk []) 81) fun (k1 : Nat) (w1 : World) =>
  RunS Proofs.Tryd.prog (Builtin.append_ (Array.mk [22, 22]) 22 (Array.mk [Value.slice (some (Addr.mk k1 0 none)) 0 0, Value.slice p0sa p0sl p0sc])) w1
  fun (v1 : Value) (w2 : World) => ∃ (o1 : Option Addr), ∃ (k2 : Nat), ∃ (k3 : Nat), v1 = Value.slice o1 k2 k3 ∧ R (Value.slice o1 k2 k3) w2)
set_option maxRecDepth 100000 in
theorem run_slices_Clone_api_Term_api_Term_ (p0sa : Option Addr) (p0sl : Nat) (p0sc : Nat) (w : World) (R : Value → World → Prop) (h : vc_slices_Clone_api_Term_api_Term_ p0sa p0sl p0sc w R) : Run Tryd.prog 65 [(.slice p0sa p0sl p0sc)] w R :=
  run_ev tyOk fnOk mixed Tryd.func65 ann_slices_Clone_api_Term_api_Term_ ((by kernel_rfl : fnV Tryd.prog Ty Fn Ev ann_slices_Clone_api_Term_api_Term_ Tryd.f65 [(.slice p0sa p0sl p0sc)] w R = vc_slices_Clone_api_Term_api_Term_ p0sa p0sl p0sc w R) ▸ h)

abbrev n_slices_Clone_int_int_ : FuncId := 66
def ann_slices_Clone_int_int_ : Ann := { rngs := [], loops := [], joins := [], blocks := [] }
set_option maxRecDepth 100000 in
def vc_slices_Clone_int_int_ (p0sa : Option Addr) (p0sl : Nat) (p0sc : Nat) (w : World) (R : Value → World → Prop) : Prop :=
  br (Option.isNone p0sa) (R (Value.slice none 0 0) w)
  (new w (Obj.cells (Array.mk []) 3) fun (k1 : Nat) (w1 : World) =>
  RunS Proofs.Tryd.prog (Builtin.append_ (Array.mk [24, 24]) 24 (Array.mk [Value.slice (some (Addr.mk k1 0 none)) 0 0, Value.slice p0sa p0sl p0sc])) w1
  fun (v1 : Value) (w2 : World) => ∃ (o1 : Option Addr), ∃ (k2 : Nat), ∃ (k3 : Nat), v1 = Value.slice o1 k2 k3 ∧ R (Value.slice o1 k2 k3) w2)
set_option maxRecDepth 100000 in
theorem run_slices_Clone_int_int_ (p0sa : Option Addr) (p0sl : Nat) (p0sc : Nat) (w : World) (R : Value → World → Prop) (h : vc_slices_Clone_int_int_ p0sa p0sl p0sc w R) : Run Tryd.prog 66 [(.slice p0sa p0sl p0sc)] w R :=
  run_ev tyOk fnOk mixed Tryd.func66 ann_slices_Clone_int_int_ ((by kernel_rfl : fnV Tryd.prog Ty Fn Ev ann_slices_Clone_int_int_ Tryd.f66 [(.slice p0sa p0sl p0sc)] w R = vc_slices_Clone_int_int_ p0sa p0sl p0sc w R) ▸ h)

abbrev n_reach_marks_all : FuncId := 69
def ann_reach_marks_all : Ann := { rngs := [], loops := [], joins := [], blocks := [] }
set_option maxRecDepth 100000 in
def vc_reach_marks_all (p0m_0 : Option Addr) (p0m_1 : Int) (p1rowa : Option Addr) (p1rowl : Nat) (p1rowc : Nat) (w : World) (R : Value → World → Prop) : Prop :=
  new w (Obj.cells (Array.mk [Value.pointer p0m_0, Value.int IntKind.i64 p0m_1]) 85) fun (k1 : Nat) (w1 : World) =>
  RunE Proofs.Tryd.prog Ev 94 [Value.slice p1rowa p1rowl p1rowc, Value.func (Fn.func 95) (Array.mk []) (Array.mk [Value.pointer (some (Addr.mk k1 0 none))])] w1
  fun (v1 : Value) (w2 : World) => ∃ (b1 : Bool), v1 = Value.bool b1 ∧ R (Value.bool !b1) w2
set_option maxRecDepth 100000 in
theorem run_reach_marks_all (p0m_0 : Option Addr) (p0m_1 : Int) (p1rowa : Option Addr) (p1rowl : Nat) (p1rowc : Nat) (w : World) (R : Value → World → Prop) (h : vc_reach_marks_all p0m_0 p0m_1 p1rowa p1rowl p1rowc w R) : Run Tryd.prog 69 [(.agg #[(.pointer p0m_0), (.int .i64 p0m_1)]), (.slice p1rowa p1rowl p1rowc)] w R :=
  run_ev tyOk fnOk mixed Tryd.func69 ann_reach_marks_all ((by kernel_rfl : fnV Tryd.prog Ty Fn Ev ann_reach_marks_all Tryd.f69 [(.agg #[(.pointer p0m_0), (.int .i64 p0m_1)]), (.slice p1rowa p1rowl p1rowc)] w R = vc_reach_marks_all p0m_0 p0m_1 p1rowa p1rowl p1rowc w R) ▸ h)

abbrev n_reach_marks_nons : FuncId := 73
def ann_reach_marks_nons : Ann := { rngs := [(3, [(15, (.one (.int .i64)))])], loops := [], joins := [], blocks := [] }
set_option maxRecDepth 100000 in
def vc_reach_marks_nons (p0m_0 : Option Addr) (p0m_1 : Int) (w : World) (R : Value → World → Prop) : Prop :=
  new w (Obj.cells (Array.mk [Value.pointer p0m_0, Value.int IntKind.i64 p0m_1]) 85) fun (k1 : Nat) (w1 : World) =>
  ∀ (w2 : World),
  drawn w1 w2 →
  ∃ (I1 : World → Prop),
  I1 w2 ∧
  ∃ (o1 : Option Addr),
  (∀ (w3 : World), I1 w3 → World.cell? w3 (Addr.mk k1 0 none) = some (Value.pointer o1)) ∧
  ∃ (n1 : Int),
  (∀ (w4 : World), I1 w4 → World.cell? w4 (Addr.add (Addr.mk k1 0 none) 1) = some (Value.int IntKind.i64 n1)) ∧
  (RunE Proofs.Tryd.prog Ev 67 [Value.pointer o1] w2 fun (v1 : Value) (w5 : World) =>
  ∃ (n2 : Int),
  v1 = Value.int IntKind.i64 n2 ∧
  I1 w5 ∧
  inI (n2 - n1) ∧
  (mkOk (n2 - n1) (n2 - n1) 1 ∧
  new w5 (Obj.cells (Array.mk (reps (Int.toNat (n2 - n1)) [Value.bool false])) 4) fun (k2 : Nat) (w6 : World) =>
  new w6 (Obj.cells (Array.mk [Value.slice none 0 0]) 30) fun (k3 : Nat) (w7 : World) =>
  I1 w7 ∧
  st1 w7 (Addr.mk k3 0 none) (Value.slice (some (Addr.mk k2 0 none)) (Int.toNat (n2 - n1)) (Int.toNat (n2 - n1))) fun (w8 : World) =>
  ∃ (o2 : Option Addr),
  World.cell? w8 (Addr.mk k1 0 none) = some (Value.pointer o2) ∧
  RunE Proofs.Tryd.prog Ev 68 [Value.pointer o2] w8 fun (v2 : Value) (w9 : World) =>
  ∃ (g1 : FuncId),
  ∃ (x1 : List Value),
  v2 = Value.func (Fn.func g1) (Array.mk []) (Array.mk x1) ∧
  ifT (Proofs.YtaheggomcnbbiaaDoor.Fn g1)
  (∃ (x2 : List (List Value)),
  ∃ (x3 : Asn),
  ∃ (x4 : Asn),
  ∃ (I2 : Nat → Asn),
  ∃ (x5 : Asn),
  ∃ (I3 : Nat → Asn),
  ∃ (x6 : List Asn),
  St w9 (I2 0 :: x3 :: x6) ∧
  (∀ (x7 : Hp), starL x6 x7 → x4 x7) ∧
  Itr Proofs.Tryd.prog g1 [] x1 x3 x4 x2 ∧
  (∀ (x8 : List Value), x8 ∈ x2 → ∃ (n3 : Int), x8 = [Value.int IntKind.i64 n3]) ∧
  (∀ (k4 : Nat) (n4 : Int),
  List.get?Internal x2 k4 = some [Value.int IntKind.i64 n4] →
  ∀ (x9 : List Asn) (w10 : World),
  Sup x9 x6 →
  St w10 (I2 k4 :: x9) →
  ∃ (x10 : Asn),
  St w10 (x10 :: x9) ∧
  ∀ (x11 : List Asn) (w11 : World),
  Sup x11 x6 →
  St w11 (x10 :: x11) →
  ∃ (n5 : Int),
  World.cell? w11 (Addr.add (Addr.mk k1 0 none) 1) =
  some (Value.int IntKind.i64 n5) ∧
  br (decide (n5 ≤ n4))
  (∃ (o3 : Option Addr),
  ∃ (k5 : Nat),
  ∃ (k6 : Nat),
  World.cell? w11 (Addr.mk k3 0 none) = some (Value.slice o3 k5 k6) ∧
  ∃ (n6 : Int),
  World.cell? w11 (Addr.add (Addr.mk k1 0 none) 1) =
  some (Value.int IntKind.i64 n6) ∧
  inI (n4 - n6) ∧
  idx o3 k5 (n4 - n6) 1 fun (a1 : Addr) =>
  st1 w11 a1 (Value.bool true) fun (w12 : World) =>
  St w12 (I2 (k4 + 1) :: x11))
  (St w11 (I2 (k4 + 1) :: x11))) ∧
  (∀ (w13 : World),
  St w13 (I2 (List.length x2) :: x3 :: x6) →
  ∃ (o4 : Option Addr),
  ∃ (k7 : Nat),
  ∃ (k8 : Nat),
  World.cell? w13 (Addr.mk k3 0 none) = some (Value.slice o4 k7 k8) ∧
  ∀ (w14 : World), hp w14 = hp w13 → R (Value.slice o4 k7 k8) w14) ∧
  (∀ (w15 : World),
  St w15 (x5 :: x3 :: x6) → ∀ (w16 : World), hp w16 = hp w15 → R (Value.slice none 0 0) w16) ∧
  True)) ∧
  new w5 (Obj.cells (Array.mk [Value.slice none 0 0]) 30) fun (k9 : Nat) (w17 : World) =>
  I1 w17 ∧
  mkOk (n2 - n1) (n2 - n1) 1 ∧
  new w17 (Obj.cells (Array.mk (reps (Int.toNat (n2 - n1)) [Value.bool false])) 4) fun (k10 : Nat) (w18 : World) =>
  st1 w18 (Addr.mk k9 0 none) (Value.slice (some (Addr.mk k10 0 none)) (Int.toNat (n2 - n1)) (Int.toNat (n2 - n1))) fun (w19 : World) =>
  ∃ (o5 : Option Addr),
  World.cell? w19 (Addr.mk k1 0 none) = some (Value.pointer o5) ∧
  RunE Proofs.Tryd.prog Ev 68 [Value.pointer o5] w19 fun (v3 : Value) (w20 : World) =>
  ∃ (g2 : FuncId),
  ∃ (x12 : List Value),
  v3 = Value.func (Fn.func g2) (Array.mk []) (Array.mk x12) ∧
  ifT (Proofs.YtaheggomcnbbiaaDoor.Fn g2)
  (∃ (x13 : List (List Value)),
  ∃ (x14 : Asn),
  ∃ (x15 : Asn),
  ∃ (I4 : Nat → Asn),
  ∃ (x16 : Asn),
  ∃ (I5 : Nat → Asn),
  ∃ (x17 : List Asn),
  St w20 (I4 0 :: x14 :: x17) ∧
  (∀ (x18 : Hp), starL x17 x18 → x15 x18) ∧
  Itr Proofs.Tryd.prog g2 [] x12 x14 x15 x13 ∧
  (∀ (x19 : List Value), x19 ∈ x13 → ∃ (n7 : Int), x19 = [Value.int IntKind.i64 n7]) ∧
  (∀ (k11 : Nat) (n8 : Int),
  List.get?Internal x13 k11 = some [Value.int IntKind.i64 n8] →
  ∀ (x20 : List Asn) (w21 : World),
  Sup x20 x17 →
  St w21 (I4 k11 :: x20) →
  ∃ (x21 : Asn),
  St w21 (x21 :: x20) ∧
  ∀ (x22 : List Asn) (w22 : World),
  Sup x22 x17 →
  St w22 (x21 :: x22) →
  ∃ (n9 : Int),
  World.cell? w22 (Addr.add (Addr.mk k1 0 none) 1) =
  some (Value.int IntKind.i64 n9) ∧
  br (decide (n9 ≤ n8))
  (∃ (o6 : Option Addr),
  ∃ (k12 : Nat),
  ∃ (k13 : Nat),
  World.cell? w22 (Addr.mk k9 0 none) =
  some (Value.slice o6 k12 k13) ∧
  ∃ (n10 : Int),
  World.cell? w22 (Addr.add (Addr.mk k1 0 none) 1) =
  some (Value.int IntKind.i64 n10) ∧
  inI (n8 - n10) ∧
  idx o6 k12 (n8 - n10) 1 fun (a2 : Addr) =>
  st1 w22 a2 (Value.bool true) fun (w23 : World) =>
  St w23 (I4 (k11 + 1) :: x22))
  (St w22 (I4 (k11 + 1) :: x22))) ∧
  (∀ (w24 : World),
  St w24 (I4 (List.length x13) :: x14 :: x17) →
  ∃ (o7 : Option Addr),
  ∃ (k14 : Nat),
  ∃ (k15 : Nat),
  World.cell? w24 (Addr.mk k9 0 none) = some (Value.slice o7 k14 k15) ∧
  ∀ (w25 : World), hp w25 = hp w24 → R (Value.slice o7 k14 k15) w25) ∧
  (∀ (w26 : World),
  St w26 (x16 :: x14 :: x17) →
  ∀ (w27 : World), hp w27 = hp w26 → R (Value.slice none 0 0) w27) ∧
  True)) ∧
  new w2 (Obj.cells (Array.mk [Value.slice none 0 0]) 30) fun (k16 : Nat) (w28 : World) =>
  I1 w28 ∧
  RunE Proofs.Tryd.prog Ev 67 [Value.pointer o1] w28 fun (v4 : Value) (w29 : World) =>
  ∃ (n11 : Int),
  v4 = Value.int IntKind.i64 n11 ∧
  I1 w29 ∧
  inI (n11 - n1) ∧
  mkOk (n11 - n1) (n11 - n1) 1 ∧
  new w29 (Obj.cells (Array.mk (reps (Int.toNat (n11 - n1)) [Value.bool false])) 4) fun (k17 : Nat) (w30 : World) =>
  st1 w30 (Addr.mk k16 0 none) (Value.slice (some (Addr.mk k17 0 none)) (Int.toNat (n11 - n1)) (Int.toNat (n11 - n1))) fun (w31 : World) =>
  ∃ (o8 : Option Addr),
  World.cell? w31 (Addr.mk k1 0 none) = some (Value.pointer o8) ∧
  RunE Proofs.Tryd.prog Ev 68 [Value.pointer o8] w31 fun (v5 : Value) (w32 : World) =>
  ∃ (g3 : FuncId),
  ∃ (x23 : List Value),
  v5 = Value.func (Fn.func g3) (Array.mk []) (Array.mk x23) ∧
  ifT (Proofs.YtaheggomcnbbiaaDoor.Fn g3)
  (∃ (x24 : List (List Value)),
  ∃ (x25 : Asn),
  ∃ (x26 : Asn),
  ∃ (I6 : Nat → Asn),
  ∃ (x27 : Asn),
  ∃ (I7 : Nat → Asn),
  ∃ (x28 : List Asn),
  St w32 (I6 0 :: x25 :: x28) ∧
  (∀ (x29 : Hp), starL x28 x29 → x26 x29) ∧
  Itr Proofs.Tryd.prog g3 [] x23 x25 x26 x24 ∧
  (∀ (x30 : List Value), x30 ∈ x24 → ∃ (n12 : Int), x30 = [Value.int IntKind.i64 n12]) ∧
  (∀ (k18 : Nat) (n13 : Int),
  List.get?Internal x24 k18 = some [Value.int IntKind.i64 n13] →
  ∀ (x31 : List Asn) (w33 : World),
  Sup x31 x28 →
  St w33 (I6 k18 :: x31) →
  ∃ (x32 : Asn),
  St w33 (x32 :: x31) ∧
  ∀ (x33 : List Asn) (w34 : World),
  Sup x33 x28 →
  St w34 (x32 :: x33) →
  ∃ (n14 : Int),
  World.cell? w34 (Addr.add (Addr.mk k1 0 none) 1) =
  some (Value.int IntKind.i64 n14) ∧
  br (decide (n14 ≤ n13))
  (∃ (o9 : Option Addr),
  ∃ (k19 : Nat),
  ∃ (k20 : Nat),
  World.cell? w34 (Addr.mk k16 0 none) = some (Value.slice o9 k19 k20) ∧
  ∃ (n15 : Int),
  World.cell? w34 (Addr.add (Addr.mk k1 0 none) 1) =
  some (Value.int IntKind.i64 n15) ∧
  inI (n13 - n15) ∧
  idx o9 k19 (n13 - n15) 1 fun (a3 : Addr) =>
  st1 w34 a3 (Value.bool true) fun (w35 : World) =>
  St w35 (I6 (k18 + 1) :: x33))
  (St w34 (I6 (k18 + 1) :: x33))) ∧
  (∀ (w36 : World),
  St w36 (I6 (List.length x24) :: x25 :: x28) →
  ∃ (o10 : Option Addr),
  ∃ (k21 : Nat),
  ∃ (k22 : Nat),
  World.cell? w36 (Addr.mk k16 0 none) = some (Value.slice o10 k21 k22) ∧
  ∀ (w37 : World), hp w37 = hp w36 → R (Value.slice o10 k21 k22) w37) ∧
  (∀ (w38 : World),
  St w38 (x27 :: x25 :: x28) → ∀ (w39 : World), hp w39 = hp w38 → R (Value.slice none 0 0) w39) ∧
  True)
set_option maxRecDepth 100000 in
theorem run_reach_marks_nons (p0m_0 : Option Addr) (p0m_1 : Int) (w : World) (R : Value → World → Prop) (h : vc_reach_marks_nons p0m_0 p0m_1 w R) : Run Tryd.prog 73 [(.agg #[(.pointer p0m_0), (.int .i64 p0m_1)])] w R :=
  run_ev tyOk fnOk mixed Tryd.func73 ann_reach_marks_nons ((by kernel_rfl : fnV Tryd.prog Ty Fn Ev ann_reach_marks_nons Tryd.f73 [(.agg #[(.pointer p0m_0), (.int .i64 p0m_1)])] w R = vc_reach_marks_nons p0m_0 p0m_1 w R) ▸ h)

abbrev n_reach_mark : FuncId := 86
def ann_reach_mark : Ann := { rngs := [], loops := [(3, [(20, (.one (.int .i64)))])], joins := [], blocks := [] }
set_option maxRecDepth 100000 in
def vc_reach_mark (p0g_0a : Option Addr) (p0g_0l : Nat) (p0g_0c : Nat) (p0g_1a : Option Addr) (p0g_1l : Nat) (p0g_1c : Nat) (p0g_2a : Option Addr) (p0g_2l : Nat) (p0g_2c : Nat) (p0g_3 : Int) (p0g_4a : Option Addr) (p0g_4l : Nat) (p0g_4c : Nat) (w : World) (R : Value → World → Prop) : Prop :=
  new w
  (Obj.cells
  (Array.mk [Value.slice p0g_0a p0g_0l p0g_0c, Value.slice p0g_1a p0g_1l p0g_1c, Value.slice p0g_2a p0g_2l p0g_2c, Value.int IntKind.i64 p0g_3, Value.slice p0g_4a p0g_4l p0g_4c])
  27)
  fun (k1 : Nat) (w1 : World) =>
  new w1 (Obj.cells (Array.mk [Value.pointer none, Value.int IntKind.i64 0]) 85) fun (k2 : Nat) (w2 : World) =>
  ∀ (w3 : World),
  drawn w2 w3 →
  ∃ (I1 : World → Prop),
  I1 w3 ∧
  ∃ (o1 : Option Addr),
  ∃ (k3 : Nat),
  ∃ (k4 : Nat),
  (∀ (w4 : World), I1 w4 → World.cell? w4 (Addr.mk k1 0 none) = some (Value.slice o1 k3 k4)) ∧
  ∃ (o2 : Option Addr),
  ∃ (k5 : Nat),
  ∃ (k6 : Nat),
  (∀ (w5 : World), I1 w5 → World.cell? w5 (Addr.add (Addr.mk k1 0 none) 1) = some (Value.slice o2 k5 k6)) ∧
  inI ((↑k3 : Int) + (↑k5 : Int)) ∧
  ∃ (o3 : Option Addr),
  ∃ (k7 : Nat),
  ∃ (k8 : Nat),
  (∀ (w6 : World), I1 w6 → World.cell? w6 (Addr.mk k1 0 none) = some (Value.slice o3 k7 k8)) ∧
  (RunE Proofs.Tryd.prog Ev 55 [Value.int IntKind.i64 ((↑k3 : Int) + (↑k5 : Int)), Value.slice none 0 0] w3 fun (v1 : Value) (w7 : World) =>
  ∃ (o4 : Option Addr),
  v1 = Value.pointer o4 ∧
  I1 w7 ∧
  new w7 (Obj.cells (Array.mk [Value.pointer none, Value.int IntKind.i64 0]) 85) fun (k9 : Nat) (w8 : World) =>
  I1 w8 ∧
  stR w8 (Addr.mk k9 0 none) [Value.pointer o4, Value.int IntKind.i64 (↑k7 : Int)] fun (w9 : World) =>
  ∃ (o5 : Option Addr),
  ∃ (k10 : Nat),
  ∃ (k11 : Nat),
  World.cell? w9 (Addr.mk k1 0 none) = some (Value.slice o5 k10 k11) ∧
  ∃ (x1 : arrS (shs [(20, S1.one (Cs.int IntKind.i64))]) (World → Prop)),
  ∃ (x2 : arrS (shs [(20, S1.one (Cs.int IntKind.i64))]) (World → Nat)),
  x1 0 w9 ∧
  ∀ (I2 : Nat → Value) (n1 : Int) (w10 : World),
  x1 n1 w10 →
  br (decide (n1 < (↑k10 : Int)))
  (∃ (o6 : Option Addr),
  World.cell? w10 (Addr.mk k9 0 none) = some (Value.pointer o6) ∧
  new w10 (Obj.cells (Array.mk [Value.int IntKind.i64 n1]) 3) fun (k12 : Nat) (w11 : World) =>
  RunE Proofs.Tryd.prog Ev 77 [Value.pointer o6, Value.slice (some (Addr.mk k12 0 none)) 1 1] w11
  fun (v2 : Value) (w12 : World) =>
  ∃ (n2 : Int),
  v2 = Value.int IntKind.i64 n2 ∧ inI (n1 + 1) ∧ x1 (n1 + 1) w12 ∧ x2 (n1 + 1) w12 < x2 n1 w10)
  (∃ (o7 : Option Addr),
  ∃ (n3 : Int),
  V.rowAt w10 (Addr.mk k9 0 none) 0 2 = some [Value.pointer o7, Value.int IntKind.i64 n3] ∧
  stR w10 (Addr.mk k2 0 none) [Value.pointer o7, Value.int IntKind.i64 n3] fun (w13 : World) =>
  ∃ (o8 : Option Addr),
  ∃ (n4 : Int),
  V.rowAt w13 (Addr.mk k2 0 none) 0 2 = some [Value.pointer o8, Value.int IntKind.i64 n4] ∧
  R (Value.agg (Array.mk [Value.pointer o8, Value.int IntKind.i64 n4])) w13)) ∧
  new w3 (Obj.cells (Array.mk [Value.pointer none, Value.int IntKind.i64 0]) 85) fun (k13 : Nat) (w14 : World) =>
  I1 w14 ∧
  RunE Proofs.Tryd.prog Ev 55 [Value.int IntKind.i64 ((↑k3 : Int) + (↑k5 : Int)), Value.slice none 0 0] w14
  fun (v3 : Value) (w15 : World) =>
  ∃ (o9 : Option Addr),
  v3 = Value.pointer o9 ∧
  I1 w15 ∧
  stR w15 (Addr.mk k13 0 none) [Value.pointer o9, Value.int IntKind.i64 (↑k7 : Int)] fun (w16 : World) =>
  ∃ (o10 : Option Addr),
  ∃ (k14 : Nat),
  ∃ (k15 : Nat),
  World.cell? w16 (Addr.mk k1 0 none) = some (Value.slice o10 k14 k15) ∧
  ∃ (x3 : arrS (shs [(20, S1.one (Cs.int IntKind.i64))]) (World → Prop)),
  ∃ (x4 : arrS (shs [(20, S1.one (Cs.int IntKind.i64))]) (World → Nat)),
  x3 0 w16 ∧
  ∀ (I3 : Nat → Value) (n5 : Int) (w17 : World),
  x3 n5 w17 →
  br (decide (n5 < (↑k14 : Int)))
  (∃ (o11 : Option Addr),
  World.cell? w17 (Addr.mk k13 0 none) = some (Value.pointer o11) ∧
  new w17 (Obj.cells (Array.mk [Value.int IntKind.i64 n5]) 3) fun (k16 : Nat) (w18 : World) =>
  RunE Proofs.Tryd.prog Ev 77 [Value.pointer o11, Value.slice (some (Addr.mk k16 0 none)) 1 1] w18
  fun (v4 : Value) (w19 : World) =>
  ∃ (n6 : Int),
  v4 = Value.int IntKind.i64 n6 ∧ inI (n5 + 1) ∧ x3 (n5 + 1) w19 ∧ x4 (n5 + 1) w19 < x4 n5 w17)
  (∃ (o12 : Option Addr),
  ∃ (n7 : Int),
  V.rowAt w17 (Addr.mk k13 0 none) 0 2 = some [Value.pointer o12, Value.int IntKind.i64 n7] ∧
  stR w17 (Addr.mk k2 0 none) [Value.pointer o12, Value.int IntKind.i64 n7] fun (w20 : World) =>
  ∃ (o13 : Option Addr),
  ∃ (n8 : Int),
  V.rowAt w20 (Addr.mk k2 0 none) 0 2 = some [Value.pointer o13, Value.int IntKind.i64 n8] ∧
  R (Value.agg (Array.mk [Value.pointer o13, Value.int IntKind.i64 n8])) w20)
set_option maxRecDepth 100000 in
theorem run_reach_mark (p0g_0a : Option Addr) (p0g_0l : Nat) (p0g_0c : Nat) (p0g_1a : Option Addr) (p0g_1l : Nat) (p0g_1c : Nat) (p0g_2a : Option Addr) (p0g_2l : Nat) (p0g_2c : Nat) (p0g_3 : Int) (p0g_4a : Option Addr) (p0g_4l : Nat) (p0g_4c : Nat) (w : World) (R : Value → World → Prop) (h : vc_reach_mark p0g_0a p0g_0l p0g_0c p0g_1a p0g_1l p0g_1c p0g_2a p0g_2l p0g_2c p0g_3 p0g_4a p0g_4l p0g_4c w R) : Run Tryd.prog 86 [(.agg #[(.slice p0g_0a p0g_0l p0g_0c), (.slice p0g_1a p0g_1l p0g_1c), (.slice p0g_2a p0g_2l p0g_2c), (.int .i64 p0g_3), (.slice p0g_4a p0g_4l p0g_4c)])] w R :=
  run_ev tyOk fnOk mixed Tryd.func86 ann_reach_mark ((by kernel_rfl : fnV Tryd.prog Ty Fn Ev ann_reach_mark Tryd.f86 [(.agg #[(.slice p0g_0a p0g_0l p0g_0c), (.slice p0g_1a p0g_1l p0g_1c), (.slice p0g_2a p0g_2l p0g_2c), (.int .i64 p0g_3), (.slice p0g_4a p0g_4l p0g_4c)])] w R = vc_reach_mark p0g_0a p0g_0l p0g_0c p0g_1a p0g_1l p0g_1c p0g_2a p0g_2l p0g_2c p0g_3 p0g_4a p0g_4l p0g_4c w R) ▸ h)

abbrev n_reach_until : FuncId := 87
def ann_reach_until : Ann := { rngs := [], loops := [(2, [(4, (.one (.int .i64)))]), (5, [(4, (.one (.int .i64))), (12, (.one (.int .i64)))])], joins := [], blocks := [] }
set_option maxRecDepth 100000 in
def vc_reach_until (p0g_0a : Option Addr) (p0g_0l : Nat) (p0g_0c : Nat) (p0g_1a : Option Addr) (p0g_1l : Nat) (p0g_1c : Nat) (p0g_2a : Option Addr) (p0g_2l : Nat) (p0g_2c : Nat) (p0g_3 : Int) (p0g_4a : Option Addr) (p0g_4l : Nat) (p0g_4c : Nat) (p1stepg : FuncId) (p1stepc : List Value) (w : World) (R : Value → World → Prop) : Prop :=
  new w
  (Obj.cells
  (Array.mk [Value.slice p0g_0a p0g_0l p0g_0c, Value.slice p0g_1a p0g_1l p0g_1c, Value.slice p0g_2a p0g_2l p0g_2c, Value.int IntKind.i64 p0g_3, Value.slice p0g_4a p0g_4l p0g_4c])
  27)
  fun (k1 : Nat) (w1 : World) =>
  ∃ (x1 : arrS (shs [(4, S1.one (Cs.int IntKind.i64))]) (World → Prop)),
  ∃ (x2 : arrS (shs [(4, S1.one (Cs.int IntKind.i64))]) (World → Nat)),
  x1 1 w1 ∧
  ∀ (I1 : Nat → Value) (n1 : Int) (w2 : World),
  x1 n1 w2 →
  br (decide (0 < n1))
  (∃ (o1 : Option Addr),
  ∃ (k2 : Nat),
  ∃ (k3 : Nat),
  World.cell? w2 (Addr.add (Addr.mk k1 0 none) 4) = some (Value.slice o1 k2 k3) ∧
  ∃ (x3 : arrS (shs [(4, S1.one (Cs.int IntKind.i64)), (12, S1.one (Cs.int IntKind.i64))]) (World → Prop)),
  ∃ (x4 : arrS (shs [(4, S1.one (Cs.int IntKind.i64)), (12, S1.one (Cs.int IntKind.i64))]) (World → Nat)),
  x3 0 0 w2 ∧
  ∀ (I2 : Nat → Value) (n2 n3 : Int) (w3 : World),
  x3 n2 n3 w3 →
  br (decide (n3 < (↑k2 : Int)))
  (idx o1 k2 n3 3 fun (a1 : Addr) =>
  ∃ (n4 : Int),
  ∃ (o2 : Option Addr),
  ∃ (k4 : Nat),
  ∃ (k5 : Nat),
  ∃ (n5 : Int),
  V.rowAt w3 a1 0 3 = some [Value.int IntKind.i64 n4, Value.slice o2 k4 k5, Value.int IntKind.i64 n5] ∧
  new w3 (Obj.cells (Array.mk [Value.int IntKind.i64 0, Value.slice none 0 0, Value.int IntKind.i64 0]) 51)
  fun (k6 : Nat) (w4 : World) =>
  stR w4 (Addr.mk k6 0 none) [Value.int IntKind.i64 n4, Value.slice o2 k4 k5, Value.int IntKind.i64 n5] fun (w5 : World) =>
  ∃ (n6 : Int),
  ∃ (o3 : Option Addr),
  ∃ (k7 : Nat),
  ∃ (k8 : Nat),
  ∃ (n7 : Int),
  V.rowAt w5 (Addr.mk k6 0 none) 0 3 = some [Value.int IntKind.i64 n6, Value.slice o3 k7 k8, Value.int IntKind.i64 n7] ∧
  ifT (Proofs.YtaheggomcnbbiaaDoor.Fn p1stepg)
  (RunE Proofs.Tryd.prog Ev p1stepg
  (Value.agg (Array.mk [Value.int IntKind.i64 n6, Value.slice o3 k7 k8, Value.int IntKind.i64 n7]) :: p1stepc) w5
  fun (v1 : Value) (w6 : World) =>
  ∃ (n8 : Int),
  v1 = Value.int IntKind.i64 n8 ∧
  inI (n2 + n8) ∧ inI (n3 + 1) ∧ x3 (n2 + n8) (n3 + 1) w6 ∧ x4 (n2 + n8) (n3 + 1) w6 < x4 n2 n3 w3))
  (x1 n2 w3 ∧ x2 n2 w3 < x2 n1 w2))
  (R (Value.tuple (Array.mk [])) w2)
set_option maxRecDepth 100000 in
theorem run_reach_until (p0g_0a : Option Addr) (p0g_0l : Nat) (p0g_0c : Nat) (p0g_1a : Option Addr) (p0g_1l : Nat) (p0g_1c : Nat) (p0g_2a : Option Addr) (p0g_2l : Nat) (p0g_2c : Nat) (p0g_3 : Int) (p0g_4a : Option Addr) (p0g_4l : Nat) (p0g_4c : Nat) (p1stepg : FuncId) (p1stepc : List Value) (w : World) (R : Value → World → Prop) (h : vc_reach_until p0g_0a p0g_0l p0g_0c p0g_1a p0g_1l p0g_1c p0g_2a p0g_2l p0g_2c p0g_3 p0g_4a p0g_4l p0g_4c p1stepg p1stepc w R) : Run Tryd.prog 87 [(.agg #[(.slice p0g_0a p0g_0l p0g_0c), (.slice p0g_1a p0g_1l p0g_1c), (.slice p0g_2a p0g_2l p0g_2c), (.int .i64 p0g_3), (.slice p0g_4a p0g_4l p0g_4c)]), (.func (.func p1stepg) #[] ⟨p1stepc⟩)] w R :=
  run_ev tyOk fnOk mixed Tryd.func87 ann_reach_until ((by kernel_rfl : fnV Tryd.prog Ty Fn Ev ann_reach_until Tryd.f87 [(.agg #[(.slice p0g_0a p0g_0l p0g_0c), (.slice p0g_1a p0g_1l p0g_1c), (.slice p0g_2a p0g_2l p0g_2c), (.int .i64 p0g_3), (.slice p0g_4a p0g_4l p0g_4c)]), (.func (.func p1stepg) #[] ⟨p1stepc⟩)] w R = vc_reach_until p0g_0a p0g_0l p0g_0c p0g_1a p0g_1l p0g_1c p0g_2a p0g_2l p0g_2c p0g_3 p0g_4a p0g_4l p0g_4c p1stepg p1stepc w R) ▸ h)

abbrev n_reach_productive_S1 : FuncId := 88
def ann_reach_productive_S1 : Ann := { rngs := [], loops := [], joins := [], blocks := [] }
set_option maxRecDepth 100000 in
def vc_reach_productive_S1 (p0p_0 : Int) (p0p_1a : Option Addr) (p0p_1l : Nat) (p0p_1c : Nat) (p0p_2 : Int) (c0 : Addr) (w : World) (R : Value → World → Prop) : Prop :=
  new w (Obj.cells (Array.mk [Value.int IntKind.i64 p0p_0, Value.slice p0p_1a p0p_1l p0p_1c, Value.int IntKind.i64 p0p_2]) 51) fun (k1 : Nat) (w1 : World) =>
  ∃ (o1 : Option Addr),
  ∃ (n1 : Int),
  V.rowAt w1 c0 0 2 = some [Value.pointer o1, Value.int IntKind.i64 n1] ∧
  ∃ (o2 : Option Addr),
  ∃ (k2 : Nat),
  ∃ (k3 : Nat),
  World.cell? w1 (Addr.add (Addr.mk k1 0 none) 1) = some (Value.slice o2 k2 k3) ∧
  RunE Proofs.Tryd.prog Ev 69 [Value.agg (Array.mk [Value.pointer o1, Value.int IntKind.i64 n1]), Value.slice o2 k2 k3] w1 fun (v1 : Value) (w2 : World) =>
  ∃ (b1 : Bool),
  v1 = Value.bool b1 ∧
  br (!b1) (R (Value.int IntKind.i64 0) w2)
  (∃ (o3 : Option Addr),
  World.cell? w2 c0 = some (Value.pointer o3) ∧
  ∃ (n2 : Int),
  World.cell? w2 (Addr.mk k1 0 none) = some (Value.int IntKind.i64 n2) ∧
  new w2 (Obj.cells (Array.mk [Value.int IntKind.i64 n2]) 3) fun (k4 : Nat) (w3 : World) =>
  RunE Proofs.Tryd.prog Ev 77 [Value.pointer o3, Value.slice (some (Addr.mk k4 0 none)) 1 1] w3 fun (v2 : Value) (w4 : World) =>
  ∃ (n3 : Int), v2 = Value.int IntKind.i64 n3 ∧ R (Value.int IntKind.i64 n3) w4)
set_option maxRecDepth 100000 in
theorem run_reach_productive_S1 (p0p_0 : Int) (p0p_1a : Option Addr) (p0p_1l : Nat) (p0p_1c : Nat) (p0p_2 : Int) (c0 : Addr) (w : World) (R : Value → World → Prop) (h : vc_reach_productive_S1 p0p_0 p0p_1a p0p_1l p0p_1c p0p_2 c0 w R) : Run Tryd.prog 88 [(.agg #[(.int .i64 p0p_0), (.slice p0p_1a p0p_1l p0p_1c), (.int .i64 p0p_2)]), (.pointer (some c0))] w R :=
  run_ev tyOk fnOk mixed Tryd.func88 ann_reach_productive_S1 ((by kernel_rfl : fnV Tryd.prog Ty Fn Ev ann_reach_productive_S1 Tryd.f88 [(.agg #[(.int .i64 p0p_0), (.slice p0p_1a p0p_1l p0p_1c), (.int .i64 p0p_2)]), (.pointer (some c0))] w R = vc_reach_productive_S1 p0p_0 p0p_1a p0p_1l p0p_1c p0p_2 c0 w R) ▸ h)

abbrev n_reach_useful_S1 : FuncId := 90
def ann_reach_useful_S1 : Ann := { rngs := [], loops := [], joins := [], blocks := [] }
set_option maxRecDepth 100000 in
def vc_reach_useful_S1 (p0p_0 : Int) (p0p_1a : Option Addr) (p0p_1l : Nat) (p0p_1c : Nat) (p0p_2 : Int) (c0 : Addr) (c1 : Addr) (w : World) (R : Value → World → Prop) : Prop :=
  new w (Obj.cells (Array.mk [Value.int IntKind.i64 p0p_0, Value.slice p0p_1a p0p_1l p0p_1c, Value.int IntKind.i64 p0p_2]) 51) fun (k1 : Nat) (w1 : World) =>
  ∃ (o1 : Option Addr),
  World.cell? w1 c0 = some (Value.pointer o1) ∧
  ∃ (n1 : Int),
  World.cell? w1 (Addr.mk k1 0 none) = some (Value.int IntKind.i64 n1) ∧
  RunE Proofs.Tryd.prog Ev 63 [Value.pointer o1, Value.int IntKind.i64 n1] w1 fun (v1 : Value) (w2 : World) =>
  ∃ (b1 : Bool),
  v1 = Value.bool b1 ∧
  br (!b1) (R (Value.int IntKind.i64 0) w2)
  (∃ (o2 : Option Addr),
  ∃ (n2 : Int),
  V.rowAt w2 c1 0 2 = some [Value.pointer o2, Value.int IntKind.i64 n2] ∧
  ∃ (o3 : Option Addr),
  ∃ (k2 : Nat),
  ∃ (k3 : Nat),
  World.cell? w2 (Addr.add (Addr.mk k1 0 none) 1) = some (Value.slice o3 k2 k3) ∧
  RunE Proofs.Tryd.prog Ev 69 [Value.agg (Array.mk [Value.pointer o2, Value.int IntKind.i64 n2]), Value.slice o3 k2 k3] w2
  fun (v2 : Value) (w3 : World) =>
  ∃ (b2 : Bool),
  v2 = Value.bool b2 ∧
  br (!b2) (R (Value.int IntKind.i64 0) w3)
  (∃ (o4 : Option Addr),
  World.cell? w3 c0 = some (Value.pointer o4) ∧
  ∃ (o5 : Option Addr),
  ∃ (k4 : Nat),
  ∃ (k5 : Nat),
  World.cell? w3 (Addr.add (Addr.mk k1 0 none) 1) = some (Value.slice o5 k4 k5) ∧
  RunE Proofs.Tryd.prog Ev 77 [Value.pointer o4, Value.slice o5 k4 k5] w3 fun (v3 : Value) (w4 : World) =>
  ∃ (n3 : Int), v3 = Value.int IntKind.i64 n3 ∧ R (Value.int IntKind.i64 n3) w4))
set_option maxRecDepth 100000 in
theorem run_reach_useful_S1 (p0p_0 : Int) (p0p_1a : Option Addr) (p0p_1l : Nat) (p0p_1c : Nat) (p0p_2 : Int) (c0 : Addr) (c1 : Addr) (w : World) (R : Value → World → Prop) (h : vc_reach_useful_S1 p0p_0 p0p_1a p0p_1l p0p_1c p0p_2 c0 c1 w R) : Run Tryd.prog 90 [(.agg #[(.int .i64 p0p_0), (.slice p0p_1a p0p_1l p0p_1c), (.int .i64 p0p_2)]), (.pointer (some c0)), (.pointer (some c1))] w R :=
  run_ev tyOk fnOk mixed Tryd.func90 ann_reach_useful_S1 ((by kernel_rfl : fnV Tryd.prog Ty Fn Ev ann_reach_useful_S1 Tryd.f90 [(.agg #[(.int .i64 p0p_0), (.slice p0p_1a p0p_1l p0p_1c), (.int .i64 p0p_2)]), (.pointer (some c0)), (.pointer (some c1))] w R = vc_reach_useful_S1 p0p_0 p0p_1a p0p_1l p0p_1c p0p_2 c0 c1 w R) ▸ h)

abbrev n_reach_marks_all_S1 : FuncId := 95
def ann_reach_marks_all_S1 : Ann := { rngs := [], loops := [], joins := [], blocks := [] }
set_option maxRecDepth 100000 in
def vc_reach_marks_all_S1 (p0s : Int) (c0 : Addr) (w : World) (R : Value → World → Prop) : Prop :=
  ∃ (o1 : Option Addr),
  World.cell? w c0 = some (Value.pointer o1) ∧
  RunE Proofs.Tryd.prog Ev 63 [Value.pointer o1, Value.int IntKind.i64 p0s] w fun (v1 : Value) (w1 : World) => ∃ (b1 : Bool), v1 = Value.bool b1 ∧ R (Value.bool !b1) w1
set_option maxRecDepth 100000 in
theorem run_reach_marks_all_S1 (p0s : Int) (c0 : Addr) (w : World) (R : Value → World → Prop) (h : vc_reach_marks_all_S1 p0s c0 w R) : Run Tryd.prog 95 [(.int .i64 p0s), (.pointer (some c0))] w R :=
  run_ev tyOk fnOk mixed Tryd.func95 ann_reach_marks_all_S1 ((by kernel_rfl : fnV Tryd.prog Ty Fn Ev ann_reach_marks_all_S1 Tryd.f95 [(.int .i64 p0s), (.pointer (some c0))] w R = vc_reach_marks_all_S1 p0s c0 w R) ▸ h)

abbrev n_presageref06_Row : FuncId := 35
def ann_presageref06_Row : Ann := { rngs := [], loops := [(3, [(7, (.one .slice)), (8, (.one (.int .i64)))])], joins := [], blocks := [] }
set_option maxRecDepth 100000 in
def vc_presageref06_Row (p0g_0a : Option Addr) (p0g_0l : Nat) (p0g_0c : Nat) (p0g_1a : Option Addr) (p0g_1l : Nat) (p0g_1c : Nat) (p0g_2a : Option Addr) (p0g_2l : Nat) (p0g_2c : Nat) (p0g_3 : Int) (p0g_4a : Option Addr) (p0g_4l : Nat) (p0g_4c : Nat) (p1rawa : Option Addr) (p1rawl : Nat) (p1rawc : Nat) (p2most : Int) (w : World) (R : Value → World → Prop) : Prop :=
  new w
  (Obj.cells
  (Array.mk [Value.slice p0g_0a p0g_0l p0g_0c, Value.slice p0g_1a p0g_1l p0g_1c, Value.slice p0g_2a p0g_2l p0g_2c, Value.int IntKind.i64 p0g_3, Value.slice p0g_4a p0g_4l p0g_4c])
  27)
  fun (k1 : Nat) (w1 : World) =>
  ∃ (x1 : arrS (shs [(7, S1.one Cs.slice), (8, S1.one (Cs.int IntKind.i64))]) (World → Prop)),
  ∃ (x2 : arrS (shs [(7, S1.one Cs.slice), (8, S1.one (Cs.int IntKind.i64))]) (World → Nat)),
  x1 none 0 0 0 w1 ∧
  ∀ (I1 : Nat → Value) (o1 : Option Addr) (k2 k3 : Nat) (n1 : Int) (w2 : World),
  x1 o1 k2 k3 n1 w2 →
  br (decide (n1 < (↑p1rawl : Int)))
  (br (decide (n1 < p2most))
  (∃ (o2 : Option Addr),
  ∃ (k4 : Nat),
  ∃ (k5 : Nat),
  World.cell? w2 (Addr.mk k1 0 none) = some (Value.slice o2 k4 k5) ∧
  br (decide (1 < (↑k4 : Int)))
  (idx p1rawa p1rawl n1 1 fun (a1 : Addr) =>
  ∃ (n2 : Int),
  World.cell? w2 a1 = some (Value.int IntKind.i64 n2) ∧
  br (decide (n2 < 0))
  (inI (n2 + 1) ∧
  inI (0 - (n2 + 1)) ∧
  ∃ (o3 : Option Addr),
  ∃ (k6 : Nat),
  ∃ (k7 : Nat),
  World.cell? w2 (Addr.mk k1 0 none) = some (Value.slice o3 k6 k7) ∧
  inI ((↑k6 : Int) - 1) ∧
  nz ((↑k6 : Int) - 1) ∧
  inI (1 + Int.tmod (0 - (n2 + 1)) ((↑k6 : Int) - 1)) ∧
  new w2 (Obj.cells (Array.mk [Value.int IntKind.i64 (1 + Int.tmod (0 - (n2 + 1)) ((↑k6 : Int) - 1))]) 3)
  fun (k8 : Nat) (w3 : World) =>
  RunS Proofs.Tryd.prog
  (Builtin.append_ (Array.mk [24, 24]) 24 (Array.mk [Value.slice o1 k2 k3, Value.slice (some (Addr.mk k8 0 none)) 1 1])) w3
  fun (v1 : Value) (w4 : World) =>
  ∃ (o4 : Option Addr),
  ∃ (k9 : Nat),
  ∃ (k10 : Nat),
  v1 = Value.slice o4 k9 k10 ∧ inI (n1 + 1) ∧ x1 o4 k9 k10 (n1 + 1) w4 ∧ x2 o4 k9 k10 (n1 + 1) w4 < x2 o1 k2 k3 n1 w2)
  (∃ (o5 : Option Addr),
  ∃ (k11 : Nat),
  ∃ (k12 : Nat),
  World.cell? w2 (Addr.mk k1 0 none) = some (Value.slice o5 k11 k12) ∧
  inI ((↑k11 : Int) - 1) ∧
  nz ((↑k11 : Int) - 1) ∧
  inI (1 + Int.tmod n2 ((↑k11 : Int) - 1)) ∧
  new w2 (Obj.cells (Array.mk [Value.int IntKind.i64 (1 + Int.tmod n2 ((↑k11 : Int) - 1))]) 3) fun (k13 : Nat) (w5 : World) =>
  RunS Proofs.Tryd.prog
  (Builtin.append_ (Array.mk [24, 24]) 24 (Array.mk [Value.slice o1 k2 k3, Value.slice (some (Addr.mk k13 0 none)) 1 1])) w5
  fun (v2 : Value) (w6 : World) =>
  ∃ (o6 : Option Addr),
  ∃ (k14 : Nat),
  ∃ (k15 : Nat),
  v2 = Value.slice o6 k14 k15 ∧ inI (n1 + 1) ∧ x1 o6 k14 k15 (n1 + 1) w6 ∧ x2 o6 k14 k15 (n1 + 1) w6 < x2 o1 k2 k3 n1 w2))
  (R (Value.slice o1 k2 k3) w2))
  (R (Value.slice o1 k2 k3) w2))
  (R (Value.slice o1 k2 k3) w2)
set_option maxRecDepth 100000 in
theorem run_presageref06_Row (p0g_0a : Option Addr) (p0g_0l : Nat) (p0g_0c : Nat) (p0g_1a : Option Addr) (p0g_1l : Nat) (p0g_1c : Nat) (p0g_2a : Option Addr) (p0g_2l : Nat) (p0g_2c : Nat) (p0g_3 : Int) (p0g_4a : Option Addr) (p0g_4l : Nat) (p0g_4c : Nat) (p1rawa : Option Addr) (p1rawl : Nat) (p1rawc : Nat) (p2most : Int) (w : World) (R : Value → World → Prop) (h : vc_presageref06_Row p0g_0a p0g_0l p0g_0c p0g_1a p0g_1l p0g_1c p0g_2a p0g_2l p0g_2c p0g_3 p0g_4a p0g_4l p0g_4c p1rawa p1rawl p1rawc p2most w R) : Run Tryd.prog 35 [(.agg #[(.slice p0g_0a p0g_0l p0g_0c), (.slice p0g_1a p0g_1l p0g_1c), (.slice p0g_2a p0g_2l p0g_2c), (.int .i64 p0g_3), (.slice p0g_4a p0g_4l p0g_4c)]), (.slice p1rawa p1rawl p1rawc), (.int .i64 p2most)] w R :=
  run_ev tyOk fnOk mixed Tryd.func35 ann_presageref06_Row ((by kernel_rfl : fnV Tryd.prog Ty Fn Ev ann_presageref06_Row Tryd.f35 [(.agg #[(.slice p0g_0a p0g_0l p0g_0c), (.slice p0g_1a p0g_1l p0g_1c), (.slice p0g_2a p0g_2l p0g_2c), (.int .i64 p0g_3), (.slice p0g_4a p0g_4l p0g_4c)]), (.slice p1rawa p1rawl p1rawc), (.int .i64 p2most)] w R = vc_presageref06_Row p0g_0a p0g_0l p0g_0c p0g_1a p0g_1l p0g_1c p0g_2a p0g_2l p0g_2c p0g_3 p0g_4a p0g_4l p0g_4c p1rawa p1rawl p1rawc p2most w R) ▸ h)

abbrev n_presageref06_Sentence : FuncId := 36
def ann_presageref06_Sentence : Ann := { rngs := [], loops := [(5, [(7, (.one (.int .i64)))])], joins := [], blocks := [] }
set_option maxRecDepth 100000 in
def vc_presageref06_Sentence (p0g_0a : Option Addr) (p0g_0l : Nat) (p0g_0c : Nat) (p0g_1a : Option Addr) (p0g_1l : Nat) (p0g_1c : Nat) (p0g_2a : Option Addr) (p0g_2l : Nat) (p0g_2c : Nat) (p0g_3 : Int) (p0g_4a : Option Addr) (p0g_4l : Nat) (p0g_4c : Nat) (p1rowa : Option Addr) (p1rowl : Nat) (p1rowc : Nat) (w : World) (R : Value → World → Prop) : Prop :=
  new w
  (Obj.cells
  (Array.mk [Value.slice p0g_0a p0g_0l p0g_0c, Value.slice p0g_1a p0g_1l p0g_1c, Value.slice p0g_2a p0g_2l p0g_2c, Value.int IntKind.i64 p0g_3, Value.slice p0g_4a p0g_4l p0g_4c])
  27)
  fun (k1 : Nat) (w1 : World) =>
  ∃ (o1 : Option Addr),
  ∃ (k2 : Nat),
  ∃ (k3 : Nat),
  ∃ (o2 : Option Addr),
  ∃ (k4 : Nat),
  ∃ (k5 : Nat),
  ∃ (o3 : Option Addr),
  ∃ (k6 : Nat),
  ∃ (k7 : Nat),
  ∃ (n1 : Int),
  ∃ (o4 : Option Addr),
  ∃ (k8 : Nat),
  ∃ (k9 : Nat),
  V.rowAt w1 (Addr.mk k1 0 none) 0 5 =
  some [Value.slice o1 k2 k3, Value.slice o2 k4 k5, Value.slice o3 k6 k7, Value.int IntKind.i64 n1, Value.slice o4 k8 k9] ∧
  RunE Proofs.Tryd.prog Ev 71
  [Value.agg (Array.mk [Value.slice o1 k2 k3, Value.slice o2 k4 k5, Value.slice o3 k6 k7, Value.int IntKind.i64 n1, Value.slice o4 k8 k9]),
  Value.slice p1rowa p1rowl p1rowc]
  w1 fun (v1 : Value) (w2 : World) =>
  ∃ (o5 : Option Addr),
  ∃ (n2 : Int),
  v1 = Value.tuple (Array.mk [Value.pointer o5, Value.int IntKind.i64 n2]) ∧
  br (decide (n2 < (↑p1rowl : Int))) (R (Value.bool false) w2)
  (∃ (x1 : arrS (shs [(7, S1.one (Cs.int IntKind.i64))]) (World → Prop)),
  ∃ (x2 : arrS (shs [(7, S1.one (Cs.int IntKind.i64))]) (World → Nat)),
  x1 0 w2 ∧
  ∀ (I1 : Nat → Value) (n3 : Int) (w3 : World),
  x1 n3 w3 →
  nn o5 fun (a1 : Addr) =>
  ∃ (o6 : Option Addr),
  ∃ (k10 : Nat),
  ∃ (k11 : Nat),
  World.cell? w3 (Addr.add a1 6) = some (Value.slice o6 k10 k11) ∧
  idx o6 k10 n2 1 fun (a2 : Addr) =>
  ∃ (o7 : Option Addr),
  ∃ (k12 : Nat),
  ∃ (k13 : Nat),
  World.cell? w3 a2 = some (Value.slice o7 k12 k13) ∧
  br (decide (n3 < (↑k12 : Int)))
  (nn o5 fun (a3 : Addr) =>
  ∃ (o8 : Option Addr),
  ∃ (k14 : Nat),
  ∃ (k15 : Nat),
  World.cell? w3 (Addr.add a3 6) = some (Value.slice o8 k14 k15) ∧
  idx o8 k14 n2 1 fun (a4 : Addr) =>
  ∃ (o9 : Option Addr),
  ∃ (k16 : Nat),
  ∃ (k17 : Nat),
  World.cell? w3 a4 = some (Value.slice o9 k16 k17) ∧
  idx o9 k16 n3 3 fun (a5 : Addr) =>
  ∃ (n4 : Int),
  ∃ (n5 : Int),
  ∃ (n6 : Int),
  V.rowAt w3 a5 0 3 =
  some
  [Value.int IntKind.i64 n4, Value.int IntKind.i64 n5,
  Value.int IntKind.i64 n6] ∧
  new w3
  (Obj.cells
  (Array.mk
  [Value.int IntKind.i64 0, Value.int IntKind.i64 0,
  Value.int IntKind.i64 0])
  105)
  fun (k18 : Nat) (w4 : World) =>
  stR w4 (Addr.mk k18 0 none)
  [Value.int IntKind.i64 n4, Value.int IntKind.i64 n5,
  Value.int IntKind.i64 n6]
  fun (w5 : World) =>
  ∀ (w6 : World),
  drawn w5 w6 →
  ∃ (I2 : World → Prop),
  I2 w6 ∧
  nn o5 fun (a6 : Addr) =>
  ∃ (o10 : Option Addr),
  ∃ (k19 : Nat),
  ∃ (k20 : Nat),
  (∀ (w7 : World),
  I2 w7 →
  World.cell? w7 (Addr.add a6 4) =
  some (Value.slice o10 k19 k20)) ∧
  ∃ (n7 : Int),
  (∀ (w8 : World),
  I2 w8 →
  World.cell? w8 (Addr.mk k18 0 none) =
  some (Value.int IntKind.i64 n7)) ∧
  idx o10 k19 n7 3 fun (a7 : Addr) =>
  ∃ (n8 : Int),
  ∃ (o11 : Option Addr),
  ∃ (k21 : Nat),
  ∃ (k22 : Nat),
  ∃ (n9 : Int),
  (∀ (w9 : World),
  I2 w9 →
  V.rowAt w9 a7 0 3 =
  some
  [Value.int IntKind.i64 n8,
  Value.slice o11 k21 k22,
  Value.int IntKind.i64 n9]) ∧
  new w6
  (Obj.cells
  (Array.mk
  [Value.int IntKind.i64 0,
  Value.slice none 0 0,
  Value.int IntKind.i64 0])
  51)
  fun (k23 : Nat) (w10 : World) =>
  I2 w10 ∧
  stR w10 (Addr.mk k23 0 none)
  [Value.int IntKind.i64 n8,
  Value.slice o11 k21 k22,
  Value.int IntKind.i64 n9]
  fun (w11 : World) =>
  ∃ (n10 : Int),
  World.cell? w11
  (Addr.add
  (Addr.mk k18 0 none)
  2) =
  some
  (Value.int IntKind.i64
  n10) ∧
  br (n10 == 0)
  (∃ (n11 : Int),
  World.cell? w11
  (Addr.add
  (Addr.mk k18 0
  none)
  1) =
  some
  (Value.int
  IntKind.i64
  n11) ∧
  ∃ (o12 : Option Addr),
  ∃ (k24 : Nat),
  ∃ (k25 : Nat),
  World.cell? w11
  (Addr.add
  (Addr.mk
  k23 0
  none)
  1) =
  some
  (Value.slice
  o12 k24
  k25) ∧
  br
  (n11 ==
  (↑k24 :
  Int))
  (∃ (n12 :
  Int),
  World.cell?
  w11
  (Addr.mk
  k23
  0
  none) =
  some
  (Value.int
  IntKind.i64
  n12) ∧
  ∃ (n13 :
  Int),
  World.cell?
  w11
  (Addr.add
  (Addr.mk
  k1
  0
  none)
  3) =
  some
  (Value.int
  IntKind.i64
  n13) ∧
  br
  (n12 ==
  n13)
  (R
  (Value.bool
  true)
  w11)
  (inI
  (n3 +
  1) ∧
  x1
  (n3 +
  1)
  w11 ∧
  x2
  (n3 +
  1)
  w11 <
  x2
  n3
  w3))
  (inI
  (n3 +
  1) ∧
  x1
  (n3 +
  1)
  w11 ∧
  x2
  (n3 +
  1)
  w11 <
  x2 n3
  w3))
  (inI (n3 + 1) ∧
  x1 (n3 + 1) w11 ∧
  x2 (n3 + 1) w11 <
  x2 n3 w3))
  (R (Value.bool false) w3))
set_option maxRecDepth 100000 in
theorem run_presageref06_Sentence (p0g_0a : Option Addr) (p0g_0l : Nat) (p0g_0c : Nat) (p0g_1a : Option Addr) (p0g_1l : Nat) (p0g_1c : Nat) (p0g_2a : Option Addr) (p0g_2l : Nat) (p0g_2c : Nat) (p0g_3 : Int) (p0g_4a : Option Addr) (p0g_4l : Nat) (p0g_4c : Nat) (p1rowa : Option Addr) (p1rowl : Nat) (p1rowc : Nat) (w : World) (R : Value → World → Prop) (h : vc_presageref06_Sentence p0g_0a p0g_0l p0g_0c p0g_1a p0g_1l p0g_1c p0g_2a p0g_2l p0g_2c p0g_3 p0g_4a p0g_4l p0g_4c p1rowa p1rowl p1rowc w R) : Run Tryd.prog 36 [(.agg #[(.slice p0g_0a p0g_0l p0g_0c), (.slice p0g_1a p0g_1l p0g_1c), (.slice p0g_2a p0g_2l p0g_2c), (.int .i64 p0g_3), (.slice p0g_4a p0g_4l p0g_4c)]), (.slice p1rowa p1rowl p1rowc)] w R :=
  run_ev tyOk fnOk mixed Tryd.func36 ann_presageref06_Sentence ((by kernel_rfl : fnV Tryd.prog Ty Fn Ev ann_presageref06_Sentence Tryd.f36 [(.agg #[(.slice p0g_0a p0g_0l p0g_0c), (.slice p0g_1a p0g_1l p0g_1c), (.slice p0g_2a p0g_2l p0g_2c), (.int .i64 p0g_3), (.slice p0g_4a p0g_4l p0g_4c)]), (.slice p1rowa p1rowl p1rowc)] w R = vc_presageref06_Sentence p0g_0a p0g_0l p0g_0c p0g_1a p0g_1l p0g_1c p0g_2a p0g_2l p0g_2c p0g_3 p0g_4a p0g_4l p0g_4c p1rowa p1rowl p1rowc w R) ▸ h)

abbrev n_presageref06_Begins : FuncId := 37
def ann_presageref06_Begins : Ann := { rngs := [], loops := [], joins := [], blocks := [] }
set_option maxRecDepth 100000 in
def vc_presageref06_Begins (p0g_0a : Option Addr) (p0g_0l : Nat) (p0g_0c : Nat) (p0g_1a : Option Addr) (p0g_1l : Nat) (p0g_1c : Nat) (p0g_2a : Option Addr) (p0g_2l : Nat) (p0g_2c : Nat) (p0g_3 : Int) (p0g_4a : Option Addr) (p0g_4l : Nat) (p0g_4c : Nat) (p1rowa : Option Addr) (p1rowl : Nat) (p1rowc : Nat) (w : World) (R : Value → World → Prop) : Prop :=
  new w
  (Obj.cells
  (Array.mk [Value.slice p0g_0a p0g_0l p0g_0c, Value.slice p0g_1a p0g_1l p0g_1c, Value.slice p0g_2a p0g_2l p0g_2c, Value.int IntKind.i64 p0g_3, Value.slice p0g_4a p0g_4l p0g_4c])
  27)
  fun (k1 : Nat) (w1 : World) =>
  ∃ (o1 : Option Addr),
  ∃ (k2 : Nat),
  ∃ (k3 : Nat),
  ∃ (o2 : Option Addr),
  ∃ (k4 : Nat),
  ∃ (k5 : Nat),
  ∃ (o3 : Option Addr),
  ∃ (k6 : Nat),
  ∃ (k7 : Nat),
  ∃ (n1 : Int),
  ∃ (o4 : Option Addr),
  ∃ (k8 : Nat),
  ∃ (k9 : Nat),
  V.rowAt w1 (Addr.mk k1 0 none) 0 5 =
  some [Value.slice o1 k2 k3, Value.slice o2 k4 k5, Value.slice o3 k6 k7, Value.int IntKind.i64 n1, Value.slice o4 k8 k9] ∧
  RunE Proofs.Tryd.prog Ev 71
  [Value.agg (Array.mk [Value.slice o1 k2 k3, Value.slice o2 k4 k5, Value.slice o3 k6 k7, Value.int IntKind.i64 n1, Value.slice o4 k8 k9]),
  Value.slice p1rowa p1rowl p1rowc]
  w1 fun (v1 : Value) (w2 : World) =>
  ∃ (o5 : Option Addr),
  ∃ (n2 : Int),
  v1 = Value.tuple (Array.mk [Value.pointer o5, Value.int IntKind.i64 n2]) ∧
  br (n2 == (↑p1rowl : Int))
  (nn o5 fun (a1 : Addr) =>
  ∃ (o6 : Option Addr),
  ∃ (k10 : Nat),
  ∃ (k11 : Nat),
  World.cell? w2 (Addr.add a1 6) = some (Value.slice o6 k10 k11) ∧
  idx o6 k10 n2 1 fun (a2 : Addr) =>
  ∃ (o7 : Option Addr),
  ∃ (k12 : Nat),
  ∃ (k13 : Nat), World.cell? w2 a2 = some (Value.slice o7 k12 k13) ∧ R (Value.bool (decide (0 < (↑k12 : Int)))) w2)
  (R (Value.bool false) w2)
set_option maxRecDepth 100000 in
theorem run_presageref06_Begins (p0g_0a : Option Addr) (p0g_0l : Nat) (p0g_0c : Nat) (p0g_1a : Option Addr) (p0g_1l : Nat) (p0g_1c : Nat) (p0g_2a : Option Addr) (p0g_2l : Nat) (p0g_2c : Nat) (p0g_3 : Int) (p0g_4a : Option Addr) (p0g_4l : Nat) (p0g_4c : Nat) (p1rowa : Option Addr) (p1rowl : Nat) (p1rowc : Nat) (w : World) (R : Value → World → Prop) (h : vc_presageref06_Begins p0g_0a p0g_0l p0g_0c p0g_1a p0g_1l p0g_1c p0g_2a p0g_2l p0g_2c p0g_3 p0g_4a p0g_4l p0g_4c p1rowa p1rowl p1rowc w R) : Run Tryd.prog 37 [(.agg #[(.slice p0g_0a p0g_0l p0g_0c), (.slice p0g_1a p0g_1l p0g_1c), (.slice p0g_2a p0g_2l p0g_2c), (.int .i64 p0g_3), (.slice p0g_4a p0g_4l p0g_4c)]), (.slice p1rowa p1rowl p1rowc)] w R :=
  run_ev tyOk fnOk mixed Tryd.func37 ann_presageref06_Begins ((by kernel_rfl : fnV Tryd.prog Ty Fn Ev ann_presageref06_Begins Tryd.f37 [(.agg #[(.slice p0g_0a p0g_0l p0g_0c), (.slice p0g_1a p0g_1l p0g_1c), (.slice p0g_2a p0g_2l p0g_2c), (.int .i64 p0g_3), (.slice p0g_4a p0g_4l p0g_4c)]), (.slice p1rowa p1rowl p1rowc)] w R = vc_presageref06_Begins p0g_0a p0g_0l p0g_0c p0g_1a p0g_1l p0g_1c p0g_2a p0g_2l p0g_2c p0g_3 p0g_4a p0g_4l p0g_4c p1rowa p1rowl p1rowc w R) ▸ h)

abbrev n_presageref06_Marks : FuncId := 45
def ann_presageref06_Marks : Ann := { rngs := [], loops := [(3, [(4, (.one .bool))]), (6, [(4, (.one .bool)), (5, (.one (.int .i64)))])], joins := [], blocks := [] }
set_option maxRecDepth 100000 in
def vc_presageref06_Marks (p0g_0a : Option Addr) (p0g_0l : Nat) (p0g_0c : Nat) (p0g_1a : Option Addr) (p0g_1l : Nat) (p0g_1c : Nat) (p0g_2a : Option Addr) (p0g_2l : Nat) (p0g_2c : Nat) (p0g_3 : Int) (p0g_4a : Option Addr) (p0g_4l : Nat) (p0g_4c : Nat) (w : World) (R : Value → World → Prop) : Prop :=
  new w
  (Obj.cells
  (Array.mk [Value.slice p0g_0a p0g_0l p0g_0c, Value.slice p0g_1a p0g_1l p0g_1c, Value.slice p0g_2a p0g_2l p0g_2c, Value.int IntKind.i64 p0g_3, Value.slice p0g_4a p0g_4l p0g_4c])
  27)
  fun (k1 : Nat) (w1 : World) =>
  ∃ (o1 : Option Addr),
  ∃ (k2 : Nat),
  ∃ (k3 : Nat),
  World.cell? w1 (Addr.add (Addr.mk k1 0 none) 1) = some (Value.slice o1 k2 k3) ∧
  mkOk (↑k2 : Int) (↑k2 : Int) 1 ∧
  new w1 (Obj.cells (Array.mk (reps (Int.toNat (↑k2 : Int)) [Value.bool false])) 4) fun (k4 : Nat) (w2 : World) =>
  ∃ (x1 : arrS (shs [(4, S1.one Cs.bool)]) (World → Prop)),
  ∃ (x2 : arrS (shs [(4, S1.one Cs.bool)]) (World → Nat)),
  x1 true w2 ∧
  ∀ (I1 : Nat → Value) (b1 : Bool) (w3 : World),
  x1 b1 w3 →
  br b1
  (∃ (x3 : arrS (shs [(4, S1.one Cs.bool), (5, S1.one (Cs.int IntKind.i64))]) (World → Prop)),
  ∃ (x4 : arrS (shs [(4, S1.one Cs.bool), (5, S1.one (Cs.int IntKind.i64))]) (World → Nat)),
  x3 false 0 w3 ∧
  ∀ (I2 : Nat → Value) (b2 : Bool) (n1 : Int) (w4 : World),
  x3 b2 n1 w4 →
  ∃ (o2 : Option Addr),
  ∃ (k5 : Nat),
  ∃ (k6 : Nat),
  World.cell? w4 (Addr.add (Addr.mk k1 0 none) 4) = some (Value.slice o2 k5 k6) ∧
  br (decide (n1 < (↑k5 : Int)))
  (∃ (o3 : Option Addr),
  ∃ (k7 : Nat),
  ∃ (k8 : Nat),
  World.cell? w4 (Addr.add (Addr.mk k1 0 none) 4) = some (Value.slice o3 k7 k8) ∧
  idx o3 k7 n1 3 fun (a1 : Addr) =>
  ∃ (n2 : Int),
  ∃ (o4 : Option Addr),
  ∃ (k9 : Nat),
  ∃ (k10 : Nat),
  ∃ (n3 : Int),
  V.rowAt w4 a1 0 3 = some [Value.int IntKind.i64 n2, Value.slice o4 k9 k10, Value.int IntKind.i64 n3] ∧
  new w4 (Obj.cells (Array.mk [Value.int IntKind.i64 0, Value.slice none 0 0, Value.int IntKind.i64 0]) 51)
  fun (k11 : Nat) (w5 : World) =>
  stR w5 (Addr.mk k11 0 none) [Value.int IntKind.i64 n2, Value.slice o4 k9 k10, Value.int IntKind.i64 n3]
  fun (w6 : World) =>
  ∃ (n4 : Int),
  World.cell? w6 (Addr.mk k11 0 none) = some (Value.int IntKind.i64 n4) ∧
  ∃ (o5 : Option Addr),
  ∃ (k12 : Nat),
  ∃ (k13 : Nat),
  World.cell? w6 (Addr.mk k1 0 none) = some (Value.slice o5 k12 k13) ∧
  inI (n4 - (↑k12 : Int)) ∧
  idx (some (Addr.mk k4 0 none)) (Int.toNat (↑k2 : Int)) (n4 - (↑k12 : Int)) 1
  fun (a2 : Addr) =>
  ∃ (b3 : Bool),
  World.cell? w6 a2 = some (Value.bool b3) ∧
  br (!b3)
  (∃ (o6 : Option Addr),
  ∃ (k14 : Nat),
  ∃ (k15 : Nat),
  ∃ (o7 : Option Addr),
  ∃ (k16 : Nat),
  ∃ (k17 : Nat),
  ∃ (o8 : Option Addr),
  ∃ (k18 : Nat),
  ∃ (k19 : Nat),
  ∃ (n5 : Int),
  ∃ (o9 : Option Addr),
  ∃ (k20 : Nat),
  ∃ (k21 : Nat),
  V.rowAt w6 (Addr.mk k1 0 none) 0 5 =
  some
  [Value.slice o6 k14 k15, Value.slice o7 k16 k17,
  Value.slice o8 k18 k19, Value.int IntKind.i64 n5,
  Value.slice o9 k20 k21] ∧
  ∃ (o10 : Option Addr),
  ∃ (k22 : Nat),
  ∃ (k23 : Nat),
  World.cell? w6 (Addr.add (Addr.mk k11 0 none) 1) =
  some (Value.slice o10 k22 k23) ∧
  RunE Proofs.Tryd.prog Ev 70
  [Value.agg
  (Array.mk
  [Value.slice o6 k14 k15,
  Value.slice o7 k16 k17,
  Value.slice o8 k18 k19,
  Value.int IntKind.i64 n5,
  Value.slice o9 k20 k21]),
  Value.slice (some (Addr.mk k4 0 none))
  (Int.toNat (↑k2 : Int))
  (Int.toNat (↑k2 : Int)),
  Value.slice o10 k22 k23]
  w6 fun (v1 : Value) (w7 : World) =>
  ∃ (b4 : Bool),
  v1 = Value.bool b4 ∧
  br b4
  (∃ (n6 : Int),
  World.cell? w7 (Addr.mk k11 0 none) =
  some (Value.int IntKind.i64 n6) ∧
  ∃ (o11 : Option Addr),
  ∃ (k24 : Nat),
  ∃ (k25 : Nat),
  World.cell? w7
  (Addr.mk k1 0 none) =
  some
  (Value.slice o11 k24
  k25) ∧
  inI (n6 - (↑k24 : Int)) ∧
  idx
  (some (Addr.mk k4 0 none))
  (Int.toNat (↑k2 : Int))
  (n6 - (↑k24 : Int)) 1
  fun (a3 : Addr) =>
  st1 w7 a3
  (Value.bool true)
  fun (w8 : World) =>
  inI (n1 + 1) ∧
  x3 true (n1 + 1) w8 ∧
  x4 true (n1 + 1)
  w8 <
  x4 b2 n1 w4)
  (inI (n1 + 1) ∧
  x3 b2 (n1 + 1) w7 ∧
  x4 b2 (n1 + 1) w7 < x4 b2 n1 w4))
  (inI (n1 + 1) ∧ x3 b2 (n1 + 1) w6 ∧ x4 b2 (n1 + 1) w6 < x4 b2 n1 w4))
  (x1 b2 w4 ∧ x2 b2 w4 < x2 b1 w3))
  (R (Value.slice (some (Addr.mk k4 0 none)) (Int.toNat (↑k2 : Int)) (Int.toNat (↑k2 : Int))) w3)
set_option maxRecDepth 100000 in
theorem run_presageref06_Marks (p0g_0a : Option Addr) (p0g_0l : Nat) (p0g_0c : Nat) (p0g_1a : Option Addr) (p0g_1l : Nat) (p0g_1c : Nat) (p0g_2a : Option Addr) (p0g_2l : Nat) (p0g_2c : Nat) (p0g_3 : Int) (p0g_4a : Option Addr) (p0g_4l : Nat) (p0g_4c : Nat) (w : World) (R : Value → World → Prop) (h : vc_presageref06_Marks p0g_0a p0g_0l p0g_0c p0g_1a p0g_1l p0g_1c p0g_2a p0g_2l p0g_2c p0g_3 p0g_4a p0g_4l p0g_4c w R) : Run Tryd.prog 45 [(.agg #[(.slice p0g_0a p0g_0l p0g_0c), (.slice p0g_1a p0g_1l p0g_1c), (.slice p0g_2a p0g_2l p0g_2c), (.int .i64 p0g_3), (.slice p0g_4a p0g_4l p0g_4c)])] w R :=
  run_ev tyOk fnOk mixed Tryd.func45 ann_presageref06_Marks ((by kernel_rfl : fnV Tryd.prog Ty Fn Ev ann_presageref06_Marks Tryd.f45 [(.agg #[(.slice p0g_0a p0g_0l p0g_0c), (.slice p0g_1a p0g_1l p0g_1c), (.slice p0g_2a p0g_2l p0g_2c), (.int .i64 p0g_3), (.slice p0g_4a p0g_4l p0g_4c)])] w R = vc_presageref06_Marks p0g_0a p0g_0l p0g_0c p0g_1a p0g_1l p0g_1c p0g_2a p0g_2l p0g_2c p0g_3 p0g_4a p0g_4l p0g_4c w R) ▸ h)

abbrev n_presageref06_Fits : FuncId := 70
def ann_presageref06_Fits : Ann := { rngs := [], loops := [(2, [(7, (.one (.int .i64)))])], joins := [], blocks := [] }
set_option maxRecDepth 100000 in
def vc_presageref06_Fits (p0g_0a : Option Addr) (p0g_0l : Nat) (p0g_0c : Nat) (p0g_1a : Option Addr) (p0g_1l : Nat) (p0g_1c : Nat) (p0g_2a : Option Addr) (p0g_2l : Nat) (p0g_2c : Nat) (p0g_3 : Int) (p0g_4a : Option Addr) (p0g_4l : Nat) (p0g_4c : Nat) (p1marksa : Option Addr) (p1marksl : Nat) (p1marksc : Nat) (p2rowa : Option Addr) (p2rowl : Nat) (p2rowc : Nat) (w : World) (R : Value → World → Prop) : Prop :=
  new w
  (Obj.cells
  (Array.mk [Value.slice p0g_0a p0g_0l p0g_0c, Value.slice p0g_1a p0g_1l p0g_1c, Value.slice p0g_2a p0g_2l p0g_2c, Value.int IntKind.i64 p0g_3, Value.slice p0g_4a p0g_4l p0g_4c])
  27)
  fun (k1 : Nat) (w1 : World) =>
  ∃ (x1 : arrS (shs [(7, S1.one (Cs.int IntKind.i64))]) (World → Prop)),
  ∃ (x2 : arrS (shs [(7, S1.one (Cs.int IntKind.i64))]) (World → Nat)),
  x1 0 w1 ∧
  ∀ (I1 : Nat → Value) (n1 : Int) (w2 : World),
  x1 n1 w2 →
  br (decide (n1 < (↑p2rowl : Int)))
  (∀ (w3 : World),
  drawn w2 w3 →
  ∃ (I2 : World → Prop),
  I2 w3 ∧
  idx p2rowa p2rowl n1 1 fun (a1 : Addr) =>
  ∃ (n2 : Int),
  (∀ (w4 : World), I2 w4 → World.cell? w4 a1 = some (Value.int IntKind.i64 n2)) ∧
  ∃ (o1 : Option Addr),
  ∃ (k2 : Nat),
  ∃ (k3 : Nat),
  (∀ (w5 : World), I2 w5 → World.cell? w5 (Addr.mk k1 0 none) = some (Value.slice o1 k2 k3)) ∧
  br (decide ((↑k2 : Int) ≤ n2))
  (idx p2rowa p2rowl n1 1 fun (a2 : Addr) =>
  ∃ (n3 : Int),
  (∀ (w6 : World), I2 w6 → World.cell? w6 a2 = some (Value.int IntKind.i64 n3)) ∧
  ∃ (o2 : Option Addr),
  ∃ (k4 : Nat),
  ∃ (k5 : Nat),
  (∀ (w7 : World), I2 w7 → World.cell? w7 (Addr.mk k1 0 none) = some (Value.slice o2 k4 k5)) ∧
  inI (n3 - (↑k4 : Int)) ∧
  idx p1marksa p1marksl (n3 - (↑k4 : Int)) 1 fun (a3 : Addr) =>
  ∃ (b1 : Bool),
  (∀ (w8 : World), I2 w8 → World.cell? w8 a3 = some (Value.bool b1)) ∧
  br (!b1) (R (Value.bool false) w3) (inI (n1 + 1) ∧ x1 (n1 + 1) w3 ∧ x2 (n1 + 1) w3 < x2 n1 w2))
  (inI (n1 + 1) ∧ x1 (n1 + 1) w3 ∧ x2 (n1 + 1) w3 < x2 n1 w2))
  (R (Value.bool true) w2)
set_option maxRecDepth 100000 in
theorem run_presageref06_Fits (p0g_0a : Option Addr) (p0g_0l : Nat) (p0g_0c : Nat) (p0g_1a : Option Addr) (p0g_1l : Nat) (p0g_1c : Nat) (p0g_2a : Option Addr) (p0g_2l : Nat) (p0g_2c : Nat) (p0g_3 : Int) (p0g_4a : Option Addr) (p0g_4l : Nat) (p0g_4c : Nat) (p1marksa : Option Addr) (p1marksl : Nat) (p1marksc : Nat) (p2rowa : Option Addr) (p2rowl : Nat) (p2rowc : Nat) (w : World) (R : Value → World → Prop) (h : vc_presageref06_Fits p0g_0a p0g_0l p0g_0c p0g_1a p0g_1l p0g_1c p0g_2a p0g_2l p0g_2c p0g_3 p0g_4a p0g_4l p0g_4c p1marksa p1marksl p1marksc p2rowa p2rowl p2rowc w R) : Run Tryd.prog 70 [(.agg #[(.slice p0g_0a p0g_0l p0g_0c), (.slice p0g_1a p0g_1l p0g_1c), (.slice p0g_2a p0g_2l p0g_2c), (.int .i64 p0g_3), (.slice p0g_4a p0g_4l p0g_4c)]), (.slice p1marksa p1marksl p1marksc), (.slice p2rowa p2rowl p2rowc)] w R :=
  run_ev tyOk fnOk mixed Tryd.func70 ann_presageref06_Fits ((by kernel_rfl : fnV Tryd.prog Ty Fn Ev ann_presageref06_Fits Tryd.f70 [(.agg #[(.slice p0g_0a p0g_0l p0g_0c), (.slice p0g_1a p0g_1l p0g_1c), (.slice p0g_2a p0g_2l p0g_2c), (.int .i64 p0g_3), (.slice p0g_4a p0g_4l p0g_4c)]), (.slice p1marksa p1marksl p1marksc), (.slice p2rowa p2rowl p2rowc)] w R = vc_presageref06_Fits p0g_0a p0g_0l p0g_0c p0g_1a p0g_1l p0g_1c p0g_2a p0g_2l p0g_2c p0g_3 p0g_4a p0g_4l p0g_4c p1marksa p1marksl p1marksc p2rowa p2rowl p2rowc w R) ▸ h)

abbrev n_presageref06_read : FuncId := 71
def ann_presageref06_read : Ann := { rngs := [], loops := [(4, [(8, (.one (.int .i64)))]), (10, [(10, (.one (.int .i64)))]), (16, [(11, (.one (.int .i64)))]), (20, [(12, (.one (.int .i64)))]), (26, [(13, (.one (.int .i64)))]), (29, [(14, (.one (.int .i64)))])], joins := [], blocks := [] }
set_option maxRecDepth 100000 in
def vc_presageref06_read (p0g_0a : Option Addr) (p0g_0l : Nat) (p0g_0c : Nat) (p0g_1a : Option Addr) (p0g_1l : Nat) (p0g_1c : Nat) (p0g_2a : Option Addr) (p0g_2l : Nat) (p0g_2c : Nat) (p0g_3 : Int) (p0g_4a : Option Addr) (p0g_4l : Nat) (p0g_4c : Nat) (p1rowa : Option Addr) (p1rowl : Nat) (p1rowc : Nat) (w : World) (R : Value → World → Prop) : Prop :=
  new w
  (Obj.cells
  (Array.mk [Value.slice p0g_0a p0g_0l p0g_0c, Value.slice p0g_1a p0g_1l p0g_1c, Value.slice p0g_2a p0g_2l p0g_2c, Value.int IntKind.i64 p0g_3, Value.slice p0g_4a p0g_4l p0g_4c])
  27)
  fun (k1 : Nat) (w1 : World) =>
  ∃ (o1 : Option Addr),
  ∃ (k2 : Nat),
  ∃ (k3 : Nat),
  ∃ (o2 : Option Addr),
  ∃ (k4 : Nat),
  ∃ (k5 : Nat),
  ∃ (o3 : Option Addr),
  ∃ (k6 : Nat),
  ∃ (k7 : Nat),
  ∃ (n1 : Int),
  ∃ (o4 : Option Addr),
  ∃ (k8 : Nat),
  ∃ (k9 : Nat),
  V.rowAt w1 (Addr.mk k1 0 none) 0 5 =
  some [Value.slice o1 k2 k3, Value.slice o2 k4 k5, Value.slice o3 k6 k7, Value.int IntKind.i64 n1, Value.slice o4 k8 k9] ∧
  RunE Proofs.Tryd.prog Ev 45
  [Value.agg (Array.mk [Value.slice o1 k2 k3, Value.slice o2 k4 k5, Value.slice o3 k6 k7, Value.int IntKind.i64 n1, Value.slice o4 k8 k9])] w1
  fun (v1 : Value) (w2 : World) =>
  ∃ (o5 : Option Addr),
  ∃ (k10 : Nat),
  ∃ (k11 : Nat),
  v1 = Value.slice o5 k10 k11 ∧
  ∃ (o6 : Option Addr),
  ∃ (k12 : Nat),
  ∃ (k13 : Nat),
  World.cell? w2 (Addr.mk k1 0 none) = some (Value.slice o6 k12 k13) ∧
  ∃ (o7 : Option Addr),
  ∃ (k14 : Nat),
  ∃ (k15 : Nat),
  World.cell? w2 (Addr.add (Addr.mk k1 0 none) 1) = some (Value.slice o7 k14 k15) ∧
  ∃ (n2 : Int),
  World.cell? w2 (Addr.add (Addr.mk k1 0 none) 3) = some (Value.int IntKind.i64 n2) ∧
  new w2
  (Obj.cells
  (Array.mk
  [Value.slice none 0 0, Value.slice none 0 0, Value.slice none 0 0, Value.int IntKind.i64 0, Value.slice none 0 0])
  27)
  fun (k16 : Nat) (w3 : World) =>
  stR w3 (Addr.mk k16 0 none)
  [Value.slice o6 k12 k13, Value.slice o7 k14 k15, Value.slice none 0 0, Value.int IntKind.i64 n2,
  Value.slice none 0 0]
  fun (w4 : World) =>
  ∃ (x1 : arrS (shs [(8, S1.one (Cs.int IntKind.i64))]) (World → Prop)),
  ∃ (x2 : arrS (shs [(8, S1.one (Cs.int IntKind.i64))]) (World → Nat)),
  x1 0 w4 ∧
  ∀ (I1 : Nat → Value) (n3 : Int) (w5 : World),
  x1 n3 w5 →
  ∃ (o8 : Option Addr),
  ∃ (k17 : Nat),
  ∃ (k18 : Nat),
  World.cell? w5 (Addr.add (Addr.mk k1 0 none) 4) = some (Value.slice o8 k17 k18) ∧
  br (decide (n3 < (↑k17 : Int)))
  (∀ (w6 : World),
  drawn w5 w6 →
  ∃ (I2 : World → Prop),
  I2 w6 ∧
  ∃ (o9 : Option Addr),
  ∃ (k19 : Nat),
  ∃ (k20 : Nat),
  ∃ (o10 : Option Addr),
  ∃ (k21 : Nat),
  ∃ (k22 : Nat),
  ∃ (o11 : Option Addr),
  ∃ (k23 : Nat),
  ∃ (k24 : Nat),
  ∃ (n4 : Int),
  ∃ (o12 : Option Addr),
  ∃ (k25 : Nat),
  ∃ (k26 : Nat),
  (∀ (w7 : World),
  I2 w7 →
  V.rowAt w7 (Addr.mk k1 0 none) 0 5 =
  some
  [Value.slice o9 k19 k20, Value.slice o10 k21 k22,
  Value.slice o11 k23 k24, Value.int IntKind.i64 n4,
  Value.slice o12 k25 k26]) ∧
  ∃ (o13 : Option Addr),
  ∃ (k27 : Nat),
  ∃ (k28 : Nat),
  (∀ (w8 : World),
  I2 w8 →
  World.cell? w8
  (Addr.add (Addr.mk k1 0 none) 4) =
  some (Value.slice o13 k27 k28)) ∧
  idx o13 k27 n3 3 fun (a1 : Addr) =>
  ∃ (o14 : Option Addr),
  ∃ (k29 : Nat),
  ∃ (k30 : Nat),
  (∀ (w9 : World),
  I2 w9 →
  World.cell? w9 (Addr.add a1 1) =
  some (Value.slice o14 k29 k30)) ∧
  RunE Proofs.Tryd.prog Ev 70
  [Value.agg
  (Array.mk
  [Value.slice o9 k19 k20,
  Value.slice o10 k21 k22,
  Value.slice o11 k23 k24,
  Value.int IntKind.i64 n4,
  Value.slice o12 k25 k26]),
  Value.slice o5 k10 k11,
  Value.slice o14 k29 k30]
  w6 fun (v2 : Value) (w10 : World) =>
  ∃ (b1 : Bool),
  v2 = Value.bool b1 ∧
  br b1
  (∀ (w11 : World),
  drawn w10 w11 →
  ∃ (I3 : World → Prop),
  I3 w11 ∧
  ∃ (o15 : Option Addr),
  ∃ (k31 : Nat),
  ∃ (k32 : Nat),
  (∀ (w12 : World),
  I3 w12 →
  World.cell?
  w12
  (Addr.add
  (Addr.mk
  k16 0
  none)
  4) =
  some
  (Value.slice
  o15 k31
  k32)) ∧
  ∃ (o16 :
  Option Addr),
  ∃ (k33 : Nat),
  ∃ (k34 : Nat),
  (∀
  (w13 :
  World),
  I3 w13 →
  World.cell?
  w13
  (Addr.add
  (Addr.mk
  k1
  0
  none)
  4) =
  some
  (Value.slice
  o16
  k33
  k34)) ∧
  idx o16
  k33 n3 3
  fun
  (a2 :
  Addr) =>
  ∃ (n5 :
  Int),
  ∃ (o17
  :
  Option
  Addr),
  ∃
  (k35
  :
  Nat),
  ∃
  (k36
  :
  Nat),
  ∃
  (n6
  :
  Int),
  (∀
  (w14 :
  World),
  I3
  w14 →
  V.rowAt
  w14
  a2
  0
  3 =
  some
  [Value.int
  IntKind.i64
  n5,
  Value.slice
  o17
  k35
  k36,
  Value.int
  IntKind.i64
  n6]) ∧
  new
  w11
  (Obj.cells
  (Array.mk
  [Value.int
  IntKind.i64
  n5,
  Value.slice
  o17
  k35
  k36,
  Value.int
  IntKind.i64
  n6])
  51)
  fun
  (k37 :
  Nat)
  (w15 :
  World) =>
  I3
  w15 ∧
  RunS
  Proofs.Tryd.prog
  (Builtin.append_
  (Array.mk
  [25,
  25])
  25
  (Array.mk
  [Value.slice
  o15
  k31
  k32,
  Value.slice
  (some
  (Addr.mk
  k37
  0
  none))
  1
  1]))
  w15
  fun
  (v3 :
  Value)
  (w16 :
  World) =>
  ∃
  (o18
  :
  Option
  Addr),
  ∃
  (k38
  :
  Nat),
  ∃
  (k39
  :
  Nat),
  v3 =
  Value.slice
  o18
  k38
  k39 ∧
  I3
  w16 ∧
  st1
  w16
  (Addr.add
  (Addr.mk
  k16
  0
  none)
  4)
  (Value.slice
  o18
  k38
  k39)
  fun
  (w17 :
  World) =>
  inI
  (n3 +
  1) ∧
  x1
  (n3 +
  1)
  w17 ∧
  x2
  (n3 +
  1)
  w17 <
  x2
  n3
  w5)
  (inI (n3 + 1) ∧
  x1 (n3 + 1) w10 ∧
  x2 (n3 + 1) w10 < x2 n3 w5))
  (∃ (o19 : Option Addr),
  ∃ (k40 : Nat),
  ∃ (k41 : Nat),
  ∃ (o20 : Option Addr),
  ∃ (k42 : Nat),
  ∃ (k43 : Nat),
  ∃ (o21 : Option Addr),
  ∃ (k44 : Nat),
  ∃ (k45 : Nat),
  ∃ (n7 : Int),
  ∃ (o22 : Option Addr),
  ∃ (k46 : Nat),
  ∃ (k47 : Nat),
  V.rowAt w5 (Addr.mk k16 0 none) 0 5 =
  some
  [Value.slice o19 k40 k41, Value.slice o20 k42 k43,
  Value.slice o21 k44 k45, Value.int IntKind.i64 n7,
  Value.slice o22 k46 k47] ∧
  new w5
  (Obj.cells
  (Array.mk
  [Value.slice o19 k40 k41, Value.slice o20 k42 k43,
  Value.slice o21 k44 k45, Value.int IntKind.i64 n7,
  Value.slice o22 k46 k47, Value.slice none 0 0,
  Value.slice none 0 0, Value.slice none 0 0,
  Value.int IntKind.i64 0])
  103)
  fun (k48 : Nat) (w18 : World) =>
  ∃ (x3 :
  arrS (shs [(10, S1.one (Cs.int IntKind.i64))]) (World → Prop)),
  ∃ (x4 :
  arrS (shs [(10, S1.one (Cs.int IntKind.i64))]) (World → Nat)),
  x3 0 w18 ∧
  ∀ (I4 : Nat → Value) (n8 : Int) (w19 : World),
  x3 n8 w19 →
  ∃ (o23 : Option Addr),
  ∃ (k49 : Nat),
  ∃ (k50 : Nat),
  World.cell? w19
  (Addr.add (Addr.mk k16 0 none) 4) =
  some (Value.slice o23 k49 k50) ∧
  br (decide (n8 < (↑k49 : Int)))
  (∀ (w20 : World),
  drawn w19 w20 →
  ∃ (I5 : World → Prop),
  I5 w20 ∧
  ∃ (o24 : Option Addr),
  ∃ (k51 : Nat),
  ∃ (k52 : Nat),
  (∀ (w21 : World),
  I5 w21 →
  World.cell? w21
  (Addr.add
  (Addr.mk k48 0 none)
  7) =
  some
  (Value.slice o24 k51
  k52)) ∧
  ∃ (n9 : Int),
  (∀ (w22 : World),
  I5 w22 →
  World.cell? w22
  (Addr.add
  (Addr.mk k48 0
  none)
  8) =
  some
  (Value.int
  IntKind.i64
  n9)) ∧
  new w20
  (Obj.cells
  (Array.mk
  [Value.int
  IntKind.i64 n9])
  3)
  fun (k53 : Nat)
  (w23 : World) =>
  I5 w23 ∧
  RunS Proofs.Tryd.prog
  (Builtin.append_
  (Array.mk
  [24, 24])
  24
  (Array.mk
  [Value.slice o24
  k51 k52,
  Value.slice
  (some
  (Addr.mk
  k53 0
  none))
  1 1]))
  w23
  fun (v4 : Value)
  (w24 : World) =>
  ∃ (o25 :
  Option Addr),
  ∃ (k54 : Nat),
  ∃ (k55 : Nat),
  v4 =
  Value.slice
  o25 k54
  k55 ∧
  I5 w24 ∧
  st1 w24
  (Addr.add
  (Addr.mk
  k48
  0
  none)
  7)
  (Value.slice
  o25
  k54
  k55)
  fun
  (w25 :
  World) =>
  ∀
  (w26 :
  World),
  drawn
  w25
  w26 →
  ∃
  (I6
  :
  World →
  Prop),
  I6
  w26 ∧
  ∃
  (n10
  :
  Int),
  (∀
  (w27 :
  World),
  I6
  w27 →
  World.cell?
  w27
  (Addr.add
  (Addr.mk
  k48
  0
  none)
  8) =
  some
  (Value.int
  IntKind.i64
  n10)) ∧
  ∃
  (o26
  :
  Option
  Addr),
  ∃
  (k56
  :
  Nat),
  ∃
  (k57
  :
  Nat),
  (∀
  (w28 :
  World),
  I6
  w28 →
  World.cell?
  w28
  (Addr.add
  (Addr.mk
  k16
  0
  none)
  4) =
  some
  (Value.slice
  o26
  k56
  k57)) ∧
  idx
  o26
  k56
  n8
  3
  fun
  (a3 :
  Addr) =>
  ∃
  (o27
  :
  Option
  Addr),
  ∃
  (k58
  :
  Nat),
  ∃
  (k59
  :
  Nat),
  (∀
  (w29 :
  World),
  I6
  w29 →
  World.cell?
  w29
  (Addr.add
  a3
  1) =
  some
  (Value.slice
  o27
  k58
  k59)) ∧
  inI
  (n10 +
  (↑k58 :
  Int)) ∧
  inI
  (n10 +
  (↑k58 :
  Int) +
  1) ∧
  st1
  w26
  (Addr.add
  (Addr.mk
  k48
  0
  none)
  8)
  (Value.int
  IntKind.i64
  (n10 +
  (↑k58 :
  Int) +
  1))
  fun
  (w30 :
  World) =>
  inI
  (n8 +
  1) ∧
  x3
  (n8 +
  1)
  w30 ∧
  x4
  (n8 +
  1)
  w30 <
  x4
  n8
  w19)
  (inI ((↑p1rowl : Int) + 1) ∧
  mkOk ((↑p1rowl : Int) + 1)
  ((↑p1rowl : Int) + 1) 24 ∧
  new w19
  (Obj.cells
  (Array.mk
  (reps
  (Int.toNat ((↑p1rowl : Int) + 1))
  [Value.slice none 0 0]))
  100)
  fun (k60 : Nat) (w31 : World) =>
  st1 w31
  (Addr.add (Addr.mk k48 0 none) 6)
  (Value.slice
  (some (Addr.mk k60 0 none))
  (Int.toNat ((↑p1rowl : Int) + 1))
  (Int.toNat ((↑p1rowl : Int) + 1)))
  fun (w32 : World) =>
  ∃ (x5 :
  arrS
  (shs
  [(11,
  S1.one
  (Cs.int IntKind.i64))])
  (World → Prop)),
  ∃ (x6 :
  arrS
  (shs
  [(11,
  S1.one
  (Cs.int IntKind.i64))])
  (World → Nat)),
  x5 0 w32 ∧
  ∀ (I7 : Nat → Value) (n11 : Int)
  (w33 : World),
  x5 n11 w33 →
  br
  (decide
  (n11 ≤ (↑p1rowl : Int)))
  (∀ (w34 : World),
  drawn w33 w34 →
  ∃ (I8 : World → Prop),
  I8 w34 ∧
  ∃ (o28 :
  Option Addr),
  ∃ (k61 : Nat),
  ∃ (k62 : Nat),
  (∀
  (w35 :
  World),
  I8 w35 →
  World.cell?
  w35
  (Addr.add
  (Addr.mk
  k48
  0
  none)
  5) =
  some
  (Value.slice
  o28
  k61
  k62)) ∧
  ∃ (n12 :
  Int),
  (∀
  (w36 :
  World),
  I8
  w36 →
  World.cell?
  w36
  (Addr.add
  (Addr.mk
  k48
  0
  none)
  8) =
  some
  (Value.int
  IntKind.i64
  n12)) ∧
  inI
  ((↑p1rowl :
  Int) +
  1) ∧
  inI
  (n12 *
  ((↑p1rowl :
  Int) +
  1)) ∧
  mkOk
  (n12 *
  ((↑p1rowl :
  Int) +
  1))
  (n12 *
  ((↑p1rowl :
  Int) +
  1))
  1 ∧
  new
  w34
  (Obj.cells
  (Array.mk
  (reps
  (Int.toNat
  (n12 *
  ((↑p1rowl :
  Int) +
  1)))
  [Value.bool
  false]))
  4)
  fun
  (k63 :
  Nat)
  (w37 :
  World) =>
  I8
  w37 ∧
  new
  w37
  (Obj.cells
  (Array.mk
  [Value.slice
  (some
  (Addr.mk
  k63
  0
  none))
  (Int.toNat
  (n12 *
  ((↑p1rowl :
  Int) +
  1)))
  (Int.toNat
  (n12 *
  ((↑p1rowl :
  Int) +
  1)))])
  30)
  fun
  (k64 :
  Nat)
  (w38 :
  World) =>
  I8
  w38 ∧
  RunS
  Proofs.Tryd.prog
  (Builtin.append_
  (Array.mk
  [71,
  71])
  71
  (Array.mk
  [Value.slice
  o28
  k61
  k62,
  Value.slice
  (some
  (Addr.mk
  k64
  0
  none))
  1
  1]))
  w38
  fun
  (v5 :
  Value)
  (w39 :
  World) =>
  ∃
  (o29
  :
  Option
  Addr),
  ∃
  (k65
  :
  Nat),
  ∃
  (k66
  :
  Nat),
  v5 =
  Value.slice
  o29
  k65
  k66 ∧
  I8
  w39 ∧
  st1
  w39
  (Addr.add
  (Addr.mk
  k48
  0
  none)
  5)
  (Value.slice
  o29
  k65
  k66)
  fun
  (w40 :
  World) =>
  inI
  (n11 +
  1) ∧
  x5
  (n11 +
  1)
  w40 ∧
  x6
  (n11 +
  1)
  w40 <
  x6
  n11
  w33)
  (∃ (x7 :
  arrS
  (shs
  [(12,
  S1.one
  (Cs.int
  IntKind.i64))])
  (World → Prop)),
  ∃ (x8 :
  arrS
  (shs
  [(12,
  S1.one
  (Cs.int
  IntKind.i64))])
  (World → Nat)),
  x7 0 w33 ∧
  ∀ (I9 : Nat → Value)
  (n13 : Int)
  (w41 : World),
  x7 n13 w41 →
  ∃ (o30 :
  Option Addr),
  ∃ (k67 : Nat),
  ∃ (k68 :
  Nat),
  World.cell?
  w41
  (Addr.add
  (Addr.mk
  k16
  0
  none)
  4) =
  some
  (Value.slice
  o30
  k67
  k68) ∧
  br
  (decide
  (n13 <
  (↑k67 :
  Int)))
  (∀
  (w42 :
  World),
  drawn
  w41
  w42 →
  ∃
  (I10
  :
  World →
  Prop),
  I10
  w42 ∧
  ∃
  (o31
  :
  Option
  Addr),
  ∃
  (k69
  :
  Nat),
  ∃
  (k70
  :
  Nat),
  (∀
  (w43 :
  World),
  I10
  w43 →
  World.cell?
  w43
  (Addr.add
  (Addr.mk
  k16
  0
  none)
  4) =
  some
  (Value.slice
  o31
  k69
  k70)) ∧
  idx
  o31
  k69
  n13
  3
  fun
  (a4 :
  Addr) =>
  ∃
  (n14
  :
  Int),
  (∀
  (w44 :
  World),
  I10
  w44 →
  World.cell?
  w44
  a4 =
  some
  (Value.int
  IntKind.i64
  n14)) ∧
  ∃
  (n15
  :
  Int),
  (∀
  (w45 :
  World),
  I10
  w45 →
  World.cell?
  w45
  (Addr.add
  (Addr.mk
  k1
  0
  none)
  3) =
  some
  (Value.int
  IntKind.i64
  n15)) ∧
  br
  (n14 ==
  n15)
  (RunE
  Proofs.Tryd.prog
  Ev
  96
  [Value.pointer
  (some
  (Addr.mk
  k48
  0
  none)),
  Value.int
  IntKind.i64
  0,
  Value.agg
  (Array.mk
  [Value.int
  IntKind.i64
  n13,
  Value.int
  IntKind.i64
  0,
  Value.int
  IntKind.i64
  0])]
  w42
  fun
  (v6 :
  Value)
  (w46 :
  World) =>
  ∃
  (b2
  :
  Bool),
  v6 =
  Value.bool
  b2 ∧
  inI
  (n13 +
  1) ∧
  x7
  (n13 +
  1)
  w46 ∧
  x8
  (n13 +
  1)
  w46 <
  x8
  n13
  w41)
  (inI
  (n13 +
  1) ∧
  x7
  (n13 +
  1)
  w42 ∧
  x8
  (n13 +
  1)
  w42 <
  x8
  n13
  w41))
  (RunE
  Proofs.Tryd.prog
  Ev
  97
  [Value.pointer
  (some
  (Addr.mk
  k48
  0
  none)),
  Value.int
  IntKind.i64
  0]
  w41
  fun
  (v7 :
  Value)
  (w47 :
  World) =>
  v7 =
  Value.tuple
  (Array.mk
  []) ∧
  ∃
  (x9
  :
  arrS
  (shs
  [(13,
  S1.one
  (Cs.int
  IntKind.i64))])
  (World →
  Prop)),
  ∃
  (x10
  :
  arrS
  (shs
  [(13,
  S1.one
  (Cs.int
  IntKind.i64))])
  (World →
  Nat)),
  x9
  0
  w47 ∧
  ∀
  (I11 :
  Nat →
  Value)
  (n16 :
  Int)
  (w48 :
  World),
  x9
  n16
  w48 →
  br
  (decide
  (n16 <
  (↑p1rowl :
  Int)))
  (∃
  (x11
  :
  arrS
  (shs
  [(14,
  S1.one
  (Cs.int
  IntKind.i64))])
  (World →
  Prop)),
  ∃
  (x12
  :
  arrS
  (shs
  [(14,
  S1.one
  (Cs.int
  IntKind.i64))])
  (World →
  Nat)),
  x11
  0
  w48 ∧
  ∀
  (I12 :
  Nat →
  Value)
  (n17 :
  Int)
  (w49 :
  World),
  x11
  n17
  w49 →
  ∃
  (o32
  :
  Option
  Addr),
  ∃
  (k71
  :
  Nat),
  ∃
  (k72
  :
  Nat),
  World.cell?
  w49
  (Addr.add
  (Addr.mk
  k48
  0
  none)
  6) =
  some
  (Value.slice
  o32
  k71
  k72) ∧
  idx
  o32
  k71
  n16
  1
  fun
  (a5 :
  Addr) =>
  ∃
  (o33
  :
  Option
  Addr),
  ∃
  (k73
  :
  Nat),
  ∃
  (k74
  :
  Nat),
  World.cell?
  w49
  a5 =
  some
  (Value.slice
  o33
  k73
  k74) ∧
  br
  (decide
  (n17 <
  (↑k73 :
  Int)))
  (∃
  (o34
  :
  Option
  Addr),
  ∃
  (k75
  :
  Nat),
  ∃
  (k76
  :
  Nat),
  World.cell?
  w49
  (Addr.add
  (Addr.mk
  k48
  0
  none)
  6) =
  some
  (Value.slice
  o34
  k75
  k76) ∧
  idx
  o34
  k75
  n16
  1
  fun
  (a6 :
  Addr) =>
  ∃
  (o35
  :
  Option
  Addr),
  ∃
  (k77
  :
  Nat),
  ∃
  (k78
  :
  Nat),
  World.cell?
  w49
  a6 =
  some
  (Value.slice
  o35
  k77
  k78) ∧
  idx
  o35
  k77
  n17
  3
  fun
  (a7 :
  Addr) =>
  ∃
  (n18
  :
  Int),
  ∃
  (n19
  :
  Int),
  ∃
  (n20
  :
  Int),
  V.rowAt
  w49
  a7
  0
  3 =
  some
  [Value.int
  IntKind.i64
  n18,
  Value.int
  IntKind.i64
  n19,
  Value.int
  IntKind.i64
  n20] ∧
  new
  w49
  (Obj.cells
  (Array.mk
  [Value.int
  IntKind.i64
  0,
  Value.int
  IntKind.i64
  0,
  Value.int
  IntKind.i64
  0])
  105)
  fun
  (k79 :
  Nat)
  (w50 :
  World) =>
  stR
  w50
  (Addr.mk
  k79
  0
  none)
  [Value.int
  IntKind.i64
  n18,
  Value.int
  IntKind.i64
  n19,
  Value.int
  IntKind.i64
  n20]
  fun
  (w51 :
  World) =>
  ∃
  (o36
  :
  Option
  Addr),
  ∃
  (k80
  :
  Nat),
  ∃
  (k81
  :
  Nat),
  World.cell?
  w51
  (Addr.add
  (Addr.mk
  k16
  0
  none)
  4) =
  some
  (Value.slice
  o36
  k80
  k81) ∧
  ∃
  (n21
  :
  Int),
  World.cell?
  w51
  (Addr.mk
  k79
  0
  none) =
  some
  (Value.int
  IntKind.i64
  n21) ∧
  idx
  o36
  k80
  n21
  3
  fun
  (a8 :
  Addr) =>
  ∃
  (o37
  :
  Option
  Addr),
  ∃
  (k82
  :
  Nat),
  ∃
  (k83
  :
  Nat),
  World.cell?
  w51
  (Addr.add
  a8
  1) =
  some
  (Value.slice
  o37
  k82
  k83) ∧
  ∀
  (w52 :
  World),
  drawn
  w51
  w52 →
  ∃
  (I13
  :
  World →
  Prop),
  I13
  w52 ∧
  ∃
  (n22
  :
  Int),
  (∀
  (w53 :
  World),
  I13
  w53 →
  World.cell?
  w53
  (Addr.add
  (Addr.mk
  k79
  0
  none)
  1) =
  some
  (Value.int
  IntKind.i64
  n22)) ∧
  br
  (decide
  (n22 <
  (↑k82 :
  Int)))
  (∃
  (n23
  :
  Int),
  (∀
  (w54 :
  World),
  I13
  w54 →
  World.cell?
  w54
  (Addr.add
  (Addr.mk
  k79
  0
  none)
  1) =
  some
  (Value.int
  IntKind.i64
  n23)) ∧
  idx
  o37
  k82
  n23
  1
  fun
  (a9 :
  Addr) =>
  ∃
  (n24
  :
  Int),
  (∀
  (w55 :
  World),
  I13
  w55 →
  World.cell?
  w55
  a9 =
  some
  (Value.int
  IntKind.i64
  n24)) ∧
  idx
  p1rowa
  p1rowl
  n16
  1
  fun
  (a10 :
  Addr) =>
  ∃
  (n25
  :
  Int),
  (∀
  (w56 :
  World),
  I13
  w56 →
  World.cell?
  w56
  a10 =
  some
  (Value.int
  IntKind.i64
  n25)) ∧
  br
  (n24 ==
  n25)
  (inI
  (n16 +
  1) ∧
  ∃
  (n26
  :
  Int),
  World.cell?
  w52
  (Addr.mk
  k79
  0
  none) =
  some
  (Value.int
  IntKind.i64
  n26) ∧
  ∃
  (n27
  :
  Int),
  World.cell?
  w52
  (Addr.add
  (Addr.mk
  k79
  0
  none)
  1) =
  some
  (Value.int
  IntKind.i64
  n27) ∧
  inI
  (n27 +
  1) ∧
  ∃
  (n28
  :
  Int),
  World.cell?
  w52
  (Addr.add
  (Addr.mk
  k79
  0
  none)
  2) =
  some
  (Value.int
  IntKind.i64
  n28) ∧
  RunE
  Proofs.Tryd.prog
  Ev
  96
  [Value.pointer
  (some
  (Addr.mk
  k48
  0
  none)),
  Value.int
  IntKind.i64
  (n16 +
  1),
  Value.agg
  (Array.mk
  [Value.int
  IntKind.i64
  n26,
  Value.int
  IntKind.i64
  (n27 +
  1),
  Value.int
  IntKind.i64
  n28])]
  w52
  fun
  (v8 :
  Value)
  (w57 :
  World) =>
  ∃
  (b3
  :
  Bool),
  v8 =
  Value.bool
  b3 ∧
  inI
  (n17 +
  1) ∧
  x11
  (n17 +
  1)
  w57 ∧
  x12
  (n17 +
  1)
  w57 <
  x12
  n17
  w49)
  (inI
  (n17 +
  1) ∧
  x11
  (n17 +
  1)
  w52 ∧
  x12
  (n17 +
  1)
  w52 <
  x12
  n17
  w49))
  (inI
  (n17 +
  1) ∧
  x11
  (n17 +
  1)
  w52 ∧
  x12
  (n17 +
  1)
  w52 <
  x12
  n17
  w49))
  (∃
  (o38
  :
  Option
  Addr),
  ∃
  (k84
  :
  Nat),
  ∃
  (k85
  :
  Nat),
  World.cell?
  w49
  (Addr.add
  (Addr.mk
  k48
  0
  none)
  6) =
  some
  (Value.slice
  o38
  k84
  k85) ∧
  inI
  (n16 +
  1) ∧
  idx
  o38
  k84
  (n16 +
  1)
  1
  fun
  (a11 :
  Addr) =>
  ∃
  (o39
  :
  Option
  Addr),
  ∃
  (k86
  :
  Nat),
  ∃
  (k87
  :
  Nat),
  World.cell?
  w49
  a11 =
  some
  (Value.slice
  o39
  k86
  k87) ∧
  br
  ((↑k86 :
  Int) ==
  0)
  (R
  (Value.tuple
  (Array.mk
  [Value.pointer
  (some
  (Addr.mk
  k48
  0
  none)),
  Value.int
  IntKind.i64
  n16]))
  w49)
  (inI
  (n16 +
  1) ∧
  RunE
  Proofs.Tryd.prog
  Ev
  97
  [Value.pointer
  (some
  (Addr.mk
  k48
  0
  none)),
  Value.int
  IntKind.i64
  (n16 +
  1)]
  w49
  fun
  (v9 :
  Value)
  (w58 :
  World) =>
  v9 =
  Value.tuple
  (Array.mk
  []) ∧
  inI
  (n16 +
  1) ∧
  x9
  (n16 +
  1)
  w58 ∧
  x10
  (n16 +
  1)
  w58 <
  x10
  n16
  w48)))
  (R
  (Value.tuple
  (Array.mk
  [Value.pointer
  (some
  (Addr.mk
  k48
  0
  none)),
  Value.int
  IntKind.i64
  (↑p1rowl :
  Int)]))
  w48)))))
set_option maxRecDepth 100000 in
theorem run_presageref06_read (p0g_0a : Option Addr) (p0g_0l : Nat) (p0g_0c : Nat) (p0g_1a : Option Addr) (p0g_1l : Nat) (p0g_1c : Nat) (p0g_2a : Option Addr) (p0g_2l : Nat) (p0g_2c : Nat) (p0g_3 : Int) (p0g_4a : Option Addr) (p0g_4l : Nat) (p0g_4c : Nat) (p1rowa : Option Addr) (p1rowl : Nat) (p1rowc : Nat) (w : World) (R : Value → World → Prop) (h : vc_presageref06_read p0g_0a p0g_0l p0g_0c p0g_1a p0g_1l p0g_1c p0g_2a p0g_2l p0g_2c p0g_3 p0g_4a p0g_4l p0g_4c p1rowa p1rowl p1rowc w R) : Run Tryd.prog 71 [(.agg #[(.slice p0g_0a p0g_0l p0g_0c), (.slice p0g_1a p0g_1l p0g_1c), (.slice p0g_2a p0g_2l p0g_2c), (.int .i64 p0g_3), (.slice p0g_4a p0g_4l p0g_4c)]), (.slice p1rowa p1rowl p1rowc)] w R :=
  run_ev tyOk fnOk mixed Tryd.func71 ann_presageref06_read ((by kernel_rfl : fnV Tryd.prog Ty Fn Ev ann_presageref06_read Tryd.f71 [(.agg #[(.slice p0g_0a p0g_0l p0g_0c), (.slice p0g_1a p0g_1l p0g_1c), (.slice p0g_2a p0g_2l p0g_2c), (.int .i64 p0g_3), (.slice p0g_4a p0g_4l p0g_4c)]), (.slice p1rowa p1rowl p1rowc)] w R = vc_presageref06_read p0g_0a p0g_0l p0g_0c p0g_1a p0g_1l p0g_1c p0g_2a p0g_2l p0g_2c p0g_3 p0g_4a p0g_4l p0g_4c p1rowa p1rowl p1rowc w R) ▸ h)

abbrev n_presageref06_chart_add : FuncId := 96
def ann_presageref06_chart_add : Ann := { rngs := [], loops := [], joins := [], blocks := [] }
set_option maxRecDepth 100000 in
def vc_presageref06_chart_add (p0c : Option Addr) (p1place : Int) (p2s_0 : Int) (p2s_1 : Int) (p2s_2 : Int) (w : World) (R : Value → World → Prop) : Prop :=
  new w (Obj.cells (Array.mk [Value.int IntKind.i64 p2s_0, Value.int IntKind.i64 p2s_1, Value.int IntKind.i64 p2s_2]) 105) fun (k1 : Nat) (w1 : World) =>
  ∀ (w2 : World),
  drawn w1 w2 →
  ∃ (I1 : World → Prop),
  I1 w2 ∧
  nn p0c fun (a1 : Addr) =>
  ∃ (o1 : Option Addr),
  ∃ (k2 : Nat),
  ∃ (k3 : Nat),
  (∀ (w3 : World), I1 w3 → World.cell? w3 (Addr.add a1 7) = some (Value.slice o1 k2 k3)) ∧
  ∃ (n1 : Int),
  (∀ (w4 : World), I1 w4 → World.cell? w4 (Addr.mk k1 0 none) = some (Value.int IntKind.i64 n1)) ∧
  idx o1 k2 n1 1 fun (a2 : Addr) =>
  ∃ (n2 : Int),
  (∀ (w5 : World), I1 w5 → World.cell? w5 a2 = some (Value.int IntKind.i64 n2)) ∧
  ∃ (n3 : Int),
  (∀ (w6 : World), I1 w6 → World.cell? w6 (Addr.add (Addr.mk k1 0 none) 1) = some (Value.int IntKind.i64 n3)) ∧
  inI (n2 + n3) ∧
  nn p0c fun (a3 : Addr) =>
  ∃ (o2 : Option Addr),
  ∃ (k4 : Nat),
  ∃ (k5 : Nat),
  (∀ (w7 : World), I1 w7 → World.cell? w7 (Addr.add a3 6) = some (Value.slice o2 k4 k5)) ∧
  inI ((n2 + n3) * (↑k4 : Int)) ∧
  ∃ (n4 : Int),
  (∀ (w8 : World), I1 w8 → World.cell? w8 (Addr.add (Addr.mk k1 0 none) 2) = some (Value.int IntKind.i64 n4)) ∧
  inI ((n2 + n3) * (↑k4 : Int) + n4) ∧
  nn p0c fun (a4 : Addr) =>
  ∃ (o3 : Option Addr),
  ∃ (k6 : Nat),
  ∃ (k7 : Nat),
  World.cell? w2 (Addr.add a4 5) = some (Value.slice o3 k6 k7) ∧
  idx o3 k6 p1place 1 fun (a5 : Addr) =>
  ∃ (o4 : Option Addr),
  ∃ (k8 : Nat),
  ∃ (k9 : Nat),
  World.cell? w2 a5 = some (Value.slice o4 k8 k9) ∧
  idx o4 k8 ((n2 + n3) * (↑k4 : Int) + n4) 1 fun (a6 : Addr) =>
  ∃ (b1 : Bool),
  World.cell? w2 a6 = some (Value.bool b1) ∧
  br b1 (R (Value.bool false) w2)
  (nn p0c fun (a7 : Addr) =>
  ∃ (o5 : Option Addr),
  ∃ (k10 : Nat),
  ∃ (k11 : Nat),
  World.cell? w2 (Addr.add a7 5) = some (Value.slice o5 k10 k11) ∧
  idx o5 k10 p1place 1 fun (a8 : Addr) =>
  ∃ (o6 : Option Addr),
  ∃ (k12 : Nat),
  ∃ (k13 : Nat),
  World.cell? w2 a8 = some (Value.slice o6 k12 k13) ∧
  idx o6 k12 ((n2 + n3) * (↑k4 : Int) + n4) 1 fun (a9 : Addr) =>
  st1 w2 a9 (Value.bool true) fun (w9 : World) =>
  ∀ (w10 : World),
  drawn w9 w10 →
  ∃ (I2 : World → Prop),
  I2 w10 ∧
  nn p0c fun (a10 : Addr) =>
  ∃ (o7 : Option Addr),
  ∃ (k14 : Nat),
  ∃ (k15 : Nat),
  (∀ (w11 : World),
  I2 w11 →
  World.cell? w11 (Addr.add a10 6) =
  some (Value.slice o7 k14 k15)) ∧
  nn p0c fun (a11 : Addr) =>
  ∃ (o8 : Option Addr),
  ∃ (k16 : Nat),
  ∃ (k17 : Nat),
  (∀ (w12 : World),
  I2 w12 →
  World.cell? w12 (Addr.add a11 6) =
  some (Value.slice o8 k16 k17)) ∧
  idx o8 k16 p1place 1 fun (a12 : Addr) =>
  ∃ (o9 : Option Addr),
  ∃ (k18 : Nat),
  ∃ (k19 : Nat),
  (∀ (w13 : World),
  I2 w13 →
  World.cell? w13 a12 =
  some
  (Value.slice o9 k18 k19)) ∧
  ∃ (n5 : Int),
  ∃ (n6 : Int),
  ∃ (n7 : Int),
  (∀ (w14 : World),
  I2 w14 →
  V.rowAt w14
  (Addr.mk k1 0 none)
  0 3 =
  some
  [Value.int
  IntKind.i64 n5,
  Value.int
  IntKind.i64 n6,
  Value.int
  IntKind.i64
  n7]) ∧
  new w10
  (Obj.cells
  (Array.mk
  [Value.int IntKind.i64
  n5,
  Value.int
  IntKind.i64 n6,
  Value.int
  IntKind.i64 n7])
  105)
  fun (k20 : Nat)
  (w15 : World) =>
  I2 w15 ∧
  RunS Proofs.Tryd.prog
  (Builtin.append_
  (Array.mk
  [100, 100])
  100
  (Array.mk
  [Value.slice o9
  k18 k19,
  Value.slice
  (some
  (Addr.mk k20
  0 none))
  1 1]))
  w15
  fun (v1 : Value)
  (w16 : World) =>
  ∃ (o10 : Option Addr),
  ∃ (k21 : Nat),
  ∃ (k22 : Nat),
  v1 =
  Value.slice
  o10 k21
  k22 ∧
  I2 w16 ∧
  idx o7 k14
  p1place 1
  fun
  (a13 :
  Addr) =>
  st1 w16
  a13
  (Value.slice
  o10
  k21
  k22)
  fun
  (w17 :
  World) =>
  R
  (Value.bool
  true)
  w17)
set_option maxRecDepth 100000 in
theorem run_presageref06_chart_add (p0c : Option Addr) (p1place : Int) (p2s_0 : Int) (p2s_1 : Int) (p2s_2 : Int) (w : World) (R : Value → World → Prop) (h : vc_presageref06_chart_add p0c p1place p2s_0 p2s_1 p2s_2 w R) : Run Tryd.prog 96 [(.pointer p0c), (.int .i64 p1place), (.agg #[(.int .i64 p2s_0), (.int .i64 p2s_1), (.int .i64 p2s_2)])] w R :=
  run_ev tyOk fnOk mixed Tryd.func96 ann_presageref06_chart_add ((by kernel_rfl : fnV Tryd.prog Ty Fn Ev ann_presageref06_chart_add Tryd.f96 [(.pointer p0c), (.int .i64 p1place), (.agg #[(.int .i64 p2s_0), (.int .i64 p2s_1), (.int .i64 p2s_2)])] w R = vc_presageref06_chart_add p0c p1place p2s_0 p2s_1 p2s_2 w R) ▸ h)

abbrev n_presageref06_chart_fill : FuncId := 97
def ann_presageref06_chart_fill : Ann := { rngs := [], loops := [(1, [(4, (.one .bool))]), (4, [(4, (.one .bool)), (5, (.one (.int .i64)))]), (10, [(4, (.one .bool)), (8, (.one (.int .i64)))]), (16, [(4, (.one .bool)), (10, (.one (.int .i64)))])], joins := [], blocks := [] }
set_option maxRecDepth 100000 in
def vc_presageref06_chart_fill (p0c : Option Addr) (p1place : Int) (w : World) (R : Value → World → Prop) : Prop :=
  ∃ (x1 : arrS (shs [(4, S1.one Cs.bool)]) (World → Prop)),
  ∃ (x2 : arrS (shs [(4, S1.one Cs.bool)]) (World → Nat)),
  x1 true w ∧
  ∀ (I1 : Nat → Value) (b1 : Bool) (w1 : World),
  x1 b1 w1 →
  br b1
  (∃ (x3 : arrS (shs [(4, S1.one Cs.bool), (5, S1.one (Cs.int IntKind.i64))]) (World → Prop)),
  ∃ (x4 : arrS (shs [(4, S1.one Cs.bool), (5, S1.one (Cs.int IntKind.i64))]) (World → Nat)),
  x3 false 0 w1 ∧
  ∀ (I2 : Nat → Value) (b2 : Bool) (n1 : Int) (w2 : World),
  x3 b2 n1 w2 →
  nn p0c fun (a1 : Addr) =>
  ∃ (o1 : Option Addr),
  ∃ (k1 : Nat),
  ∃ (k2 : Nat),
  World.cell? w2 (Addr.add a1 6) = some (Value.slice o1 k1 k2) ∧
  idx o1 k1 p1place 1 fun (a2 : Addr) =>
  ∃ (o2 : Option Addr),
  ∃ (k3 : Nat),
  ∃ (k4 : Nat),
  World.cell? w2 a2 = some (Value.slice o2 k3 k4) ∧
  br (decide (n1 < (↑k3 : Int)))
  (nn p0c fun (a3 : Addr) =>
  ∃ (o3 : Option Addr),
  ∃ (k5 : Nat),
  ∃ (k6 : Nat),
  World.cell? w2 (Addr.add a3 6) = some (Value.slice o3 k5 k6) ∧
  idx o3 k5 p1place 1 fun (a4 : Addr) =>
  ∃ (o4 : Option Addr),
  ∃ (k7 : Nat),
  ∃ (k8 : Nat),
  World.cell? w2 a4 = some (Value.slice o4 k7 k8) ∧
  idx o4 k7 n1 3 fun (a5 : Addr) =>
  ∃ (n2 : Int),
  ∃ (n3 : Int),
  ∃ (n4 : Int),
  V.rowAt w2 a5 0 3 = some [Value.int IntKind.i64 n2, Value.int IntKind.i64 n3, Value.int IntKind.i64 n4] ∧
  new w2
  (Obj.cells (Array.mk [Value.int IntKind.i64 0, Value.int IntKind.i64 0, Value.int IntKind.i64 0]) 105)
  fun (k9 : Nat) (w3 : World) =>
  stR w3 (Addr.mk k9 0 none)
  [Value.int IntKind.i64 n2, Value.int IntKind.i64 n3, Value.int IntKind.i64 n4] fun (w4 : World) =>
  ∀ (w5 : World),
  drawn w4 w5 →
  ∃ (I3 : World → Prop),
  I3 w5 ∧
  nn p0c fun (a6 : Addr) =>
  ∃ (o5 : Option Addr),
  ∃ (k10 : Nat),
  ∃ (k11 : Nat),
  (∀ (w6 : World),
  I3 w6 → World.cell? w6 (Addr.add a6 4) = some (Value.slice o5 k10 k11)) ∧
  ∃ (n5 : Int),
  (∀ (w7 : World),
  I3 w7 →
  World.cell? w7 (Addr.mk k9 0 none) = some (Value.int IntKind.i64 n5)) ∧
  idx o5 k10 n5 3 fun (a7 : Addr) =>
  ∃ (o6 : Option Addr),
  ∃ (k12 : Nat),
  ∃ (k13 : Nat),
  (∀ (w8 : World),
  I3 w8 →
  World.cell? w8 (Addr.add a7 1) = some (Value.slice o6 k12 k13)) ∧
  ∃ (n6 : Int),
  World.cell? w5 (Addr.add (Addr.mk k9 0 none) 1) =
  some (Value.int IntKind.i64 n6) ∧
  br (decide (n6 < (↑k12 : Int)))
  (∃ (x5 :
  arrS
  (shs
  [(4, S1.one Cs.bool), (8, S1.one (Cs.int IntKind.i64))])
  (World → Prop)),
  ∃ (x6 :
  arrS
  (shs
  [(4, S1.one Cs.bool), (8, S1.one (Cs.int IntKind.i64))])
  (World → Nat)),
  x5 b2 0 w5 ∧
  ∀ (I4 : Nat → Value) (b3 : Bool) (n7 : Int) (w9 : World),
  x5 b3 n7 w9 →
  nn p0c fun (a8 : Addr) =>
  ∃ (o7 : Option Addr),
  ∃ (k14 : Nat),
  ∃ (k15 : Nat),
  World.cell? w9 (Addr.add a8 4) =
  some (Value.slice o7 k14 k15) ∧
  br (decide (n7 < (↑k14 : Int)))
  (∀ (w10 : World),
  drawn w9 w10 →
  ∃ (I5 : World → Prop),
  I5 w10 ∧
  nn p0c fun (a9 : Addr) =>
  ∃ (o8 : Option Addr),
  ∃ (k16 : Nat),
  ∃ (k17 : Nat),
  (∀ (w11 : World),
  I5 w11 →
  World.cell? w11
  (Addr.add a9
  4) =
  some
  (Value.slice o8
  k16 k17)) ∧
  idx o8 k16 n7 3
  fun (a10 : Addr) =>
  ∃ (n8 : Int),
  (∀ (w12 : World),
  I5 w12 →
  World.cell?
  w12 a10 =
  some
  (Value.int
  IntKind.i64
  n8)) ∧
  ∃ (n9 : Int),
  (∀
  (w13 :
  World),
  I5 w13 →
  World.cell?
  w13
  (Addr.add
  (Addr.mk
  k9
  0
  none)
  1) =
  some
  (Value.int
  IntKind.i64
  n9)) ∧
  idx o6 k12 n9
  1
  fun
  (a11 :
  Addr) =>
  ∃ (n10 :
  Int),
  (∀
  (w14 :
  World),
  I5
  w14 →
  World.cell?
  w14
  a11 =
  some
  (Value.int
  IntKind.i64
  n10)) ∧
  br
  (n8 ==
  n10)
  (RunE
  Proofs.Tryd.prog
  Ev
  96
  [Value.pointer
  p0c,
  Value.int
  IntKind.i64
  p1place,
  Value.agg
  (Array.mk
  [Value.int
  IntKind.i64
  n7,
  Value.int
  IntKind.i64
  0,
  Value.int
  IntKind.i64
  p1place])]
  w10
  fun
  (v1 :
  Value)
  (w15 :
  World) =>
  ∃
  (b4
  :
  Bool),
  v1 =
  Value.bool
  b4 ∧
  I5
  w15 ∧
  br
  b4
  (inI
  (n7 +
  1) ∧
  x5
  true
  (n7 +
  1)
  w15 ∧
  x6
  true
  (n7 +
  1)
  w15 <
  x6
  b3
  n7
  w9)
  (inI
  (n7 +
  1) ∧
  x5
  b3
  (n7 +
  1)
  w15 ∧
  x6
  b3
  (n7 +
  1)
  w15 <
  x6
  b3
  n7
  w9))
  (inI
  (n7 +
  1) ∧
  x5
  b3
  (n7 +
  1)
  w10 ∧
  x6
  b3
  (n7 +
  1)
  w10 <
  x6
  b3
  n7
  w9))
  (inI (n1 + 1) ∧
  x3 b3 (n1 + 1) w9 ∧
  x4 b3 (n1 + 1) w9 < x4 b2 n1 w2))
  (∀ (w16 : World),
  drawn w5 w16 →
  ∃ (I6 : World → Prop),
  I6 w16 ∧
  nn p0c fun (a12 : Addr) =>
  ∃ (o9 : Option Addr),
  ∃ (k18 : Nat),
  ∃ (k19 : Nat),
  (∀ (w17 : World),
  I6 w17 →
  World.cell? w17 (Addr.add a12 4) =
  some (Value.slice o9 k18 k19)) ∧
  ∃ (n11 : Int),
  (∀ (w18 : World),
  I6 w18 →
  World.cell? w18 (Addr.mk k9 0 none) =
  some (Value.int IntKind.i64 n11)) ∧
  idx o9 k18 n11 3 fun (a13 : Addr) =>
  ∃ (n12 : Int),
  (∀ (w19 : World),
  I6 w19 →
  World.cell? w19 a13 =
  some
  (Value.int IntKind.i64
  n12)) ∧
  ∃ (x7 :
  arrS
  (shs
  [(4, S1.one Cs.bool),
  (10,
  S1.one
  (Cs.int IntKind.i64))])
  (World → Prop)),
  ∃ (x8 :
  arrS
  (shs
  [(4, S1.one Cs.bool),
  (10,
  S1.one
  (Cs.int
  IntKind.i64))])
  (World → Nat)),
  x7 b2 0 w16 ∧
  ∀ (I7 : Nat → Value)
  (b5 : Bool) (n13 : Int)
  (w20 : World),
  x7 b5 n13 w20 →
  ∀ (w21 : World),
  drawn w20 w21 →
  ∃ (I8 : World → Prop),
  I8 w21 ∧
  nn p0c
  fun
  (a14 :
  Addr) =>
  ∃ (o10 :
  Option Addr),
  ∃ (k20 : Nat),
  ∃ (k21 :
  Nat),
  (∀
  (w22 :
  World),
  I8
  w22 →
  World.cell?
  w22
  (Addr.add
  a14
  6) =
  some
  (Value.slice
  o10
  k20
  k21)) ∧
  ∃ (n14 :
  Int),
  (∀
  (w23 :
  World),
  I8
  w23 →
  World.cell?
  w23
  (Addr.add
  (Addr.mk
  k9
  0
  none)
  2) =
  some
  (Value.int
  IntKind.i64
  n14)) ∧
  idx
  o10
  k20
  n14
  1
  fun
  (a15 :
  Addr) =>
  ∃
  (o11
  :
  Option
  Addr),
  ∃
  (k22
  :
  Nat),
  ∃
  (k23
  :
  Nat),
  (∀
  (w24 :
  World),
  I8
  w24 →
  World.cell?
  w24
  a15 =
  some
  (Value.slice
  o11
  k22
  k23)) ∧
  br
  (decide
  (n13 <
  (↑k22 :
  Int)))
  (∀
  (w25 :
  World),
  drawn
  w21
  w25 →
  ∃
  (I9
  :
  World →
  Prop),
  I9
  w25 ∧
  nn
  p0c
  fun
  (a16 :
  Addr) =>
  ∃
  (o12
  :
  Option
  Addr),
  ∃
  (k24
  :
  Nat),
  ∃
  (k25
  :
  Nat),
  (∀
  (w26 :
  World),
  I9
  w26 →
  World.cell?
  w26
  (Addr.add
  a16
  6) =
  some
  (Value.slice
  o12
  k24
  k25)) ∧
  ∃
  (n15
  :
  Int),
  (∀
  (w27 :
  World),
  I9
  w27 →
  World.cell?
  w27
  (Addr.add
  (Addr.mk
  k9
  0
  none)
  2) =
  some
  (Value.int
  IntKind.i64
  n15)) ∧
  idx
  o12
  k24
  n15
  1
  fun
  (a17 :
  Addr) =>
  ∃
  (o13
  :
  Option
  Addr),
  ∃
  (k26
  :
  Nat),
  ∃
  (k27
  :
  Nat),
  (∀
  (w28 :
  World),
  I9
  w28 →
  World.cell?
  w28
  a17 =
  some
  (Value.slice
  o13
  k26
  k27)) ∧
  idx
  o13
  k26
  n13
  3
  fun
  (a18 :
  Addr) =>
  ∃
  (n16
  :
  Int),
  ∃
  (n17
  :
  Int),
  ∃
  (n18
  :
  Int),
  (∀
  (w29 :
  World),
  I9
  w29 →
  V.rowAt
  w29
  a18
  0
  3 =
  some
  [Value.int
  IntKind.i64
  n16,
  Value.int
  IntKind.i64
  n17,
  Value.int
  IntKind.i64
  n18]) ∧
  new
  w25
  (Obj.cells
  (Array.mk
  [Value.int
  IntKind.i64
  0,
  Value.int
  IntKind.i64
  0,
  Value.int
  IntKind.i64
  0])
  105)
  fun
  (k28 :
  Nat)
  (w30 :
  World) =>
  I9
  w30 ∧
  stR
  w30
  (Addr.mk
  k28
  0
  none)
  [Value.int
  IntKind.i64
  n16,
  Value.int
  IntKind.i64
  n17,
  Value.int
  IntKind.i64
  n18]
  fun
  (w31 :
  World) =>
  ∀
  (w32 :
  World),
  drawn
  w31
  w32 →
  ∃
  (I10
  :
  World →
  Prop),
  I10
  w32 ∧
  nn
  p0c
  fun
  (a19 :
  Addr) =>
  ∃
  (o14
  :
  Option
  Addr),
  ∃
  (k29
  :
  Nat),
  ∃
  (k30
  :
  Nat),
  (∀
  (w33 :
  World),
  I10
  w33 →
  World.cell?
  w33
  (Addr.add
  a19
  4) =
  some
  (Value.slice
  o14
  k29
  k30)) ∧
  ∃
  (n19
  :
  Int),
  (∀
  (w34 :
  World),
  I10
  w34 →
  World.cell?
  w34
  (Addr.mk
  k28
  0
  none) =
  some
  (Value.int
  IntKind.i64
  n19)) ∧
  idx
  o14
  k29
  n19
  3
  fun
  (a20 :
  Addr) =>
  ∃
  (o15
  :
  Option
  Addr),
  ∃
  (k31
  :
  Nat),
  ∃
  (k32
  :
  Nat),
  (∀
  (w35 :
  World),
  I10
  w35 →
  World.cell?
  w35
  (Addr.add
  a20
  1) =
  some
  (Value.slice
  o15
  k31
  k32)) ∧
  ∃
  (n20
  :
  Int),
  World.cell?
  w32
  (Addr.add
  (Addr.mk
  k28
  0
  none)
  1) =
  some
  (Value.int
  IntKind.i64
  n20) ∧
  br
  (decide
  (n20 <
  (↑k31 :
  Int)))
  (∃
  (n21
  :
  Int),
  World.cell?
  w32
  (Addr.add
  (Addr.mk
  k28
  0
  none)
  1) =
  some
  (Value.int
  IntKind.i64
  n21) ∧
  idx
  o15
  k31
  n21
  1
  fun
  (a21 :
  Addr) =>
  ∃
  (n22
  :
  Int),
  World.cell?
  w32
  a21 =
  some
  (Value.int
  IntKind.i64
  n22) ∧
  br
  (n22 ==
  n12)
  (∃
  (n23
  :
  Int),
  World.cell?
  w32
  (Addr.mk
  k28
  0
  none) =
  some
  (Value.int
  IntKind.i64
  n23) ∧
  ∃
  (n24
  :
  Int),
  World.cell?
  w32
  (Addr.add
  (Addr.mk
  k28
  0
  none)
  1) =
  some
  (Value.int
  IntKind.i64
  n24) ∧
  inI
  (n24 +
  1) ∧
  ∃
  (n25
  :
  Int),
  World.cell?
  w32
  (Addr.add
  (Addr.mk
  k28
  0
  none)
  2) =
  some
  (Value.int
  IntKind.i64
  n25) ∧
  RunE
  Proofs.Tryd.prog
  Ev
  96
  [Value.pointer
  p0c,
  Value.int
  IntKind.i64
  p1place,
  Value.agg
  (Array.mk
  [Value.int
  IntKind.i64
  n23,
  Value.int
  IntKind.i64
  (n24 +
  1),
  Value.int
  IntKind.i64
  n25])]
  w32
  fun
  (v2 :
  Value)
  (w36 :
  World) =>
  ∃
  (b6
  :
  Bool),
  v2 =
  Value.bool
  b6 ∧
  br
  b6
  (inI
  (n13 +
  1) ∧
  x7
  true
  (n13 +
  1)
  w36 ∧
  x8
  true
  (n13 +
  1)
  w36 <
  x8
  b5
  n13
  w20)
  (inI
  (n13 +
  1) ∧
  x7
  b5
  (n13 +
  1)
  w36 ∧
  x8
  b5
  (n13 +
  1)
  w36 <
  x8
  b5
  n13
  w20))
  (inI
  (n13 +
  1) ∧
  x7
  b5
  (n13 +
  1)
  w32 ∧
  x8
  b5
  (n13 +
  1)
  w32 <
  x8
  b5
  n13
  w20))
  (inI
  (n13 +
  1) ∧
  x7
  b5
  (n13 +
  1)
  w32 ∧
  x8
  b5
  (n13 +
  1)
  w32 <
  x8
  b5
  n13
  w20))
  (inI
  (n1 +
  1) ∧
  x3
  b5
  (n1 +
  1)
  w21 ∧
  x4
  b5
  (n1 +
  1)
  w21 <
  x4
  b2
  n1
  w2)))
  (x1 b2 w2 ∧ x2 b2 w2 < x2 b1 w1))
  (R (Value.tuple (Array.mk [])) w1)
set_option maxRecDepth 100000 in
theorem run_presageref06_chart_fill (p0c : Option Addr) (p1place : Int) (w : World) (R : Value → World → Prop) (h : vc_presageref06_chart_fill p0c p1place w R) : Run Tryd.prog 97 [(.pointer p0c), (.int .i64 p1place)] w R :=
  run_ev tyOk fnOk mixed Tryd.func97 ann_presageref06_chart_fill ((by kernel_rfl : fnV Tryd.prog Ty Fn Ev ann_presageref06_chart_fill Tryd.f97 [(.pointer p0c), (.int .i64 p1place)] w R = vc_presageref06_chart_fill p0c p1place w R) ▸ h)

end Go.Proofs.YtaheggomcnbbiaaDoor
set_option linter.unusedVariables false
namespace Go.V
def firstB (n j : Nat) : List Bool := tabB n fun k => decide (k < j)
theorem firstB_len (n j : Nat) : (firstB n j).length = n := tabB_len _ _
theorem fnB_first {n j : Nat} (h : j ≤ n) (k : Nat) : fnB (firstB n j) k = decide (k < j) := by
  unfold firstB; rw [fnB_tab fun k hk => by simp; omega]
theorem firstB_succ {n j : Nat} (h : j < n) : addB (firstB n j) [(j : Int)] = firstB n (j + 1) := by
  refine fnB_inj (by rw [addB_len, firstB_len, firstB_len]) fun k => ?_
  rw [fnB_add, firstB_len, addS, fnB_first (by omega), fnB_first (by omega), Bool.eq_iff_iff]
  simp only [Bool.or_eq_true, Bool.and_eq_true, decide_eq_true_eq, List.contains_iff_mem, List.mem_singleton]
  omega
theorem ofB_zero {n : Nat} (h : n ≤ 1000) : ofB (n : Int) [] = firstB n 0 := by
  have hN : ofN (n : Int) = n := by unfold ofN; split <;> split at * <;> omega
  refine fnB_inj (by rw [ofB_len, hN, firstB_len]) fun k => ?_
  unfold ofB
  rw [fnB_add, addS, fnB_rep, fnB_first (by omega)]
  simp
def allH (bs : List Bool) (row : List Int) : Bool := row.all (hasB bs)
end Go.V
namespace Go.Proofs.YtaheggomcnbbiaaDoor
open Go.V
section
variable {w : World} {L : List Asn} {g : GramT} {x : GA} {a : Option Addr} {l c : Nat} {row : List Int} {q : Option Addr} {bs : List Bool}
theorem r_all1 {c0 : Addr} {s : Int} (hc : w.cell? c0 = some (.pointer q)) (h : setR (hp w) q bs) : Run Tryd.prog n_reach_marks_all_S1 [.int .i64 s, .pointer (some c0)] w fun v w' => v = .bool (!hasB bs s) ∧ w' = w := by
  refine run_reach_marks_all_S1 _ _ w _ ?_
  refine ⟨_, hc, (s_Has h s).mono ?_⟩
  rintro _ _ ⟨rfl, rfl⟩
  exact ⟨_, rfl, rfl, rfl⟩
theorem r_index1 {c0 : Addr} (hc : w.cell? c0 = some (.pointer q)) (h : setR (hp w) q bs) (hr : rdS (hp w) row a l) (hb : l ≤ 4611686018427387904) : Run Tryd.prog n_slices_IndexFunc_int_int_ [.slice a l c, .func (.func n_reach_marks_all_S1) #[] #[.pointer (some c0)]] w fun v w' => (∃ n : Int, v = .int .i64 n ∧ (decide (0 ≤ n) = !allH bs row)) ∧ w' = w := by
  refine run_slices_IndexFunc_int_int_ _ _ _ _ _ w _ ?_
  refine ⟨fun n w' => ∃ j : Nat, n = j ∧ j ≤ l ∧ allH bs (row.take j) = true ∧ w' = w, fun n _ => l - n.toNat, ⟨0, rfl, by omega, rfl, rfl⟩, ?_⟩
  rintro _ n w1 ⟨j, rfl, hj, ha, rfl⟩
  refine br_intro (fun h1 => ?_) fun h1 => ?_
  · have h1 : j < l := by have := of_decide_eq_true h1; omega
    obtain ⟨y, ad, hy1, hya, hy2⟩ := hr.get1 h1
    refine idx_i hya h1 ⟨y, hy2 _ (sub.refl _), ifT_iff.2 ⟨rfl, (r_all1 hc h).mono ?_⟩⟩
    rintro _ _ ⟨rfl, rfl⟩
    refine ⟨_, rfl, br_intro (fun h2 => ⟨⟨_, rfl, ?_⟩, rfl⟩) fun h2 => ⟨⟨by omega, by omega⟩, ⟨j + 1, by simp, by omega, ?_, rfl⟩, msr h1⟩⟩
    · have : allH bs row = false := List.all_eq_false.2 ⟨y, List.mem_of_getElem? hy1, by simpa using h2⟩
      rw [this]; simp
    · unfold allH at ha ⊢
      rw [take_succ_get hy1, List.all_append, ha]
      simpa using h2
  · have h1 : j = l := by have := of_decide_eq_false h1; omega
    subst h1
    rw [List.take_of_length_le (by have := hr.1; omega)] at ha
    exact ⟨⟨_, rfl, by rw [ha]; rfl⟩, rfl⟩
theorem r_all {T : Int} (h : setR (hp w) q bs) (hr : rdS (hp w) row a l) (hb : l ≤ 4611686018427387904) : Run Tryd.prog n_reach_marks_all [.agg #[.pointer q, .int .i64 T], .slice a l c] w fun v w' => v = .bool (allH bs row) ∧ Gr w w' := by
  refine run_reach_marks_all _ _ _ _ _ w _ ?_
  refine newC_i (St.all w) fun k1 w1 h1 => ?_
  have g1 : Gr w w1 := h1.gone1
  have key : Run Tryd.prog n_slices_ContainsFunc_int_int_ [.slice a l c, .func (.func n_reach_marks_all_S1) #[] #[.pointer (some ⟨k1, 0, none⟩)]] w1 fun v w' => v = .bool (!allH bs row) ∧ w' = w1 := by
    refine run_slices_ContainsFunc_int_int_ _ _ _ _ _ w1 _ ?_
    refine (r_index1 (h1.cell 0) (h.mono g1) (hr.mono g1) hb).mono ?_
    rintro _ w2 ⟨⟨n, rfl, hn⟩, rfl⟩
    exact ⟨n, rfl, by rw [hn], rfl⟩
  refine key.mono ?_
  rintro _ _ ⟨rfl, rfl⟩
  exact ⟨_, rfl, by simp, g1⟩
set_option maxHeartbeats 1000000 in
theorem r_mark (hg : gR (hp w) g x) (hT : g.T ≤ 65) (hN : g.N ≤ 65) : Run Tryd.prog n_reach_mark [.agg ⟨x.cells⟩] w fun v w' => ∃ pb : Nat, v = .agg #[.pointer (some ⟨pb, 0, none⟩), .int .i64 (g.T : Int)] ∧ St w' (setO (some ⟨pb, 0, none⟩) (firstB (g.T + g.N) g.T) :: all w) := by
  refine run_reach_mark _ _ _ _ _ _ _ _ _ _ _ _ _ w _ ?_
  refine gbox hg fun k1 w1 gw hg B => ?_
  have tl : g.T = x.tl := hg.t.1
  have nl : g.N = x.nl := hg.n.1
  have gs : sub (hp w) (hp w1) := gw
  have h1 := St.all w1
  unfold V.all at h1
  generalize hH : hp w1 = H at *
  refine newC_i h1 fun k2 w2 h => fun w3 hd => ?_
  have h := h.drawn hd
  have eN : (x.tl : Int) + (x.nl : Int) = ((g.T + g.N : Nat) : Int) := by rw [tl, nl]; omega
  refine ⟨fun w => sub H (hp w), rdH 1 h.l, _, _, _, fun w s => B.c0 s, _, _, _, fun w s => B.c1 s, ⟨by omega, by omega⟩, _, _, _, fun w s => B.c0 s, ?_, ?_⟩
  · rw [eN]
    refine (s_Of (xs := []) (l := 0) ((g.T + g.N : Nat) : Int) (rdI_of rfl (.inl rfl)) (by omega)).mono ?_
    rintro _ w7 ⟨pb, rfl, h7⟩
    have h := h7.on1 h
    refine ⟨_, rfl, rdH 2 h.l, newC_i h fun k9 w8 h => ⟨rdH 3 h.l, stR_i h rfl (by simp [oneC]) fun w9 h => ?_⟩⟩
    rw [ofB_zero (by omega)] at h
    refine ⟨_, _, _, B.c0 (rdH 3 h.l), ?_⟩
    refine ⟨fun n w' => ∃ j : Nat, n = j ∧ j ≤ g.T ∧ St w' [setO (some ⟨pb, 0, none⟩) (firstB (g.T + g.N) j), cel k9 [.pointer (some ⟨pb, 0, none⟩), .int .i64 (x.tl : Int)], cel k2 [.pointer none, .int .i64 0], has H], fun n _ => g.T - n.toNat, ⟨0, rfl, by omega, h.pick 4 [1, 0, 2, 3]⟩, ?_⟩
    clear h
    rintro _ n w10 ⟨j, rfl, hj, h⟩
    have r9 : rowH (hp w10) ⟨k9, 0, none⟩ [.pointer (some ⟨pb, 0, none⟩), .int .i64 (x.tl : Int)] := rdCel 1 h.l
    refine br_intro (fun hlt => ?_) fun hlt => ?_
    · have hlt : j < g.T := by have := of_decide_eq_true hlt; omega
      refine ⟨_, r9.cell0 (sub.refl _), newC_i h fun k12 w11 h => ?_⟩
      refine (s_Add (xs := [(j : Int)]) (l := 1) (h.pick 5 [1, 0, 2, 3, 4]) (fun h hh => rdI_of rfl (.inr ⟨_, rfl, rdCel 0 hh⟩)) (by omega)).mono ?_
      rintro _ w12 ⟨rfl, h⟩
      rw [firstB_succ (by omega)] at h
      exact ⟨_, rfl, ⟨by omega, by omega⟩, ⟨j + 1, by simp, by omega, h.pick 5 [0, 2, 3, 4]⟩, msr hlt⟩
    · have hlt : j = g.T := by have := of_decide_eq_false hlt; omega
      subst hlt
      refine ⟨_, _, r9.at (sub.refl _) rfl, stR_i (h.pick 4 [2, 0, 1, 3]) rfl (by simp [oneC]) fun w13 h => ?_⟩
      exact ⟨_, _, h.row.at (sub.refl _) rfl, pb, by rw [tl], (h.pick 4 [1, 3]).on1 (has_i gs)⟩
  · refine newC_i h fun k9 w8 h => ⟨rdH 2 h.l, ?_⟩
    rw [eN]
    refine (s_Of (xs := []) (l := 0) ((g.T + g.N : Nat) : Int) (rdI_of rfl (.inl rfl)) (by omega)).mono ?_
    rintro _ w7 ⟨pb, rfl, h7⟩
    have h := h7.on1 h
    refine ⟨_, rfl, rdH 3 h.l, stR_i (h.pick 4 [1, 0, 2, 3]) rfl (by simp [oneC]) fun w9 h => ?_⟩
    rw [ofB_zero (by omega)] at h
    refine ⟨_, _, _, B.c0 (rdH 3 h.l), ?_⟩
    refine ⟨fun n w' => ∃ j : Nat, n = j ∧ j ≤ g.T ∧ St w' [setO (some ⟨pb, 0, none⟩) (firstB (g.T + g.N) j), cel k9 [.pointer (some ⟨pb, 0, none⟩), .int .i64 (x.tl : Int)], cel k2 [.pointer none, .int .i64 0], has H], fun n _ => g.T - n.toNat, ⟨0, rfl, by omega, h.pick 4 [1, 0, 2, 3]⟩, ?_⟩
    clear h
    rintro _ n w10 ⟨j, rfl, hj, h⟩
    have r9 : rowH (hp w10) ⟨k9, 0, none⟩ [.pointer (some ⟨pb, 0, none⟩), .int .i64 (x.tl : Int)] := rdCel 1 h.l
    refine br_intro (fun hlt => ?_) fun hlt => ?_
    · have hlt : j < g.T := by have := of_decide_eq_true hlt; omega
      refine ⟨_, r9.cell0 (sub.refl _), newC_i h fun k12 w11 h => ?_⟩
      refine (s_Add (xs := [(j : Int)]) (l := 1) (h.pick 5 [1, 0, 2, 3, 4]) (fun h hh => rdI_of rfl (.inr ⟨_, rfl, rdCel 0 hh⟩)) (by omega)).mono ?_
      rintro _ w12 ⟨rfl, h⟩
      rw [firstB_succ (by omega)] at h
      exact ⟨_, rfl, ⟨by omega, by omega⟩, ⟨j + 1, by simp, by omega, h.pick 5 [0, 2, 3, 4]⟩, msr hlt⟩
    · have hlt : j = g.T := by have := of_decide_eq_false hlt; omega
      subst hlt
      refine ⟨_, _, r9.at (sub.refl _) rfl, stR_i (h.pick 4 [2, 0, 1, 3]) rfl (by simp [oneC]) fun w13 h => ?_⟩
      exact ⟨_, _, h.row.at (sub.refl _) rfl, pb, by rw [tl], (h.pick 4 [1, 3]).on1 (has_i gs)⟩
end
end Go.Proofs.YtaheggomcnbbiaaDoor
set_option linter.unusedVariables false
namespace Go.V
inductive Pd (g : GramT) : Int → Prop
  | tm (t : Nat) : t < g.T → Pd g (t : Int)
  | mk (p : ProdT) : p ∈ g.prods → (∀ s ∈ p.right, Pd g s) → Pd g p.left
def PdR (g : GramT) (row : List Int) : Prop := ∀ s ∈ row, Pd g s
inductive Us (g : GramT) : Int → Prop
  | start : Pd g g.start → Us g g.start
  | zero : ClosedP g → Pd g g.start → Us g (g.T : Int)
  | pr (p : ProdT) (s : Int) : p ∈ g.prods → Us g p.left → PdR g p.right → s ∈ p.right → Us g s
theorem start_in {g : GramT} (h : EitherP g) : (g.T : Int) ≤ g.start ∧ g.start < (g.T : Int) + g.N := by
  rcases h with ⟨s, p, _⟩ | ⟨h0, s, p, q, hq, q1, q2, q3⟩
  · have := p.2.2.2.2; omega
  · have := p.2.2.2.2; omega
theorem hasB_pos {bs : List Bool} {s : Int} (h : 0 ≤ s) : hasB bs s = fnB bs s.toNat := by unfold hasB; simp [h]
theorem allH_iff {g : GramT} {bs : List Bool} {row : List Int} (hr : ∀ s ∈ row, 0 ≤ s ∧ s < (g.T : Int) + g.N) : allH bs row = true ↔ ∀ s ∈ row, fnB bs s.toNat = true := by
  unfold allH
  rw [List.all_eq_true]
  exact forall_congr' fun s => ⟨fun h hs => by rw [← hasB_pos (hr s hs).1]; exact h hs, fun h hs => by rw [hasB_pos (hr s hs).1]; exact h hs⟩
def PdP (g : GramT) (bs : List Bool) : Prop := bs.length = g.T + g.N ∧ ∀ i, fnB bs i = true ↔ Pd g (i : Int)
def UsP (g : GramT) (bs : List Bool) : Prop := bs.length = g.T + g.N ∧ ∀ i, fnB bs i = true ↔ (i < g.T ∨ Us g (i : Int))
theorem Pd.in {g : GramT} (iG : InG g) {s : Int} (h : Pd g s) : 0 ≤ s ∧ s < (g.T : Int) + g.N := by
  cases h with
  | tm t h => omega
  | mk p hp _ => have := (iG p hp).1; omega
theorem PdP.all {g : GramT} {bs : List Bool} (h : PdP g bs) {row : List Int} (hr : ∀ s ∈ row, 0 ≤ s ∧ s < (g.T : Int) + g.N) : allH bs row = true ↔ PdR g row := by
  rw [allH_iff hr]
  refine forall_congr' fun s => ⟨fun k hs => ?_, fun k hs => ?_⟩
  · have := (h.2 _).1 (k hs); rwa [toNat_back (hr s hs).1] at this
  · exact (h.2 _).2 (by rw [toNat_back (hr s hs).1]; exact k hs)
def stP (p : ProdT) (bs : List Bool) : List Bool := if allH bs p.right then addB bs [p.left] else bs
def stU (may : List Bool) (p : ProdT) (bs : List Bool) : List Bool := if hasB bs p.left && allH may p.right then addB bs p.right else bs
theorem fnB_addL {bs : List Bool} {xs : List Int} {k : Nat} : fnB (addB bs xs) k = true ↔ fnB bs k = true ∨ (k < bs.length ∧ (k : Int) ∈ xs) := by
  rw [fnB_add, addS, Bool.or_eq_true, Bool.and_eq_true, decide_eq_true_eq, List.contains_iff_mem]
def PdJ (g : GramT) (bs : List Bool) : Prop := bs.length = g.T + g.N ∧ (∀ i, fnB bs i = true → Pd g (i : Int)) ∧ ∀ t, t < g.T → fnB bs t = true
theorem PdJ.step {g : GramT} (iG : InG g) {p : ProdT} (hp : p ∈ g.prods) {bs : List Bool} (h : PdJ g bs) : PdJ g (stP p bs) := by
  unfold stP
  split
  · rename_i ha
    obtain ⟨hl, hr⟩ := iG p hp
    refine ⟨by rw [addB_len]; exact h.1, fun i hi => ?_, fun t ht => fnB_addL.2 (.inl (h.2.2 t ht))⟩
    rcases fnB_addL.1 hi with hi | ⟨_, hi⟩
    · exact h.2.1 i hi
    · rw [List.mem_singleton] at hi
      rw [hi]
      refine .mk p hp fun s hs => ?_
      have := h.2.1 _ ((allH_iff (g := g) hr).1 ha s hs)
      rwa [toNat_back (hr s hs).1] at this
  · exact h
theorem PdJ.all {g : GramT} (iG : InG g) {bs : List Bool} (h : PdJ g bs) (hc : ∀ p ∈ g.prods, stP p bs = bs) : PdP g bs := by
  refine ⟨h.1, fun i => ⟨h.2.1 i, fun hi => ?_⟩⟩
  have key : ∀ s, Pd g s → fnB bs s.toNat = true := fun s hs => by
    induction hs with
    | tm t ht => exact h.2.2 t ht
    | mk p hp _ ih =>
      obtain ⟨hl, hr⟩ := iG p hp
      have ha : allH bs p.right = true := (allH_iff (g := g) hr).2 ih
      have := hc p hp
      unfold stP at this
      rw [if_pos ha] at this
      rw [← this]
      exact fnB_addL.2 (.inr ⟨by rw [h.1]; omega, by rw [List.mem_singleton]; omega⟩)
  exact key _ hi
def UsJ (g : GramT) (bs : List Bool) : Prop := bs.length = g.T + g.N ∧ (∀ i, fnB bs i = true → i < g.T ∨ Us g (i : Int)) ∧ (∀ t, t < g.T → fnB bs t = true) ∧ (Pd g g.start → fnB bs g.start.toNat = true ∧ (ClosedP g → fnB bs g.T = true))
theorem UsJ.step {g : GramT} (iG : InG g) {may : List Bool} (hm : PdP g may) {p : ProdT} (hp : p ∈ g.prods) {bs : List Bool} (h : UsJ g bs) : UsJ g (stU may p bs) := by
  unfold stU
  split
  · rename_i ha
    rw [Bool.and_eq_true] at ha
    obtain ⟨hl, hr⟩ := iG p hp
    refine ⟨by rw [addB_len]; exact h.1, fun i hi => ?_, fun t ht => fnB_addL.2 (.inl (h.2.2.1 t ht)), fun hs => ⟨fnB_addL.2 (.inl (h.2.2.2 hs).1), fun hc => fnB_addL.2 (.inl ((h.2.2.2 hs).2 hc))⟩⟩
    rcases fnB_addL.1 hi with hi | ⟨_, hi⟩
    · exact h.2.1 i hi
    · have h1 := ha.1
      rw [hasB_pos (by omega)] at h1
      have h2 := h.2.1 _ h1
      rw [toNat_back (by omega)] at h2
      rcases h2 with h2 | h2
      · omega
      · exact .inr (.pr p _ hp h2 ((hm.all hr).1 ha.2) hi)
  · exact h
theorem UsJ.all {g : GramT} (he : EitherP g) {may : List Bool} (hm : PdP g may) {bs : List Bool} (h : UsJ g bs) (hc : ∀ p ∈ g.prods, stU may p bs = bs) : UsP g bs := by
  obtain ⟨iG, bT, bN, pN, pT, bP⟩ := inG he
  have hst := start_in he
  refine ⟨h.1, fun i => ⟨h.2.1 i, ?_⟩⟩
  have key : ∀ s, Us g s → fnB bs s.toNat = true := fun s hs => by
    induction hs with
    | start hp => exact (h.2.2.2 hp).1
    | zero hc' hp => have := (h.2.2.2 hp).2 hc'; simpa using this
    | pr p s hp _ hr' hs ih =>
      obtain ⟨hl, hr⟩ := iG p hp
      have := hc p hp
      unfold stU at this
      have hh : hasB bs p.left = true := by rw [hasB_pos (by omega)]; exact ih
      rw [if_pos (by rw [hh, (hm.all hr).2 hr']; rfl)] at this
      rw [← this]
      exact fnB_addL.2 (.inr ⟨by rw [h.1]; have := hr s hs; omega, by rw [toNat_back (hr s hs).1]; exact hs⟩)
  rintro (ht | hu)
  · exact h.2.2.1 i ht
  · exact key _ hu
end Go.V
namespace Go.Proofs.YtaheggomcnbbiaaDoor
open Go.V
section
variable {w : World} {L : List Asn} {g : GramT} {x : GA} {a : Option Addr} {l c : Nat} {row : List Int} {q : Option Addr} {bs : List Bool}
set_option maxHeartbeats 2000000 in
theorem r_until {H : Hp} {fg : FuncId} {fc : List Value} {J : List Bool → Prop} {st : ProdT → List Bool → List Bool} {bs0 : List Bool} (hg : gR H g x) (hP : g.prods.length ≤ 97) (hF : Fn fg = true)
    (hlen : ∀ p bs, (st p bs).length = bs.length) (hle : ∀ p bs k, fnB bs k = true → fnB (st p bs) k = true) (hJ : ∀ p ∈ g.prods, ∀ bs, J bs → J (st p bs)) (hb0 : bs0.length ≤ 1000)
    (hst : ∀ H', sub H H' → ∀ p ∈ g.prods, ∀ bs a l c w, J bs → rdS H' p.right a l → St w [setO q bs, has H'] → Run Tryd.prog fg (.agg #[.int .i64 p.left, .slice a l c, .int .i64 p.level] :: fc) w fun v w' => v = .int .i64 ((cntB (st p bs) : Int) - cntB bs) ∧ St w' [setO q (st p bs), has H'])
    (hJ0 : J bs0) (h : St w [setO q bs0, has H]) : Run Tryd.prog n_reach_until [.agg ⟨x.cells⟩, .func (.func fg) #[] ⟨fc⟩] w fun v w' => v = .tuple #[] ∧ ∃ bs, J bs ∧ bs.length = bs0.length ∧ (∀ p ∈ g.prods, st p bs = bs) ∧ St w' [setO q bs, has H] := by
  refine run_reach_until _ _ _ _ _ _ _ _ _ _ _ _ _ _ _ w _ ?_
  refine newC_i h fun k1 w1 h1 => ?_
  obtain ⟨H2, hl2, _, h⟩ := h1.swap.freeze
  have sH : sub H H2 := rdH 1 hl2
  have B : GB H2 k1 x := gb_of (rdCel 0 hl2)
  have hg := hg.mono sH
  have pl := hg.p.1
  clear h1
  have hcn : ∀ p bs, cntB bs ≤ cntB (st p bs) := fun p bs => by
    unfold cntB; rw [hlen]; exact (cnt_mono2 (hle p bs) _).1
  obtain ⟨Q, hQ⟩ := name_it (fun (n : Int) (w : World) (m : Nat) => ∃ bs : List Bool, J bs ∧ bs.length = bs0.length ∧ 0 ≤ n ∧ m = opn bs + (if 0 < n then 1 else 0) ∧ (n = 0 → ∀ p ∈ g.prods, st p bs = bs) ∧ St w [setO q bs, has H2])
  obtain ⟨μ, mu1, mu2⟩ := least_fn (fun (y : Int × World) m => Q y.1 y.2 m)
  refine ⟨fun n w' => ∃ m, Q n w' m, fun n w => μ (n, w), ⟨opn bs0 + 1, ?_⟩, ?_⟩
  · rw [hQ]
    exact ⟨bs0, hJ0, rfl, by decide, rfl, fun h => absurd h (by decide), h⟩
  clear h
  intro _ n w2 hP2
  have hP2 := mu2 (n, w2) hP2
  dsimp only at hP2
  generalize hμ : μ (n, w2) = μ0 at *
  rw [hQ] at hP2
  obtain ⟨bs, hJ1, hl1, hn, hmu, hc, h⟩ := hP2
  refine br_intro (fun hpos => ?_) fun hpos => ?_
  rotate_left
  · have hpos := of_decide_eq_false hpos
    exact ⟨rfl, bs, hJ1, hl1, hc (by omega), h.on1 (has_i sH)⟩
  have hpos := of_decide_eq_true hpos
  rw [if_pos hpos] at hmu
  refine ⟨_, _, _, B.c4 (rdH 1 h.l), fun n m w' => ∃ (j : Nat) (cs : List Bool), m = j ∧ j ≤ g.prods.length ∧ J cs ∧ cs.length = bs0.length ∧ n = (cntB cs : Int) - cntB bs ∧ (∀ k, fnB bs k = true → fnB cs k = true) ∧ (cs = bs → ∀ p ∈ g.prods.take j, st p bs = bs) ∧ St w' [setO q cs, has H2], fun _ m _ => g.prods.length - m.toNat, ⟨0, bs, rfl, by omega, hJ1, hl1, by omega, fun _ h => h, by simp, h⟩, ?_⟩
  clear h
  rintro _ n2 n3 w3 ⟨j, cs, rfl, hj, hJ2, hl2', rfl, hsub, hst2, h⟩
  have hcc : cntB bs ≤ cntB cs := by unfold cntB; rw [hl2', hl1]; exact (cnt_mono2 hsub _).1
  have hcl := cntB_le cs
  have hcl0 := cntB_le bs
  refine br_intro (fun hlt => ?_) fun hlt => ?_
  rotate_left
  · have hlt : j = g.prods.length := by have := of_decide_eq_false hlt; omega
    subst hlt
    rw [List.take_length] at hst2
    have key : Q ((cntB cs : Int) - cntB bs) w3 (opn cs + (if (0 : Int) < (cntB cs : Int) - cntB bs then 1 else 0)) := by
      rw [hQ]
      refine ⟨cs, hJ2, hl2', by omega, rfl, fun h0 => ?_, h⟩
      have e : cs = bs := cntB_inj (by omega) hsub (by omega)
      rw [e]; exact hst2 e
    refine ⟨⟨_, key⟩, ?_⟩
    have := mu1 (_, w3) _ key
    dsimp only
    rw [hμ]
    unfold opn at *
    split at this <;> omega
  have hlt : j < g.prods.length := by have := of_decide_eq_true hlt; omega
  obtain ⟨p, ad, vs, hp1, hpa, hp2, ra, rl, rc, rfl, hrc, hp3⟩ := hg.p.get (i := j) (by omega)
  have hpm := List.mem_of_getElem? hp1
  have et : g.prods.take (j + 1) = g.prods.take j ++ [p] := by rw [List.take_add_one, hp1]; rfl
  refine idx_n hpa (by omega) ⟨_, _, _, _, _, hp2.at (rdH 1 h.l) rfl, newC_i h fun k6 w4 h => stR_i h rfl (by simp [oneC]) fun w5 h => ⟨_, _, _, _, _, h.row.at (sub.refl _) rfl, ifT_iff.2 ⟨hF, ?_⟩⟩⟩
  have h : St w5 [setO q cs, has H2] := h.pick 3 [1, 2]
  refine (hst H2 sH p hpm cs ra rl rc w5 hJ2 hp3 h).mono ?_
  rintro _ w6 ⟨rfl, h⟩
  have h3 := hcn p cs
  have h4 := cntB_le (st p cs)
  rw [hlen] at h4
  refine ⟨_, rfl, ⟨by omega, by omega⟩, ⟨by omega, by omega⟩, ⟨j + 1, st p cs, by simp, by omega, hJ p hpm cs hJ2, by rw [hlen]; exact hl2', by omega, fun k hk => hle p cs k (hsub k hk), fun e r hr => ?_, h⟩, msr hlt⟩
  have e1 : cs = bs := by
    refine cntB_inj (by omega) hsub ?_
    rw [e] at h3; omega
  rw [et] at hr
  rcases List.mem_append.1 hr with hr | hr
  · exact hst2 e1 r hr
  · simp at hr; subst hr
    rw [e1] at e; exact e
theorem r_prod1 {H : Hp} {k11 : Nat} {T : Int} {p : ProdT} (hb7 : p.right.length ≤ 17592186043904) (hc : rowH H ⟨k11, 0, none⟩ [.pointer q, .int .i64 T]) (hr : rdS H p.right a l) (h : St w [setO q bs, has H]) :
    Run Tryd.prog n_reach_productive_S1 [.agg #[.int .i64 p.left, .slice a l c, .int .i64 p.level], .pointer (some ⟨k11, 0, none⟩)] w fun v w' => v = .int .i64 ((cntB (stP p bs) : Int) - cntB bs) ∧ St w' [setO q (stP p bs), has H] := by
  refine run_reach_productive_S1 _ _ _ _ _ _ w _ ?_
  have hrl := hr.1
  refine newC_i h fun k1 w1 h => ?_
  have sH : sub H (hp w1) := rdH 2 h.l
  have r1 : rowH (hp w1) ⟨k1, 0, none⟩ [.int .i64 p.left, .slice a l c, .int .i64 p.level] := rdCel 0 h.l
  have hs : setR (hp w1) q bs := h.swap.setR
  refine ⟨_, _, hc.at sH rfl, _, _, _, r1.cell (sub.refl _) (j := 1) rfl, (r_all hs (hr.mono sH) (by omega)).mono ?_⟩
  rintro _ w2 ⟨rfl, g2⟩
  have h := h.gr g2
  refine ⟨_, rfl, br_intro (fun h1 => ?_) fun h1 => ?_⟩
  · have h1 : allH bs p.right = false := by simpa using h1
    unfold stP
    rw [h1]
    exact ⟨by simp, h.pick 3 [1, 2]⟩
  · have h1 : allH bs p.right = true := by simpa using h1
    refine ⟨_, hc.cell0 (rdH 2 h.l), _, (r1.mono g2).cell0 (sub.refl _), newC_i h fun k4 w3 h => ?_⟩
    refine (s_Add (xs := [p.left]) (l := 1) (h.pick 4 [2, 0, 3]) (fun h hh => rdI_of rfl (.inr ⟨_, rfl, rdCel 0 hh⟩)) (by omega)).mono ?_
    rintro _ w4 ⟨rfl, h⟩
    unfold stP
    rw [if_pos h1]
    exact ⟨_, rfl, rfl, h.pick 3 [0, 2]⟩
theorem r_use1 {H : Hp} {k12 k2 : Nat} {T T2 : Int} {q2 : Option Addr} {may : List Bool} {p : ProdT} (hb7 : p.right.length ≤ 17592186043904) (hc : rowH H ⟨k12, 0, none⟩ [.pointer q, .int .i64 T]) (hc2 : rowH H ⟨k2, 0, none⟩ [.pointer q2, .int .i64 T2]) (hm : setR H q2 may) (hr : rdS H p.right a l) (h : St w [setO q bs, has H]) :
    Run Tryd.prog n_reach_useful_S1 [.agg #[.int .i64 p.left, .slice a l c, .int .i64 p.level], .pointer (some ⟨k12, 0, none⟩), .pointer (some ⟨k2, 0, none⟩)] w fun v w' => v = .int .i64 ((cntB (stU may p bs) : Int) - cntB bs) ∧ St w' [setO q (stU may p bs), has H] := by
  refine run_reach_useful_S1 _ _ _ _ _ _ _ w _ ?_
  have hrl := hr.1
  refine newC_i h fun k1 w1 h => ?_
  have sH : sub H (hp w1) := rdH 2 h.l
  have r1 : rowH (hp w1) ⟨k1, 0, none⟩ [.int .i64 p.left, .slice a l c, .int .i64 p.level] := rdCel 0 h.l
  have hs : setR (hp w1) q bs := h.swap.setR
  refine ⟨_, hc.cell0 sH, _, r1.cell0 (sub.refl _), (s_Has hs p.left).mono ?_⟩
  rintro _ _ ⟨rfl, rfl⟩
  refine ⟨_, rfl, br_intro (fun h1 => ?_) fun h1 => ?_⟩
  · have h1 : hasB bs p.left = false := by simpa using h1
    unfold stU
    rw [h1, Bool.false_and, if_neg (by decide)]
    exact ⟨by simp, h.pick 3 [1, 2]⟩
  have h1 : hasB bs p.left = true := by simpa using h1
  refine ⟨_, _, hc2.at sH rfl, _, _, _, r1.cell (sub.refl _) (j := 1) rfl, (r_all (hm.mono sH) (hr.mono sH) (by omega)).mono ?_⟩
  rintro _ w3 ⟨rfl, g3⟩
  have h := h.gr g3
  refine ⟨_, rfl, br_intro (fun h2 => ?_) fun h2 => ?_⟩
  · have h2 : allH may p.right = false := by simpa using h2
    unfold stU
    rw [h2, Bool.and_false, if_neg (by decide)]
    exact ⟨by simp, h.pick 3 [1, 2]⟩
  · have h2 : allH may p.right = true := by simpa using h2
    refine ⟨_, hc.cell0 (rdH 2 h.l), _, _, _, (r1.mono g3).cell (sub.refl _) (j := 1) rfl, ?_⟩
    refine (s_Add (xs := p.right) (l := l) (h.pick 3 [1, 2]) (fun h hh => hr.mono (rdH 0 hh)) (by omega)).mono ?_
    rintro _ w4 ⟨rfl, h⟩
    unfold stU
    rw [h1, h2, Bool.and_self, if_pos rfl]
    exact ⟨_, rfl, rfl, h⟩
end
end Go.Proofs.YtaheggomcnbbiaaDoor
set_option linter.unusedVariables false
namespace Go.V
def partL (T N : Nat) (ks : List Nat) : List Bool := tabB N fun k => decide (k < N) && decide (T + k ∈ ks)
theorem partL_len (T N : Nat) (ks : List Nat) : (partL T N ks).length = N := tabB_len _ _
theorem fnB_part {T N : Nat} {ks : List Nat} (k : Nat) : fnB (partL T N ks) k = (decide (k < N) && decide (T + k ∈ ks)) := by
  unfold partL; rw [fnB_tab fun k hk => by simp; omega]
theorem partL_lo {T N m : Nat} {ks : List Nat} (h : m < T) : partL T N (ks ++ [m]) = partL T N ks :=
  fnB_inj (by rw [partL_len, partL_len]) fun k => by
    rw [fnB_part, fnB_part, Bool.eq_iff_iff]
    simp only [Bool.and_eq_true, decide_eq_true_eq, List.mem_append, List.mem_singleton]
    exact and_congr Iff.rfl ⟨fun h' => h'.resolve_right (by omega), .inl⟩
theorem partL_hi {T N m : Nat} {ks : List Nat} (h : T ≤ m) (h2 : m < T + N) : (partL T N ks).set (m - T) true = partL T N (ks ++ [m]) :=
  fnB_inj (by rw [List.length_set, partL_len, partL_len]) fun k => by
    rw [fnB_setT (by rw [partL_len]; omega), fnB_part, fnB_part, Bool.eq_iff_iff]
    simp only [Bool.and_eq_true, Bool.or_eq_true, decide_eq_true_eq, List.mem_append, List.mem_singleton, beq_iff_eq]
    constructor
    · rintro (⟨h3, h4⟩ | h3)
      · exact ⟨h3, .inl h4⟩
      · exact ⟨by omega, .inr (by omega)⟩
    · rintro ⟨h3, h4 | h4⟩
      · exact .inl ⟨h3, h4⟩
      · exact .inr (by omega)
theorem partL_all {T N : Nat} {bs : List Bool} (h : bs.length = T + N) : partL T N (mb bs) = bs.drop T :=
  fnB_inj (by rw [partL_len, List.length_drop]; omega) fun k => by
    rw [fnB_part, fnB_dropL, Bool.eq_iff_iff]
    simp only [Bool.and_eq_true, decide_eq_true_eq, mem_mb]
    exact ⟨fun h => h.2, fun h' => ⟨by have := fnB_lt h'; omega, h'⟩⟩
theorem partL_nil (T N : Nat) : partL T N [] = List.replicate N false :=
  fnB_inj (by rw [partL_len, List.length_replicate]) fun k => by rw [fnB_part, fnB_rep]; simp
end Go.V
namespace Go.Proofs.YtaheggomcnbbiaaDoor
open Go.V
section
variable {w : World} {L : List Asn} {g : GramT} {x : GA} {a : Option Addr} {l c : Nat} {row : List Int} {q : Option Addr} {bs : List Bool}
set_option maxHeartbeats 1000000 in
theorem r_productive (hg : gR (hp w) g x) (hb : okG g) (he : EitherP g) : Run Tryd.prog n_reach_productive [.agg ⟨x.cells⟩] w fun v w' => ∃ (pb : Nat) (bs : List Bool), v = .agg #[.pointer (some ⟨pb, 0, none⟩), .int .i64 (g.T : Int)] ∧ PdP g bs ∧ St w' (setO (some ⟨pb, 0, none⟩) bs :: all w) := by
  refine run_reach_productive _ _ _ _ _ _ _ _ _ _ _ _ _ w _ ?_
  refine gbox hg fun k1 w1 gw hg B => ?_
  obtain ⟨iG, bT, bN, pN, pT, bP⟩ := inG he
  have gs : sub (hp w) (hp w1) := gw
  have h1 := St.all w1
  unfold V.all at h1
  generalize hH : hp w1 = H at *
  refine newC_i h1 fun k2 w2 h => ?_
  refine ⟨_, _, _, _, _, _, _, _, _, _, _, _, _, B.row (rdH 1 h.l), (r_mark (x := x) (hg.mono (rdH 1 h.l)) bT bN).mono ?_⟩
  rintro _ w3 ⟨pb, rfl, h3⟩
  have h := h3.on1 h
  refine ⟨_, _, rfl, newC_i h fun k11 w4 h => stR_i h rfl (by simp [oneC]) fun w5 h => ?_⟩
  refine ⟨_, _, _, _, _, _, _, _, _, _, _, _, _, B.row (rdH 3 h.l), ?_⟩
  obtain ⟨h0, hl, _, h⟩ := (h.pick 4 [1, 0, 2, 3]).freeze
  have hc : rowH h0 ⟨k11, 0, none⟩ [.pointer (some ⟨pb, 0, none⟩), .int .i64 (g.T : Int)] := rdCel 0 hl
  refine (r_until (J := PdJ g) (st := stP) (fg := n_reach_productive_S1) (fc := [.pointer (some ⟨k11, 0, none⟩)]) (hg.mono (rdH 2 hl)) bP rfl (fun p bs => by unfold stP; split <;> simp [addB_len]) (fun p bs k hk => by unfold stP; split; exact fnB_addL.2 (.inl hk); exact hk) (fun p hp bs hJ => hJ.step iG hp) (by rw [firstB_len]; omega) (fun H' s p hp bs a l c w hJ hr h => r_prod1 (hb.2.2.2.2.2.2 p hp) (hc.mono s) hr h) ⟨firstB_len _ _, fun i hi => ?_, fun t ht => ?_⟩ h).mono ?_
  · rw [fnB_first (by omega)] at hi
    exact .tm i (by simpa using hi)
  · rw [fnB_first (by omega)]; simpa using ht
  rintro _ w6 ⟨rfl, bs, hJ, _, hcl, h⟩
  have h := h.on1 hl
  have r11 : rowH (hp w6) ⟨k11, 0, none⟩ [.pointer (some ⟨pb, 0, none⟩), .int .i64 (g.T : Int)] := rdCel 1 h.l
  refine ⟨rfl, _, _, r11.at (sub.refl _) rfl, stR_i (h.pick 4 [2, 0, 3]) rfl (by simp [oneC]) fun w7 h => ⟨_, _, h.row.at (sub.refl _) rfl, pb, bs, rfl, hJ.all iG hcl, (h.pick 3 [1, 2]).on1 (has_i gs)⟩⟩
set_option maxHeartbeats 2000000 in
theorem r_useful {may : List Bool} (hg : gR (hp w) g x) (hb : okG g) (he : EitherP g) (hm : setR (hp w) q may) (hp' : PdP g may) : Run Tryd.prog n_reach_useful [.agg ⟨x.cells⟩, .agg #[.pointer q, .int .i64 (g.T : Int)]] w fun v w' => ∃ (pb : Nat) (bs : List Bool), v = .agg #[.pointer (some ⟨pb, 0, none⟩), .int .i64 (g.T : Int)] ∧ UsP g bs ∧ St w' (setO (some ⟨pb, 0, none⟩) bs :: all w) := by
  refine run_reach_useful _ _ _ _ _ _ _ _ _ _ _ _ _ _ _ w _ ?_
  refine gbox hg fun k1 w1 gw hg B => ?_
  obtain ⟨iG, bT, bN, pN, pT, bP⟩ := inG he
  obtain ⟨st1', st2'⟩ := start_in he
  have tl : g.T = x.tl := hg.t.1
  have gs : sub (hp w) (hp w1) := gw
  have hm := hm.mono gs
  have h1 := St.all w1
  unfold V.all at h1
  have hst := hg.s
  generalize hH : hp w1 = H at *
  refine newC_i h1 fun k2 w2 h => newC_i h fun k3 w3 h => ?_
  refine ⟨_, _, _, _, _, _, _, _, _, _, _, _, _, B.row (rdH 2 h.l), (r_mark (x := x) (hg.mono (rdH 2 h.l)) bT bN).mono ?_⟩
  rintro _ w4 ⟨pb, rfl, h4⟩
  have h := h4.on1 h
  refine ⟨_, _, rfl, newC_i h fun k12 w5 h => stR_i h rfl (by simp [oneC]) fun w6 h => ?_⟩
  have h : St w6 [cel k12 [.pointer (some ⟨pb, 0, none⟩), .int .i64 (g.T : Int)], setO (some ⟨pb, 0, none⟩) (firstB (g.T + g.N) g.T), cel k3 [.pointer none, .int .i64 0], cel k2 [.pointer q, .int .i64 (g.T : Int)], has H] := h
  have h := h.pick 5 [1, 0, 3, 2, 4]
  have j0 : (firstB (g.T + g.N) g.T).length = g.T + g.N ∧ (∀ i, fnB (firstB (g.T + g.N) g.T) i = true → i < g.T ∨ Us g (i : Int)) ∧ ∀ t, t < g.T → fnB (firstB (g.T + g.N) g.T) t = true := by
    refine ⟨firstB_len _ _, fun i hi => ?_, fun t ht => ?_⟩
    · rw [fnB_first (by omega)] at hi; exact .inl (by simpa using hi)
    · rw [fnB_first (by omega)]; simpa using ht
  have c2 : w6.cell? ⟨k2, 0, none⟩ = some (.pointer q) := (rdCel (b := k2) (vs := [.pointer q, .int .i64 (g.T : Int)]) 2 h.l).cell0 (sub.refl _)
  refine ⟨_, c2, _, B.c3 (rdH 4 h.l), ?_⟩
  rw [hst]
  refine (s_Has (hm.mono (rdH 4 h.l)) g.start).mono ?_
  rintro _ w7 ⟨rfl, rfl⟩
  have hpd : hasB may g.start = true ↔ Pd g g.start := by
    rw [hasB_pos (by omega), hp'.2, toNat_back (by omega)]
  refine ⟨_, rfl, br_intro (fun hh => ?_) fun hh => ?_⟩
  · have hP := hpd.1 hh
    have r12 : rowH (hp w7) ⟨k12, 0, none⟩ [.pointer (some ⟨pb, 0, none⟩), .int .i64 (g.T : Int)] := rdCel 1 h.l
    refine ⟨_, r12.cell0 (sub.refl _), _, B.c3 (rdH 4 h.l), newC_i h fun k13 w8 h => ?_⟩
    refine (s_Add (xs := [x.s]) (l := 1) (h.pick 6 [1, 0, 2, 3, 4, 5]) (fun h hh => rdI_of rfl (.inr ⟨_, rfl, rdCel 0 hh⟩)) (by omega)).mono ?_
    rintro _ w9 ⟨rfl, h⟩
    have h := h.pick 6 [0, 2, 3, 4, 5]
    rw [hst] at h
    refine ⟨_, rfl, _, _, _, _, _, _, _, _, _, _, _, _, _, B.row (rdH 4 h.l), (g_Closed (x := x) (hg.mono (rdH 4 h.l)) hb).mono ?_⟩
    rintro _ w10 ⟨⟨r, rfl, hr⟩, g10⟩
    have h := h.gr g10
    have j1 : (addB (firstB (g.T + g.N) g.T) [g.start]).length = g.T + g.N ∧ (∀ i, fnB (addB (firstB (g.T + g.N) g.T) [g.start]) i = true → i < g.T ∨ Us g (i : Int)) ∧ (∀ t, t < g.T → fnB (addB (firstB (g.T + g.N) g.T) [g.start]) t = true) ∧ fnB (addB (firstB (g.T + g.N) g.T) [g.start]) g.start.toNat = true := by
      refine ⟨by rw [addB_len]; exact j0.1, fun i hi => ?_, fun t ht => fnB_addL.2 (.inl (j0.2.2 t ht)), fnB_addL.2 (.inr ⟨by rw [j0.1]; omega, by rw [toNat_back (by omega)]; simp⟩)⟩
      rcases fnB_addL.1 hi with hi | ⟨_, hi⟩
      · exact j0.2.1 i hi
      · rw [List.mem_singleton] at hi
        exact .inr (hi ▸ .start hP)
    generalize addB (firstB (g.T + g.N) g.T) [g.start] = b1 at *
    refine ⟨_, rfl, br_intro (fun hc => ?_) fun hc => ?_⟩
    · have hC := hr.1 hc
      have r12 : rowH (hp w10) ⟨k12, 0, none⟩ [.pointer (some ⟨pb, 0, none⟩), .int .i64 (g.T : Int)] := rdCel 1 h.l
      refine ⟨_, r12.cell0 (sub.refl _), _, r12.cell (sub.refl _) (j := 1) rfl, newC_i h fun k22 w11 h => ?_⟩
      refine (s_Add (xs := [(g.T : Int)]) (l := 1) (h.pick 6 [1, 0, 2, 3, 4, 5]) (fun h hh => rdI_of rfl (.inr ⟨_, rfl, rdCel 0 hh⟩)) (by omega)).mono ?_
      rintro _ w12 ⟨rfl, h⟩
      have h := h.pick 6 [0, 2, 3, 4, 5]
      have jj : UsJ g (addB b1 [(g.T : Int)]) := by
        refine ⟨by rw [addB_len]; exact j1.1, fun i hi => ?_, fun t ht => fnB_addL.2 (.inl (j1.2.2.1 t ht)), fun _ => ⟨fnB_addL.2 (.inl j1.2.2.2), fun _ => fnB_addL.2 (.inr ⟨by rw [j1.1]; omega, by simp⟩)⟩⟩
        rcases fnB_addL.1 hi with hi | ⟨_, hi⟩
        · exact j1.2.1 i hi
        · rw [List.mem_singleton] at hi
          exact .inr (hi ▸ .zero hC hP)
      generalize addB b1 [(g.T : Int)] = b2 at *
      refine ⟨_, rfl, ?_⟩
      refine ⟨_, _, _, _, _, _, _, _, _, _, _, _, _, B.row (rdH 4 h.l), ?_⟩
      obtain ⟨h0, hl, _, h⟩ := h.freeze
      have hc12 : rowH h0 ⟨k12, 0, none⟩ [.pointer (some ⟨pb, 0, none⟩), .int .i64 (g.T : Int)] := rdCel 0 hl
      have hc2 : rowH h0 ⟨k2, 0, none⟩ [.pointer q, .int .i64 (g.T : Int)] := rdCel 1 hl
      have jl := jj.1
      refine (r_until (J := UsJ g) (st := stU may) (fg := n_reach_useful_S1) (fc := [.pointer (some ⟨k12, 0, none⟩), .pointer (some ⟨k2, 0, none⟩)]) (hg.mono (rdH 3 hl)) bP rfl (fun p bs => by unfold stU; split <;> simp [addB_len]) (fun p bs k hk => by unfold stU; split; exact fnB_addL.2 (.inl hk); exact hk) (fun p hp bs hJ => hJ.step iG hp' hp) (by omega) (fun H' s p hp bs a l c w hJ hr h => r_use1 (hb.2.2.2.2.2.2 p hp) (hc12.mono s) (hc2.mono s) (hm.mono (sub.trans (rdH 3 hl) s)) hr h) jj h).mono ?_
      rintro _ w13 ⟨rfl, bs, hJ, _, hcl, h⟩
      have h := h.on1 hl
      have r12 : rowH (hp w13) ⟨k12, 0, none⟩ [.pointer (some ⟨pb, 0, none⟩), .int .i64 (g.T : Int)] := rdCel 1 h.l
      exact ⟨rfl, _, _, r12.at (sub.refl _) rfl, stR_i (h.pick 5 [3, 0, 4]) rfl (by simp [oneC]) fun w14 h => ⟨_, _, h.row.at (sub.refl _) rfl, pb, bs, rfl, hJ.all he hp' hcl, (h.pick 3 [1, 2]).on1 (has_i gs)⟩⟩
    · have jj : UsJ g b1 := ⟨j1.1, j1.2.1, j1.2.2.1, fun _ => ⟨j1.2.2.2, fun hC => by rw [hr.2 hC] at hc; cases hc⟩⟩
      generalize b1 = b2 at *
      refine ⟨_, _, _, _, _, _, _, _, _, _, _, _, _, B.row (rdH 4 h.l), ?_⟩
      obtain ⟨h0, hl, _, h⟩ := h.freeze
      have hc12 : rowH h0 ⟨k12, 0, none⟩ [.pointer (some ⟨pb, 0, none⟩), .int .i64 (g.T : Int)] := rdCel 0 hl
      have hc2 : rowH h0 ⟨k2, 0, none⟩ [.pointer q, .int .i64 (g.T : Int)] := rdCel 1 hl
      have jl := jj.1
      refine (r_until (J := UsJ g) (st := stU may) (fg := n_reach_useful_S1) (fc := [.pointer (some ⟨k12, 0, none⟩), .pointer (some ⟨k2, 0, none⟩)]) (hg.mono (rdH 3 hl)) bP rfl (fun p bs => by unfold stU; split <;> simp [addB_len]) (fun p bs k hk => by unfold stU; split; exact fnB_addL.2 (.inl hk); exact hk) (fun p hp bs hJ => hJ.step iG hp' hp) (by omega) (fun H' s p hp bs a l c w hJ hr h => r_use1 (hb.2.2.2.2.2.2 p hp) (hc12.mono s) (hc2.mono s) (hm.mono (sub.trans (rdH 3 hl) s)) hr h) jj h).mono ?_
      rintro _ w13 ⟨rfl, bs, hJ, _, hcl, h⟩
      have h := h.on1 hl
      have r12 : rowH (hp w13) ⟨k12, 0, none⟩ [.pointer (some ⟨pb, 0, none⟩), .int .i64 (g.T : Int)] := rdCel 1 h.l
      exact ⟨rfl, _, _, r12.at (sub.refl _) rfl, stR_i (h.pick 5 [3, 0, 4]) rfl (by simp [oneC]) fun w14 h => ⟨_, _, h.row.at (sub.refl _) rfl, pb, bs, rfl, hJ.all he hp' hcl, (h.pick 3 [1, 2]).on1 (has_i gs)⟩⟩
  · have jj : UsJ g (firstB (g.T + g.N) g.T) := ⟨j0.1, j0.2.1, j0.2.2, fun hP => by rw [hpd.2 hP] at hh; cases hh⟩
    · generalize firstB (g.T + g.N) g.T = b2 at *
      refine ⟨_, _, _, _, _, _, _, _, _, _, _, _, _, B.row (rdH 4 h.l), ?_⟩
      obtain ⟨h0, hl, _, h⟩ := h.freeze
      have hc12 : rowH h0 ⟨k12, 0, none⟩ [.pointer (some ⟨pb, 0, none⟩), .int .i64 (g.T : Int)] := rdCel 0 hl
      have hc2 : rowH h0 ⟨k2, 0, none⟩ [.pointer q, .int .i64 (g.T : Int)] := rdCel 1 hl
      have jl := jj.1
      refine (r_until (J := UsJ g) (st := stU may) (fg := n_reach_useful_S1) (fc := [.pointer (some ⟨k12, 0, none⟩), .pointer (some ⟨k2, 0, none⟩)]) (hg.mono (rdH 3 hl)) bP rfl (fun p bs => by unfold stU; split <;> simp [addB_len]) (fun p bs k hk => by unfold stU; split; exact fnB_addL.2 (.inl hk); exact hk) (fun p hp bs hJ => hJ.step iG hp' hp) (by omega) (fun H' s p hp bs a l c w hJ hr h => r_use1 (hb.2.2.2.2.2.2 p hp) (hc12.mono s) (hc2.mono s) (hm.mono (sub.trans (rdH 3 hl) s)) hr h) jj h).mono ?_
      rintro _ w13 ⟨rfl, bs, hJ, _, hcl, h⟩
      have h := h.on1 hl
      have r12 : rowH (hp w13) ⟨k12, 0, none⟩ [.pointer (some ⟨pb, 0, none⟩), .int .i64 (g.T : Int)] := rdCel 1 h.l
      exact ⟨rfl, _, _, r12.at (sub.refl _) rfl, stR_i (h.pick 5 [3, 0, 4]) rfl (by simp [oneC]) fun w14 h => ⟨_, _, h.row.at (sub.refl _) rfl, pb, bs, rfl, hJ.all he hp' hcl, (h.pick 3 [1, 2]).on1 (has_i gs)⟩⟩
set_option maxHeartbeats 1000000 in
theorem r_nons {N T : Nat} (h : setR (hp w) q bs) (hl : bs.length = T + N) (hN : N ≤ 65) (hT : T ≤ 65) (ht : tabA (hp w)) : Run Tryd.prog n_reach_marks_nons [.agg #[.pointer q, .int .i64 (T : Int)]] w fun v w' => ∃ k : Nat, v = .slice (some ⟨k, 0, none⟩) N N ∧ St w' (cel k (bv (bs.drop T)) :: all w) := by
  refine run_reach_marks_nons _ _ w _ ?_
  have gs : sub (hp w) (hp w) := sub.refl _
  have h0 := St.all w
  unfold V.all at h0
  generalize hH : hp w = H at *
  refine newC_i h0 fun k1 w1 h1 => fun w2 hd => ?_
  have h1 := h1.drawn hd
  have r1 : rowH (hp w2) ⟨k1, 0, none⟩ [.pointer q, .int .i64 (T : Int)] := rdCel 0 h1.l
  obtain ⟨H2, hH2⟩ := name_it (hp w2)
  have sH : sub H H2 := hH2 ▸ rdH 1 h1.l
  have r1' : rowH H2 ⟨k1, 0, none⟩ [.pointer q, .int .i64 (T : Int)] := hH2 ▸ r1
  have h' := h
  have eN : ((bs.length : Nat) : Int) - (T : Int) = (N : Int) := by omega
  have h2 : St w2 [has H2] := by have := St.all w2; unfold V.all at this; rwa [← hH2] at this
  refine ⟨fun w => sub H2 (hp w), hH2 ▸ sub.refl _, _, fun w s => r1'.cell0 s, _, fun w s => r1'.cell s (j := 1) rfl, ?_, ?_⟩
  · refine (s_Size (h'.mono (sub.trans sH (rdH 0 h2.l)))).mono ?_
    rintro _ _ ⟨rfl, rfl⟩
    refine ⟨_, rfl, ?_⟩
    rw [eN]
    refine ⟨rdH 0 h2.l, ⟨by omega, by omega⟩, ?_, ?_⟩
    · refine ⟨⟨by omega, rfl, by omega⟩, ?_⟩
      rw [Int.toNat_natCast, reps_one, rep_bv]
      refine newC_i h2 fun k2 w6 h => newC_i h fun k3 w7 h => ⟨rdH 2 h.l, st1_i h (by simp) fun w8 h => ⟨_, r1'.cell0 (rdH 2 h.l), ?_⟩⟩
      have h := h.pick 3 [0, 1, 2]
      refine (s_All (h'.mono (sub.trans sH (rdH 2 h.l)))).mono ?_
      rintro _ w9 ⟨b, rfl, h9⟩
      have h := h9.on1 h
      refine ⟨_, _, rfl, ifT_iff.2 ⟨rfl, ivm (mb bs), itD b bs.length (fnB bs), tabA, fun i => sta [cel k3 [.slice (some ⟨k2, 0, none⟩) N N], cel k2 (bv (partL T N ((mb bs).take i)))], pu False, fun _ => pu False, [has H2], ?_, fun h hh => rdV.mono (sub.trans sH (rdH 0 hh)) ht, c_All_itr, ?_, ?_, ?_, ?_, trivial⟩⟩
      · dsimp only
        rw [List.take_zero, partL_nil]
        exact St.flat.2 (h.pick 4 [1, 2, 0, 3])
      · intro y hy
        simp only [ivm, List.mem_map] at hy
        obtain ⟨k, _, rfl⟩ := hy
        exact ⟨_, rfl⟩
      · intro i y hy L' w10 _ hs
        refine ⟨_, hs, fun L'' w11 hsup hs3 => ?_⟩
        have hs3 := St.flat.1 hs3
        have hy : (ivm (mb bs))[i]? = some [.int .i64 y] := hy
        obtain ⟨m, hk, rfl⟩ : ∃ k, (mb bs)[i]? = some k ∧ y = (k : Int) := by
          unfold ivm at hy
          rw [List.getElem?_map] at hy
          cases hki : (mb bs)[i]? with
          | none => rw [hki] at hy; cases hy
          | some k => rw [hki] at hy; simp at hy; exact ⟨k, rfl, hy.symm⟩
        have hmt := mem_mb.1 (List.mem_of_getElem? hk)
        have hml := fnB_lt hmt
        have et : (mb bs).take (i + 1) = (mb bs).take i ++ [m] := by rw [List.take_add_one, hk]; rfl
        have sL : sub H2 (hp w11) := rdH 0 (hsup _ hs3.tail.tail)
        refine ⟨_, r1'.cell sL (j := 1) rfl, br_intro (fun h4 => ?_) fun h4 => ?_⟩
        · have h4 : T ≤ m := by have := of_decide_eq_true h4; omega
          have em : (m : Int) - (T : Int) = ((m - T : Nat) : Int) := by omega
          refine ⟨_, _, _, hs3.cell 0, _, r1'.cell sL (j := 1) rfl, ⟨by omega, by omega⟩, ?_⟩
          rw [em]
          refine idx_i rfl (by omega) ?_
          rw [add_lit0]
          refine st1_i hs3.swap (by rw [bv_len, partL_len]; omega) fun w12 h => ?_
          rw [bv_setL, partL_hi h4 (by omega), ← et] at h
          exact St.flat.2 h.swap
        · have h4 : m < T := by have := of_decide_eq_false h4; omega
          dsimp only
          rw [et, partL_lo h4]
          exact St.flat.2 hs3
      · intro w13 hs
        have hs := St.flat.1 hs
        have e : (ivm (mb bs)).length = (mb bs).length := by simp [ivm]
        rw [e, List.take_length, partL_all hl] at hs
        refine ⟨_, _, _, hs.cell 0, fun w14 h14 => ⟨k2, rfl, ?_⟩⟩
        have hs := hs.eq h14
        exact (hs.pick 4 [1, 3]).on1 (has_i (by rw [hH]; exact sH))
      · intro w13 hs
        exact (St.pu.1 hs).1.elim
    · refine newC_i h2 fun k3 w6 h => ⟨rdH 1 h.l, ⟨by omega, rfl, by omega⟩, ?_⟩
      rw [Int.toNat_natCast, reps_one, rep_bv]
      refine newC_i h fun k2 w7 h => st1_i h.swap (by simp) fun w8 h => ⟨_, r1'.cell0 (rdH 2 h.l), ?_⟩
      refine (s_All (h'.mono (sub.trans sH (rdH 2 h.l)))).mono ?_
      rintro _ w9 ⟨b, rfl, h9⟩
      have h := h9.on1 h
      refine ⟨_, _, rfl, ifT_iff.2 ⟨rfl, ivm (mb bs), itD b bs.length (fnB bs), tabA, fun i => sta [cel k3 [.slice (some ⟨k2, 0, none⟩) N N], cel k2 (bv (partL T N ((mb bs).take i)))], pu False, fun _ => pu False, [has H2], ?_, fun h hh => rdV.mono (sub.trans sH (rdH 0 hh)) ht, c_All_itr, ?_, ?_, ?_, ?_, trivial⟩⟩
      · dsimp only
        rw [List.take_zero, partL_nil]
        exact St.flat.2 (h.pick 4 [1, 2, 0, 3])
      · intro y hy
        simp only [ivm, List.mem_map] at hy
        obtain ⟨k, _, rfl⟩ := hy
        exact ⟨_, rfl⟩
      · intro i y hy L' w10 _ hs
        refine ⟨_, hs, fun L'' w11 hsup hs3 => ?_⟩
        have hs3 := St.flat.1 hs3
        have hy : (ivm (mb bs))[i]? = some [.int .i64 y] := hy
        obtain ⟨m, hk, rfl⟩ : ∃ k, (mb bs)[i]? = some k ∧ y = (k : Int) := by
          unfold ivm at hy
          rw [List.getElem?_map] at hy
          cases hki : (mb bs)[i]? with
          | none => rw [hki] at hy; cases hy
          | some k => rw [hki] at hy; simp at hy; exact ⟨k, rfl, hy.symm⟩
        have hmt := mem_mb.1 (List.mem_of_getElem? hk)
        have hml := fnB_lt hmt
        have et : (mb bs).take (i + 1) = (mb bs).take i ++ [m] := by rw [List.take_add_one, hk]; rfl
        have sL : sub H2 (hp w11) := rdH 0 (hsup _ hs3.tail.tail)
        refine ⟨_, r1'.cell sL (j := 1) rfl, br_intro (fun h4 => ?_) fun h4 => ?_⟩
        · have h4 : T ≤ m := by have := of_decide_eq_true h4; omega
          have em : (m : Int) - (T : Int) = ((m - T : Nat) : Int) := by omega
          refine ⟨_, _, _, hs3.cell 0, _, r1'.cell sL (j := 1) rfl, ⟨by omega, by omega⟩, ?_⟩
          rw [em]
          refine idx_i rfl (by omega) ?_
          rw [add_lit0]
          refine st1_i hs3.swap (by rw [bv_len, partL_len]; omega) fun w12 h => ?_
          rw [bv_setL, partL_hi h4 (by omega), ← et] at h
          exact St.flat.2 h.swap
        · have h4 : m < T := by have := of_decide_eq_false h4; omega
          dsimp only
          rw [et, partL_lo h4]
          exact St.flat.2 hs3
      · intro w13 hs
        have hs := St.flat.1 hs
        have e : (ivm (mb bs)).length = (mb bs).length := by simp [ivm]
        rw [e, List.take_length, partL_all hl] at hs
        refine ⟨_, _, _, hs.cell 0, fun w14 h14 => ⟨k2, rfl, ?_⟩⟩
        have hs := hs.eq h14
        exact (hs.pick 4 [1, 3]).on1 (has_i (by rw [hH]; exact sH))
      · intro w13 hs
        exact (St.pu.1 hs).1.elim
  · refine newC_i h2 fun k3 w6 h => ⟨rdH 1 h.l, ?_⟩
    refine (s_Size (h'.mono (sub.trans sH (rdH 1 h.l)))).mono ?_
    rintro _ _ ⟨rfl, rfl⟩
    refine ⟨_, rfl, ?_⟩
    rw [eN]
    · refine ⟨rdH 1 h.l, ⟨by omega, by omega⟩, ⟨by omega, rfl, by omega⟩, ?_⟩
      rw [Int.toNat_natCast, reps_one, rep_bv]
      refine newC_i h fun k2 w7 h => st1_i h.swap (by simp) fun w8 h => ⟨_, r1'.cell0 (rdH 2 h.l), ?_⟩
      refine (s_All (h'.mono (sub.trans sH (rdH 2 h.l)))).mono ?_
      rintro _ w9 ⟨b, rfl, h9⟩
      have h := h9.on1 h
      refine ⟨_, _, rfl, ifT_iff.2 ⟨rfl, ivm (mb bs), itD b bs.length (fnB bs), tabA, fun i => sta [cel k3 [.slice (some ⟨k2, 0, none⟩) N N], cel k2 (bv (partL T N ((mb bs).take i)))], pu False, fun _ => pu False, [has H2], ?_, fun h hh => rdV.mono (sub.trans sH (rdH 0 hh)) ht, c_All_itr, ?_, ?_, ?_, ?_, trivial⟩⟩
      · dsimp only
        rw [List.take_zero, partL_nil]
        exact St.flat.2 (h.pick 4 [1, 2, 0, 3])
      · intro y hy
        simp only [ivm, List.mem_map] at hy
        obtain ⟨k, _, rfl⟩ := hy
        exact ⟨_, rfl⟩
      · intro i y hy L' w10 _ hs
        refine ⟨_, hs, fun L'' w11 hsup hs3 => ?_⟩
        have hs3 := St.flat.1 hs3
        have hy : (ivm (mb bs))[i]? = some [.int .i64 y] := hy
        obtain ⟨m, hk, rfl⟩ : ∃ k, (mb bs)[i]? = some k ∧ y = (k : Int) := by
          unfold ivm at hy
          rw [List.getElem?_map] at hy
          cases hki : (mb bs)[i]? with
          | none => rw [hki] at hy; cases hy
          | some k => rw [hki] at hy; simp at hy; exact ⟨k, rfl, hy.symm⟩
        have hmt := mem_mb.1 (List.mem_of_getElem? hk)
        have hml := fnB_lt hmt
        have et : (mb bs).take (i + 1) = (mb bs).take i ++ [m] := by rw [List.take_add_one, hk]; rfl
        have sL : sub H2 (hp w11) := rdH 0 (hsup _ hs3.tail.tail)
        refine ⟨_, r1'.cell sL (j := 1) rfl, br_intro (fun h4 => ?_) fun h4 => ?_⟩
        · have h4 : T ≤ m := by have := of_decide_eq_true h4; omega
          have em : (m : Int) - (T : Int) = ((m - T : Nat) : Int) := by omega
          refine ⟨_, _, _, hs3.cell 0, _, r1'.cell sL (j := 1) rfl, ⟨by omega, by omega⟩, ?_⟩
          rw [em]
          refine idx_i rfl (by omega) ?_
          rw [add_lit0]
          refine st1_i hs3.swap (by rw [bv_len, partL_len]; omega) fun w12 h => ?_
          rw [bv_setL, partL_hi h4 (by omega), ← et] at h
          exact St.flat.2 h.swap
        · have h4 : m < T := by have := of_decide_eq_false h4; omega
          dsimp only
          rw [et, partL_lo h4]
          exact St.flat.2 hs3
      · intro w13 hs
        have hs := St.flat.1 hs
        have e : (ivm (mb bs)).length = (mb bs).length := by simp [ivm]
        rw [e, List.take_length, partL_all hl] at hs
        refine ⟨_, _, _, hs.cell 0, fun w14 h14 => ⟨k2, rfl, ?_⟩⟩
        have hs := hs.eq h14
        exact (hs.pick 4 [1, 3]).on1 (has_i (by rw [hH]; exact sH))
      · intro w13 hs
        exact (St.pu.1 hs).1.elim
end
end Go.Proofs.YtaheggomcnbbiaaDoor
set_option linter.unusedVariables false
namespace Go.V
def FitP (g : GramT) (nn : List Bool) (row : List Int) : Prop := ∀ s ∈ row, s < (g.T : Int) ∨ fnB nn (s.toNat - g.T) = true
def PnP (g : GramT) (nn : List Bool) : Prop := nn.length = g.N ∧ ∀ i : Nat, fnB nn i = true ↔ Pd g ((g.T + i : Nat) : Int)
def UnP (g : GramT) (nn : List Bool) : Prop := nn.length = g.N ∧ ∀ i : Nat, fnB nn i = true ↔ Us g ((g.T + i : Nat) : Int)
theorem subT {g : GramT} {s : Int} (h : (g.T : Int) ≤ s) : ((g.T + (s.toNat - g.T) : Nat) : Int) = s := by omega
theorem pd_term {g : GramT} {s : Int} (h : 0 ≤ s) (h2 : s < (g.T : Int)) : Pd g s := by
  have := Pd.tm (g := g) s.toNat (by omega)
  rwa [toNat_back h] at this
theorem PnP.fit {g : GramT} {nn : List Bool} (h : PnP g nn) {row : List Int} (hr : ∀ s ∈ row, 0 ≤ s ∧ s < (g.T : Int) + g.N) : FitP g nn row ↔ PdR g row := by
  refine forall_congr' fun s => ⟨fun k hs => ?_, fun k hs => ?_⟩
  · by_cases hT : s < (g.T : Int)
    · exact pd_term (hr s hs).1 hT
    · have := (h.2 _).1 ((k hs).resolve_left hT)
      rwa [subT (by omega)] at this
  · by_cases hT : s < (g.T : Int)
    · exact .inl hT
    · exact .inr ((h.2 _).2 (by rw [subT (by omega)]; exact k hs))
def ClM (g : GramT) (nn : List Bool) (p : ProdT) : Prop := FitP g nn p.right → fnB nn (p.left.toNat - g.T) = true
theorem pnP_of {g : GramT} {nn : List Bool} (iG : InG g) (hl : nn.length = g.N) (hs : ∀ i, fnB nn i = true → Pd g ((g.T + i : Nat) : Int)) (hc : ∀ p ∈ g.prods, ClM g nn p) : PnP g nn := by
  refine ⟨hl, fun i => ⟨hs i, fun h => ?_⟩⟩
  have key : ∀ s, Pd g s → s < (g.T : Int) ∨ fnB nn (s.toNat - g.T) = true := fun s h => by
    induction h with
    | tm t h => exact .inl (by omega)
    | mk p hp h1 ih => exact .inr (hc p hp ih)
  rcases key _ h with h | h
  · omega
  · rwa [show ((g.T + i : Nat) : Int).toNat - g.T = i from by omega] at h
theorem PnP.inj {g : GramT} {a b : List Bool} (h : PnP g a) (k : PnP g b) : a = b := fnB_inj (h.1.trans k.1.symm) fun i => by rw [Bool.eq_iff_iff, h.2, k.2]
theorem UnP.inj {g : GramT} {a b : List Bool} (h : UnP g a) (k : UnP g b) : a = b := fnB_inj (h.1.trans k.1.symm) fun i => by rw [Bool.eq_iff_iff, h.2, k.2]
theorem PdP.nons {g : GramT} {bs : List Bool} (h : PdP g bs) : PnP g (bs.drop g.T) := ⟨by rw [List.length_drop, h.1]; omega, fun i => by rw [fnB_dropL, h.2]⟩
theorem UsP.nons {g : GramT} {bs : List Bool} (h : UsP g bs) : UnP g (bs.drop g.T) := ⟨by rw [List.length_drop, h.1]; omega, fun i => by
  rw [fnB_dropL, h.2]
  exact ⟨fun h => h.resolve_left (by omega), .inr⟩⟩
theorem Us.in {g : GramT} (he : EitherP g) {s : Int} (h : Us g s) : 0 ≤ s ∧ s < (g.T : Int) + g.N := by
  obtain ⟨iG, bT, bN, pN, pT, bP⟩ := inG he
  have := start_in he
  cases h with
  | start _ => omega
  | zero _ _ => omega
  | pr p s hp _ _ hs => exact (iG p hp).2 s hs
def ClU (g : GramT) (out : List Bool) (p : ProdT) : Prop := fnB out (p.left.toNat - g.T) = true → PdR g p.right → ∀ s ∈ p.right, (g.T : Int) ≤ s → fnB out (s.toNat - g.T) = true
structure UsI (g : GramT) (out : List Bool) : Prop where
  ln : out.length = g.N
  sn : ∀ i, fnB out i = true → Us g ((g.T + i : Nat) : Int)
  st : Pd g g.start → fnB out (g.start.toNat - g.T) = true
  cl : Pd g g.start → ClosedP g → fnB out 0 = true
theorem UsI.all {g : GramT} (he : EitherP g) {out : List Bool} (h : UsI g out) (hc : ∀ p ∈ g.prods, ClU g out p) : UnP g out := by
  obtain ⟨iG, bT, bN, pN, pT, bP⟩ := inG he
  refine ⟨h.ln, fun i => ⟨h.sn i, fun hi => ?_⟩⟩
  have key : ∀ s, Us g s → (g.T : Int) ≤ s → fnB out (s.toNat - g.T) = true := fun s hs => by
    induction hs with
    | start hp => exact fun _ => h.st hp
    | zero hc' hp => exact fun _ => by have := h.cl hp hc'; simpa using this
    | pr p s hp _ hr hs ih => exact fun hT => hc p hp (ih (iG p hp).1.1) hr s hs hT
  have := key _ hi (by omega)
  rwa [show ((g.T + i : Nat) : Int).toNat - g.T = i from by omega] at this
theorem UsI.set {g : GramT} {out : List Bool} (h : UsI g out) {k : Nat} (hk : k < g.N) (hu : Us g ((g.T + k : Nat) : Int)) : UsI g (out.set k true) := by
  have hkl : k < out.length := by rw [h.ln]; exact hk
  refine ⟨by rw [List.length_set]; exact h.ln, fun i hi => ?_, fun hp => ?_, fun hp hc => ?_⟩
  · rw [fnB_setT hkl, Bool.or_eq_true, beq_iff_eq] at hi
    rcases hi with hi | rfl
    · exact h.sn i hi
    · exact hu
  · rw [fnB_setT hkl, h.st hp]; rfl
  · rw [fnB_setT hkl, h.cl hp hc]; rfl
end Go.V
namespace Go.Proofs.YtaheggomcnbbiaaDoor
open Go.V
section
variable {w : World} {L : List Asn} {g : GramT} {x : GA} {a an : Option Addr} {l c nl cn : Nat} {row : List Int} {nn : List Bool}
set_option maxHeartbeats 1000000 in
theorem d_Fits (hg : gR (hp w) g x) (hn : rdS (hp w) nn an nl) (hnl : nn.length = g.N) (hr : rdS (hp w) row a l) (hs : SyP g row) (hb : l ≤ 4611686018427387904) (hT : g.T ≤ 65) (hN : g.N ≤ 65) : Run Tryd.prog n_presageref06_Fits [.agg ⟨x.cells⟩, .slice an nl cn, .slice a l c] w fun v w' => (∃ r : Bool, v = .bool r ∧ (r = true ↔ FitP g nn row)) ∧ Gr w w' := by
  refine run_presageref06_Fits _ _ _ _ _ _ _ _ _ _ _ _ _ _ _ _ _ _ _ w _ ?_
  refine gbox hg fun k1 w1 gw hg B => ?_
  have tl : g.T = x.tl := hg.t.1
  have hn := hn.mono gw
  have hr := hr.mono gw
  have hn1 := hn.1
  refine ⟨fun n w' => ∃ j : Nat, n = j ∧ j ≤ l ∧ FitP g nn (row.take j) ∧ Gr w1 w', fun n _ => l - n.toNat, ⟨0, rfl, by omega, fun s hs => by simp at hs, Gr.refl _⟩, ?_⟩
  rintro _ n w2 ⟨j, rfl, hj, hv, g2⟩
  refine br_intro (fun h1 => ?_) fun h1 => ?_
  · have h1 : j < l := by have := of_decide_eq_true h1; omega
    obtain ⟨y, ad, hy1, hya, hy2⟩ := hr.get1 h1
    have hym := List.mem_of_getElem? hy1
    have hys := hs y hym
    intro w3 hd
    have g3 : Gr w1 w3 := g2.trans (Gr.drawn hd)
    have no : ¬ (y < (g.T : Int) ∨ fnB nn (y.toNat - g.T) = true) → (∃ r : Bool, Value.bool false = .bool r ∧ (r = true ↔ FitP g nn row)) ∧ Gr w w3 := fun hn => ⟨⟨false, rfl, ⟨fun h => absurd h (by decide), fun h => absurd (h y hym) hn⟩⟩, gw.trans g3⟩
    have nx : (y < (g.T : Int) ∨ fnB nn (y.toNat - g.T) = true) → inI ((j : Int) + 1) ∧ (∃ j' : Nat, (j : Int) + 1 = j' ∧ j' ≤ l ∧ FitP g nn (row.take j') ∧ Gr w1 w3) ∧ l - ((j : Int) + 1).toNat < l - (j : Int).toNat := fun hy => by
      refine ⟨⟨by omega, by omega⟩, ⟨j + 1, by simp, by omega, fun s hs => ?_, g3⟩, msr h1⟩
      rw [take_succ_get hy1] at hs
      rcases List.mem_append.1 hs with hs | hs
      · exact hv s hs
      · simp at hs; subst hs; exact hy
    refine ⟨fun w => Gr w1 w, g3, idx_i hya h1 ⟨y, fun w s => hy2 _ s, _, _, _, fun w s => B.c0 s, br_intro (fun h2 => ?_) fun h2 => nx (.inl (by have := of_decide_eq_false h2; omega))⟩⟩
    have h2 := of_decide_eq_true h2
    have hun : y.toNat - g.T < nl := by omega
    obtain ⟨b, ad2, hb1, hba, hb2⟩ := hn.get1 hun
    have eu : y - (x.tl : Int) = ((y.toNat - g.T : Nat) : Int) := by rw [← tl]; omega
    refine idx_i hya h1 ⟨y, fun w s => hy2 _ s, _, _, _, fun w s => B.c0 s, ⟨by omega, by omega⟩, ?_⟩
    rw [eu]
    refine idx_i hba hun ⟨b, fun w s => hb2 _ s, br_intro (fun h3 => no ?_) fun h3 => nx (.inr ?_)⟩
    · rw [fnB_get hb1]
      rintro (h | h)
      · omega
      · rw [h] at h3; cases h3
    · rw [fnB_get hb1]; simpa using h3
  · have h1 : j = l := by have := of_decide_eq_false h1; omega
    subst h1
    rw [List.take_of_length_le (by have := hr.1; omega)] at hv
    exact ⟨⟨true, rfl, by simp [hv]⟩, gw.trans g2⟩
set_option maxHeartbeats 2000000 in
theorem d_Marks (hg : gR (hp w) g x) (hb : okG g) (he : EitherP g) : Run Tryd.prog n_presageref06_Marks [.agg ⟨x.cells⟩] w fun v w' => ∃ (k : Nat) (nn : List Bool), v = .slice (some ⟨k, 0, none⟩) g.N g.N ∧ PnP g nn ∧ St w' (cel k (bv nn) :: all w) := by
  refine run_presageref06_Marks _ _ _ _ _ _ _ _ _ _ _ _ _ w _ ?_
  refine gbox hg fun k1 w1 gw hg B => ?_
  obtain ⟨iG, bT, bN, pN, pT, bP⟩ := inG he
  have tl : g.T = x.tl := hg.t.1
  have nl : g.N = x.nl := hg.n.1
  have pl := hg.p.1
  have gs : sub (hp w) (hp w1) := gw
  have h1 := St.all w1
  unfold V.all at h1
  generalize hH : hp w1 = H at *
  refine ⟨_, _, _, B.c1 (rdH 0 h1.l), ?_⟩
  rw [← nl]
  refine ⟨⟨by omega, rfl, by omega⟩, ?_⟩
  rw [Int.toNat_natCast, reps_one, rep_bv]
  refine newC_i h1 fun k4 w2 h2 => ?_
  obtain ⟨Q, hQ⟩ := name_it (fun (b : Bool) (w : World) (m : Nat) => ∃ nn : List Bool, nn.length = g.N ∧ (∀ i, fnB nn i = true → Pd g ((g.T + i : Nat) : Int)) ∧ m = opn nn + (if b then 1 else 0) ∧ (b = false → ∀ p ∈ g.prods, ClM g nn p) ∧ St w [cel k4 (bv nn), has H])
  obtain ⟨μ, mu1, mu2⟩ := least_fn (fun (y : Bool × World) m => Q y.1 y.2 m)
  refine ⟨fun b w' => ∃ m, Q b w' m, fun b w => μ (b, w), ⟨opn (List.replicate g.N false) + 1, ?_⟩, ?_⟩
  · rw [hQ]
    exact ⟨List.replicate g.N false, by simp, fun i h => (by rw [fnB_rep] at h; exact absurd h (by decide)), rfl, fun h => absurd h (by decide), h2⟩
  clear h2
  intro _ b w3 hP
  have hP := mu2 (b, w3) hP
  dsimp only at hP
  generalize hμ : μ (b, w3) = μ0 at *
  rw [hQ] at hP
  obtain ⟨nn0, hl0, hs0, hmu, hc0, h⟩ := hP
  refine br_intro (fun hb1 => ?_) fun hb1 => ?_
  rotate_left
  · exact ⟨k4, nn0, rfl, pnP_of iG hl0 hs0 (hc0 hb1), h.on1 (has_i gs)⟩
  subst hb1
  rw [if_pos rfl] at hmu
  refine ⟨fun b n w' => ∃ (j : Nat) (nn : List Bool), n = j ∧ j ≤ g.prods.length ∧ nn.length = g.N ∧ (∀ i, fnB nn i = true → Pd g ((g.T + i : Nat) : Int)) ∧ opn nn + (if b then 1 else 0) ≤ opn nn0 ∧ (b = false → ∀ p ∈ g.prods.take j, ClM g nn p) ∧ St w' [cel k4 (bv nn), has H], fun _ n _ => g.prods.length - n.toNat, ⟨0, nn0, rfl, by omega, hl0, hs0, by simp, by simp, h⟩, ?_⟩
  clear h hc0
  rintro _ b n w4 ⟨j, nn, rfl, hj, hl, hs, hm, hc, h⟩
  refine ⟨_, _, _, B.c4 (rdH 1 h.l), br_intro (fun h3 => ?_) fun h3 => ?_⟩
  rotate_left
  · have h3 : j = g.prods.length := by have := of_decide_eq_false h3; omega
    subst h3
    rw [List.take_length] at hc
    have key : Q b w4 (opn nn + (if b then 1 else 0)) := by
      rw [hQ]; exact ⟨nn, hl, hs, rfl, hc, h⟩
    refine ⟨⟨_, key⟩, ?_⟩
    have := mu1 (b, w4) _ key
    dsimp only
    rw [hμ]
    omega
  have h3 : j < g.prods.length := by have := of_decide_eq_true h3; omega
  obtain ⟨p, ad, vs, hp1, hpa, hp2, ra, rl, rc, rfl, hrc, hp3⟩ := hg.p.get (i := j) (by omega)
  have hpm := List.mem_of_getElem? hp1
  obtain ⟨hpl, hpr⟩ := iG p hpm
  have b7' := hb.2.2.2.2.2.2 p hpm
  have rl1 := hp3.1
  have et : g.prods.take (j + 1) = g.prods.take j ++ [p] := by rw [List.take_add_one, hp1]; rfl
  have hun : p.left.toNat - g.T < g.N := by omega
  have eu : p.left - (x.tl : Int) = ((p.left.toNat - g.T : Nat) : Int) := by rw [← tl]; omega
  have nx : ∀ {w' : World} {nn' : List Bool} {b' : Bool}, nn'.length = g.N → (∀ i, fnB nn' i = true → Pd g ((g.T + i : Nat) : Int)) → opn nn' + (if b' then 1 else 0) ≤ opn nn0 → (b' = false → (∀ p ∈ g.prods.take j, ClM g nn' p) ∧ ClM g nn' p) → St w' [cel k4 (bv nn'), has H] → inI ((j : Int) + 1) ∧ (∃ (j' : Nat) (nn : List Bool), (j : Int) + 1 = j' ∧ j' ≤ g.prods.length ∧ nn.length = g.N ∧ (∀ i, fnB nn i = true → Pd g ((g.T + i : Nat) : Int)) ∧ opn nn + (if b' then 1 else 0) ≤ opn nn0 ∧ (b' = false → ∀ p ∈ g.prods.take j', ClM g nn p) ∧ St w' [cel k4 (bv nn), has H]) ∧ g.prods.length - ((j : Int) + 1).toNat < g.prods.length - (j : Int).toNat := fun {w' nn' b'} a1 a2 a3 a4 a5 => by
    refine ⟨⟨by omega, by omega⟩, ⟨j + 1, nn', by simp, by omega, a1, a2, a3, fun hb' q hq => ?_, a5⟩, msr h3⟩
    rw [et] at hq
    rcases List.mem_append.1 hq with hq | hq
    · exact (a4 hb').1 q hq
    · simp at hq; subst hq; exact (a4 hb').2
  refine ⟨_, _, _, B.c4 (rdH 1 h.l), idx_n hpa (by omega) ⟨_, _, _, _, _, hp2.at (rdH 1 h.l) rfl, newC_i h fun k11 w5 h => stR_i h rfl (by simp [oneC]) fun w6 h => ?_⟩⟩
  have r11 : rowH (hp w6) ⟨k11, 0, none⟩ [.int .i64 p.left, .slice ra rl rc, .int .i64 p.level] := rdCel 0 h.l
  refine ⟨_, r11.cell0 (sub.refl _), _, _, _, B.c0 (rdH 2 h.l), ⟨by omega, by omega⟩, ?_⟩
  rw [eu]
  have h := h.pick 3 [1, 2]
  refine idx_i rfl hun ⟨_, cel_bit (rdCel 0 h.l) (by omega), br_intro (fun h4 => ?_) fun h4 => nx hl hs hm (fun hb' => ⟨hc hb', fun _ => by simpa using h4⟩) h⟩
  have h4 : fnB nn (p.left.toNat - g.T) = false := by simpa using h4
  have rn : rdS (hp w6) nn (some ⟨k4, 0, none⟩) g.N := rdB_of hl (.inr ⟨_, rfl, rdCel 0 h.l⟩)
  refine ⟨_, _, _, _, _, _, _, _, _, _, _, _, _, B.row (rdH 1 h.l), _, _, _, r11.cell (sub.refl _) (j := 1) rfl, (d_Fits (x := x) (hg.mono (rdH 1 h.l)) rn hl (hp3.mono (rdH 1 h.l)) (fun s hs => ⟨(hpr s hs).1, (hpr s hs).2⟩) (by omega) bT bN).mono ?_⟩
  rintro _ w7 ⟨⟨r, rfl, hr⟩, g7⟩
  have h := h.gr g7
  refine ⟨_, rfl, br_intro (fun h5 => ?_) fun h5 => nx hl hs hm (fun hb' => ⟨hc hb', fun hv => ?_⟩) h⟩
  · have hun' : p.left.toNat - g.T < nn.length := by omega
    refine ⟨_, r11.cell0 g7, _, _, _, B.c0 (rdH 1 h.l), ⟨by omega, by omega⟩, ?_⟩
    rw [eu]
    refine idx_i rfl hun ?_
    rw [add_lit0]
    refine st1_i h (by rw [bv_len]; exact hun') fun w14 h => ?_
    rw [bv_setL] at h
    have hop := opn_set hun' h4
    refine nx (by rw [List.length_set]; exact hl) (fun i hi => ?_) ?_ (fun hb' => absurd hb' (by decide)) h
    · rw [fnB_setT hun', Bool.or_eq_true, beq_iff_eq] at hi
      rcases hi with hi | rfl
      · exact hs i hi
      · rw [subT (by omega)]
        refine .mk p hpm fun s hs' => ?_
        by_cases hT : s < (g.T : Int)
        · exact pd_term (hpr s hs').1 hT
        · have := hs _ ((hr.1 h5 s hs').resolve_left hT)
          rwa [subT (by omega)] at this
    · have := hm
      rw [if_pos rfl]
      split at this <;> omega
  · rw [hr.2 hv] at h5; cases h5
end
end Go.Proofs.YtaheggomcnbbiaaDoor
set_option linter.unusedVariables false
namespace Go.V
end Go.V
namespace Go.Proofs.YtaheggomcnbbiaaDoor
open Go.V
section
variable {w : World} {L : List Asn} {g : GramT} {x : GA} {a an : Option Addr} {l c nl cn : Nat} {row : List Int} {nn : List Bool}
end
end Go.Proofs.YtaheggomcnbbiaaDoor
set_option linter.unusedVariables false
namespace Go.V
theorem membs_snoc (n : Nat) (m : Nat → Bool) : membs (n + 1) m = membs n m ++ (if m n then [n] else []) := by
  unfold membs
  rw [List.range_succ, List.filter_append]
  congr 1
  by_cases h : m n = true <;> simp [h]
theorem membs_get {m : Nat → Bool} : ∀ {n i s : Nat}, (membs n m)[i]? = some s → m s = true ∧ s < n ∧ (membs n m).take i = membs s m
  | 0, i, s, h => by simp [membs] at h
  | n + 1, i, s, h => by
    rw [membs_snoc] at h ⊢
    by_cases hi : i < (membs n m).length
    · rw [List.getElem?_append_left hi] at h
      obtain ⟨h1, h2, h3⟩ := membs_get h
      exact ⟨h1, by omega, by rw [List.take_append_of_le_length (by omega)]; exact h3⟩
    · rw [List.getElem?_append_right (by omega)] at h
      by_cases hm : m n = true
      · rw [if_pos hm] at h ⊢
        have hz : i - (membs n m).length = 0 := by
          rcases Nat.eq_zero_or_pos (i - (membs n m).length) with h0 | h0
          · exact h0
          · rw [List.getElem?_eq_none (by simp; omega)] at h; cases h
        rw [hz] at h; cases h
        have hl : i = (membs n m).length := by omega
        exact ⟨hm, by omega, by rw [hl, List.take_append_of_le_length (Nat.le_refl _), List.take_length]⟩
      · rw [if_neg hm] at h; simp at h
theorem membs_hi (T : Nat) (m : Nat → Bool) : ∀ d : Nat, (membs (T + d) m).filter (fun k => decide (T ≤ k)) = (membs d fun k => m (T + k)).map fun k => T + k
  | 0 => by
    rw [List.filter_eq_nil_iff.2]
    · simp [membs]
    · intro k hk
      unfold membs at hk
      rw [List.mem_filter, List.mem_range] at hk
      simp; omega
  | d + 1 => by
    rw [show T + (d + 1) = (T + d) + 1 from rfl, membs_snoc, membs_snoc, List.filter_append, List.map_append, membs_hi T m d]
    congr 1
    split <;> simp
def numU (T : Nat) (uns : List Bool) (s : Int) : Int := if s < (T : Int) then s else if fnB uns (s.toNat - T) then (T : Int) + 1 + (cnt (s.toNat - T) (fnB uns) : Int) else 0
def keepU (g : GramT) (pds uns : List Bool) (p : ProdT) : Bool := fnB uns (p.left.toNat - g.T) && p.right.all fun s => decide (s < (g.T : Int)) || fnB pds (s.toNat - g.T)
def prodU (g : GramT) (uns : List Bool) (p : ProdT) : ProdT := ⟨numU g.T uns p.left, p.right.map (numU g.T uns), p.level⟩
def nameU (g : GramT) (k : Nat) : ByteArray := g.nons.getD k .empty
def nonsU (g : GramT) (uns : List Bool) : List ByteArray := .empty :: (membs g.N (fnB uns)).map (nameU g)
def firstU (g : GramT) (uns : List Bool) : ProdT := ⟨g.T, [numU g.T uns g.start], 0⟩
def keptU (g : GramT) (pds uns : List Bool) (ps : List ProdT) : List ProdT := (ps.filter (keepU g pds uns)).map (prodU g uns)
def redG (g : GramT) (pds uns : List Bool) : GramT := ⟨g.terms, nonsU g uns, g.levels, numU g.T uns g.start, firstU g uns :: keptU g pds uns g.prods⟩
theorem keptU_snoc {g : GramT} {pds uns : List Bool} {ps : List ProdT} {p : ProdT} : keptU g pds uns (ps ++ [p]) = keptU g pds uns ps ++ (if keepU g pds uns p then [prodU g uns p] else []) := by
  unfold keptU
  rw [List.filter_append, List.map_append]
  congr 1
  by_cases h : keepU g pds uns p = true <;> simp [h]
def toF (T n : Nat) (uns : List Bool) (pre : List Nat) : List Int := (List.range n).map fun s => if s ∈ pre then numU T uns (s : Int) else 0
theorem toF_len (T n : Nat) (uns : List Bool) (pre : List Nat) : (toF T n uns pre).length = n := by simp [toF]
theorem toF_nil (T n : Nat) (uns : List Bool) : toF T n uns [] = List.replicate n 0 := by
  unfold toF
  apply List.ext_getElem?
  intro i
  rw [List.getElem?_map, List.getElem?_replicate]
  by_cases h : i < n
  · rw [List.getElem?_range h, if_pos h]; simp
  · rw [List.getElem?_eq_none (by simpa using h), if_neg h]; rfl
theorem toF_set {T n : Nat} {uns : List Bool} {pre : List Nat} {s : Nat} (h : s < n) : (toF T n uns pre).set s (numU T uns (s : Int)) = toF T n uns (pre ++ [s]) := by
  unfold toF
  apply List.ext_getElem?
  intro i
  rw [List.getElem?_set, List.getElem?_map, List.getElem?_map, List.length_map, List.length_range]
  by_cases hi : i < n
  · rw [List.getElem?_range hi]
    by_cases e : s = i
    · subst e; simp [h]
    · simp [e]
      have : ¬ i = s := fun h => e h.symm
      simp [this]
  · rw [List.getElem?_eq_none (by simpa using hi)]
    have : ¬ s = i := by omega
    simp [this]
theorem toF_all {g : GramT} {bs : List Bool} (he : EitherP g) (h : UsP g bs) {s : Nat} (hs : s < g.T + g.N) : (toF g.T (g.T + g.N) (bs.drop g.T) (mb bs))[s]? = some (numU g.T (bs.drop g.T) (s : Int)) := by
  unfold toF
  rw [List.getElem?_map, List.getElem?_range hs]
  simp only [Option.map_some, mem_mb]
  split
  · rfl
  · rename_i hf
    unfold numU
    by_cases hT : s < g.T
    · exact absurd ((h.2 s).2 (.inl hT)) hf
    · rw [if_neg (by omega), if_neg]
      rw [fnB_dropL, Int.toNat_natCast, show g.T + (s - g.T) = s from by omega]
      exact hf
theorem num_term {T : Nat} {uns : List Bool} {s : Nat} (h : s < T) : numU T uns (s : Int) = s := by unfold numU; rw [if_pos (by omega)]
theorem num_non {T : Nat} {uns : List Bool} {s : Nat} (h : T ≤ s) (hu : fnB uns (s - T) = true) : numU T uns (s : Int) = (T : Int) + 1 + (cnt (s - T) (fnB uns) : Int) := by
  unfold numU; rw [if_neg (by omega), Int.toNat_natCast, if_pos hu]
def nmL (g : GramT) (pre : List Nat) : List ByteArray := .empty :: (pre.filter fun k => decide (g.T ≤ k)).map fun k => nameU g (k - g.T)
theorem nmL_len {g : GramT} {bs : List Bool} {s : Nat} (hs : g.T ≤ s) : (nmL g (membs s (fnB bs))).length = 1 + cnt (s - g.T) (fnB (bs.drop g.T)) := by
  have := membs_hi g.T (fnB bs) (s - g.T)
  rw [show g.T + (s - g.T) = s from by omega] at this
  unfold nmL
  rw [this, List.length_cons, List.length_map, List.length_map, membs_len]
  have e : (fun k => fnB bs (g.T + k)) = fnB (bs.drop g.T) := by funext k; rw [fnB_dropL]
  rw [e]; omega
theorem nmL_all {g : GramT} {bs : List Bool} (hl : bs.length = g.T + g.N) : nmL g (mb bs) = nonsU g (bs.drop g.T) := by
  have := membs_hi g.T (fnB bs) g.N
  unfold nmL nonsU mb
  rw [hl, this, List.map_map]
  have e : (fun k => fnB bs (g.T + k)) = fnB (bs.drop g.T) := by funext k; rw [fnB_dropL]
  rw [e]
  congr 1
  refine List.map_congr_left fun k _ => ?_
  show nameU g (g.T + k - g.T) = _
  rw [Nat.add_sub_cancel_left]
theorem nmL_lo {g : GramT} {pre : List Nat} {s : Nat} (h : s < g.T) : nmL g (pre ++ [s]) = nmL g pre := by
  unfold nmL; rw [List.filter_append]; simp [show ¬ g.T ≤ s by omega]
theorem nmL_hi {g : GramT} {pre : List Nat} {s : Nat} (h : g.T ≤ s) : nmL g (pre ++ [s]) = nmL g pre ++ [nameU g (s - g.T)] := by
  unfold nmL; rw [List.filter_append]; simp [h]
theorem keep_eq {g : GramT} {may bs : List Bool} (iG : InG g) (hm : PdP g may) {p : ProdT} (hp : p ∈ g.prods) : (hasB bs p.left && allH may p.right) = keepU g (may.drop g.T) (bs.drop g.T) p := by
  obtain ⟨hl, hr⟩ := iG p hp
  unfold keepU
  rw [hasB_pos (by omega), fnB_dropL, show g.T + (p.left.toNat - g.T) = p.left.toNat from by omega]
  congr 1
  rw [Bool.eq_iff_iff, hm.all hr, List.all_eq_true]
  refine forall_congr' fun s => ⟨fun k hs => ?_, fun k hs => ?_⟩
  · rw [Bool.or_eq_true, decide_eq_true_eq, fnB_dropL]
    by_cases hT : s < (g.T : Int)
    · exact .inl hT
    · refine .inr ((hm.2 _).2 ?_)
      rw [subT (by omega)]; exact k hs
  · have := k hs
    rw [Bool.or_eq_true, decide_eq_true_eq, fnB_dropL] at this
    by_cases hT : s < (g.T : Int)
    · exact pd_term (hr s hs).1 hT
    · have := (hm.2 _).1 (this.resolve_left hT)
      rwa [subT (by omega)] at this
def emptyG : GramT := ⟨[], [], [], 0, []⟩
def RedRes (g : GramT) (e : Int) (G : GramT) : Prop := (¬ ValidP g ∧ e = 1 ∧ G = emptyG) ∨ (ValidP g ∧ ¬ Pd g g.start ∧ e = 12 ∧ G = emptyG) ∨ (ValidP g ∧ Pd g g.start ∧ e = 0 ∧ ∃ pds uns, PnP g pds ∧ UnP g uns ∧ G = redG g pds uns)
theorem RedRes.inj {g G G' : GramT} {e e' : Int} (h : RedRes g e G) (k : RedRes g e' G') : e = e' ∧ G = G' := by
  rcases h with ⟨h1, rfl, rfl⟩ | ⟨h1, h2, rfl, rfl⟩ | ⟨h1, h2, rfl, pds, uns, h3, h4, rfl⟩ <;> rcases k with ⟨k1, rfl, rfl⟩ | ⟨k1, k2, rfl, rfl⟩ | ⟨k1, k2, rfl, pds', uns', k3, k4, rfl⟩
  · exact ⟨rfl, rfl⟩
  · exact absurd k1 h1
  · exact absurd k1 h1
  · exact absurd h1 k1
  · exact ⟨rfl, rfl⟩
  · exact absurd k2 h2
  · exact absurd h1 k1
  · exact absurd h2 k2
  · rw [h3.inj k3, h4.inj k4]; exact ⟨rfl, rfl⟩
end Go.V
