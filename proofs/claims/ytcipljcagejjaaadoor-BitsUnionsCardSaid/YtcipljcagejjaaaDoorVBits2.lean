/- Sets of small numbers: contracts (2): members are added, dropped. -/
import Derived.Test.YtcipljcagejjaaaDoorVBits
set_option linter.unusedVariables false
namespace Go.V
def cellH (h : Hp) (a : Addr) : Option Value :=
  match h a.block with
  | some (.cells c _ _) => if a.spot.isSome then none else c[a.off]?
  | _ => none
theorem cellH_sub {h h' : Hp} (s : sub h h') {a : Addr} {v : Value} (hc : cellH h a = some v) : cellH h' a = some v := by
  unfold cellH at *
  split at hc
  · rename_i c _ _ he; rw [s _ _ he]; exact hc
  · cases hc
theorem cellH_w {w : World} {a : Addr} {v : Value} (hc : cellH (hp w) a = some v) : w.cell? a = some v := by
  unfold cellH at hc
  split at hc
  · rename_i c _ _ he; unfold World.cell?; rw [hidD_some he]; exact hc
  · cases hc
/- what lies behind an address, to be read -/
def rdV (a : Option Addr) (vs : List Value) : Asn := fun h => vs = [] ∨ ∃ ad, a = some ad ∧ ∀ j v, vs[j]? = some v → cellH h (ad.add j) = some v
section
variable {w w' : World} {L : List Asn} {a : Option Addr} {vs : List Value}
theorem rdV_get (h : St w (rdV a vs :: L)) {j : Nat} {v : Value} (hj : vs[j]? = some v) : ∃ ad, a = some ad ∧ w.cell? (ad.add j) = some v := by
  obtain ⟨h1, h2, d, s1, s2, ha, hl⟩ := h
  rcases ha with rfl | ⟨ad, e, hc⟩
  · simp at hj
  · exact ⟨ad, e, cellH_w (cellH_sub s1 (hc j v hj))⟩
theorem cel_rdV {b : Nat} (h : St w (cel b vs :: L)) : St w (rdV (some ⟨b, 0, none⟩) vs :: L) :=
  h.head fun h ⟨e, he⟩ => .inr ⟨_, rfl, fun j v hj => by
    rw [add_lit0]; unfold cellH; simp only [he]; simpa using hj⟩
theorem own_rdVh {sz l c : Nat} {h : Hp} (ha : own sz a l c vs h) : rdV a vs h := by
  rcases ha with ⟨_, _, _, rfl⟩ | ⟨b, pre, cs, post, rfl, ⟨e, he⟩, _⟩
  · exact .inl rfl
  · refine .inr ⟨_, rfl, fun j v hj => ?_⟩
    rw [add_lit]; unfold cellH; simp only [he]
    have := (List.getElem?_eq_some_iff.1 hj).1
    simp only [Option.isSome_none, Bool.false_eq_true, if_false, List.getElem?_toArray]
    rw [List.getElem?_append_right (by omega), Nat.add_sub_cancel_left, List.getElem?_append_left this]; exact hj
theorem own_rdV {sz l c : Nat} (h : St w (own sz a l c vs :: L)) : St w (rdV a vs :: L) := h.head fun _ => own_rdVh
end
def iv (xs : List Int) : List Value := xs.map fun x => Value.int .i64 x
theorem iv_get {xs : List Int} {j : Nat} {x : Int} (h : xs[j]? = some x) : (iv xs)[j]? = some (.int .i64 x) := by simp [iv, h]
theorem msr {l j : Nat} (h : j < l) : l - ((j : Int) + 1).toNat < l - (j : Int).toNat := by omega
def cnt (n : Nat) (m : Nat → Bool) : Nat := ((List.range n).filter m).length
theorem cnt_le (n : Nat) (m : Nat → Bool) : cnt n m ≤ n := by
  unfold cnt; exact Nat.le_trans (List.length_filter_le _ _) (by simp)
theorem cnt_succ (n : Nat) (m : Nat → Bool) : cnt (n + 1) m = cnt n m + (if m n then 1 else 0) := by
  unfold cnt; rw [List.range_succ, List.filter_append, List.length_append]
  congr 1
  by_cases h : m n <;> simp [h]
theorem cnt_congr {n : Nat} {m m' : Nat → Bool} (h : ∀ k, k < n → m k = m' k) : cnt n m = cnt n m' := by
  unfold cnt; congr 1; exact List.filter_congr fun k hk => h k (by simpa using hk)
theorem cnt_add {n : Nat} {m : Nat → Bool} {k : Nat} (hk : k < n) (hm : m k = false) : cnt n (fun j => m j || j == k) = cnt n m + 1 := by
  induction n with
  | zero => omega
  | succ n ih =>
    rw [cnt_succ, cnt_succ]
    by_cases h : k = n
    · subst h
      rw [cnt_congr (m' := m) fun j hj => by have : (j == k) = false := by simp; omega
                                             simp [this]]
      simp [hm]
    · rw [ih (by omega)]
      have : (n == k) = false := by simp; omega
      simp only [this, Bool.or_false]; omega
theorem cnt_drop {n : Nat} {m : Nat → Bool} {k : Nat} (hk : k < n) (hm : m k = true) : cnt n (fun j => m j && !(j == k)) + 1 = cnt n m := by
  induction n with
  | zero => omega
  | succ n ih =>
    rw [cnt_succ, cnt_succ]
    by_cases h : k = n
    · subst h
      rw [cnt_congr (m' := m) fun j hj => by have : (j == k) = false := by simp; omega
                                             simp [this]]
      simp [hm]
    · have := ih (by omega)
      have e : (n == k) = false := by simp; omega
      simp only [e, Bool.not_false, Bool.and_true]; omega
/- with these numbers, as far as they are below the size; without them -/
def addS (n : Nat) (m : Nat → Bool) (xs : List Int) : Nat → Bool := fun k => m k || (decide (k < n) && xs.contains (k : Int))
def dropS (m : Nat → Bool) (xs : List Int) : Nat → Bool := fun k => m k && !xs.contains (k : Int)
theorem take_succ_get {xs : List Int} {j : Nat} {x : Int} (h : xs[j]? = some x) : xs.take (j + 1) = xs.take j ++ [x] := by
  rw [List.take_add_one, h]; rfl
theorem contains_snoc (l : List Int) (x y : Int) : (l ++ [x]).contains y = (l.contains y || y == x) := by
  simp only [List.contains_append, List.contains_cons, List.contains_nil, Bool.or_false]
theorem addS_step {n : Nat} {m : Nat → Bool} {xs : List Int} {j : Nat} {x : Nat} (h : xs[j]? = some (x : Int)) (hx : x < n) : addS n m (xs.take (j + 1)) = fun k => addS n m (xs.take j) k || k == x := by
  funext k
  simp only [addS, take_succ_get h, contains_snoc]
  have e : ((k : Int) == (x : Int)) = (k == x) := by
    rw [Bool.eq_iff_iff]; simp only [beq_iff_eq]; omega
  rw [e]
  by_cases hk : k = x
  · subst hk; simp [hx]
  · have : (k == x) = false := by simp [hk]
    simp [this]
theorem addS_skip {n : Nat} {m : Nat → Bool} {xs : List Int} {j : Nat} {x : Int} (h : xs[j]? = some x) (hx : ∀ k : Nat, k < n → (k : Int) = x → addS n m (xs.take j) k = true) : addS n m (xs.take (j + 1)) = addS n m (xs.take j) := by
  funext k
  have hk := hx k
  simp only [addS, take_succ_get h, contains_snoc] at hk ⊢
  by_cases h1 : k < n
  · by_cases h2 : (k : Int) = x
    · have := hk h1 h2
      simp only [h1, decide_true, Bool.true_and] at this ⊢
      rw [this]
      revert this
      cases m k <;> simp
      intro h; exact .inl h
    · have : ((k : Int) == x) = false := by simp [h2]
      simp [this]
  · simp [h1]
theorem dropS_step {m : Nat → Bool} {xs : List Int} {j : Nat} {x : Nat} (h : xs[j]? = some (x : Int)) : dropS m (xs.take (j + 1)) = fun k => dropS m (xs.take j) k && !(k == x) := by
  funext k
  simp only [dropS, take_succ_get h, contains_snoc]
  have e : ((k : Int) == (x : Int)) = (k == x) := by
    rw [Bool.eq_iff_iff]; simp only [beq_iff_eq]; omega
  rw [e, Bool.not_or, Bool.and_assoc]
theorem dropS_skip {m : Nat → Bool} {xs : List Int} {j : Nat} {x : Int} (h : xs[j]? = some x) (hx : ∀ k : Nat, (k : Int) = x → dropS m (xs.take j) k = false) : dropS m (xs.take (j + 1)) = dropS m (xs.take j) := by
  funext k
  have hk := hx k
  simp only [dropS, take_succ_get h, contains_snoc, Bool.not_or] at hk ⊢
  by_cases h2 : (k : Int) = x
  · have := hk h2
    rw [← Bool.and_assoc, this]; rfl
  · have : ((k : Int) == x) = false := by simp [h2]
    simp [this]
theorem addS_nil (n : Nat) (m : Nat → Bool) : addS n m [] = m := by funext k; simp [addS]
theorem dropS_nil (m : Nat → Bool) : dropS m [] = m := by funext k; simp [dropS]
end Go.V
namespace Go.Proofs.YtcipljcagejjaaaDoor
open Go.V
section
variable {w : World} {L : List Asn} {a : Option Addr} {l c : Nat} {p : Option Addr} {n : Nat} {m : Nat → Bool} {xs : List Int}
theorem St.rev3 {A B C : Asn} (h : St w (A :: B :: C :: L)) : St w (C :: A :: B :: L) := h.rot3
theorem c_Add {D : Asn} (hD : ∀ h, D h → rdV a (iv xs) h) (h : St w (setM p n m :: D :: L)) (hl : xs.length = l) (hb : l ≤ 4611686018427387904) :
    Run Tryd.prog n_bits_Set_Add [.pointer p, .slice a l c] w fun v w' => v = .int .i64 ((cnt n (addS n m xs) : Int) - cnt n m) ∧ St w' (setM p n (addS n m xs) :: D :: L) := by
  refine run_bits_Set_Add _ _ _ _ w _ ?_
  refine ⟨fun n1 n2 w => ∃ j : Nat, n2 = j ∧ j ≤ l ∧ n1 = (cnt n (addS n m (xs.take j)) : Int) - cnt n m ∧ St w (setM p n (addS n m (xs.take j)) :: D :: L),
    fun _ n2 _ => l - n2.toNat, ⟨0, rfl, by omega, by simp [addS_nil], by simpa [addS_nil] using h⟩, ?_⟩
  rintro _ n1 n2 w1 ⟨j, rfl, hj, hn1, hs⟩
  refine br_intro (fun h0 => ?_) fun h0 => ?_
  · have h0 : j < l := by have := of_decide_eq_true h0; omega
    obtain ⟨x, hx⟩ : ∃ x, xs[j]? = some x := ⟨xs[j], by simp [show j < xs.length by omega]⟩
    obtain ⟨ad, rfl, hc⟩ := rdV_get (hs.swap.head hD) (iv_get hx)
    have hle := cnt_le n (addS n m (xs.take j))
    have hle2 := cnt_le n m
    have hn := setM_le hs
    have mI : inI ((j : Int) + 1) := ⟨by omega, by omega⟩
    refine idx_i rfl h0 ⟨x, hc, ?_⟩
    have skip : (∀ k : Nat, k < n → (k : Int) = x → addS n m (xs.take j) k = true) → ∀ w2, St w2 (setM p n (addS n m (xs.take j)) :: D :: L) → inI ((j : Int) + 1) ∧
        (∃ j' : Nat, (j : Int) + 1 = j' ∧ j' ≤ l ∧ n1 = (cnt n (addS n m (xs.take j')) : Int) - cnt n m ∧ St w2 (setM p n (addS n m (xs.take j')) :: D :: L)) ∧ l - ((j : Int) + 1).toNat < l - (j : Int).toNat := by
      intro hx' w2 hs2
      refine ⟨mI, ⟨j + 1, by simp, by omega, ?_, ?_⟩, msr h0⟩
      · rw [addS_skip hx hx']; exact hn1
      · rw [addS_skip hx hx']; exact hs2
    refine br_intro (fun h1 => ?_) fun h1 => ?_
    · have h1 := of_decide_eq_true h1
      obtain ⟨x, rfl⟩ := Int.eq_ofNat_of_zero_le h1
      refine (c_Size hs).mono ?_
      rintro _ _ ⟨rfl, rfl⟩
      refine ⟨_, rfl, br_intro (fun h2 => ?_) fun h2 => ?_⟩
      · have h2 : x < n := by have := of_decide_eq_true h2; omega
        rcases setM_cases hs with ⟨rfl, rfl, _⟩ | ⟨b, ab, cb, ws, rfl, hi, hs2⟩
        · omega
        have hw := inv_lt hi h2
        have hxb : x < 4096 := by omega
        refine ⟨ab, ws.length, cb, by rw [hs2.cell]; rfl, ?_⟩
        refine (c_words_has hs2.swap hi.lt hw hxb).mono ?_
        rintro _ _ ⟨rfl, rfl⟩
        refine ⟨_, rfl, br_intro (fun h3 => ?_) fun h3 => ?_⟩
        · refine ⟨ab, ws.length, cb, by rw [hs2.cell]; rfl, ?_⟩
          refine (c_words_put hs2.swap hi.lt hw hxb).mono ?_
          rintro _ w3 ⟨rfl, ws', e1, e2, e3, hs3⟩
          have hfalse : addS n m (xs.take j) x = false := by rw [hi.mm]; simpa using h3
          have hcnt := cnt_add h2 hfalse
          have hst := addS_step (m := m) hx h2
          refine ⟨rfl, ⟨by omega, by omega⟩, mI, ⟨j + 1, by simp, by omega, ?_, ?_⟩, msr h0⟩
          · rw [hst, hcnt, hn1]; omega
          · rw [hst]
            rw [← e1] at hs3
            refine setM_mk ⟨e1 ▸ hi.len, hi.le, e2, fun k => ?_, fun k hk => ?_⟩ (by rw [e1] at hs3 ⊢; exact hs3.swap)
            · rw [e3, hi.mm]
            · rw [hi.out k hk]; simp; omega
        · refine skip (fun k hk he => ?_) _ hs
          have : k = x := by omega
          subst this
          rw [hi.mm]; simpa using h3
      · refine skip (fun k hk he => ?_) _ hs
        have := of_decide_eq_false h2; omega
    · refine skip (fun k hk he => ?_) _ hs
      have := of_decide_eq_false h1; omega
  · have h0 : j = l := by have := of_decide_eq_false h0; omega
    subst h0
    rw [← hl, List.take_length] at hs hn1
    exact ⟨by rw [hn1], hs⟩
theorem c_Drop {D : Asn} (hD : ∀ h, D h → rdV a (iv xs) h) (h : St w (setM p n m :: D :: L)) (hl : xs.length = l) (hb : l ≤ 4611686018427387904) :
    Run Tryd.prog n_bits_Set_Drop [.pointer p, .slice a l c] w fun v w' => v = .int .i64 ((cnt n m : Int) - cnt n (dropS m xs)) ∧ St w' (setM p n (dropS m xs) :: D :: L) := by
  refine run_bits_Set_Drop _ _ _ _ w _ ?_
  refine ⟨fun n1 n2 w => ∃ j : Nat, n2 = j ∧ j ≤ l ∧ n1 = (cnt n m : Int) - cnt n (dropS m (xs.take j)) ∧ St w (setM p n (dropS m (xs.take j)) :: D :: L),
    fun _ n2 _ => l - n2.toNat, ⟨0, rfl, by omega, by simp [dropS_nil], by simpa [dropS_nil] using h⟩, ?_⟩
  rintro _ n1 n2 w1 ⟨j, rfl, hj, hn1, hs⟩
  refine br_intro (fun h0 => ?_) fun h0 => ?_
  · have h0 : j < l := by have := of_decide_eq_true h0; omega
    obtain ⟨x, hx⟩ : ∃ x, xs[j]? = some x := ⟨xs[j], by simp [show j < xs.length by omega]⟩
    obtain ⟨ad, rfl, hc⟩ := rdV_get (hs.swap.head hD) (iv_get hx)
    have hle := cnt_le n (dropS m (xs.take j))
    have hle2 := cnt_le n m
    have hn := setM_le hs
    have mI : inI ((j : Int) + 1) := ⟨by omega, by omega⟩
    refine idx_i rfl h0 ⟨x, hc, ?_⟩
    refine (c_Has hs x).mono ?_
    rintro _ _ ⟨rfl, rfl⟩
    refine ⟨_, rfl, br_intro (fun h1 => ?_) fun h1 => ?_⟩
    · simp only [Bool.and_eq_true, decide_eq_true_eq] at h1
      obtain ⟨x, rfl⟩ := Int.eq_ofNat_of_zero_le h1.1
      have h2 : dropS m (xs.take j) x = true := by simpa using h1.2
      have hxn : x < n := by
        refine Nat.lt_of_not_le fun hle => ?_
        rw [setM_out hs hle] at h2; cases h2
      rcases setM_cases hs with ⟨rfl, rfl, _⟩ | ⟨b, ab, cb, ws, rfl, hi, hs2⟩
      · omega
      have hw := inv_lt hi hxn
      refine ⟨ab, ws.length, cb, by rw [hs2.cell]; rfl, ?_⟩
      refine (c_words_take hs2.swap hi.lt hw (by omega)).mono ?_
      rintro _ w3 ⟨rfl, ws', e1, e2, e3, hs3⟩
      have hcnt := cnt_drop hxn h2
      have hst := dropS_step (m := m) hx
      refine ⟨rfl, ⟨by omega, by omega⟩, mI, ⟨j + 1, by simp, by omega, ?_, ?_⟩, msr h0⟩
      · rw [hst, hn1]; omega
      · rw [hst]
        refine setM_mk ⟨e1 ▸ hi.len, hi.le, e2, fun k => ?_, fun k hk => ?_⟩ (by rw [e1]; exact hs3.swap)
        · rw [e3, hi.mm]
        · rw [hi.out k hk]; rfl
    · have hx' : ∀ k : Nat, (k : Int) = x → dropS m (xs.take j) k = false := by
        intro k hk
        subst hk
        simpa using h1
      refine ⟨mI, ⟨j + 1, by simp, by omega, ?_, ?_⟩, msr h0⟩
      · rw [dropS_skip hx hx']; exact hn1
      · rw [dropS_skip hx hx']; exact hs
  · have h0 : j = l := by have := of_decide_eq_false h0; omega
    subst h0
    rw [← hl, List.take_length] at hs hn1
    exact ⟨by rw [hn1], hs⟩
end
end Go.Proofs.YtcipljcagejjaaaDoor
