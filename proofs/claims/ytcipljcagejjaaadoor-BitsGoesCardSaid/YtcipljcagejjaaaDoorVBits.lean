/- Sets of small numbers: contracts (1). -/
import Derived.Test.YtcipljcagejjaaaDoorVNum
import Derived.Test.YtcipljcagejjaaaDoorVVcA
set_option linter.unusedVariables false
namespace Go.V
section
variable {P : Program} {w w' : World} {L : List Asn} {b : Nat} {vs : List Value}
theorem own_st1 {sz l c j : Nat} {a : Option Addr} {ad : Addr} {v : Value} {k : World → Prop} (h : St w (own sz a l c vs :: L)) (ha : a = some ad) (hj : j < vs.length)
    (hk : ∀ w', St w' (own sz a l c (vs.set j v) :: L) → k w') (hv : oneC v = true := by rfl) : st1 w (ad.add j) v k := by
  rcases own_cases h with ⟨rfl, _⟩ | ⟨b, pre, cs, post, rfl, h, h1, h2, h3⟩
  · cases ha
  · cases ha
    rw [add_lit]
    refine st1_i h (by simp; omega) (fun w' h' => ?_) hv
    rw [List.set_append_right _ _ (by omega), Nat.add_sub_cancel_left, List.set_append_left _ _ hj] at h'
    refine hk w' (own_some' h' (by simpa using h1) (by simpa using h2) h3)
theorem idx_i {a : Option Addr} {ad : Addr} {len i : Nat} {k : Addr → Prop} (ha : a = some ad) (hi : i < len) (hk : k (ad.add i)) : idx a len (i : Int) 1 k :=
  ⟨ad, ha, by omega, by omega, by simpa [mulS] using hk⟩
theorem own_addr {sz l c : Nat} {a : Option Addr} (h : St w (own sz a l c vs :: L)) (hl : 0 < vs.length) : ∃ ad, a = some ad := by
  rcases own_cases h with ⟨rfl, _, _, rfl⟩ | ⟨b, pre, cs, post, rfl, _⟩
  · simp at hl
  · exact ⟨_, rfl⟩
theorem own_get {sz l c : Nat} {a : Option Addr} {ad : Addr} (h : St w (own sz a l c vs :: L)) (ha : a = some ad) {j : Nat} {v : Value} (hj : vs[j]? = some v) : w.cell? (ad.add j) = some v := by
  obtain ⟨ad', h1, h2⟩ := own_cell h hj
  rw [ha] at h1; cases h1; exact h2
theorem hp_drawn (h : drawn w w') : hp w' = hp w := by unfold drawn at h; subst h; rfl
theorem St.drawn (h : St w L) (hd : V.drawn w w') : St w' L := h.eq (hp_drawn hd)
end
def cw (ws : List Nat) : List Value := ws.map fun (n : Nat) => Value.int .u64 (n : Int)
def mem (ws : List Nat) (k : Nat) : Bool := (ws.getD (k / 64) 0).testBit (k % 64)
structure Inv (n : Nat) (ws : List Nat) (m : Nat → Bool) : Prop where
  len : ws.length = (n + 63) / 64
  le : n ≤ 1024
  lt : ∀ x ∈ ws, x < 2 ^ 64
  mm : ∀ k, m k = mem ws k
  out : ∀ k, n ≤ k → m k = false
/- a set of that size with those members; none: no set -/
def setM (p : Option Addr) (n : Nat) (m : Nat → Bool) : Asn := fun h =>
  (p = none ∧ n = 0 ∧ m = fun _ => false) ∨
  ∃ b a c ws, p = some ⟨b, 0, none⟩ ∧ Inv n ws m ∧ starL [cel b [.slice a ws.length c, .int .i64 (n : Int)], own 1 a ws.length c (cw ws)] h
section
variable {w w' : World} {L : List Asn} {p : Option Addr} {n : Nat} {m : Nat → Bool}
theorem setM_cases (h : St w (setM p n m :: L)) : (p = none ∧ n = 0 ∧ (m = fun _ => false) ∧ St w L) ∨
    ∃ b a c ws, p = some ⟨b, 0, none⟩ ∧ Inv n ws m ∧ St w (cel b [.slice a ws.length c, .int .i64 (n : Int)] :: own 1 a ws.length c (cw ws) :: L) := by
  have ht := h.tail
  obtain ⟨h1, h2, d, s1, s2, ha, hl⟩ := h
  rcases ha with ⟨e1, e2, e3⟩ | ⟨b, a, c, ws, e1, e2, e3⟩
  · exact .inl ⟨e1, e2, e3, ht⟩
  · exact .inr ⟨b, a, c, ws, e1, e2, St.flat.1 (show St w (sta [_, _] :: L) from ⟨h1, h2, d, s1, s2, e3, hl⟩)⟩
theorem setM_mk {b : Nat} {a : Option Addr} {c : Nat} {ws : List Nat} (hi : Inv n ws m) (h : St w (cel b [.slice a ws.length c, .int .i64 (n : Int)] :: own 1 a ws.length c (cw ws) :: L)) : St w (setM (some ⟨b, 0, none⟩) n m :: L) :=
  (St.flat.2 (show St w ([_, _] ++ L) from h)).head fun h ha => .inr ⟨b, a, c, ws, rfl, hi, ha⟩
theorem setM_none (h : St w L) : St w (setM none 0 (fun _ => false) :: L) :=
  ⟨fun _ => none, hp w, fun _ => .inl rfl, fun _ _ h => (nomatch h), sub.refl _, .inl ⟨rfl, rfl, rfl⟩, h⟩
theorem setM_out (h : St w (setM p n m :: L)) {k : Nat} (hk : n ≤ k) : m k = false := by
  rcases setM_cases h with ⟨_, _, rfl, _⟩ | ⟨_, _, _, _, _, hi, _⟩
  · rfl
  · exact hi.out k hk
theorem setM_le (h : St w (setM p n m :: L)) : n ≤ 1024 := by
  rcases setM_cases h with ⟨_, rfl, _, _⟩ | ⟨_, _, _, _, _, hi, _⟩
  · omega
  · exact hi.le
end
end Go.V
namespace Go.Proofs.YtcipljcagejjaaaDoor
open Go.V
section
variable {w : World} {L : List Asn} {a : Option Addr} {c : Nat} {ws : List Nat} {p : Option Addr} {n : Nat} {m : Nat → Bool}
theorem cw_get {ws : List Nat} {j : Nat} (h : j < ws.length) : (cw ws)[j]? = some (.int .u64 ((ws.getD j 0 : Nat) : Int)) := by
  simp [cw, h]
theorem getD_lt {ws : List Nat} (hl : ∀ x ∈ ws, x < 2 ^ 64) (j : Nat) : ws.getD j 0 < 2 ^ 64 := by
  by_cases h : j < ws.length
  · rw [List.getD_eq_getElem?_getD, List.getElem?_eq_getElem h]; exact hl _ (List.getElem_mem h)
  · rw [List.getD_eq_getElem?_getD, List.getElem?_eq_none (by omega)]; simp
theorem nz64 : nz 64 := by unfold nz; decide
theorem inI_nat {k : Nat} (h : k < 9223372036854775807) : inI (k : Int) := ⟨by omega, by omega⟩
theorem c_words_has (h : St w (own 1 a ws.length c (cw ws) :: L)) (hlt : ∀ x ∈ ws, x < 2 ^ 64) {k : Nat} (hk : k / 64 < ws.length) (hb : k < 4096) :
    Run Tryd.prog n_bits_words_has [.slice a ws.length c, .int .i64 (k : Int)] w fun v w' => v = .bool (mem ws k) ∧ w' = w := by
  refine run_bits_words_has _ _ _ _ w _ ?_
  obtain ⟨ad, rfl⟩ := own_addr h (by simp [cw]; omega)
  have hg := own_get h rfl (cw_get hk)
  refine ⟨nz64, ?_, ?_⟩
  · rw [tdiv64]; exact inI_nat (by omega)
  · rw [tdiv64, tmod64]
    refine idx_i rfl hk ⟨_, hg, nz64, ?_, ?_, rfl⟩
    · show (0 : Int) ≤ _; omega
    · rw [bit_test (getD_lt hlt _) (Nat.mod_lt _ (by omega))]; rfl
theorem mem_set {ws : List Nat} {k r : Nat} (hk : k / 64 < ws.length) (j : Nat) : mem (ws.set (k / 64) r) j = if j / 64 = k / 64 then r.testBit (j % 64) else mem ws j := by
  unfold mem
  rw [List.getD_eq_getElem?_getD, List.getElem?_set]
  split
  · rename_i h; rw [if_pos h.symm]; rfl
  · rename_i h; rw [if_neg (fun e => h e.symm), List.getD_eq_getElem?_getD]
theorem cw_set {ws : List Nat} {i r : Nat} : (cw ws).set i (.int .u64 (r : Int)) = cw (ws.set i r) := by simp [cw]
theorem c_words_put (h : St w (own 1 a ws.length c (cw ws) :: L)) (hlt : ∀ x ∈ ws, x < 2 ^ 64) {k : Nat} (hk : k / 64 < ws.length) (hb : k < 4096) :
    Run Tryd.prog n_bits_words_put [.slice a ws.length c, .int .i64 (k : Int)] w fun v w' => v = .tuple #[] ∧ ∃ ws', ws'.length = ws.length ∧ (∀ x ∈ ws', x < 2 ^ 64) ∧ (∀ j, mem ws' j = (mem ws j || j == k)) ∧ St w' (own 1 a ws.length c (cw ws') :: L) := by
  refine run_bits_words_put _ _ _ _ w _ ?_
  intro w1 hd
  have h1 := h.drawn hd
  obtain ⟨ad, rfl⟩ := own_addr h (by simp [cw]; omega)
  have hg := fun w2 (e : hp w2 = hp w) => own_get (h.eq e) rfl (cw_get hk)
  refine ⟨fun w2 => hp w2 = hp w, hp_drawn hd, nz64, ?_, ?_⟩
  · rw [tdiv64]; exact inI_nat (by omega)
  · rw [tdiv64, tmod64]
    refine idx_i rfl hk ⟨_, hg, nz64, ?_, idx_i rfl hk ?_⟩
    · show (0 : Int) ≤ _; omega
    · have hm : k % 64 < 64 := Nat.mod_lt _ (by omega)
      rw [shlI_one hm, bitI_or (getD_lt hlt _) (Nat.pow_lt_pow_right (by omega) hm)]
      refine own_st1 h1 rfl (by simpa [cw] using hk) fun w3 h3 => ?_
      rw [cw_set] at h3
      refine ⟨rfl, _, by simp, fun x hx => ?_, fun j => ?_, h3⟩
      · rcases List.mem_or_eq_of_mem_set hx with hx | rfl
        · exact hlt x hx
        · exact Nat.or_lt_two_pow (getD_lt hlt _) (Nat.pow_lt_pow_right (by omega) hm)
      · rw [mem_set hk]
        split
        · rename_i e
          rw [Nat.testBit_or, Nat.testBit_two_pow]
          unfold mem
          rw [e]
          congr 1
          by_cases hj : j = k
          · subst hj; simp
          · have : ¬ (k % 64 = j % 64) := by omega
            simp [hj, this]
        · rename_i e
          have : (j == k) = false := by simp; intro h; exact e (by rw [h])
          simp [this]
theorem c_words_take (h : St w (own 1 a ws.length c (cw ws) :: L)) (hlt : ∀ x ∈ ws, x < 2 ^ 64) {k : Nat} (hk : k / 64 < ws.length) (hb : k < 4096) :
    Run Tryd.prog n_bits_words_take [.slice a ws.length c, .int .i64 (k : Int)] w fun v w' => v = .tuple #[] ∧ ∃ ws', ws'.length = ws.length ∧ (∀ x ∈ ws', x < 2 ^ 64) ∧ (∀ j, mem ws' j = (mem ws j && !(j == k))) ∧ St w' (own 1 a ws.length c (cw ws') :: L) := by
  refine run_bits_words_take _ _ _ _ w _ ?_
  intro w1 hd
  have h1 := h.drawn hd
  obtain ⟨ad, rfl⟩ := own_addr h (by simp [cw]; omega)
  have hg := fun w2 (e : hp w2 = hp w) => own_get (h.eq e) rfl (cw_get hk)
  refine ⟨fun w2 => hp w2 = hp w, hp_drawn hd, nz64, ?_, ?_⟩
  · rw [tdiv64]; exact inI_nat (by omega)
  · rw [tdiv64, tmod64]
    refine idx_i rfl hk ⟨_, hg, nz64, ?_, idx_i rfl hk ?_⟩
    · show (0 : Int) ≤ _; omega
    · have hm : k % 64 < 64 := Nat.mod_lt _ (by omega)
      rw [shlI_one hm]
      obtain ⟨r, hr, hr1, hr2⟩ := bitI_andNot (getD_lt hlt (k / 64)) (b := 2 ^ (k % 64)) (Nat.pow_lt_pow_right (by omega) hm)
      rw [hr]
      refine own_st1 h1 rfl (by simpa [cw] using hk) fun w3 h3 => ?_
      rw [cw_set] at h3
      refine ⟨rfl, _, by simp, fun x hx => ?_, fun j => ?_, h3⟩
      · rcases List.mem_or_eq_of_mem_set hx with hx | rfl
        · exact hlt x hx
        · exact hr1
      · rw [mem_set hk]
        split
        · rename_i e
          rw [hr2, Nat.testBit_two_pow]
          unfold mem
          rw [e]
          congr 2
          by_cases hj : j = k
          · subst hj; simp
          · have : ¬ (k % 64 = j % 64) := by omega
            simp [hj, this]
        · rename_i e
          have : (j == k) = false := by simp; intro h; exact e (by rw [h])
          simp [this]
theorem c_Size (h : St w (setM p n m :: L)) : Run Tryd.prog n_bits_Set_Size [.pointer p] w fun v w' => v = .int .i64 (n : Int) ∧ w' = w := by
  refine run_bits_Set_Size _ w _ ?_
  rcases setM_cases h with ⟨rfl, rfl, rfl, _⟩ | ⟨b, a, c, ws, rfl, hi, h⟩
  · exact ⟨rfl, rfl⟩
  · refine ⟨(n : Int), ?_, rfl, rfl⟩
    rw [add_lit0, h.cell]; rfl
theorem inv_lt (hi : Inv n ws m) {k : Nat} (hk : k < n) : k / 64 < ws.length := by rw [hi.len]; omega
theorem c_Has (h : St w (setM p n m :: L)) (k : Int) : Run Tryd.prog n_bits_Set_Has [.pointer p, .int .i64 k] w fun v w' => v = .bool (decide (0 ≤ k) && m k.toNat) ∧ w' = w := by
  refine run_bits_Set_Has _ _ w _ ?_
  refine br_intro (fun h0 => ?_) fun h0 => ?_
  · refine (c_Size h).mono ?_
    rintro _ _ ⟨rfl, rfl⟩
    refine ⟨_, rfl, br_intro (fun h1 => ?_) fun h1 => ?_⟩
    · have h0 := of_decide_eq_true h0
      have h1 := of_decide_eq_true h1
      rcases setM_cases h with ⟨rfl, rfl, rfl, _⟩ | ⟨b, a, c, ws, rfl, hi, hs⟩
      · omega
      · obtain ⟨j, rfl⟩ := Int.eq_ofNat_of_zero_le h0
        have hj : j < n := by omega
        refine ⟨a, ws.length, c, ?_, ?_⟩
        · rw [hs.cell]; rfl
        · refine (c_words_has hs.swap hi.lt (inv_lt hi hj) (by have := hi.le; omega)).mono ?_
          rintro _ _ ⟨rfl, rfl⟩
          refine ⟨_, rfl, ?_, rfl⟩
          simp [hi.mm]
    · refine ⟨?_, rfl⟩
      have h0 := of_decide_eq_true h0
      have h1 := of_decide_eq_false h1
      rw [setM_out h (k := k.toNat) (by omega)]; simp
  · exact ⟨by rw [h0]; rfl, rfl⟩
end
end Go.Proofs.YtcipljcagejjaaaDoor
