/- Assertions, put in another order, some left out. -/
import Derived.Test.YtcipljcagejjaaaDoorVStep
set_option linter.unusedVariables false
namespace Go.V
def tlA : List Asn → List Asn
  | [] => []
  | _ :: L => L
def dropN : Nat → List Asn → List Asn
  | 0, L => L
  | n + 1, L => dropN n (tlA L)
abbrev dropA (L : List Asn) (n : Nat) : List Asn := dropN n L
theorem dropN_nil : ∀ n, dropN n [] = []
  | 0 => rfl
  | n + 1 => dropN_nil n
def hasN (i : Nat) : List Nat → Bool
  | [] => false
  | j :: l => Nat.beq i j || hasN i l
theorem hasN_eq (i : Nat) : ∀ l, hasN i l = l.contains i
  | [] => rfl
  | j :: l => by
    rw [hasN, hasN_eq i l, List.contains_cons]; congr 1; rw [Bool.eq_iff_iff]; simp
def pickA (L : List Asn) : List Nat → List Asn → List Asn
  | [], T => T
  | i :: is, T => nthA L i :: pickA L is T
def okP (n : Nat) : List Nat → Bool
  | [] => true
  | i :: is => Nat.blt i n && !hasN i is && okP n is
theorem starL_split : ∀ (n : Nat) (L : List Asn) (h : Hp), starL L h →
    ∃ (f : Nat → Hp) (g : Hp), (∀ i j, i ≠ j → i < n → j < n → dis (f i) (f j)) ∧ (∀ i, i < n → dis (f i) g) ∧ (∀ i, i < n → sub (f i) h) ∧ sub g h ∧ (∀ i, i < n → nthA L i (f i)) ∧ starL (dropA L n) g
  | 0, L, h, hs => ⟨fun _ => h, h, fun _ _ _ hi => absurd hi (by omega), fun _ hi => absurd hi (by omega), fun _ hi => absurd hi (by omega), sub.refl _, fun _ hi => absurd hi (by omega), hs⟩
  | n + 1, [], h, hs => ⟨fun _ _ => none, h, fun _ _ _ _ _ _ => .inl rfl, fun _ _ _ => .inl rfl, fun _ _ _ _ h => (nomatch h), sub.refl _, fun _ _ => trivial, by show starL (dropN n []) _; rw [dropN_nil]; trivial⟩
  | n + 1, A :: L, h, ⟨h1, h2, d, s1, s2, ha, hl⟩ => by
    obtain ⟨f, g, f1, f2, f3, f4, f5, f6⟩ := starL_split n L h2 hl
    refine ⟨fun i => match i with | 0 => h1 | i + 1 => f i, g, fun i j hne hi hj => ?_, fun i hi => ?_, fun i hi => ?_, f4.trans s2, fun i hi => ?_, f6⟩
    · cases i with
      | zero => cases j with
        | zero => exact absurd rfl hne
        | succ j => exact d.sub (sub.refl _) (f3 j (by omega))
      | succ i => cases j with
        | zero => exact (d.sub (sub.refl _) (f3 i (by omega))).symm
        | succ j => exact f1 i j (by omega) (by omega) (by omega)
    · cases i with
      | zero => exact d.sub (sub.refl _) f4
      | succ i => exact f2 i (by omega)
    · cases i with
      | zero => exact s1
      | succ i => exact (f3 i (by omega)).trans s2
    · cases i with
      | zero => exact ha
      | succ i => exact f5 i (by omega)
theorem starL_join {L T : List Asn} {n : Nat} {f : Nat → Hp} {g h : Hp} (f1 : ∀ i j, i ≠ j → i < n → j < n → dis (f i) (f j)) (f2 : ∀ i, i < n → dis (f i) g) (f3 : ∀ i, i < n → sub (f i) h) (f4 : sub g h)
    (f5 : ∀ i, i < n → nthA L i (f i)) (f6 : starL T g) : ∀ is : List Nat, okP n is = true → ∃ u, sub u h ∧ starL (pickA L is T) u ∧ ∀ i, i < n → i ∉ is → dis (f i) u
  | [], _ => ⟨g, f4, f6, fun i hi _ => f2 i hi⟩
  | i :: is, hok => by
    simp only [okP, hasN_eq, Bool.and_eq_true, Bool.not_eq_true', Nat.blt_eq] at hok
    obtain ⟨⟨hi, hni⟩, hok⟩ := hok
    have hni : i ∉ is := by simpa using hni
    obtain ⟨u, u1, u2, u3⟩ := starL_join f1 f2 f3 f4 f5 f6 is hok
    have d := u3 i hi hni
    refine ⟨uni (f i) u, uni_sub (f3 i hi) u1, ⟨f i, u, d, sub_uni_l _ _, sub_uni_r d, f5 i hi, u2⟩, fun j hj hjn => ?_⟩
    simp only [List.mem_cons, not_or] at hjn
    exact (dis_uni (f1 i j (fun e => hjn.1 e.symm) hi hj) (u3 j hj hjn.2).symm).symm
theorem St.pick {w : World} {L : List Asn} (h : St w L) (n : Nat) (is : List Nat) (hok : okP n is = true := by rfl) : St w (pickA L is (dropA L n)) := by
  obtain ⟨f, g, f1, f2, f3, f4, f5, f6⟩ := starL_split n L _ h
  obtain ⟨u, u1, u2, _⟩ := starL_join f1 f2 f3 f4 f5 f6 is hok
  exact starL_sub u2 u1
example {w : World} {A B C : Asn} {L : List Asn} (h : St w (A :: B :: C :: L)) : St w (C :: A :: L) := h.pick 3 [2, 0]
end Go.V
