/- Values in memory: what is read, what is owned. -/
import Derived.Test.YtcipljcagejjaaaDoorVBits7
import Derived.Test.YtcipljcagejjaaaDoorVPick
set_option linter.unusedVariables false
namespace Go.V
/- memory only grows -/
def Gr (w w' : World) : Prop := sub (hp w) (hp w')
theorem Gr.refl (w : World) : Gr w w := sub.refl _
theorem Gr.trans {a b c : World} (h : Gr a b) (k : Gr b c) : Gr a c := sub.trans h k
theorem Gr.of_eq {w w' : World} (h : hp w' = hp w) : Gr w w' := by unfold Gr; rw [h]; exact sub.refl _
theorem St.gr {w w' : World} {L : List Asn} (h : St w L) (g : Gr w w') : St w' L := starL_sub h g
theorem St.ofHp {w : World} {L : List Asn} {h0 : Hp} (h : starL L h0) (s : sub h0 (hp w)) : St w L := starL_sub h s
/- all of a world's memory, as a frame -/
abbrev all (w : World) : List Asn := [has (hp w)]
theorem has_i {h0 h : Hp} (s : sub h0 h) : starL [has h0] h := ⟨h0, fun _ => none, fun _ => .inr rfl, s, fun _ _ h => (nomatch h), sub.refl _, trivial⟩
theorem St.here {w : World} {h0 : Hp} (s : sub h0 (hp w)) : St w [V.has h0] := has_i s
theorem St.all (w : World) : St w (V.all w) := has_i (sub.refl _)
/- a frame is put in the place of another one -/
theorem starL_under {L M N : List Asn} (hm : ∀ h, starL M h → starL N h) : ∀ {h : Hp}, starL (L ++ M) h → starL (L ++ N) h := by
  induction L with
  | nil => exact fun h => hm _ h
  | cons A L ih => exact fun ⟨h1, h2, d, s1, s2, ha, hl⟩ => ⟨h1, h2, d, s1, s2, ha, ih hl⟩
theorem has_frame {L : List Asn} {h0 : Hp} (hl : starL L h0) : ∀ h, starL [has h0] h → starL L h := fun h hh => starL_sub hl (starL_has hh)
theorem St.on {w' : World} {N L : List Asn} {h0 : Hp} (h : St w' (N ++ [V.has h0])) (hl : starL L h0) : St w' (N ++ L) := starL_under (has_frame hl) h
theorem St.on1 {w' : World} {A : Asn} {L : List Asn} {h0 : Hp} (h : St w' [A, V.has h0]) (hl : starL L h0) : St w' (A :: L) := St.on (N := [A]) h hl
theorem St.on2 {w' : World} {A B : Asn} {L : List Asn} {h0 : Hp} (h : St w' [A, B, V.has h0]) (hl : starL L h0) : St w' (A :: B :: L) := St.on (N := [A, B]) h hl
theorem St.gone {w' : World} {N : List Asn} {h0 : Hp} (h : St w' (N ++ [V.has h0])) : sub h0 (hp w') := by
  induction N with
  | nil => exact starL_has h
  | cons A N ih => exact ih h.tail
theorem St.gone1 {w' : World} {A : Asn} {h0 : Hp} (h : St w' [A, V.has h0]) : sub h0 (hp w') := St.gone (N := [A]) h
theorem St.gone2 {w' : World} {A B : Asn} {h0 : Hp} (h : St w' [A, B, V.has h0]) : sub h0 (hp w') := St.gone (N := [A, B]) h
/- the frame, frozen -/
theorem St.freeze {w : World} {A : Asn} {L : List Asn} (h : St w (A :: L)) : ∃ h0, starL L h0 ∧ sub h0 (hp w) ∧ St w [A, V.has h0] := by
  obtain ⟨h1, h2, d, s1, s2, ha, hl⟩ := h
  exact ⟨h2, hl, s2, h1, h2, d, s1, s2, ha, has_i (sub.refl _)⟩
theorem St.freeze2 {w : World} {A B : Asn} {L : List Asn} (h : St w (A :: B :: L)) : ∃ h0, starL L h0 ∧ sub h0 (hp w) ∧ St w [A, B, V.has h0] := by
  obtain ⟨h1, h2, d, s1, s2, ha, h3, h4, d', s3, s4, hb, hl⟩ := h
  exact ⟨h4, hl, s4.trans s2, h1, h2, d, s1, s2, ha, h3, h4, d', s3, s4, hb, has_i (sub.refl _)⟩
theorem St.first {w : World} {A : Asn} {L : List Asn} (h : St w (A :: L)) : ∃ h1, sub h1 (hp w) ∧ A h1 := by
  obtain ⟨h1, h2, d, s1, s2, ha, hl⟩ := h
  exact ⟨h1, s1, ha⟩

/- cells behind an address -/
def rowH (h : Hp) (a : Addr) (vs : List Value) : Prop := ∀ j v, vs[j]? = some v → cellH h (a.add j) = some v
theorem rowH.mono {h h' : Hp} {a : Addr} {vs : List Value} (s : sub h h') (r : rowH h a vs) : rowH h' a vs := fun j v hj => cellH_sub s (r j v hj)
theorem rowH.cell {w : World} {h : Hp} {a : Addr} {vs : List Value} (r : rowH h a vs) (s : sub h (hp w)) {j : Nat} {v : Value} (hj : vs[j]? = some v) : w.cell? (a.add j) = some v := cellH_w (cellH_sub s (r j v hj))
theorem rowH.cell0 {w : World} {h : Hp} {a : Addr} {v : Value} {vs : List Value} (r : rowH h a (v :: vs)) (s : sub h (hp w)) : w.cell? a = some v := by
  have := r.cell s (j := 0) (v := v) rfl
  simpa [Addr.add] using this
theorem rowH.drop {h : Hp} {a : Addr} {us vs : List Value} (r : rowH h a (us ++ vs)) : rowH h (a.add us.length) vs := fun j v hj => by
  rw [add_add]; exact r _ v (by rw [List.getElem?_append_right (by omega), Nat.add_sub_cancel_left]; exact hj)
theorem rowH.take {h : Hp} {a : Addr} {us vs : List Value} (r : rowH h a (us ++ vs)) : rowH h a us := fun j v hj =>
  r j v (by rw [List.getElem?_append_left (List.getElem?_eq_some_iff.1 hj).1]; exact hj)
theorem rowAt_row {w : World} {h : Hp} {a : Addr} (s : sub h (hp w)) : ∀ (vs : List Value) (i : Nat), rowH h (a.add i) vs → rowAt w a i vs.length = some vs
  | [], i, _ => rfl
  | v :: vs, i, r => by
    have h1 : w.cell? (a.add i) = some v := r.cell0 s
    have h2 : rowH h (a.add (i + 1)) vs := by
      rw [← add_add]; exact rowH.drop (us := [v]) r
    simp only [List.length_cons, rowAt, h1, rowAt_row s vs (i + 1) h2]
theorem rowH.at {w : World} {h : Hp} {a : Addr} {vs : List Value} {n : Nat} (r : rowH h a vs) (s : sub h (hp w)) (hn : vs.length = n) : rowAt w a 0 n = some vs := by
  subst hn; exact rowAt_row s vs 0 (by simpa [Addr.add] using r)
theorem cel_row {b : Nat} {vs : List Value} {h : Hp} (hc : cel b vs h) : rowH h ⟨b, 0, none⟩ vs := fun j v hj => by
  obtain ⟨e, he⟩ := hc
  rw [add_lit0]; unfold cellH; simp only [he]; simpa using hj
theorem rdV_row {h : Hp} {ad : Addr} {vs : List Value} (hv : rdV (some ad) vs h) : rowH h ad vs := by
  rcases hv with rfl | ⟨ad', e, hc⟩
  · intro j v hj; simp at hj
  · cases e; exact hc

/- a kind of values: how many cells; what they are where such a value lies in memory -/
class Rep (α : Type) where
  n : Nat
  rd : Hp → α → List Value → Prop
  mono : ∀ {h h' : Hp} {x : α} {vs : List Value}, sub h h' → rd h x vs → rd h' x vs
  len : ∀ {h : Hp} {x : α} {vs : List Value}, rd h x vs → vs.length = n
abbrev rd {α : Type} [Rep α] (h : Hp) (x : α) (vs : List Value) : Prop := Rep.rd h x vs
/- a slice reads as a list -/
def rdS {α : Type} [Rep α] (h : Hp) (xs : List α) (a : Option Addr) (l : Nat) : Prop :=
  xs.length = l ∧ ∀ i x, xs[i]? = some x → ∃ ad vs, a = some ad ∧ rowH h (ad.add (mulS i (Rep.n α))) vs ∧ rd h x vs
section
variable {α : Type} [Rep α] {h h' : Hp} {w : World} {xs : List α} {a : Option Addr} {l : Nat}
theorem rdS.mono (s : sub h h') (r : rdS h xs a l) : rdS h' xs a l :=
  ⟨r.1, fun i x hx => by obtain ⟨ad, vs, h1, h2, h3⟩ := r.2 i x hx; exact ⟨ad, vs, h1, h2.mono s, Rep.mono s h3⟩⟩
theorem rdS.nil : rdS h ([] : List α) a 0 := ⟨rfl, fun i x hx => by simp at hx⟩
theorem rdS.get (r : rdS h xs a l) {i : Nat} (hi : i < l) : ∃ x ad vs, xs[i]? = some x ∧ a = some ad ∧ rowH h (ad.add (mulS i (Rep.n α))) vs ∧ rd h x vs := by
  have hl : i < xs.length := by rw [r.1]; exact hi
  obtain ⟨ad, vs, h1, h2, h3⟩ := r.2 i xs[i] (List.getElem?_eq_getElem hl)
  exact ⟨xs[i], ad, vs, List.getElem?_eq_getElem hl, h1, h2, h3⟩
/- a piece of it -/
theorem rdS.drop {k m : Nat} (r : rdS h xs a l) (hk : k ≤ l) (hm : l ≤ m) : rdS h (xs.drop k) (slP a k m (Rep.n α)) (l - k) := by
  refine ⟨by rw [List.length_drop, r.1], fun i x hx => ?_⟩
  rw [List.getElem?_drop] at hx
  have hlt := (List.getElem?_eq_some_iff.1 hx).1
  obtain ⟨ad, vs, rfl, h2, h3⟩ := r.2 _ x hx
  have hr := r.1
  refine ⟨ad.add (mulS k (Rep.n α)), vs, ?_, ?_, h3⟩
  · unfold slP; rw [if_neg (by omega)]; rfl
  · rw [add_add, mulS_eq, mulS_eq, ← Nat.add_mul, ← mulS_eq]; exact h2
theorem rdS.take {k : Nat} (r : rdS h xs a l) (hk : k ≤ l) : rdS h (xs.take k) a k := by
  refine ⟨by rw [List.length_take, r.1]; omega, fun i x hx => ?_⟩
  rw [List.getElem?_take] at hx
  split at hx
  · exact r.2 i x hx
  · cases hx
/- what stands in one cell -/
class Rep1 (α : Type) extends Rep α where
  val : α → Value
  one : ∀ {h : Hp} {x : α} {vs : List Value}, rd h x vs ↔ vs = [val x]
  n1 : n = 1
end
section
variable {α : Type} [Rep1 α] {h h' : Hp} {w : World} {xs : List α} {a : Option Addr} {l : Nat}
theorem rdS.at (r : rdS h xs a l) {i : Nat} {x : α} (hx : xs[i]? = some x) : ∃ ad, a = some ad ∧ ∀ w, sub h (hp w) → w.cell? (ad.add i) = some (Rep1.val x) := by
  obtain ⟨ad, vs, h1, h2, h3⟩ := r.2 i x hx
  have := Rep1.one.1 h3
  subst this
  refine ⟨ad, h1, fun w s => ?_⟩
  have := h2.cell0 s
  rw [mulS_eq, Rep1.n1, Nat.mul_one] at this
  exact this
theorem rdS.get1 (r : rdS h xs a l) {i : Nat} (hi : i < l) : ∃ x ad, xs[i]? = some x ∧ a = some ad ∧ ∀ w, sub h (hp w) → w.cell? (ad.add i) = some (Rep1.val x) := by
  have hl : i < xs.length := by rw [r.1]; exact hi
  obtain ⟨ad, h1, h2⟩ := r.at (List.getElem?_eq_getElem hl)
  exact ⟨_, ad, List.getElem?_eq_getElem hl, h1, h2⟩
theorem rdS_of_row (hl : xs.length = l) (hr : rdV a (xs.map Rep1.val) h) : rdS h xs a l := by
  refine ⟨hl, fun i x hx => ?_⟩
  rcases hr with hn | ⟨ad, rfl, hc⟩
  · have : xs = [] := by simpa using hn
    subst this; simp at hx
  · refine ⟨ad, [Rep1.val x], rfl, fun j v hj => ?_, Rep1.one.2 rfl⟩
    cases j with
    | zero =>
      simp only [List.getElem?_cons_zero, Option.some.injEq] at hj
      subst hj
      rw [mulS_eq, Rep1.n1, Nat.mul_one]
      have := hc i (Rep1.val x) (by rw [List.getElem?_map, hx]; rfl)
      simpa [add_add] using this
    | succ j => simp at hj
theorem rdS.row (r : rdS h xs a l) : rdV a (xs.map Rep1.val) h := by
  cases xs with
  | nil => exact .inl rfl
  | cons x0 xs' =>
    obtain ⟨ad, vs, rfl, _⟩ := r.2 0 x0 rfl
    refine .inr ⟨ad, rfl, fun j v hj => ?_⟩
    rw [List.getElem?_map] at hj
    cases hx : (x0 :: xs')[j]? with
    | none => rw [hx] at hj; cases hj
    | some x =>
      rw [hx] at hj; cases hj
      obtain ⟨ad', vs, e, h2, h3⟩ := r.2 j x hx
      cases e
      have := Rep1.one.1 h3
      subst this
      have := h2 0 _ rfl
      rw [mulS_eq, Rep1.n1, Nat.mul_one] at this
      simpa [add_add] using this
end
instance : Rep1 Int := { n := 1, rd := fun _ x vs => vs = [.int .i64 x], mono := fun _ h => h, len := fun h => by rw [h]; rfl, val := fun x => .int .i64 x, one := Iff.rfl, n1 := rfl }
instance : Rep1 Bool := { n := 1, rd := fun _ x vs => vs = [.bool x], mono := fun _ h => h, len := fun h => by rw [h]; rfl, val := fun x => .bool x, one := Iff.rfl, n1 := rfl }
instance : Rep1 ByteArray := { n := 1, rd := fun _ x vs => vs = [.string x], mono := fun _ h => h, len := fun h => by rw [h]; rfl, val := fun x => .string x, one := Iff.rfl, n1 := rfl }
instance {α : Type} [Rep α] : Rep (List α) :=
  { n := 1, rd := fun h xs vs => ∃ a l c, vs = [.slice a l c] ∧ l ≤ c ∧ rdS h xs a l, mono := fun s ⟨a, l, c, h1, h3, h2⟩ => ⟨a, l, c, h1, h3, h2.mono s⟩, len := fun ⟨_, _, _, h, _⟩ => by rw [h]; rfl }
def anyI : Int → Prop := fun z => -9223372036854775808 ≤ z ∧ z ≤ 9223372036854775807
def bv (bs : List Bool) : List Value := bs.map fun b => Value.bool b
theorem Rep1.val_int : (Rep1.val : Int → Value) = fun x => Value.int .i64 x := rfl
theorem rdI_of {h : Hp} {xs : List Int} {a : Option Addr} {l : Nat} (hl : xs.length = l) (hr : rdV a (iv xs) h) : rdS h xs a l := rdS_of_row hl hr
theorem rdB_of {h : Hp} {xs : List Bool} {a : Option Addr} {l : Nat} (hl : xs.length = l) (hr : rdV a (bv xs) h) : rdS h xs a l := rdS_of_row hl hr
theorem rdS.iv {h : Hp} {xs : List Int} {a : Option Addr} {l : Nat} (r : rdS h xs a l) : rdV a (V.iv xs) h := r.row
theorem rdS.bv {h : Hp} {xs : List Bool} {a : Option Addr} {l : Nat} (r : rdS h xs a l) : rdV a (V.bv xs) h := r.row
theorem iv_len (xs : List Int) : (iv xs).length = xs.length := by simp [iv]
theorem bv_len (xs : List Bool) : (bv xs).length = xs.length := by simp [bv]
theorem hp_sub {w w' : World} (h : hp w' = hp w) : sub (hp w) (hp w') := Gr.of_eq h
end Go.V
