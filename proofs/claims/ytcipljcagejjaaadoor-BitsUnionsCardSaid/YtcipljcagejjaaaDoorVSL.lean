/- Assertions on memory, apart from one another. -/
import Derived.Test.YtcipljcagejjaaaDoorVDen
set_option linter.unusedVariables false
namespace Go.V
abbrev Hp := Nat → Option Obj
abbrev Asn := Hp → Prop
/- blocks for deferred calls are none of it -/
def hidD : Option Obj → Option Obj
  | some (.deferred _) => none
  | o => o
theorem hidD_some {x : Option Obj} {o : Obj} (h : hidD x = some o) : x = some o := by
  unfold hidD at h; split at h
  · cases h
  · exact h
def notD : Obj → Bool
  | .deferred _ => false
  | _ => true
theorem hidD_not {o : Obj} (h : notD o = true) : hidD (some o) = some o := by cases o <;> first | rfl | cases h
def hp (w : World) : Hp := fun b => hidD w.heap[b]?
theorem hp_ge {w : World} {b : Nat} (h : w.heap.size ≤ b) : hp w b = none := by simp [hp, hidD, h]
def sub (a b : Hp) : Prop := ∀ k o, a k = some o → b k = some o
def dis (a b : Hp) : Prop := ∀ k, a k = none ∨ b k = none
theorem sub.refl (a : Hp) : sub a a := fun _ _ h => h
theorem sub.trans {a b c : Hp} (h : sub a b) (k : sub b c) : sub a c := fun x o hx => k x o (h x o hx)
theorem dis.symm {a b : Hp} (h : dis a b) : dis b a := fun k => (h k).symm
theorem dis.sub {a b c d : Hp} (h : dis a b) (h1 : sub c a) (h2 : sub d b) : dis c d := by
  intro k
  rcases h k with h | h
  · left; cases hc : c k with
    | none => rfl
    | some o => rw [h1 k o hc] at h; cases h
  · right; cases hc : d k with
    | none => rfl
    | some o => rw [h2 k o hc] at h; cases h
def uni (a b : Hp) : Hp := fun k => match a k with | some o => some o | none => b k
theorem sub_uni_l (a b : Hp) : sub a (uni a b) := fun k o h => by simp [uni, h]
theorem sub_uni_r {a b : Hp} (h : dis a b) : sub b (uni a b) := fun k o hb => by
  rcases h k with h | h
  · simp [uni, h, hb]
  · rw [h] at hb; cases hb
theorem uni_sub {a b c : Hp} (h1 : sub a c) (h2 : sub b c) : sub (uni a b) c := fun k o h => by
  unfold uni at h; split at h
  · rename_i o' ho; cases h; exact h1 k _ ho
  · exact h2 k o h
theorem dis_uni {a b c : Hp} (h1 : dis a c) (h2 : dis b c) : dis (uni a b) c := by
  intro k
  rcases h1 k with h | h
  · rcases h2 k with h' | h'
    · left; simp [uni, h, h']
    · exact .inr h'
  · exact .inr h
/- the first of these and the others, side by side; there may be more -/
def starL : List Asn → Asn
  | [], _ => True
  | A :: L, h => ∃ h1 h2, dis h1 h2 ∧ sub h1 h ∧ sub h2 h ∧ A h1 ∧ starL L h2
theorem starL_sub : ∀ {L : List Asn} {h h' : Hp}, starL L h → sub h h' → starL L h'
  | [], _, _, _, _ => trivial
  | A :: L, h, h', ⟨h1, h2, d, s1, s2, ha, hl⟩, s => ⟨h1, h2, d, s1.trans s, s2.trans s, ha, hl⟩
theorem starL_swap {A B : Asn} {L : List Asn} {h : Hp} : starL (A :: B :: L) h → starL (B :: A :: L) h
  | ⟨h1, h2, d, s1, s2, ha, h3, h4, d', s3, s4, hb, hl⟩ =>
    have d14 : dis h1 h4 := d.sub (sub.refl _) s4
    ⟨h3, uni h1 h4, (dis_uni (d.sub (sub.refl _) s3) d'.symm).symm, s3.trans s2, uni_sub s1 (s4.trans s2), hb, h1, h4, d14, sub_uni_l _ _, sub_uni_r d14, ha, hl⟩
theorem starL_consMono {A : Asn} {L L' : List Asn} {h : Hp} (hm : ∀ h, starL L h → starL L' h) : starL (A :: L) h → starL (A :: L') h
  | ⟨h1, h2, d, s1, s2, ha, hl⟩ => ⟨h1, h2, d, s1, s2, ha, hm _ hl⟩
theorem starL_head {A B : Asn} {L : List Asn} {h : Hp} (hm : ∀ h, A h → B h) : starL (A :: L) h → starL (B :: L) h
  | ⟨h1, h2, d, s1, s2, ha, hl⟩ => ⟨h1, h2, d, s1, s2, hm _ ha, hl⟩
theorem starL_tail {A : Asn} {L : List Asn} {h : Hp} : starL (A :: L) h → starL L h
  | ⟨h1, h2, d, s1, s2, ha, hl⟩ => starL_sub hl s2
theorem starL_perm {L L' : List Asn} (p : L.Perm L') : ∀ {h : Hp}, starL L h → starL L' h := by
  induction p with
  | nil => exact fun h => h
  | cons A p ih => exact fun h => starL_consMono (fun _ => ih) h
  | swap A B l => exact fun h => starL_swap h
  | trans p q ih1 ih2 => exact fun h => ih2 (ih1 h)
/- several as one -/
def sta (M : List Asn) : Asn := starL M
theorem starL_flat : ∀ {M L : List Asn} {h : Hp}, starL (sta M :: L) h ↔ starL (M ++ L) h
  | [], L, h => ⟨fun ⟨h1, h2, d, s1, s2, ha, hl⟩ => starL_sub hl s2, fun hl => ⟨fun _ => none, h, fun _ => .inl rfl, fun _ _ h => (nomatch h), sub.refl _, trivial, hl⟩⟩
  | A :: M, L, h => by
    constructor
    · rintro ⟨h1, h2, d, s1, s2, ⟨h3, h4, d', s3, s4, ha, hm⟩, hl⟩
      have d42 : dis h4 h2 := d.sub s4 (sub.refl _)
      exact ⟨h3, uni h4 h2, (dis_uni d'.symm (d.symm.sub (sub.refl _) s3)).symm, s3.trans s1, uni_sub (s4.trans s1) s2, ha, starL_flat.1 ⟨h4, h2, d42, sub_uni_l _ _, sub_uni_r d42, hm, hl⟩⟩
    · rintro ⟨h1, h2, d, s1, s2, ha, hr⟩
      obtain ⟨h3, h4, d', s3, s4, hm, hl⟩ := starL_flat.2 hr
      have d13 : dis h1 h3 := d.sub (sub.refl _) s3
      exact ⟨uni h1 h3, h4, dis_uni (d.sub (sub.refl _) s4) d', uni_sub s1 (s3.trans s2), s4.trans s2, ⟨h1, h3, d13, sub_uni_l _ _, sub_uni_r d13, ha, hm⟩, hl⟩
def ex {α : Type} (A : α → Asn) : Asn := fun h => ∃ x, A x h
theorem starL_ex {α : Type} {A : α → Asn} {L : List Asn} {h : Hp} : starL (ex A :: L) h ↔ ∃ x, starL (A x :: L) h :=
  ⟨fun ⟨h1, h2, d, s1, s2, ⟨x, ha⟩, hl⟩ => ⟨x, h1, h2, d, s1, s2, ha, hl⟩, fun ⟨x, h1, h2, d, s1, s2, ha, hl⟩ => ⟨h1, h2, d, s1, s2, ⟨x, ha⟩, hl⟩⟩
def pu (p : Prop) : Asn := fun _ => p
theorem starL_pu {p : Prop} {L : List Asn} {h : Hp} : starL (pu p :: L) h ↔ p ∧ starL L h :=
  ⟨fun ⟨h1, h2, d, s1, s2, ha, hl⟩ => ⟨ha, starL_sub hl s2⟩, fun ⟨hp, hl⟩ => ⟨fun _ => none, h, fun _ => .inl rfl, fun _ _ h => (nomatch h), sub.refl _, hp, hl⟩⟩
def blk (b : Nat) (o : Obj) : Asn := fun h => h b = some o
def one (b : Nat) (o : Obj) : Hp := fun k => if k = b then some o else none
theorem one_self (b : Nat) (o : Obj) : one b o b = some o := by simp [one]
theorem starL_blk_get {b : Nat} {o : Obj} {L : List Asn} {h : Hp} : starL (blk b o :: L) h → h b = some o
  | ⟨h1, h2, d, s1, s2, ha, hl⟩ => s1 _ _ ha
theorem starL_blk_set {b : Nat} {o o' : Obj} {L : List Asn} {h h' : Hp} (hs : starL (blk b o :: L) h) (h0 : ∀ k, k ≠ b → h' k = h k) (h1 : h' b = some o') : starL (blk b o' :: L) h' := by
  obtain ⟨g1, g2, d, s1, s2, ha, hl⟩ := hs
  have hb : g2 b = none := by rcases d b with h | h; · rw [show g1 b = some o from ha] at h; cases h
                              · exact h
  refine ⟨one b o', g2, fun k => ?_, fun k x hk => ?_, fun k x hk => ?_, one_self b o', hl⟩
  · by_cases hk : k = b
    · subst hk; exact .inr hb
    · exact .inl (by simp [one, hk])
  · unfold one at hk; split at hk
    · rename_i e; cases hk; rw [e, h1]
    · cases hk
  · have hk' : k ≠ b := fun e => by rw [e, hb] at hk; cases hk
    rw [h0 k hk']; exact s2 k x hk
theorem starL_blk_new {b : Nat} {o : Obj} {L : List Asn} {h h' : Hp} (hs : starL L h) (hb : h b = none) (h0 : ∀ k, k ≠ b → h' k = h k) (h1 : h' b = some o) : starL (blk b o :: L) h' := by
  refine ⟨one b o, h, fun k => ?_, fun k x hk => ?_, fun k x hk => ?_, one_self b o, hs⟩
  · by_cases hk : k = b
    · subst hk; exact .inr hb
    · exact .inl (by simp [one, hk])
  · unfold one at hk; split at hk
    · rename_i e; cases hk; rw [e, h1]
    · cases hk
  · have hk' : k ≠ b := fun e => by rw [e, hb] at hk; cases hk
    rw [h0 k hk']; exact hk
/- what lies there and stays -/
def has (h0 : Hp) : Asn := fun h => sub h0 h
theorem starL_has {h0 : Hp} {L : List Asn} {h : Hp} : starL (has h0 :: L) h → sub h0 h
  | ⟨h1, h2, d, s1, s2, ha, hl⟩ => sub.trans ha s1

/- a world's memory -/
def St (w : World) (L : List Asn) : Prop := starL L (hp w)
def nthA : List Asn → Nat → Asn
  | [], _ => pu True
  | A :: _, 0 => A
  | _ :: L, n + 1 => nthA L n
def delA : List Asn → Nat → List Asn
  | [], _ => []
  | _ :: L, 0 => L
  | A :: L, n + 1 => A :: delA L n
theorem perm_nth : ∀ (L : List Asn) (n : Nat), n < L.length → L.Perm (nthA L n :: delA L n)
  | [], n, h => by simp at h
  | A :: L, 0, _ => List.Perm.refl _
  | A :: L, n + 1, h => (List.Perm.cons A (perm_nth L n (by simpa using h))).trans (List.Perm.swap _ _ _)
section
variable {w w' : World} {L : List Asn} {A B : Asn}
theorem St.perm {L' : List Asn} (h : St w L) (p : L.Perm L') : St w L' := starL_perm p h
theorem St.swap {L : List Asn} {A B : Asn} (h : St w (A :: B :: L)) : St w (B :: A :: L) := starL_swap h
theorem St.rot3 {L : List Asn} {A B C : Asn} (h : St w (A :: B :: C :: L)) : St w (C :: A :: B :: L) := starL_swap (starL_consMono (fun _ => starL_swap) h)
theorem St.rot4 {L : List Asn} {A B C D : Asn} (h : St w (A :: B :: C :: D :: L)) : St w (D :: A :: B :: C :: L) := starL_swap (starL_consMono (fun _ h => starL_swap (starL_consMono (fun _ => starL_swap) h)) h)
theorem St.tail (h : St w (A :: L)) : St w L := starL_tail h
theorem St.head (h : St w (A :: L)) (hm : ∀ h, A h → B h) : St w (B :: L) := starL_head hm h
theorem St.flat {M : List Asn} : St w (sta M :: L) ↔ St w (M ++ L) := starL_flat
theorem St.ex {α : Type} {A : α → Asn} : St w (V.ex A :: L) ↔ ∃ x, St w (A x :: L) := starL_ex
theorem St.pu {p : Prop} : St w (V.pu p :: L) ↔ p ∧ St w L := starL_pu
theorem St.get {b : Nat} {o : Obj} (h : St w (blk b o :: L)) : w.heap[b]? = some o := hidD_some (starL_blk_get h)
theorem St.has {h0 : Hp} (h : St w (V.has h0 :: L)) : sub h0 (hp w) := starL_has h
theorem St.push (h : St w L) (o : Obj) (ho : notD o = true := by rfl) : St { w with heap := w.heap.push o } (blk w.heap.size o :: L) :=
  starL_blk_new h (hp_ge (Nat.le_refl _)) (fun k hk => by simp [hp, Array.getElem?_push, hk]) (by simp [hp, hidD_not ho])
theorem St.setObj {b : Nat} {o : Obj} (h : St w (blk b o :: L)) (o' : Obj) (ho : notD o' = true := by rfl) : St { w with heap := w.heap.setIfInBounds b o' } (blk b o' :: L) := by
  have hb := (Array.getElem?_eq_some_iff.1 h.get).1
  exact starL_blk_set h (fun k hk => by simp [hp, Array.getElem?_setIfInBounds_ne (Ne.symm hk)]) (by simp [hp, hb, hidD_not ho])
theorem St.eq (h : St w L) (he : hp w' = hp w) : St w' L := by unfold St; rw [he]; exact h
theorem St.same (h : St w L) (he : w'.heap = w.heap) : St w' L := h.eq (by unfold hp; rw [he])
theorem St.setCell {b : Nat} {c : Array Value} {e : TypeId} {fz : Nat × Nat} (h : St w (blk b (.cells c e fz) :: L)) (i : Nat) (v : Value) :
    St (w.setCell ⟨b, i, none⟩ v) (blk b (.cells (c.setIfInBounds i v) e fz) :: L) := by
  have hg := h.get
  refine starL_blk_set h (fun k hk => ?_) ?_
  · simp only [hp, World.setCell, Array.getElem?_modify]; rw [if_neg (fun e => hk e.symm)]
  · simp only [hp, World.setCell, Array.getElem?_modify]; simp [hg, hidD]
theorem hp_pushD (w : World) (d : Option (List Deferred)) : hp { w with heap := w.heap.push (.deferred d) } = hp w := by
  funext b
  simp only [hp, Array.getElem?_push]
  split
  · rename_i e; subst e; simp [hidD]
  · rfl
theorem hp_setD {w : World} {D : Nat} {d d' : Option (List Deferred)} (h : w.heap[D]? = some (.deferred d)) : hp { w with heap := w.heap.setIfInBounds D (.deferred d') } = hp w := by
  funext b
  simp only [hp]
  by_cases hb : b = D
  · subst hb
    rw [Array.getElem?_setIfInBounds_self_of_lt (Array.getElem?_eq_some_iff.1 h).1, h]; rfl
  · rw [Array.getElem?_setIfInBounds_ne (Ne.symm hb)]
theorem cell_hp (h : hp w' = hp w) (a : Addr) : w'.cell? a = w.cell? a := by
  have hb := congrFun h a.block
  simp only [hp] at hb
  unfold World.cell?
  cases h1 : w'.heap[a.block]? with
  | none =>
    rw [h1] at hb
    cases h2 : w.heap[a.block]? with
    | none => rfl
    | some o => rw [h2] at hb; cases o <;> first | rfl | cases hb
  | some o =>
    rw [h1] at hb
    cases h2 : w.heap[a.block]? with
    | none => rw [h2] at hb; cases o <;> first | rfl | cases hb
    | some o' => rw [h2] at hb; cases o <;> cases o' <;> first | rfl | (cases hb; rfl) | cases hb
theorem rowAt_hp (h : hp w' = hp w) (a : Addr) : ∀ (n i : Nat), rowAt w' a i n = rowAt w a i n
  | 0, i => rfl
  | n + 1, i => by simp only [rowAt, cell_hp h, rowAt_hp h a n]
end
end Go.V
