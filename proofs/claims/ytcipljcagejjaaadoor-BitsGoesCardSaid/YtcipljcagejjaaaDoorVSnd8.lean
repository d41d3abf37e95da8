/- A function's code: its proposition gives its contract. -/
import Derived.Test.YtcipljcagejjaaaDoorVSnd7
set_option linter.unusedVariables false
namespace Go.V
def mk1 (D : Nat) : Deferred := { target := .collected D, args := #[] }
/- the marks that loops over functions leave among the deferred calls -/
def Mk (rf : Bool) (w0 w : World) (ds : List Deferred) : Prop := (rf = false → ds = []) ∧ ∃ Ds : List Nat, ds = Ds.map mk1 ∧ Ds.Nodup ∧ ∀ D ∈ Ds, w0.heap.size ≤ D ∧ w.heap[D]? = some (Obj.deferred (some []))
theorem Mk.nil {rf : Bool} (w0 w : World) : Mk rf w0 w [] := ⟨fun _ => rfl, [], rfl, List.nodup_nil, fun _ h => by cases h⟩
section
variable {P : Program} {Ty : TypeId → Option TyI} {Fn : FuncId → Bool} {E : World → World → Prop} {rf : Bool}
theorem Mk.trans (hE : EOk E) {w0 w1 w2 : World} {d1 d2 : List Deferred} (h0 : E w0 w1) (h12 : E w1 w2) (h1 : Mk rf w0 w1 d1) (h2 : Mk rf w1 w2 d2) : Mk rf w0 w2 (d2 ++ d1) := by
  obtain ⟨e1, D1, rfl, n1, p1⟩ := h1
  obtain ⟨e2, D2, rfl, n2, p2⟩ := h2
  refine ⟨fun h => (by rw [e1 h, e2 h]; rfl), D2 ++ D1, by simp, ?_, ?_⟩
  · rw [List.nodup_append]
    refine ⟨n2, n1, fun a ha b hb hab => ?_⟩
    subst hab
    have h1 := (p2 a ha).1
    have h2 := (Array.getElem?_eq_some_iff.1 (p1 a hb).2).1
    omega
  · intro D hD
    rcases List.mem_append.1 hD with h | h
    · exact ⟨Nat.le_trans (hE.size h0) (p2 D h).1, (p2 D h).2⟩
    · exact ⟨(p1 D h).1, hE.dfr h12 _ _ (p1 D h).2⟩
/- what holds where a code is left -/
def QN (rf : Bool) (E : World → World → Prop) (N : Nat) (ws : List Nat) (fr0 : Fr) (w0 : World) (ds : List Deferred) (n r : Fr → World → Prop) (x : Nat → Fr → World → Prop) : Exit → Act → World → Prop
  | .normal, a, w => ∃ fr ds', a = actOf N fr (ds' ++ ds) ∧ Fits N fr ∧ Agr ws fr0 fr ∧ E w0 w ∧ Mk rf w0 w ds' ∧ n fr w
  | .ret, a, w => ∃ fr ds', a = actOf N fr (ds' ++ ds) ∧ Fits N fr ∧ Agr ws fr0 fr ∧ E w0 w ∧ Mk rf w0 w ds' ∧ r fr w
  | .exit i, a, w => ∃ fr ds', a = actOf N fr (ds' ++ ds) ∧ Fits N fr ∧ Agr ws fr0 fr ∧ E w0 w ∧ Mk rf w0 w ds' ∧ x i fr w
  | _, _, _ => False
theorem QN.mono {N : Nat} {ws ws' : List Nat} {fr0 : Fr} {w0 : World} {ds : List Deferred} {n r n' r' : Fr → World → Prop} {x x' : Nat → Fr → World → Prop}
    (hs : ∀ t ∈ ws, t ∈ ws') (hn : ∀ fr w, Agr ws fr0 fr → E w0 w → n fr w → n' fr w) (hr : ∀ fr w, r fr w → r' fr w) (hx : ∀ i fr w, x i fr w → x' i fr w) {e : Exit} {a : Act} {w : World}
    (h : QN rf E N ws fr0 w0 ds n r x e a w) : QN rf E N ws' fr0 w0 ds n' r' x' e a w := by
  cases e <;> try exact h.elim
  all_goals (obtain ⟨fr, ds', h1, h2, h3, h4, h5, h6⟩ := h)
  · exact ⟨fr, ds', h1, h2, h3.mono hs, h4, h5, hn fr w h3 h4 h6⟩
  · exact ⟨fr, ds', h1, h2, h3.mono hs, h4, h5, hx _ fr w h6⟩
  · exact ⟨fr, ds', h1, h2, h3.mono hs, h4, h5, hr fr w h6⟩
/- from a later place on -/
theorem QN.later (hE : EOk E) {N : Nat} {ws ws' : List Nat} {fr0 fr1 : Fr} {w0 w1 : World} {ds d1 : List Deferred} {n r : Fr → World → Prop} {x : Nat → Fr → World → Prop}
    (hs : ∀ t ∈ ws', t ∈ ws) (ha : Agr ws fr0 fr1) (he : E w0 w1) (hm : Mk rf w0 w1 d1) {e : Exit} {a : Act} {w : World}
    (h : QN rf E N ws' fr1 w1 (d1 ++ ds) n r x e a w) : QN rf E N ws fr0 w0 ds n r x e a w := by
  cases e <;> try exact h.elim
  all_goals
    obtain ⟨fr, ds', h1, h2, h3, h4, h5, h6⟩ := h
    exact ⟨fr, ds' ++ d1, by rw [h1, List.append_assoc], h2, ha.trans (h3.mono hs), hE.trans he h4, Mk.trans hE he h4 hm h5, h6⟩

theorem app2_eq : ∀ l m, app2 l m = l ++ m
  | [], _ => rfl
  | x :: l, m => by simp [app2, app2_eq l m]
theorem wrs_seq (a b : Code) : wrs (.seq a b) = wrs a ++ wrs b := by simp [wrs, app2_eq]
theorem wrs_cond (c : Operand) (a b : Code) : wrs (.cond c a b) = wrs a ++ wrs b := by simp [wrs, app2_eq]

/- shapes -/
def typedC (c : Cs) (v : Value) : Prop := ∀ f : Value → Prop, c.all f → f v
theorem Cs.ap_cst {β : Type} (c : Cs) (b : β) (v : Value) : c.ap (c.cst b) v b = b := by
  cases c <;> cases v <;> simp only [Cs.ap, Cs.cst] <;> try rfl
  · rename_i k k' n; cases Nat.beq (kx k) (kx k') <;> rfl
  · rename_i fn first cap; cases fn <;> try rfl
    obtain ⟨first⟩ := first; obtain ⟨cap⟩ := cap; cases first <;> rfl
theorem Cs.ap_typed {β : Type} {c : Cs} {g : c.arr β} {v : Value} {d : β} (D : β → Prop) (hd : ¬ D d) (h : D (c.ap g v d)) : typedC c v := by
  intro f ha
  cases c <;> cases v <;> simp only [Cs.ap] at h <;> try exact absurd h hd
  case int.int k k' n =>
    cases hb : Nat.beq (kx k) (kx k') <;> rw [hb] at h
    · exact absurd h hd
    · rw [← kx_inj hb]; exact ha n
  case fn.func fn first cap =>
    cases fn <;> try exact absurd h hd
    obtain ⟨first⟩ := first
    obtain ⟨cap⟩ := cap
    cases first
    · exact ha _ _
    · exact absurd h hd
  all_goals (first | exact ha _ | exact ha _ _ _)
theorem apC_cst {β : Type} (d : β) : ∀ (l : List Cs) (vs : List Value), apC l (cstC l d) vs d = d
  | [], [] => rfl
  | [], _ :: _ => rfl
  | c :: l, [] => rfl
  | c :: l, v :: vs => by
    show apC l (c.ap (c.cst (cstC l d)) v (cstC l d)) vs d = d
    rw [Cs.ap_cst]; exact apC_cst d l vs
theorem apC_typed {β : Type} (d : β) (D : β → Prop) (hd : ¬ D d) : ∀ {l : List Cs} {g : arrC l β} {vs : List Value}, D (apC l g vs d) → ∀ f : List Value → Prop, allC l f → f vs
  | [], g, [], _ => fun f ha => ha
  | [], g, v :: vs, h => absurd h hd
  | c :: l, g, [], h => absurd h hd
  | c :: l, g, v :: vs, h => fun f ha => by
    have h1 : typedC c v := Cs.ap_typed (β := arrC l β) (g := g) (d := cstC l d) (fun k => D (apC l k vs d)) (by rw [apC_cst]; exact hd) h
    exact apC_typed d D hd (l := l) h (fun vs => f (v :: vs)) (h1 _ ha)
theorem S1.ap_cst {β : Type} (c : S1) (b : β) (v : Value) : c.ap (c.cst b) v b = b := by
  cases c with
  | one c => cases v <;> exact Cs.ap_cst c b _
  | agg l => cases v <;> first | exact apC_cst b l _ | rfl
theorem S1.ap_typed {β : Type} {c : S1} {g : c.arr β} {v : Value} {d : β} (D : β → Prop) (hd : ¬ D d) (h : D (c.ap g v d)) : ∀ f : Value → Prop, c.all f → f v := by
  cases c with
  | one c => exact Cs.ap_typed D hd (by cases v <;> exact h)
  | agg l =>
    cases v <;> try exact absurd h hd
    rename_i cs
    intro f ha
    obtain ⟨cs⟩ := cs
    exact apC_typed d D hd (l := l) h (fun vs => f (.agg ⟨vs⟩)) ha
theorem apS_cst {β : Type} (d : β) : ∀ (l : List S1) (vs : List Value), apS l (cstS l d) vs d = d
  | [], [] => rfl
  | [], _ :: _ => rfl
  | c :: l, [] => rfl
  | c :: l, v :: vs => by
    show apS l (c.ap (c.cst (cstS l d)) v (cstS l d)) vs d = d
    rw [S1.ap_cst]; exact apS_cst d l vs
theorem apS_typed {β : Type} (d : β) (D : β → Prop) (hd : ¬ D d) : ∀ {l : List S1} {g : arrS l β} {vs : List Value}, D (apS l g vs d) → ∀ f : List Value → Prop, allS l f → f vs
  | [], g, [], _ => fun f ha => ha
  | [], g, v :: vs, h => absurd h hd
  | c :: l, g, [], h => absurd h hd
  | c :: l, g, v :: vs, h => fun f ha => by
    have h1 := S1.ap_typed (β := arrS l β) (c := c) (g := g) (v := v) (d := cstS l d) (fun k => D (apS l k vs d)) (by rw [apS_cst]; exact hd) h
    exact apS_typed d D hd (l := l) h (fun vs => f (v :: vs)) (h1 _ ha)
/- the state at a joint, of the frame as it comes -/
theorem get_havoc {N : Nat} {d : Nat → Value} (t : Nat) (ht : t < N) : ∀ (ws : List Nat) (fr : Fr), (∀ s, getS fr s = d s ∨ s ∉ ws) ∨ True → getS (havoc N d ws fr) t = if t ∈ ws then d t else getS fr t
  | [], fr, _ => by simp [havoc]
  | s :: ws, fr, _ => by
    rw [havoc, get_havoc t ht ws _ (.inr trivial)]
    by_cases h : t ∈ ws
    · simp [h]
    · rw [if_neg h, get_put]
      by_cases hs : s = t
      · subst hs; simp [ht]
      · have hs' : t ≠ s := fun e => hs e.symm
        simp [hs, hs', h]
theorem get_updS {N : Nat} (t : Nat) (ht : t < N) (fr2 : Fr) : ∀ (lv : List (Nat × S1)) (fr : Fr), getS (updS N fr lv (selS fr2 lv)) t = if t ∈ lv.map (·.1) then getS fr2 t else getS fr t
  | [], fr => by simp [updS, selS]
  | (s, c) :: lv, fr => by
    rw [selS, updS, get_updS t ht fr2 lv]
    by_cases h : t ∈ lv.map (·.1)
    · have : t ∈ ((s, c) :: lv).map (·.1) := by simp only [List.map_cons, List.mem_cons]; exact .inr h
      rw [if_pos h, if_pos this]
    · rw [if_neg h, get_put]
      by_cases hs : s = t
      · subst hs; simp [ht]
      · have hs' : t ≠ s := fun e => hs e.symm
        have : t ∉ ((s, c) :: lv).map (·.1) := by simp only [List.map_cons, List.mem_cons]; rintro (h1 | h1); exact hs' h1; exact h h1
        rw [if_neg this, if_neg (fun e : s = t ∧ s < N => hs e.1)]
theorem fits_havoc {N : Nat} {d : Nat → Value} : ∀ (ws : List Nat) {fr : Fr}, Fits N fr → Fits N (havoc N d ws fr)
  | [], _, h => h
  | s :: ws, _, h => fits_havoc ws (put_fits h _ _)
theorem fits_updS {N : Nat} : ∀ (lv : List (Nat × S1)) (vs : List Value) {fr : Fr}, Fits N fr → Fits N (updS N fr lv vs)
  | [], _, _, h => h
  | (s, c) :: lv, [], _, h => h
  | (s, c) :: lv, v :: vs, _, h => fits_updS lv vs (put_fits h _ _)
theorem act_join {N : Nat} {ws : List Nat} {fr fr2 : Fr} (lv : List (Nat × S1)) (ds : List Deferred) (ha : Agr ws fr fr2) :
    actOf N (updS N (havoc N (getS fr2) ws fr) lv (selS fr2 lv)) ds = actOf N fr2 ds := by
  refine actOf_congr ds fun t ht => ?_
  rw [get_updS t ht]
  split
  · rfl
  · rw [get_havoc t ht ws fr (.inr trivial)]
    split
    · rfl
    · rename_i h; exact (ha t h).symm
theorem agr_join {N : Nat} {ws : List Nat} {fr : Fr} {d : Nat → Value} (lv : List (Nat × S1)) (vs : List Value) (hs : ∀ s ∈ lv.map (·.1), s ∈ ws) (hf : Fits N fr) : Agr ws fr (updS N (havoc N d ws fr) lv vs) := by
  intro t ht
  by_cases hN : t < N
  · have h1 : ∀ (lv : List (Nat × S1)) (vs : List Value) (fr : Fr), (∀ s ∈ lv.map (·.1), s ∈ ws) → getS (updS N fr lv vs) t = getS fr t := by
      intro lv
      induction lv with
      | nil => intros; rfl
      | cons x lv ih =>
        obtain ⟨s, c⟩ := x
        intro vs fr hs
        cases vs with
        | nil => rfl
        | cons v vs =>
          rw [updS, ih vs _ (fun s hs' => hs s (by simp only [List.map_cons, List.mem_cons]; exact .inr hs')), get_put, if_neg]
          rintro ⟨rfl, _⟩
          exact ht (hs s (by simp))
    rw [h1 lv vs _ hs, get_havoc t hN ws fr (.inr trivial), if_neg ht]
  · rw [fits_updS lv vs (fits_havoc ws hf) t (Nat.le_of_not_lt hN), hf t (Nat.le_of_not_lt hN)]
end
end Go.V
