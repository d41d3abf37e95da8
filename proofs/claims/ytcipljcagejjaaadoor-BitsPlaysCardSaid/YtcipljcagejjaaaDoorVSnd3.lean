/- What the rules say of operations that read is so of the machine: all of them. -/
import Derived.Test.YtcipljcagejjaaaDoorVSnd2
set_option linter.unusedVariables false
namespace Go.V
section
variable {P : Program} {Ty : TypeId → Option TyI}

theorem cellsOf_eq (v : Value) : cellsOf v = v.cells.toList := by cases v <;> rfl
theorem fold_set : ∀ (vs : List Value) (off k : Nat) (cs : List Value),
    (vs.zipIdx k).foldl (fun (a : Array Value) (x : Value × Nat) => a.setIfInBounds (off + x.2) x.1) ⟨cs⟩ = ⟨setMany cs (off + k) vs⟩
  | [], _, _, _ => rfl
  | v :: vs, off, k, cs => by
    simp only [List.zipIdx_cons, List.foldl_cons]
    have := fold_set vs off (k + 1) (setS cs (off + k) v)
    rw [← Nat.add_assoc] at this
    rw [setMany, ← this]
    congr 1
    rw [setS_eq]; simp
theorem fill_eq {pl : Nat → Option (Nat × Nat)} : ∀ (ps : List (Nat × Value)) (cs out : List Value), fillL pl cs ps = some out → Instr.fill pl ⟨cs⟩ ps = some ⟨out⟩
  | [], cs, out, h => by simp [fillL] at h; subst h; rfl
  | (i, v) :: ps, cs, out, h => by
    unfold fillL at h
    unfold Instr.fill
    cases hp : pl i with
    | none => rw [hp] at h; simp at h
    | some os =>
      obtain ⟨off, size⟩ := os
      rw [hp] at h
      simp only [Bool.cond_eq_ite] at h
      split at h
      · rename_i hc
        simp only [Bool.and_eq_true] at hc
        have h1 := lenIs_eq _ _ hc.1
        have h2 := geL_eq _ _ hc.2
        rw [cellsOf_eq] at h1
        have h1' : v.cells.size = size := by simpa using h1
        have h2' : off + v.cells.size ≤ cs.length := by omega
        have ih := fill_eq ps _ out h
        simp only [h1', ne_eq, not_true_eq_false, List.size_toArray, decide_false, Bool.false_or]
        rw [if_neg (by simp; omega)]
        rw [← ih]
        congr 1
        have := fold_set v.cells.toList off 0 cs
        rw [cellsOf_eq, show off = off + 0 from rfl, ← this]
        rw [← Array.foldl_toList]
        simp [Array.toList_zipIdx]
      · cases h
theorem pairs_eq (fr : Fr) : ∀ l, pairs fr l = l.map fun (i, x) => (i, ev fr x)
  | [] => rfl
  | (i, x) :: l => by simp [pairs, pairs_eq fr l]
theorem optK_elim {o : Option (List Value)} {k : List Value → Prop} (h : optK o k) : ∃ l, o = some l ∧ k l := by
  unfold optK at h; split at h
  · exact ⟨_, rfl, h⟩
  · exact h.elim
theorem nn_elim {a : Option Addr} {k : Addr → Prop} (h : nn a k) : ∃ x, a = some x ∧ k x := by
  unfold nn at h; split at h
  · exact ⟨_, rfl, h⟩
  · exact h.elim
theorem parts_eq (fr : Fr) (ps : Array (Nat × Operand)) : (ps.map fun (i, x) => (i, ev fr x)).toList = pairs fr ps.toList := by
  rw [pairs_eq]; simp
theorem run_listM {α β : Type} (f : α → Sem β) (g : α → β) (w : World) : ∀ (l : List α), (∀ x ∈ l, (f x).run P w = .ok (g x) w) → (l.mapM f).run P w = .ok (l.map g) w
  | [], _ => by simp
  | x :: l, h => by
    simp only [List.mapM_cons, Sem.run_bind, h x (by simp), Result.andThen_ok, run_listM f g w l (fun y hy => h y (by simp [hy])), Sem.run_pure, List.map_cons]
theorem run_arrM {α β : Type} (f : α → Sem β) (g : α → β) (w : World) (a : Array α) (h : ∀ x ∈ a.toList, (f x).run P w = .ok (g x) w) : (a.mapM f).run P w = .ok (a.map g) w := by
  rw [Array.mapM_eq_mapM_toList]
  simp only [Sem.run_map, run_listM f g w a.toList h, Result.andThen_ok]
  congr 1
  apply Array.ext'
  simp
theorem run_places (fs : Array Go.Field) (w : World) (hsz : ∀ f ∈ fs.toList, ∃ i, P.info? f.type = some i) :
    (fs.mapM fun f => do pure (f.offset, ← sizeOf f.type) : Sem (Array (Nat × Nat))).run P w = .ok (fs.map fun f => (f.offset, P.cellsOf f.type)) w := by
  refine run_arrM _ _ w fs fun f hf => ?_
  obtain ⟨i, hi⟩ := hsz f hf
  simp [run_size hi, Program.cellsOf, hi]
theorem fldsOk_info {fs : Array Go.Field} (h : fldsOk P (.struct fs) = true) : ∀ f ∈ fs.toList, ∃ i, P.info? f.type = some i := by
  intro f hf
  simp only [fldsOk, List.all_eq_true] at h
  have := h f hf
  simp only [Bool.and_eq_true] at this
  exact Option.isSome_iff_exists.1 this.1
theorem fldsOk_und {fs : Array Go.Field} (h : fldsOk P (.struct fs) = true) : ∀ f ∈ fs.toList, ∃ i, P.underlying f.type = some i := by
  intro f hf
  simp only [fldsOk, List.all_eq_true] at h
  have := h f hf
  simp only [Bool.and_eq_true] at this
  exact Option.isSome_iff_exists.1 this.2
theorem fill_congr {p q : Nat → Option (Nat × Nat)} (h : ∀ i, p i = q i) : ∀ (ps : List (Nat × Value)) (cs : List Value), fillL p cs ps = fillL q cs ps := by
  have : p = q := funext h
  subst this; intros; rfl
theorem fldPlace_eq (fs : Array Go.Field) (i : Nat) : fldPlace (fldsOf P (.struct fs)) i = (fs.map fun f => (f.offset, P.cellsOf f.type))[i]? := by
  simp only [fldPlace, fldsOf, List.getElem?_map, Array.getElem?_map, Array.getElem?_toList]
  cases fs[i]? <;> rfl
theorem bnd_elim {fr : Fr} {x : Option Operand} {k : Option Int → Prop} (h : bnd fr x k) : (x = none ∧ k none) ∨ ∃ y kk n, x = some y ∧ ev fr y = .int kk n ∧ k (some n) := by
  unfold bnd at h
  split at h
  · exact .inl ⟨rfl, h⟩
  · split at h
    · rename_i y _ kk n hv; exact .inr ⟨y, kk, n, rfl, hv, h⟩
    · exact h.elim
theorem run_bound {k : IntKind} {n : Int} {y : Nat} {c : BoundsCode} {w : World} (h : 0 ≤ n ∧ n ≤ y) : (Instr.sliceBound (.int k n) y c).run P w = .ok n.toNat w := by
  simp [Instr.sliceBound, asIntOf, h]
end
end Go.V
