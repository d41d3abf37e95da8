/- Regions whose order is drawn. -/
import Derived.Test.YtcipljcagejjaaaDoorVSnd6
set_option linter.unusedVariables false
namespace Go.V
def ar (ls : List Bool) : Array Bool := ⟨ls⟩
theorem bget_eq : ∀ (ls : List Bool) (i : Nat), bget ls i = (ar ls).getD i true
  | [], i => by simp [bget, ar]
  | b :: l, 0 => by simp [bget, ar]
  | b :: l, n + 1 => by
    have := bget_eq l n
    simp only [bget, this, ar]
    by_cases h : n < l.length <;> simp [h]
theorem bgetF_eq : ∀ (ls : List Bool) (i : Nat), bgetF ls i = (ar ls).getD i false
  | [], i => by simp [bgetF, ar]
  | b :: l, 0 => by simp [bgetF, ar]
  | b :: l, n + 1 => by
    have := bgetF_eq l n
    simp only [bgetF, this, ar]
    by_cases h : n < l.length <;> simp [h]
theorem bset_eq' : ∀ (ls : List Bool) (i : Nat), bset ls i = ls.set i true
  | [], i => by simp [bset]
  | b :: l, 0 => by simp [bset]
  | b :: l, n + 1 => by simp [bset, bset_eq' l n]
theorem bset_eq (ls : List Bool) (i : Nat) : ar (bset ls i) = (ar ls).setIfInBounds i true := by
  rw [bset_eq']; apply Array.ext'; simp [ar]
theorem bset_comm (ls : List Bool) (i j : Nat) : bset (bset ls i) j = bset (bset ls j) i := by
  simp only [bset_eq']
  by_cases h : i = j
  · subst h; rfl
  · exact List.set_comm _ _ h
theorem depsOk_iff {ls : List Bool} : ∀ {es : List Edge}, depsOk ls es = true ↔ ∀ e ∈ es, Region.binds .any e = true → (ar ls).getD e.on false = true
  | [] => by simp [depsOk]
  | e :: l => by
    have ih := depsOk_iff (ls := ls) (es := l)
    simp only [depsOk, Bool.and_eq_true, ih, List.mem_cons, forall_eq_or_imp]
    cases hg : e.ground <;> simp [Region.binds, hg, bgetF_eq]
theorem waits_iff {i : Nat} : ∀ {es : List Edge}, waits i es = true ↔ ∃ e ∈ es, Region.binds .any e = true ∧ e.on = i
  | [] => by simp [waits]
  | e :: l => by
    have ih := waits_iff (i := i) (es := l)
    simp only [waits, Bool.or_eq_true, ih, List.mem_cons, exists_eq_or_imp]
    cases hg : e.ground <;> simp [Region.binds, hg]
theorem rdy_iff {ls : List Bool} {i : Nat} {o : Oper} : rdy ls i o = true ↔ (ar ls).getD i true = false ∧ ∀ e ∈ o.after, Region.binds .any e = true → (ar ls).getD e.on false = true := by
  unfold rdy
  rw [Bool.and_eq_true, depsOk_iff, bget_eq]
  simp
theorem mem_rdyAll {ls : List Bool} : ∀ {l : List Oper} {i : Nat} {x : Nat × Oper}, x ∈ rdyAll ls i l ↔ ∃ k, x.1 = i + k ∧ l[k]? = some x.2 ∧ rdy ls x.1 x.2 = true
  | [], i, x => by simp [rdyAll]
  | o :: l, i, x => by
    have ih := mem_rdyAll (ls := ls) (l := l) (i := i + 1) (x := x)
    have : x ∈ rdyAll ls i (o :: l) ↔ (x = (i, o) ∧ rdy ls i o = true) ∨ x ∈ rdyAll ls (i + 1) l := by
      simp only [rdyAll]
      cases h : rdy ls i o <;> simp
    rw [this, ih]
    constructor
    · rintro (⟨rfl, h⟩ | ⟨k, h1, h2, h3⟩)
      · exact ⟨0, rfl, rfl, h⟩
      · exact ⟨k + 1, by omega, by simpa using h2, h3⟩
    · rintro ⟨k, h1, h2, h3⟩
      cases k with
      | zero => exact .inl ⟨by obtain ⟨a, b⟩ := x; simp at h1 h2; simp [h1, h2], by obtain ⟨a, b⟩ := x; simp at h1 h2; subst h1; subst h2; exact h3⟩
      | succ k => exact .inr ⟨k, by omega, by simpa using h2, h3⟩
theorem mem_rdy0 {ls : List Bool} {l : List Oper} {x : Nat × Oper} : x ∈ rdyAll ls 0 l ↔ l[x.1]? = some x.2 ∧ rdy ls x.1 x.2 = true := by
  rw [mem_rdyAll]
  constructor
  · rintro ⟨k, h1, h2, h3⟩; rw [Nat.zero_add] at h1; rw [h1]; exact ⟨h2, h1 ▸ h3⟩
  · rintro ⟨h1, h2⟩; exact ⟨x.1, by omega, h1, h2⟩
theorem mem_ready_iff {ls : List Bool} {l : List Oper} {j : Nat} : j ∈ Region.ready .any ⟨l⟩ (ar ls) ↔ ∃ o, (j, o) ∈ rdyAll ls 0 l := by
  rw [mem_ready]
  constructor
  · rintro ⟨h0, o, ho, hd⟩
    exact ⟨o, mem_rdy0.2 ⟨by simpa using ho, rdy_iff.2 ⟨h0, hd⟩⟩⟩
  · rintro ⟨o, h⟩
    obtain ⟨h1, h2⟩ := mem_rdy0.1 h
    obtain ⟨h3, h4⟩ := rdy_iff.1 h2
    exact ⟨h3, o, by simpa using h1, h4⟩
theorem rdy_mono {ls : List Bool} {i j : Nat} {o : Oper} (h : rdy ls j o = true) (hne : j ≠ i) : rdy (bset ls i) j o = true := by
  rw [rdy_iff] at *
  rw [bset_eq]
  exact ⟨by rw [getD_set_ne true (Ne.symm hne)]; exact h.1, fun e he hb => getD_set_true (h.2 e he hb)⟩
theorem appO_eq : ∀ l m, appO l m = l ++ m
  | [], _ => rfl
  | x :: l, m => by simp [appO, appO_eq l m]
theorem sndL_eq : ∀ l, sndL l = l.map (·.2)
  | [] => rfl
  | (a, x) :: l => by simp [sndL, sndL_eq l]
theorem opnds_eq (o : Op) : ∀ x, x ∈ opnds o ↔ x ∈ o.operands := by
  intro x
  cases o <;> simp only [opnds, Op.operands] <;> try (simp; done)
  case build t ps => simp [sndL_eq]
  case buildSlice t n ps => simp [sndL_eq]
  case makeFunc fn a b => simp [appO_eq]
  case slice t y l h m => cases l <;> cases h <;> cases m <;> simp [optL]
  case call c =>
    obtain ⟨callee, args, tys⟩ := c
    cases callee <;> simp [Call.operands]
theorem mem_tmpsL {t : Nat} : ∀ {l : List Operand} {m : List Nat}, t ∈ tmpsL l m ↔ Operand.tmp t ∈ l ∨ t ∈ m
  | [], m => by simp [tmpsL]
  | x :: l, m => by
    have ih := mem_tmpsL (t := t) (l := l) (m := m)
    cases x <;> simp [tmpsL, ih, or_assoc]
theorem memN_iff {x : Nat} : ∀ {l : List Nat}, memN x l = true ↔ x ∈ l
  | [] => by simp [memN]
  | y :: l => by simp [memN, memN_iff (l := l)]
theorem apart_iff {all : List Oper} {x y : Oper} (h : apartB all x y = true) :
    (∀ d, x.dst = some d → d ∉ looks all y) ∧ (∀ d, x.dst = some d → y.dst ≠ some d) ∧ (∀ d, y.dst = some d → d ∉ looks all x) := by
  simp only [apartB, Bool.and_eq_true] at h
  obtain ⟨⟨h1, h2⟩, h3⟩ := h
  refine ⟨fun d hd => ?_, fun d hd hy => ?_, fun d hd => ?_⟩
  · rw [hd] at h1; simp only [dstNot, Bool.not_eq_true'] at h1
    intro hm; rw [memN_iff.2 hm] at h1; cases h1
  · rw [hd, hy] at h2; simp [dstNe] at h2
  · rw [hd] at h3; simp only [dstNot, Bool.not_eq_true'] at h3
    intro hm; rw [memN_iff.2 hm] at h3; cases h3
theorem freeB_iff {all : List Oper} {ls : List Bool} {i : Nat} {o : Oper} : ∀ {l : List Oper} {j : Nat}, freeB all ls i o j l = true → ∀ k p, l[k]? = some p → j + k ≠ i → (ar ls).getD (j + k) true = false → waits i p.after.toList = false → apartB all o p = true
  | [], j, h, k, p, hk, _, _, _ => by simp at hk
  | q :: l, j, h, k, p, hk, hne, hb, hw => by
    simp only [freeB, Bool.and_eq_true, Bool.or_eq_true, Nat.beq_eq] at h
    cases k with
    | zero =>
      simp only [List.getElem?_cons_zero, Option.some.injEq] at hk
      subst hk
      rw [Nat.add_zero] at hne hb
      rw [bget_eq] at h
      rcases h.1 with ((h1 | h1) | h1) | h1
      · exact absurd h1 hne
      · rw [hb] at h1; cases h1
      · rw [hw] at h1; cases h1
      · exact h1
    | succ k =>
      exact freeB_iff h.2 k p (by simpa using hk) (by omega) (by rw [show j + 1 + k = j + (k + 1) by omega]; exact hb) hw
def ext (a b : Fr) : Prop := ∀ t, getS a t = getS b t
theorem ext_put {N : Nat} {a b : Fr} (h : ext a b) (d : Option Tmp) (v : Value) : ext (put N a d v) (put N b d v) := by
  intro t
  cases d with
  | none => exact h t
  | some d => rw [get_put, get_put, h t]
theorem put_comm {N : Nat} {a : Fr} {x y : Option Tmp} {v u : Value} (h : ∀ d, x = some d → y ≠ some d) : ext (put N (put N a x v) y u) (put N (put N a y u) x v) := by
  intro t
  cases x with
  | none => rfl
  | some d =>
    cases y with
    | none => rfl
    | some e =>
      have hne : d ≠ e := fun he => h d rfl (by rw [he])
      simp only [get_put]
      by_cases h1 : e = t
      · subst h1
        simp [hne]
      · rw [if_neg (show ¬ (e = t ∧ e < N) from fun h => h1 h.1)]
        by_cases h2 : d = t ∧ d < N
        · rw [if_pos h2, if_pos h2]
        · rw [if_neg h2, if_neg h2, if_neg (show ¬ (e = t ∧ e < N) from fun h => h1 h.1)]
theorem ev_ext {a b : Fr} (h : ext a b) : ev a = ev b := by
  funext x; cases x <;> simp [ev, h _]
theorem wantB_ext {all : List Oper} {a b : Fr} (h : ext a b) (o : Oper) : wantB all a o = wantB all b o := by
  unfold wantB; simp only [h _]
theorem looks_opnd {all : List Oper} {o : Oper} {t : Nat} (h : Operand.tmp t ∈ o.op.operands) : t ∈ looks all o :=
  mem_tmpsL.2 (.inl ((opnds_eq o.op _).2 h))
theorem exec_put {all : List Oper} {N : Nat} {fr : Fr} {o : Oper} (hs : ∀ cs b, o.op ≠ .select cs b) {d : Option Tmp} {v : Value} (h : ∀ x, d = some x → x ∉ looks all o) : execOp (ev (put N fr d v)) o = execOp (ev fr) o := by
  refine execOp_congr o hs fun x hx => ?_
  cases x with
  | tmp t =>
    cases d with
    | none => rfl
    | some e =>
      simp only [ev, get_put]
      rw [if_neg]
      rintro ⟨rfl, _⟩
      exact h e rfl (looks_opnd hx)
  | _ => rfl
theorem want_put {all : List Oper} {N : Nat} {fr : Fr} {o : Oper} {d : Option Tmp} {v : Value} (h : ∀ x, d = some x → x ∉ looks all o) : wantB all (put N fr d v) o = wantB all fr o := by
  cases d with
  | none => rfl
  | some e =>
    unfold wantB
    cases hg : o.guard with
    | none => rfl
    | some g =>
      obtain ⟨j, t⟩ := g
      dsimp only
      cases hd : dstAt all j with
      | none => rfl
      | some d =>
        have hm : d ∈ looks all o := by unfold looks; rw [hg]; simp only [hd]; exact mem_tmpsL.2 (.inr (by simp))
        simp only [get_put]
        rw [if_neg]
        rintro ⟨rfl, _⟩
        exact h e rfl hm
section
variable {P : Program} {Ty : TypeId → Option TyI} {Fn : FuncId → Bool} {E : World → World → Prop} {N : Nat} {C : World → Prop} {all : List Oper} {Kend : Fr → World → Prop}
theorem sop_exec {o : Oper} {ρ ρ' : Operand → Value} {w : World} {K : Value → World → Prop} (he : execOp ρ o = execOp ρ' o) (h : SOp P E o ρ w K) : SOp P E o ρ' w K := by
  unfold SOp at *; rw [← he]; exact h
def anyD (P : Program) (Ty : TypeId → Option TyI) (E : World → World → Prop) (N : Nat) (C : World → Prop) (all : List Oper) (Kend : Fr → World → Prop) : Nat → List Bool → Fr → World → Prop
  | 0, ls, fr, w => rdyAll ls 0 all = [] ∧ Kend fr w
  | n + 1, ls, fr, w => (rdyAll ls 0 all = [] → Kend fr w) ∧ ∀ x ∈ rdyAll ls 0 all,
      if wantB all fr x.2 = true then SOp P E x.2 (ev fr) w fun v w' => cC (needC Ty all x.2.after.toList) (C w') (anyD P Ty E N C all Kend n (bset ls x.1) (put N fr x.2.dst v) w')
      else anyD P Ty E N C all Kend n (bset ls x.1) (put N fr x.2.dst undef) w
theorem cC_mono {b : Bool} {p q r : Prop} (h : cC b p q) (hq : q → r) : cC b p r := by
  cases b
  · exact hq h
  · exact ⟨h.1, hq h.2⟩
theorem anyD_ext (hE : EOk E) (hK : ∀ a b w, ext a b → Kend a w → Kend b w) : ∀ (n : Nat) (ls : List Bool) (a b : Fr) (w : World), ext a b → anyD P Ty E N C all Kend n ls a w → anyD P Ty E N C all Kend n ls b w
  | 0, ls, a, b, w, he, h => ⟨h.1, hK a b w he h.2⟩
  | n + 1, ls, a, b, w, he, h => by
    refine ⟨fun h0 => hK a b w he (h.1 h0), fun x hx => ?_⟩
    have := h.2 x hx
    rw [wantB_ext he] at this
    split
    · rename_i hw
      rw [if_pos hw] at this
      rw [← ev_ext he]
      exact this.mono (fun v w' _ hk => cC_mono hk fun hk => anyD_ext hE hK n _ _ _ w' (ext_put he _ _) hk) hE.trans
    · rename_i hw
      rw [if_neg hw] at this
      exact anyD_ext hE hK n _ _ _ w (ext_put he _ _) this
/- what is listed: with each operation all that it waits for -/
def Cl (all : List Oper) (ls : List Bool) : Prop := ∀ j o, all[j]? = some o → (ar ls).getD j false = true → ∀ e ∈ o.after, Region.binds .any e = true → (ar ls).getD e.on false = true
theorem mem_depsL {i : Nat} : ∀ {es : List Edge} {m : List Nat}, i ∈ depsL es m ↔ (∃ e ∈ es, Region.binds .any e = true ∧ e.on = i) ∨ i ∈ m
  | [], m => by simp [depsL]
  | e :: l, m => by
    have ih := mem_depsL (i := i) (es := l) (m := m)
    have e1 : (∃ x ∈ e :: l, Region.binds .any x = true ∧ x.on = i) ↔ (Region.binds .any e = true ∧ e.on = i) ∨ ∃ x ∈ l, Region.binds .any x = true ∧ x.on = i := by
      simp only [List.mem_cons, exists_eq_or_imp]
    rw [e1, or_assoc, ← ih]
    have hb : Region.binds .any e = (match e.ground with | .textOnly _ | .gcOnly _ => false | _ => true) := by
      cases hg : e.ground <;> simp [Region.binds, hg]
    rw [hb]
    conv => lhs; unfold depsL
    cases hg : e.ground <;> simp [eq_comm]
theorem clo_listed {ls : List Bool} (hcl : Cl all ls) : ∀ (n : Nat) (todo done : List Nat), (∀ j ∈ todo, (ar ls).getD j false = true) → (∀ j ∈ done, (ar ls).getD j false = true) → ∀ j ∈ clo all n todo done, (ar ls).getD j false = true
  | 0, _, done, _, h2, j, hj => h2 j hj
  | n + 1, [], done, _, h2, j, hj => h2 j hj
  | n + 1, k :: todo, done, h1, h2, j, hj => by
    unfold clo at hj
    have hk := h1 k (by simp)
    split at hj
    · exact clo_listed hcl n todo done (fun j hj => h1 j (by simp [hj])) h2 j hj
    · refine clo_listed hcl n _ _ (fun j hj => ?_) (fun j hj => ?_) j hj
      · split at hj
        · rename_i o ho
          rw [nthO_eq] at ho
          rcases mem_depsL.1 hj with ⟨e, he, hb, rfl⟩ | hj
          · exact hcl k o ho hk e (by simpa using he) hb
          · exact h1 j (by simp [hj])
        · exact h1 j (by simp [hj])
      · rcases List.mem_cons.1 hj with rfl | hj
        · exact hk
        · exact h2 j hj
theorem needL_false {cl : List Nat} : ∀ {l : List Oper} {j : Nat}, needL Ty cl j l = false → ∀ k o, l[k]? = some o → isStill Ty o = true → j + k ∈ cl
  | [], j, _, k, o, hk, _ => by simp at hk
  | q :: l, j, h, k, o, hk, hs => by
    simp only [needL, Bool.or_eq_false_iff, Bool.and_eq_false_iff, Bool.not_eq_false'] at h
    cases k with
    | zero =>
      simp only [List.getElem?_cons_zero, Option.some.injEq] at hk
      subst hk
      rcases h.1 with h1 | h1
      · rw [hs] at h1; cases h1
      · exact memN_iff.1 h1
    | succ k => have := needL_false h.2 k o (by simpa using hk) hs; rwa [show j + 1 + k = j + (k + 1) by omega] at this
theorem needC_false {ls : List Bool} {i : Nat} {oi : Oper} (hcl : Cl all ls) (hr : rdy ls i oi = true) (h : needC Ty all oi.after.toList = false) (k : Nat) (o : Oper) (hk : all[k]? = some o) (hs : isStill Ty o = true) : (ar ls).getD k false = true := by
  have h1 := needL_false h k o hk hs
  rw [Nat.zero_add] at h1
  refine clo_listed hcl _ _ _ (fun j hj => ?_) (fun j hj => by cases hj) k h1
  rcases mem_depsL.1 hj with ⟨e, he, hb, rfl⟩ | hj
  · exact (rdy_iff.1 hr).2 e (by simpa using he) hb
  · cases hj
theorem Cl.set {ls : List Bool} {i : Nat} {oi : Oper} (hcl : Cl all ls) (hi : all[i]? = some oi) (hr : rdy ls i oi = true) : Cl all (bset ls i) := by
  intro j o hj hl e he hb
  rw [bset_eq] at hl ⊢
  by_cases hji : i = j
  · subst hji
    rw [hi] at hj; cases hj
    exact getD_set_true ((rdy_iff.1 hr).2 e he hb)
  · rw [getD_set_ne false hji] at hl
    exact getD_set_true (hcl j o hj hl e he hb)
theorem not_waits {ls : List Bool} {i j : Nat} {oj : Oper} (hi : (ar ls).getD i true = false) (hj : rdy ls j oj = true) : waits i oj.after.toList = false := by
  cases hw : waits i oj.after.toList with
  | false => rfl
  | true =>
    obtain ⟨e, he, hb, rfl⟩ := waits_iff.1 hw
    have h1 := (rdy_iff.1 hj).2 e (by simpa using he) hb
    rcases Nat.lt_or_ge e.on (ar ls).size with h' | h'
    · simp [h'] at h1 hi; rw [hi] at h1; cases h1
    · simp [Array.getElem?_eq_none h'] at h1
theorem anyD_first (hE : EOk E) (hK : ∀ a b w, ext a b → Kend a w → Kend b w) (hsel : ∀ (k : Nat) (o : Oper) cs b, all[k]? = some o → o.op ≠ .select cs b)
    {i : Nat} {oi : Oper} {v : Value} (hi : all[i]? = some oi) (hst : isStill Ty oi = true) : ∀ (n : Nat) (ls : List Bool) (fr : Fr) (w : World), Cl all ls →
      (∀ j oj, all[j]? = some oj → j ≠ i → (ar ls).getD j true = false → waits i oj.after.toList = false → apartB all oi oj = true) →
      rdy ls i oi = true → ((wantB all fr oi = true ∧ ∀ w, C w → (execOp (ev fr) oi).run P w = .ok (.value v) w) ∨ (wantB all fr oi = false ∧ v = undef)) → C w →
      anyD P Ty E N C all Kend n (bset ls i) (put N fr oi.dst v) w → anyD P Ty E N C all Kend (n + 1) ls fr w := by
  have same : ∀ (n : Nat) (ls : List Bool) (fr : Fr) (w : World), ((wantB all fr oi = true ∧ ∀ w, C w → (execOp (ev fr) oi).run P w = .ok (.value v) w) ∨ (wantB all fr oi = false ∧ v = undef)) → C w →
      anyD P Ty E N C all Kend n (bset ls i) (put N fr oi.dst v) w →
      (if wantB all fr oi = true then SOp P E oi (ev fr) w fun v w' => cC (needC Ty all oi.after.toList) (C w') (anyD P Ty E N C all Kend n (bset ls i) (put N fr oi.dst v) w')
        else anyD P Ty E N C all Kend n (bset ls i) (put N fr oi.dst undef) w) := by
    intro n ls fr w hy hC H
    rcases hy with ⟨hw, hv⟩ | ⟨hw, rfl⟩
    · rw [if_pos hw]
      refine sop_value (hv w hC) (hE.ofEv _ _ (Ev.refl w)) ?_
      cases needC Ty all oi.after.toList
      · exact H
      · exact ⟨hC, H⟩
    · rw [hw]; exact H
  intro n
  induction n with
  | zero =>
    intro ls fr w hcl hfree hr hy hC H
    have hmem : (i, oi) ∈ rdyAll ls 0 all := mem_rdy0.2 ⟨hi, hr⟩
    refine ⟨fun h => (by rw [h] at hmem; cases hmem), fun x hx => ?_⟩
    obtain ⟨hx1, hx2⟩ := mem_rdy0.1 hx
    by_cases hji : x.1 = i
    · have : x.2 = oi := by rw [hji, hi] at hx1; exact (Option.some.inj hx1).symm
      rw [this, hji]; exact same 0 ls fr w hy hC H
    · have : x ∈ rdyAll (bset ls i) 0 all := mem_rdy0.2 ⟨hx1, rdy_mono hx2 hji⟩
      rw [H.1] at this; cases this
  | succ n ih =>
    intro ls fr w hcl hfree hr hy hC H
    have hmem : (i, oi) ∈ rdyAll ls 0 all := mem_rdy0.2 ⟨hi, hr⟩
    refine ⟨fun h => (by rw [h] at hmem; cases hmem), fun x hx => ?_⟩
    obtain ⟨hx1, hx2⟩ := mem_rdy0.1 hx
    by_cases hji : x.1 = i
    · have : x.2 = oi := by rw [hji, hi] at hx1; exact (Option.some.inj hx1).symm
      rw [this, hji]; exact same (n + 1) ls fr w hy hC H
    · have h1 := H.2 x (mem_rdy0.2 ⟨hx1, rdy_mono hx2 hji⟩)
      have hun : (ar ls).getD i true = false := (rdy_iff.1 hr).1
      have hnw := not_waits hun hx2
      have hap := hfree x.1 x.2 hx1 hji (rdy_iff.1 hx2).1 hnw
      obtain ⟨a1, a2, a3⟩ := apart_iff hap
      have hneed : needC Ty all x.2.after.toList = true := by
        cases hn : needC Ty all x.2.after.toList with
        | true => rfl
        | false =>
          have h' := needC_false hcl hx2 hn i oi hi hst
          rcases Nat.lt_or_ge i (ar ls).size with h'' | h''
          · simp [h''] at h' hun; rw [hun] at h'; cases h'
          · simp [Array.getElem?_eq_none h''] at h'
      have keep : ∀ u, ((wantB all (put N fr x.2.dst u) oi = true ∧ ∀ w, C w → (execOp (ev (put N fr x.2.dst u)) oi).run P w = .ok (.value v) w) ∨ (wantB all (put N fr x.2.dst u) oi = false ∧ v = undef)) := fun u => by
        rw [want_put a3, exec_put (all := all) (hsel i oi · · hi) a3]; exact hy
      have hfree' : ∀ j oj, all[j]? = some oj → j ≠ i → (ar (bset ls x.1)).getD j true = false → waits i oj.after.toList = false → apartB all oi oj = true := fun j oj h1 h2 h3 h4 => by
        refine hfree j oj h1 h2 ?_ h4
        rw [bset_eq] at h3
        by_cases hjx : x.1 = j
        · subst hjx; exact (rdy_iff.1 hx2).1
        · rw [getD_set_ne true hjx] at h3; exact h3
      have go : ∀ u w', C w' → anyD P Ty E N C all Kend n (bset (bset ls i) x.1) (put N (put N fr oi.dst v) x.2.dst u) w' → anyD P Ty E N C all Kend (n + 1) (bset ls x.1) (put N fr x.2.dst u) w' := fun u w' hC' hA => by
        refine ih (bset ls x.1) (put N fr x.2.dst u) w' (hcl.set hx1 hx2) hfree' (rdy_mono hr (Ne.symm hji)) (keep u) hC' ?_
        rw [bset_comm]
        exact anyD_ext hE hK n _ _ _ w' (put_comm a2) hA
      rw [want_put a1] at h1
      split
      · rename_i hw
        rw [if_pos hw] at h1
        have h2 := sop_exec (exec_put (all := all) (hsel x.1 x.2 · · hx1) a1) h1
        refine h2.mono (fun u w' _ hk => ?_) hE.trans
        rw [hneed] at hk ⊢
        exact ⟨hk.1, go u w' hk.1 hk.2⟩
      · rename_i hw
        rw [if_neg hw] at h1
        exact go undef w hC h1
theorem firstStill_some {ls : List Bool} : ∀ {l : List Oper} {i : Nat} {x : Nat × Oper}, firstStill Ty ls i l = some x → ∃ k, x.1 = i + k ∧ l[k]? = some x.2 ∧ isStill Ty x.2 = true ∧ rdy ls x.1 x.2 = true
  | [], i, x, h => by simp [firstStill] at h
  | o :: l, i, x, h => by
    simp only [firstStill, Bool.cond_eq_ite] at h
    split at h
    · rename_i hc
      cases h
      simp only [Bool.and_eq_true] at hc
      exact ⟨0, rfl, rfl, hc.1, hc.2⟩
    · obtain ⟨k, h1, h2, h3⟩ := firstStill_some h
      exact ⟨k + 1, by omega, by simpa using h2, h3⟩
theorem andE_mem {f : Nat × Oper → Prop} : ∀ {l : List (Nat × Oper)}, andE l f → ∀ x ∈ l, f x
  | [], _, x, hx => by cases hx
  | [y], h, x, hx => by simp at hx; rw [hx]; exact h
  | y :: z :: l, h, x, hx => by
    obtain ⟨h1, h2⟩ := h
    rcases List.mem_cons.1 hx with rfl | hx
    · exact h1
    · exact andE_mem h2 x hx
theorem drawV_any (hT : TyOk P Ty) (hF : FnOk P Fn) (hE : EOk E) {K0 : Fr → World → Prop} (hsub : ∀ fr w, K0 fr w → Kend fr w) (hK : ∀ a b w, ext a b → Kend a w → Kend b w) (hsel : ∀ (k : Nat) (o : Oper) cs b, all[k]? = some o → o.op ≠ .select cs b) :
    ∀ (n : Nat) (ls : List Bool) (fr : Fr) (w : World), Cl all ls → (C w ∨ ∀ k o, all[k]? = some o → isStill Ty o = true → (ar ls).getD k true = true) → drawV P Ty Fn E N C all K0 n ls fr w → anyD P Ty E N C all Kend n ls fr w
  | 0, ls, fr, w, _, _, h => by
    unfold drawV at h
    split at h
    · rename_i h0; exact ⟨h0, hsub _ _ h⟩
    · exact h.elim
  | n + 1, ls, fr, w, hcl, hinv, h => by
    have listed : ∀ j, (C w ∨ ∀ k o, all[k]? = some o → isStill Ty o = true → (ar (bset ls j)).getD k true = true) := fun j => by
      rcases hinv with h | h
      · exact .inl h
      · refine .inr fun k o hk hs => ?_
        rw [bset_eq]
        by_cases hjk : j = k
        · subst hjk
          by_cases hlt : j < (ar ls).size
          · simp [hlt]
          · have : (ar ls).setIfInBounds j true = ar ls := by simp [Array.setIfInBounds, hlt]
            rw [this]; exact h j o hk hs
        · rw [getD_set_ne true hjk]; exact h k o hk hs
    unfold drawV at h
    split at h
    · rename_i i o hfs
      obtain ⟨k, hk1, hk2, hst, hr⟩ := firstStill_some hfs
      rw [Nat.zero_add] at hk1
      dsimp only at hk1 hk2 hst hr
      subst hk1
      obtain ⟨hfr, h⟩ := ifT_iff.1 h
      have hC : C w := hinv.resolve_right fun h => by
        have h1 := h i o hk2 hst
        have h2 := (rdy_iff.1 hr).1
        rw [h1] at h2; cases h2
      have hfree := fun j oj h1 h2 h3 h4 => freeB_iff hfr j oj h1 (by rw [Nat.zero_add]; exact h2) (by rw [Nat.zero_add]; exact h3) h4
      rw [wantK_iff] at h
      by_cases hw : wantB all fr o = true
      · rw [if_pos hw] at h
        obtain ⟨v, h1, h2⟩ := still_sound hT (C := C) (fun _ _ _ h => ldC_elim h) (fun _ _ h => h) h
        exact anyD_first hE hK hsel hk2 hst n ls fr w hcl hfree hr (.inl ⟨hw, h1⟩) hC (drawV_any hT hF hE hsub hK hsel n _ _ w (hcl.set hk2 hr) (.inl hC) (splitG_elim h2))
      · rw [if_neg hw] at h
        exact anyD_first hE hK hsel hk2 hst n ls fr w hcl hfree hr (.inr ⟨by simpa using hw, rfl⟩) hC (drawV_any hT hF hE hsub hK hsel n _ _ w (hcl.set hk2 hr) (.inl hC) h)
    · split at h
      · rename_i h0
        exact ⟨fun _ => hsub _ _ h, fun x hx => by rw [h0] at hx; cases hx⟩
      · rename_i es hne
        refine ⟨fun h0 => absurd h0 hne, fun x hx => ?_⟩
        have h1 := andE_mem h x hx
        rw [wantK_iff] at h1
        obtain ⟨hx1, hx2⟩ := mem_rdy0.1 hx
        split
        · rename_i hw
          rw [if_pos hw] at h1
          refine (eff_sound hT hF hE.ofEv h1).mono (fun v w' _ hk => ?_) hE.trans
          have hk := splitG_elim hk
          cases hn : needC Ty all x.2.after.toList with
          | true =>
            rw [hn] at hk
            exact ⟨hk.1, drawV_any hT hF hE hsub hK hsel n _ _ w' (hcl.set hx1 hx2) (.inl hk.1) hk.2⟩
          | false =>
            rw [hn] at hk
            refine drawV_any hT hF hE hsub hK hsel n _ _ w' (hcl.set hx1 hx2) (.inr fun k o hk' hs => ?_) hk
            have h2 := needC_false hcl hx2 hn k o hk' hs
            have h3 : (ar (bset ls x.1)).getD k false = true := by rw [bset_eq]; exact getD_set_true h2
            rcases Nat.lt_or_ge k (ar (bset ls x.1)).size with h' | h'
            · simp [h'] at h3 ⊢; exact h3
            · simp [Array.getElem?_eq_none h'] at h3
        · rename_i hw
          rw [if_neg hw] at h1
          exact drawV_any hT hF hE hsub hK hsel n _ _ w (hcl.set hx1 hx2) (listed _) h1
end
end Go.V
