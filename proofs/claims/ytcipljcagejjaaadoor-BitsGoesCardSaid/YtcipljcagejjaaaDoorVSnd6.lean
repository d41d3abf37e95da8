/- From operations to the machine's regions. -/
import Derived.Test.YtcipljcagejjaaaDoorVSnd5
set_option linter.unusedVariables false
namespace Go.V
def wf (r : Option Nat) : Fence := { fn := fun _ => True, depth := none, alive := false, round := r }
theorem wf_none : wf none = Fence.wide := rfl
def Agr (ws : List Nat) (fr fr' : Fr) : Prop := ∀ t, t ∉ ws → getS fr' t = getS fr t
theorem Agr.refl (ws : List Nat) (fr : Fr) : Agr ws fr fr := fun _ _ => rfl
theorem Agr.mono {ws ws' : List Nat} {a b : Fr} (h : Agr ws a b) (hs : ∀ x ∈ ws, x ∈ ws') : Agr ws' a b := fun t ht => h t fun hx => ht (hs t hx)
theorem Agr.trans {ws : List Nat} {a b c : Fr} (h : Agr ws a b) (k : Agr ws b c) : Agr ws a c := fun t ht => (k t ht).trans (h t ht)
theorem Agr.put {ws : List Nat} {N : Nat} {a b : Fr} (h : Agr ws a b) {d : Option Tmp} (v : Value) (hd : ∀ x, d = some x → x ∈ ws) : Agr ws a (V.put N b d v) := by
  intro t ht
  cases d with
  | none => exact h t ht
  | some x => rw [get_put, if_neg (fun (e : x = t ∧ x < N) => ht (e.1 ▸ hd x rfl))]; exact h t ht

section
variable {P : Program} {Ty : TypeId → Option TyI} {Fn : FuncId → Bool} {E : World → World → Prop}
theorem semAt_eq {r : Option Nat} {ρ : Operand → Value} {o : Oper} (h : ∀ c, o.op ≠ .defer c) : o.semAt r ρ = execOp ρ o := by
  cases r with
  | none => rfl
  | some l => exact Oper.semAt_some l ρ o h
theorem sop_noDefer {o : Oper} {ρ : Operand → Value} {w : World} {K : Value → World → Prop} (h : SOp P E o ρ w K) : ∀ c, o.op ≠ .defer c := by
  intro c hc
  unfold SOp at h
  simp only [execOp, hc, Sem.run_bind] at h
  cases hr : (resolve ρ c o.type).run P w with
  | ok d w' => rw [hr] at h; simp at h
  | halt x w' => rw [hr] at h; simp at h
theorem sop_wpIn {r : Option Nat} {n : Nat} {o : Oper} {a : Act} {w : World} {next : Act → World → Prop} {Q : Exit → Act → World → Prop} (h : SOp P E o a.eval w fun v w' => next (a.put o.dst v) w') : o.wpIn (wf r) n P a w next Q := by
  refine ⟨fun _ _ => trivial, ?_⟩
  have he : o.semAt (wf r).round a.eval = execOp a.eval o := semAt_eq (sop_noDefer h)
  rw [he]
  unfold SOp at h
  split at h
  · rename_i v w' hr; rw [hr]; exact h.2
  · rename_i w' hr; rw [hr]; exact h.2
  · rename_i f args w' hr
    rw [hr]
    refine ⟨fun h => (by cases h), ?_⟩
    have hc : CallsIn Fence.wide (n - 1) P f args w' fun e w'' => ∃ v, e = .returned v ∧ E w' w'' ∧ next (a.put o.dst v) w'' := callsIn_wide.2 h.2
    exact CallsIn.mono (F := wf r) hc fun e w'' ⟨v, he, _, hk⟩ => by subst he; exact hk
  · rename_i l f tmps assign body w' hr
    rw [hr]
    refine ⟨fun h => (by cases h), trivial, fun c cs _ => ?_⟩
    obtain ⟨e, w'', ⟨v, rfl, _, hk⟩, hs⟩ := h.2.2 c cs (room_wide _)
    exact ⟨.returned v, w'', hk, hs⟩
  · exact h.elim
/- the test ahead of a guarded operation -/
def wantB (all : List Oper) (fr : Fr) (o : Oper) : Bool :=
  match o.guard with
  | none => true
  | some (j, t) => match dstAt all j with
    | some d => (match getS fr d with | .bool b => bsame b t | _ => false)
    | none => false
theorem wantK_iff {all : List Oper} {fr : Fr} {o : Oper} {yes no : Prop} : wantK all fr o yes no ↔ (if wantB all fr o = true then yes else no) := by
  unfold wantK wantB
  cases o.guard with
  | none => simp
  | some g =>
    obtain ⟨j, t⟩ := g
    cases hd : dstAt all j with
    | none => simp [hd]
    | some d =>
      cases hv : getS fr d with
      | bool b => simp only [hd, hv]; cases bsame b t <;> simp
      | _ => simp [hd, hv]
theorem nthO_eq : ∀ (l : List Oper) (n : Nat), nthO l n = l[n]?
  | [], n => by simp [nthO]
  | o :: l, 0 => by simp [nthO]
  | o :: l, n + 1 => by simp [nthO, nthO_eq l n]
theorem bsame_eq (a b : Bool) : bsame a b = (a == b) := by cases a <;> cases b <;> rfl
theorem wanted_eq {N : Nat} {fr : Fr} (hf : Fits N fr) (ds : List Deferred) (all : List Oper) (o : Oper) : Region.wanted o (yielded ⟨all⟩ (actOf N fr ds).tmps) = wantB all fr o := by
  unfold Region.wanted wantB
  cases hg : o.guard with
  | none => rfl
  | some g =>
    obtain ⟨j, t⟩ := g
    have hd : dstAt all j = ((⟨all⟩ : Array Oper)[j]?).bind (·.dst) := by
      unfold dstAt; rw [nthO_eq]; simp only [List.getElem?_toArray]; cases all[j]? <;> rfl
    simp only [yielded, ← hd]
    cases hdj : dstAt all j with
    | none => rfl
    | some d =>
      simp only [Option.bind_some]
      have hget : (actOf N fr ds).tmps[d]? = if d < N then some (getS fr d) else none := by
        simp only [actOf, List.getElem?_toArray, List.getElem?_map]
        by_cases h : d < N
        · simp [h]
        · simp [h]
      rw [hget]
      by_cases h : d < N
      · rw [if_pos h]
        cases hv : getS fr d <;> simp [bsame_eq]
      · rw [if_neg h, hf d (Nat.le_of_not_lt h)]
        rfl
theorem splitG_elim {g : Bool} {v : Value} {k : Value → Prop} (h : splitG g v k) : k v := by
  unfold splitG at h
  split at h
  · exact bspl_elim h
  · exact h
theorem ops_sound (hT : TyOk P Ty) (hF : FnOk P Fn) (hE : EOk E) {N : Nat} {r : Option Nat} {n : Nat} {all : List Oper} {ds : List Deferred} {K : Fr → World → Prop} {Q : Exit → Act → World → Prop} :
    ∀ (l : List Oper) (i : Nat) (fr : Fr) (w : World), denOps P Ty Fn E N all i l fr w K → Fits N fr →
      (∀ fr' w', Fits N fr' → Agr (dstsOf l) fr fr' → E w w' → K fr' w' → Q .normal (actOf N fr' ds) w') → wpListIn (wf r) n P ⟨all⟩ Q l (actOf N fr ds) w
  | [], i, fr, w, h, hf, hQ => hQ fr w hf (Agr.refl _ _) (hE.ofEv _ _ (Ev.refl w)) h
  | o :: l, i, fr, w, h, hf, hQ => by
    have sub : ∀ x, o.dst = some x → x ∈ dstsOf (o :: l) := fun x hx => by simp [dstsOf, hx]
    have subl : ∀ x ∈ dstsOf l, x ∈ dstsOf (o :: l) := fun x hx => by
      unfold dstsOf; cases o.dst <;> simp [hx]
    have next : ∀ v w', E w w' → denOps P Ty Fn E N all (i + 1) l (put N fr o.dst v) w' K → wpListIn (wf r) n P ⟨all⟩ Q l ((actOf N fr ds).put o.dst v) w' := fun v w' hew hd => by
      rw [put_act]
      exact ops_sound hT hF hE l (i + 1) _ w' hd (put_fits hf _ _) fun fr' w'' h1 h2 h3 h4 =>
        hQ fr' w'' h1 (((Agr.refl _ fr).put v sub).trans (h2.mono subl)) (hE.trans hew h3) h4
    simp only [denOps] at h
    rw [wantK_iff] at h
    simp only [wpListIn, wanted_eq hf]
    by_cases hw : wantB all fr o = true
    · rw [if_pos hw] at h ⊢
      have hs := op_sound hT hF hE.ofEv h
      refine sop_wpIn (E := E) ?_
      rw [ev_act' N fr ds hf]
      exact hs.mono (fun v w' hew hk => next v w' hew (splitG_elim hk)) hE.trans
    · rw [if_neg hw] at h ⊢
      exact ⟨fun _ _ => trivial, next undef w (hE.ofEv _ _ (Ev.refl w)) h⟩
end
end Go.V
