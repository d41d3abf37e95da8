/- A function's code: its proposition gives its contract (2). -/
import Derived.Test.YtcipljcagejjaaaDoorVSnd8
set_option linter.unusedVariables false
namespace Go.V
section
variable {P : Program} {Ty : TypeId → Option TyI} {Fn : FuncId → Bool} {E : World → World → Prop} {N : Nat} {ro : Option Nat} {k : Nat}
theorem agr_join' {ws : List Nat} {fr fr2 : Fr} (lv : List (Nat × S1)) (hf : Fits N fr) (ha : Agr ws fr fr2) : Agr ws fr (updS N (havoc N (getS fr2) ws fr) lv (selS fr2 lv)) := by
  intro t ht
  by_cases hN : t < N
  · rw [get_updS t hN]
    split
    · exact ha t ht
    · rw [get_havoc t hN ws fr (.inr trivial), if_neg ht]
  · rw [fits_updS lv _ (fits_havoc ws hf) t (Nat.le_of_not_lt hN), hf t (Nat.le_of_not_lt hN)]
theorem any_wpAny (hE : EOk E) {C : World → Prop} {all : List Oper} {Kend : Fr → World → Prop} {ds : List Deferred} {Q : Exit → Act → World → Prop} :
    ∀ (n : Nat) (ls : List Bool) (fr : Fr) (w : World), anyD P Ty E N C all Kend n ls fr w → Fits N fr →
      (∀ fr' w', Fits N fr' → Agr (dstsOf all) fr fr' → E w w' → Kend fr' w' → Q .normal (actOf N fr' ds) w') → wpAnyIn (wf ro) k P .any ⟨all⟩ Q n (ar ls) (actOf N fr ds) w
  | 0, ls, fr, w, h, hf, hQ => by
    refine ⟨?_, hQ fr w hf (Agr.refl _ _) (hE.ofEv _ _ (Ev.refl w)) h.2⟩
    cases hr : Region.ready .any ⟨all⟩ (ar ls) with
    | nil => rfl
    | cons j l =>
      have : j ∈ Region.ready .any ⟨all⟩ (ar ls) := by rw [hr]; simp
      obtain ⟨o, ho⟩ := mem_ready_iff.1 this
      rw [h.1] at ho; cases ho
  | n + 1, ls, fr, w, h, hf, hQ => by
    refine ⟨fun h0 => ?_, fun j hj => ?_⟩
    · refine hQ fr w hf (Agr.refl _ _) (hE.ofEv _ _ (Ev.refl w)) (h.1 ?_)
      cases hr : rdyAll ls 0 all with
      | nil => rfl
      | cons x l =>
        have : x.1 ∈ Region.ready .any ⟨all⟩ (ar ls) := mem_ready_iff.2 ⟨x.2, by rw [hr]; simp⟩
        rw [h0] at this; cases this
    · obtain ⟨o, ho⟩ := mem_ready_iff.1 hj
      have hx := h.2 (j, o) ho
      obtain ⟨h1, h2⟩ := mem_rdy0.1 ho
      dsimp only at hx h1 h2
      have ho' : (⟨all⟩ : Array Oper)[j]? = some o := by simpa using h1
      unfold wpOpIn
      simp only [ho', wanted_eq hf]
      have sub : ∀ x, o.dst = some x → x ∈ dstsOf all := by
        intro x hx
        have : ∀ (l : List Oper) (j : Nat), l[j]? = some o → x ∈ dstsOf l := by
          intro l
          induction l with
          | nil => intro j h; simp at h
          | cons p l ih =>
            intro j h
            cases j with
            | zero => simp at h; subst h; simp [dstsOf, hx]
            | succ j => have := ih j (by simpa using h); unfold dstsOf; cases p.dst <;> simp [this]
        exact this all j h1
      have next : ∀ v w', E w w' → anyD P Ty E N C all Kend n (bset ls j) (put N fr o.dst v) w' → wpAnyIn (wf ro) k P .any ⟨all⟩ Q n ((ar ls).setIfInBounds j true) ((actOf N fr ds).put o.dst v) w' := fun v w' hew hd => by
        rw [put_act, ← bset_eq]
        exact any_wpAny hE n _ _ w' hd (put_fits hf _ _) fun fr' w'' h1 h2 h3 h4 => hQ fr' w'' h1 (((Agr.refl _ fr).put v sub).trans h2) (hE.trans hew h3) h4
      split
      · rename_i hw
        rw [if_pos hw] at hx
        refine sop_wpIn (E := E) ?_
        rw [ev_act' N fr ds hf]
        refine hx.mono (fun v w' hew hk => next v w' hew ?_) hE.trans
        cases hn : needC Ty all o.after.toList <;> rw [hn] at hk
        · exact hk
        · exact hk.2
      · rename_i hw
        rw [if_neg hw] at hx
        exact ⟨fun _ _ => trivial, next undef w (hE.ofEv _ _ (Ev.refl w)) hx⟩
theorem lenO_eq : ∀ l, regV.lenO l = l.length
  | [] => rfl
  | _ :: l => by simp [regV.lenO, lenO_eq l]
theorem allFs_eq : ∀ n, allFs n = List.replicate n false
  | 0 => rfl
  | n + 1 => by simp [allFs, allFs_eq n, List.replicate_succ]
theorem noSel_eq : ∀ {ops : List Oper}, noSel ops = true → ∀ (k : Nat) (o : Oper) cs b, ops[k]? = some o → o.op ≠ .select cs b
  | [], _, k, o, cs, b, hk => by simp at hk
  | p :: l, h, k, o, cs, b, hk => by
    simp only [noSel, Bool.and_eq_true] at h
    cases k with
    | zero => simp at hk; subst hk; intro he; rw [he] at h; cases h.1
    | succ k => exact noSel_eq h.2 k o cs b (by simpa using hk)
theorem rep_no (n j : Nat) : (ar (List.replicate n false)).getD j false = false := by
  by_cases h : j < n <;> simp [ar, h]
theorem reg_sound (hT : TyOk P Ty) (hF : FnOk P Fn) (hE : EOk E) (hm : P.follows .mixedOrders = true) {id : Nat} {ops : Array Oper} {draw : Bool} {fr : Fr} {w : World} {K : Fr → World → Prop} {ds : List Deferred} {Q : Exit → Act → World → Prop}
    (h : regV P Ty Fn E N ops.toList draw fr w K) (hf : Fits N fr)
    (hQ : ∀ fr' w', Fits N fr' → Agr (dstsOf ops.toList) fr fr' → E w w' → K fr' w' → Q .normal (actOf N fr' ds) w') : (Code.region id ops draw).wpIn (wf ro) k P Q (actOf N fr ds) w := by
  cases draw with
  | false =>
    refine wpIn_region_list ?_
    exact ops_sound hT hF hE ops.toList 0 fr w h hf hQ
  | true =>
    refine wpIn_region_any hm ?_
    obtain ⟨hns, h⟩ := ifT_iff.1 h
    obtain ⟨C, hC, hd⟩ := h _ rfl
    have hK : ∀ (a b : Fr) (w : World), ext a b → (∃ fr2, ext fr2 a ∧ K fr2 w) → ∃ fr2, ext fr2 b ∧ K fr2 w := fun a b w he ⟨f, h1, h2⟩ => ⟨f, fun t => (h1 t).trans (he t), h2⟩
    have := drawV_any hT hF hE (Kend := fun fr w => ∃ fr2, ext fr2 fr ∧ K fr2 w) (fun fr w h => ⟨fr, fun _ => rfl, h⟩) hK (noSel_eq hns) _ _ fr _ (fun j o _ hl => by rw [allFs_eq, rep_no] at hl; cases hl) (.inl hC) hd
    rw [lenO_eq, allFs_eq] at this
    have e : (Array.replicate ops.size false) = ar (List.replicate ops.toList.length false) := by apply Array.ext'; simp [ar]
    rw [e]
    have e2 : ops.size = ops.toList.length := by simp
    rw [e2]
    refine any_wpAny hE (ds := ds) (Q := Q) _ _ fr _ this hf fun fr' w' h1 h2 h3 ⟨fr2, h4, h5⟩ => ?_
    rw [actOf_congr ds (fr := fr') (fr' := fr2) fun t _ => (h4 t).symm]
    exact hQ fr2 w' (fun t ht => by rw [h4 t]; exact h1 t ht) (fun t ht => by rw [h4 t]; exact h2 t ht) (hE.trans (hE.ofEv _ _ (Ev.drew w _)) h3) h5
end
end Go.V
