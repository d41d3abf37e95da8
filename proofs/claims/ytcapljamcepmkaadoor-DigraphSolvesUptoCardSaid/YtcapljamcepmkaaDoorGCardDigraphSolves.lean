/- Of every relation and all that its nodes have: what is solved is the document's, each list by itself; what came in stays: as far as memory holds. -/
import Derived.Test.YtcapljamcepmkaaDoorG3
set_option linter.unusedVariables false
namespace Go.Proofs.YtcapljamcepmkaaDoor.fnDigraphSolves
open Go.V Go.RowKit Go.WideShapes Go.ChangeShapes Go.ChangeAt
set_option maxRecDepth 100000 in
theorem contract (H : Type) (enc : TypeId × Value → H) (W : World) (base : Nat) (args : Array Value) (ds gs : List (DataW H)) (before : List MemPlace)
    (hval : ∀ (j : Nat) t v, Tryd.f6.params[j]? = some t → args[j]? = some v → Value.okWide Tryd.prog W .any base t v)
    (hW : DataW.Whole enc Tryd.prog Tryd.f6.params.toList Rows.digraphSolvesSpec.vars false W args.toList ds gs before)
    {ts : List TypeId} (hz : (DataW.weightsEach Tryd.prog (Tryd.f6.params.toList ++ ts) (ds ++ gs)).all (· ≤ reachBytes) = true) (hk : Rows.uptoSmall H (ds ++ gs) = true) (hL : laidMetH Tryd.prog Rows.digraphSolvesUptoRow.laid W) :
    Calls Tryd.prog 6 args W fun e W' => ∃ v, e = .returned v ∧ Rows.digraphSolvesSpec.post enc Tryd.prog Tryd.f6 false true false false W args v W' := by
  have hW' := hW
  obtain ⟨p, q, hA, hV, rfl, hfz, hnd⟩ := hW
  have hA : DataW.TrodAll enc Tryd.prog W 0 (fun _ => true) true Tryd.f6.params.toList args.toList ds p := hA
  have hp := Tryd.params6
  rw [hp] at hA hval hz
  obtain ⟨v0, vs0, d0, ds0, p0, q0, hargs, rfl, rfl, h0, r0⟩ := trodAll_cons hA
  obtain ⟨v1, vs1, d1, ds1, p1, q1, rfl, rfl, rfl, h1, r1⟩ := trodAll_cons r0
  obtain ⟨v2, vs2, d2, ds2, p2, q2, rfl, rfl, rfl, h2, r2⟩ := trodAll_cons r1
  obtain ⟨rfl, rfl, rfl⟩ := trodAll_nil r2
  obtain rfl : args = #[v0, v1, v2] := by cases args; simp_all
  obtain ⟨x0, a0, l0, c0, rfl, hlc0, hr0, hb0⟩ := arg_slice oLists Tryd.underlying28 (hval 0 28 _ rfl rfl) h0 (weightsEach_get hz 0 28 d0 rfl rfl)
  obtain ⟨x1, a1, l1, c1, rfl, hlc1, hr1, hb1⟩ := arg_slice oLists Tryd.underlying28 (hval 1 28 _ rfl rfl) h1 (weightsEach_get hz 1 28 d1 rfl rfl)
  obtain ⟨x2, rfl, hx2⟩ := arg_int Tryd.underlying3 (hval 2 3 _ rfl rfl) h2
  have hlen0 := hb0.1
  rw [hr0.1] at hlen0
  unfold reachBytes at hlen0
  have hlen1 := hb1.1
  rw [hr1.1] at hlen1
  unfold reachBytes at hlen1
  have hk1 := of_decide_eq_true hk
  simp only [List.cons_append, List.nil_append, Rows.uptoBulkAll] at hk1
  obtain ⟨n0, ht0⟩ := h0
  have hm0 := lists_bulk ht0 hr0
  simp only at hm0
  have hrw0 : ∀ x ∈ x0, x.length * 8 ≤ 140737488355328 := fun x hx => by have := (hb0.2 x hx).1; unfold reachBytes at this; omega
  have hrw1 : ∀ x ∈ x1, x.length * 8 ≤ 140737488355328 := fun x hx => by have := (hb1.2 x hx).1; unfold reachBytes at this; omega
  refine Calls.mono (l_DigraphSolves hr0 hr1 (by omega) (by omega) (by omega) hrw0 hrw1 hx2 (table hL)) ?_
  rintro e W' ⟨v, rfl, hE, rfl, hG⟩
  exact ⟨_, rfl, law_post rfl (by kernel_rfl) Tryd.underlying4 (by obtain ⟨rfl, rfl⟩ := trodVars_none hV; rfl) laidO (by kernel_rfl) hW' hE hG⟩
theorem laid_met (os : Os) : laidMet Tryd.prog Rows.digraphSolvesUptoRow.laid ((laidWorld os).forCall (fun _ _ => 0) ⟨#[], #[.slice none 0 0, .slice none 0 0, .int .i64 0], []⟩).memory :=
  laidMet_of_run' 8 (by kernel_rfl) (by kernel_rfl)
theorem reads (os : Os) {H : Type} (enc : TypeId × Value → H) : ∃ places, DataW.whole enc Tryd.prog ((laidWorld os).forCall (fun _ _ => 0) ⟨#[], #[.slice none 0 0, .slice none 0 0, .int .i64 0], []⟩).memory Tryd.f6.params.toList Rows.digraphSolvesSpec.vars false (#[.slice none 0 0, .slice none 0 0, .int .i64 0] : Array Value).toList 8 = some ([.nil, .nil, .lit (.int .i64 0)], [], places) :=
  ⟨[], by kernel_rfl⟩
set_option maxRecDepth 100000 in
theorem lifted (os : Os) (started : os.Started) (H : Type) (enc : TypeId × Value → H) (F : Stop.Interp) :
    ReturnsInHanded {} Tryd.checked os 6 .any ((Rows.OpenSpec.upto Rows.digraphSolvesSpec).preRow enc Tryd.prog Tryd.f6 Rows.digraphSolvesUptoRow.domain false Rows.digraphSolvesUptoRow.laid) (((Rows.OpenSpec.upto Rows.digraphSolvesSpec).at F).post enc Tryd.prog Tryd.f6 false true false false) := by
  obtain ⟨places, hx⟩ := reads os enc
  refine returnsInHanded_of_row (C := Tryd.checked) (s := Rows.OpenSpec.upto Rows.digraphSolvesSpec) ownK started (by kernel_rfl) Tryd.func6
    (witness_row_at (enc := enc) (C := Tryd.checked) false (laidWorld os) #[.slice none 0 0, .slice none 0 0, .int .i64 0] rfl (by kernel_rfl) (by kernel_rfl) (by kernel_rfl)
      (OpenSpec.preRow_of_cond 8 hx (by kernel_rfl) (fun k hk => by cases hk; kernel_rfl) (by kernel_rfl) (laid_met os))) ?_
  intro W base args ds gs before hval hW _ hcond hz hL _ _
  exact contract H enc W base args ds gs before hval hW hz (hcond _ rfl) hL
theorem said : Rows.DigraphSolvesUptoSaid :=
  OpenClaim.holds_of_cond 6 Tryd.f6 rfl rfl rfl rfl rfl rfl rfl ⟨rfl, rfl, rfl, rfl, rfl⟩ rfl rfl rfl rfl rfl (by kernel_rfl) Tryd.func6 (by kernel_rfl)
    (of_decide_eq_true (by kernel_rfl)) (by unfold Func.isWrapper; first | (rw [if_pos (by decide +kernel)]; kernel_rfl) | (rw [if_neg (by decide +kernel)]; exact ⟨rfl, rfl⟩))
    (fun os started H enc _ F => by rw [OpenClaim.pre_eq_preRow]; exact lifted os started H enc F)
theorem plain (f : FuncId) (fn : Func) (hf : Tryd.pinned.checked.prog.funcNamed "presage/presagelaw12.DigraphSolves" = some f) (hfn : Tryd.pinned.checked.prog.funcs[f]? = some fn) :
    false = Tryd.pinned.checked.prog.looks [] ∧ ∀ (j : Nat) t, fn.params[j]? = some t → Tryd.pinned.checked.prog.wantsStandIn t = false := by
  obtain rfl : f = 6 := Option.some.inj ((show Tryd.prog.funcNamed "presage/presagelaw12.DigraphSolves" = some 6 by kernel_rfl).symm.trans hf) |>.symm
  obtain rfl : fn = Tryd.f6 := (Option.some.inj (Tryd.func6.symm.trans hfn)).symm
  refine ⟨by kernel_rfl, fun j t ht => ?_⟩
  rw [Tryd.params6] at ht
  have hm := Array.mem_of_getElem? ht
  simp only [List.mem_toArray, List.mem_cons, List.not_mem_nil, or_false] at hm
  rcases hm with rfl | rfl | rfl
  · exact (show Tryd.prog.wantsStandIn 28 = false by kernel_rfl)
  · exact (show Tryd.prog.wantsStandIn 28 = false by kernel_rfl)
  · exact (show Tryd.prog.wantsStandIn 3 = false by kernel_rfl)
theorem card : Rows.DigraphSolvesUptoCardSaid :=
  Claim7.holds_tied_plain_at .later [] _ _ _ _ said (fun _ h => by cases h) (by kernel_rfl) (fun _ h => by cases h) digraphSolvesUpto_row_tie rfl ⟨rfl, rfl⟩ (by kernel_rfl) rfl plain (by kernel_rfl)
end Go.Proofs.YtcapljamcepmkaaDoor.fnDigraphSolves
