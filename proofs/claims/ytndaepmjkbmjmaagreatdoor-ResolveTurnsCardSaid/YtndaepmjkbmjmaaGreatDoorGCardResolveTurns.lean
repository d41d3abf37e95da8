/- Of every grammar, production and terminal: with the sides turned, what was to be reduced at one level is to be shifted there; nothing else changes. -/
import Derived.Test.YtndaepmjkbmjmaaGreatDoorG7
set_option linter.unusedVariables false
set_option linter.unusedSectionVars false
set_option maxRecDepth 100000
set_option maxHeartbeats 16000000
namespace Go.Proofs.YtndaepmjkbmjmaaGreatDoor.fnResolveTurns
open Go.V Go.RowKit Go.WideShapes Go.ChangeShapes Go.ChangeAt
theorem contract (H:Type) (enc:TypeId × Value→H) (W:World) (base:Nat) (args:Array Value) (ds gs:List (DataW H)) (before:List MemPlace)
    (hval:∀ (j:Nat) t v,Tryz.f12.params[j]? = some t→args[j]? = some v→Value.okWide Tryz.prog W .any base t v)
    (hW:DataW.Whole enc Tryz.prog Tryz.f12.params.toList Rows.resolveTurnsSpec.vars false W args.toList ds gs before)
    {ts:List TypeId} (hz:(DataW.weightsEach Tryz.prog (Tryz.f12.params.toList ++ ts) (ds ++ gs)).all (·≤reachBytes) = true) (hL:laidMetH Tryz.prog Rows.resolveTurnsRow.laid W) :
    Calls Tryz.prog 12 args W fun e W'=>∃ v,e = .returned v∧Rows.resolveTurnsSpec.post enc Tryz.prog Tryz.f12 false true false false W args v W':=by
  have hW':=hW
  obtain ⟨p,q,hA,hV,rfl,hfz,hnd⟩:=hW
  have hA:DataW.TrodAll enc Tryz.prog W 0 (fun _=>true) true Tryz.f12.params.toList args.toList ds p:=hA
  have hp:=Tryz.params12
  rw [hp] at hA hval hz
  obtain ⟨v0,vs0,d0,ds0,p0,q0,hargs,rfl,rfl,h0,r0⟩:=trodAll_cons hA
  obtain ⟨v1,vs1,d1,ds1,p1,q1,rfl,rfl,rfl,h1,r1⟩:=trodAll_cons r0
  obtain ⟨v2,vs2,d2,ds2,p2,q2,rfl,rfl,rfl,h2,r2⟩:=trodAll_cons r1
  obtain ⟨rfl,rfl,rfl⟩:=trodAll_nil r2
  obtain rfl:args = #[v0,v1,v2]:=by cases args; simp_all
  obtain ⟨x0,cs0,rfl,hr0,hb0⟩:=lB J_ Tryz.underlying27 (hval 0 27 _ rfl rfl) h0 (ct hz 0 27 d0 rfl rfl)
  obtain ⟨x1,rfl,hx1⟩:=J8 Tryz.underlying3 (hval 1 3 _ rfl rfl) h1
  obtain ⟨x2,rfl,hx2⟩:=J8 Tryz.underlying3 (hval 2 3 _ rfl rfl) h2
  obtain ⟨xA,rfl,hgr⟩:=hr0
  refine Calls.mono (Ba hgr hb0.1 hb0.2.1 hb0.2.2 (tables hL)) ?_
  rintro e W' ⟨v,rfl,hE,rfl,hG⟩
  exact ⟨_,rfl,wh rfl (by kernel_rfl) Tryz.underlying4 (by obtain ⟨rfl,rfl⟩:=trodVars_none hV; rfl) J9 (by kernel_rfl) hW' hE hG⟩
theorem laid_met (os:Os):laidMet Tryz.prog Rows.resolveTurnsRow.laid ((c_ os).forCall (fun _ _=>0) ⟨#[],#[.agg #[.slice none 0 0,.slice none 0 0,.slice none 0 0,.int .i64 0,.slice none 0 0],.int .i64 0,.int .i64 0],[]⟩).memory :=
  laidMet_of_run' 8 (by kernel_rfl) (by kernel_rfl)
theorem reads (os:Os) {H:Type} (enc:TypeId × Value→H):∃ places,DataW.whole enc Tryz.prog ((c_ os).forCall (fun _ _=>0) ⟨#[],#[.agg #[.slice none 0 0,.slice none 0 0,.slice none 0 0,.int .i64 0,.slice none 0 0],.int .i64 0,.int .i64 0],[]⟩).memory Tryz.f12.params.toList Rows.resolveTurnsSpec.vars false (#[.agg #[.slice none 0 0,.slice none 0 0,.slice none 0 0,.int .i64 0,.slice none 0 0],.int .i64 0,.int .i64 0] : Array Value).toList 8 = some ([.agg [.nil,.nil,.nil,.lit (.int .i64 0),.nil],.lit (.int .i64 0),.lit (.int .i64 0)],[],places) :=
  ⟨[],by kernel_rfl⟩
theorem lifted (os:Os) (started:os.Started) (H:Type) (enc:TypeId × Value→H) (F:Stop.Interp) :
    ReturnsInHanded {} Tryz.checked os 12 .any ((OpenSpec.ofChange Rows.resolveTurnsSpec).preRow enc Tryz.prog Tryz.f12 Rows.resolveTurnsRow.domain false Rows.resolveTurnsRow.laid) (((OpenSpec.ofChange Rows.resolveTurnsSpec).at F).post enc Tryz.prog Tryz.f12 false true false false):=by
  obtain ⟨places,hx⟩:=reads os enc
  refine returnsInHanded_of_row (C:=Tryz.checked) (s:=OpenSpec.ofChange Rows.resolveTurnsSpec) Qw started (by kernel_rfl) Tryz.func12
    (witness_row_at (enc:=enc) (C:=Tryz.checked) false (c_ os) #[.agg #[.slice none 0 0,.slice none 0 0,.slice none 0 0,.int .i64 0,.slice none 0 0],.int .i64 0,.int .i64 0] rfl (by kernel_rfl) (by kernel_rfl) (by kernel_rfl)
      (OpenSpec.preRow_of_cond 8 hx (by kernel_rfl) (fun k hk=>by cases hk) (by kernel_rfl) (laid_met os))) ?_
  intro W base args ds gs before hval hW _ hcond hz hL _ _
  exact contract H enc W base args ds gs before hval hW hz hL
theorem said:Rows.ResolveTurnsSaid :=
  OpenClaim.holds_of_cond 12 Tryz.f12 rfl rfl rfl rfl rfl rfl rfl ⟨rfl,rfl,rfl,rfl,rfl⟩ rfl rfl rfl rfl rfl (by kernel_rfl) Tryz.func12 (by unfold joinedFacts; rw [rZ,wi,wj]; kernel_rfl)
    (of_decide_eq_true (by kernel_rfl)) (by unfold Func.isWrapper; first | (rw [if_pos (by decide +kernel)]; kernel_rfl) | (rw [if_neg (by decide +kernel)]; exact ⟨rfl,rfl⟩))
    (fun os started H enc _ F=>by rw [OpenClaim.pre_eq_preRow]; exact lifted os started H enc F)
theorem plain (f : FuncId) (fn : Func) (hf : Tryz.pinned.checked.prog.funcNamed "presage/presagelaw15.ResolveTurns" = some f) (hfn : Tryz.pinned.checked.prog.funcs[f]? = some fn) :
    false = Tryz.pinned.checked.prog.looks []∧∀ (j:Nat) t,fn.params[j]? = some t→Tryz.pinned.checked.prog.wantsStandIn t = false:=by
  obtain rfl : f = 12 := Option.some.inj ((show Tryz.prog.funcNamed "presage/presagelaw15.ResolveTurns" = some 12 by kernel_rfl).symm.trans hf) |>.symm
  obtain rfl:fn = Tryz.f12:=(Option.some.inj (Tryz.func12.symm.trans hfn)).symm
  refine ⟨by kernel_rfl,fun j t ht=>?_⟩
  rw [Tryz.params12] at ht
  have hm:=Array.mem_of_getElem? ht
  simp only [List.mem_toArray,List.mem_cons,List.not_mem_nil,or_false] at hm
  rcases hm with rfl | rfl | rfl
  · exact (show Tryz.prog.wantsStandIn 27 = false by kernel_rfl)
  · exact (show Tryz.prog.wantsStandIn 3 = false by kernel_rfl)
  · exact (show Tryz.prog.wantsStandIn 3 = false by kernel_rfl)
theorem card:Rows.ResolveTurnsCardSaid :=
  Claim7.holds_tied_plain_at .later [] _ _ _ _ said (fun _ h=>by cases h) (by kernel_rfl) (fun _ h=>by cases h) resolveTurns_row_tie rfl ⟨rfl,rfl⟩ (by kernel_rfl) rfl plain (by kernel_rfl)
end Go.Proofs.YtndaepmjkbmjmaaGreatDoor.fnResolveTurns
