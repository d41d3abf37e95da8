/- Of every grammar: the table, and what is open; twice. -/
import Derived.Test.YtndaepmjkbmjmaaGreatDoorG8
set_option linter.unusedVariables false
set_option linter.unusedSectionVars false
set_option maxRecDepth 100000
set_option maxHeartbeats 16000000
namespace Go.Proofs.YtndaepmjkbmjmaaGreatDoor.fnResolveSettles
open Go.V Go.RowKit Go.WideShapes Go.ChangeShapes Go.ChangeAt
theorem contract (H:Type) (enc:TypeId × Value→H) (W:World) (base:Nat) (args:Array Value) (ds gs:List (DataW H)) (before:List MemPlace)
    (hval:∀ (j:Nat) t v,Tryz.f10.params[j]? = some t→args[j]? = some v→Value.okWide Tryz.prog W .any base t v)
    (hW:DataW.Whole enc Tryz.prog Tryz.f10.params.toList Rows.resolveSettlesSpec.vars false W args.toList ds gs before)
    {ts:List TypeId} (hz:(DataW.weightsEach Tryz.prog (Tryz.f10.params.toList ++ ts) (ds ++ gs)).all (·≤reachBytes) = true) (hL:laidMetH Tryz.prog Rows.resolveSettlesRow.laid W) :
    Calls Tryz.prog 10 args W fun e W'=>∃ v,e = .returned v∧Rows.resolveSettlesSpec.post enc Tryz.prog Tryz.f10 false true false false W args v W':=by
  have hW':=hW
  obtain ⟨p,q,hA,hV,rfl,hfz,hnd⟩:=hW
  have hA:DataW.TrodAll enc Tryz.prog W 0 (fun _=>true) true Tryz.f10.params.toList args.toList ds p:=hA
  have hp:=Tryz.params10
  rw [hp] at hA hval hz
  obtain ⟨v0,vs0,d0,ds0,p0,q0,hargs,rfl,rfl,h0,r0⟩:=trodAll_cons hA
  obtain ⟨rfl,rfl,rfl⟩:=trodAll_nil r0
  obtain rfl:args = #[v0]:=by cases args; simp_all
  obtain ⟨x0,cs0,rfl,hr0,hb0⟩:=LZ XE Tryz.underlying27 (hval 0 27 _ rfl rfl) h0 (kW hz 0 27 d0 rfl rfl)
  obtain ⟨xA,rfl,hgr⟩:=hr0
  refine Calls.mono (Bd hgr hb0.1 hb0.2.1 hb0.2.2 (tables hL)) ?_
  rintro e W' ⟨v,rfl,hE,rfl,hG⟩
  exact ⟨_,rfl,R0 rfl (by kernel_rfl) Tryz.underlying4 (by obtain ⟨rfl,rfl⟩:=trodVars_none hV; rfl) Xz (by kernel_rfl) hW' hE hG⟩
theorem laid_met (os:Os):laidMet Tryz.prog Rows.resolveSettlesRow.laid ((Be os).forCall (fun _ _=>0) ⟨#[],#[.agg #[.slice none 0 0,.slice none 0 0,.slice none 0 0,.int .i64 0,.slice none 0 0]],[]⟩).memory :=
  laidMet_of_run' 8 (by kernel_rfl) (by kernel_rfl)
theorem reads (os:Os) {H:Type} (enc:TypeId × Value→H):∃ places,DataW.whole enc Tryz.prog ((Be os).forCall (fun _ _=>0) ⟨#[],#[.agg #[.slice none 0 0,.slice none 0 0,.slice none 0 0,.int .i64 0,.slice none 0 0]],[]⟩).memory Tryz.f10.params.toList Rows.resolveSettlesSpec.vars false (#[.agg #[.slice none 0 0,.slice none 0 0,.slice none 0 0,.int .i64 0,.slice none 0 0]] : Array Value).toList 8 = some ([.agg [.nil,.nil,.nil,.lit (.int .i64 0),.nil]],[],places) :=
  ⟨[],by kernel_rfl⟩
theorem lifted (os:Os) (started:os.Started) (H:Type) (enc:TypeId × Value→H) (F:Stop.Interp) :
    ReturnsInHanded {} Tryz.checked os 10 .any ((OpenSpec.ofChange Rows.resolveSettlesSpec).preRow enc Tryz.prog Tryz.f10 Rows.resolveSettlesRow.domain false Rows.resolveSettlesRow.laid) (((OpenSpec.ofChange Rows.resolveSettlesSpec).at F).post enc Tryz.prog Tryz.f10 false true false false):=by
  obtain ⟨places,hx⟩:=reads os enc
  refine returnsInHanded_of_row (C:=Tryz.checked) (s:=OpenSpec.ofChange Rows.resolveSettlesSpec) Yp started (by kernel_rfl) Tryz.func10
    (witness_row_at (enc:=enc) (C:=Tryz.checked) false (Be os) #[.agg #[.slice none 0 0,.slice none 0 0,.slice none 0 0,.int .i64 0,.slice none 0 0]] rfl (by kernel_rfl) (by kernel_rfl) (by kernel_rfl)
      (OpenSpec.preRow_of_cond 8 hx (by kernel_rfl) (fun k hk=>by cases hk) (by kernel_rfl) (laid_met os))) ?_
  intro W base args ds gs before hval hW _ hcond hz hL _ _
  exact contract H enc W base args ds gs before hval hW hz hL
theorem said:Rows.ResolveSettlesSaid :=
  OpenClaim.holds_of_cond 10 Tryz.f10 rfl rfl rfl rfl rfl rfl rfl ⟨rfl,rfl,rfl,rfl,rfl⟩ rfl rfl rfl rfl rfl (by kernel_rfl) Tryz.func10 (by unfold joinedFacts; rw [OJ,R3,R4]; kernel_rfl)
    (of_decide_eq_true (by kernel_rfl)) (by unfold Func.isWrapper; first | (rw [if_pos (by decide +kernel)]; kernel_rfl) | (rw [if_neg (by decide +kernel)]; exact ⟨rfl,rfl⟩))
    (fun os started H enc _ F=>by rw [OpenClaim.pre_eq_preRow]; exact lifted os started H enc F)
theorem plain (f : FuncId) (fn : Func) (hf : Tryz.pinned.checked.prog.funcNamed "presage/presagelaw15.ResolveSettles" = some f) (hfn : Tryz.pinned.checked.prog.funcs[f]? = some fn) :
    false = Tryz.pinned.checked.prog.looks []∧∀ (j:Nat) t,fn.params[j]? = some t→Tryz.pinned.checked.prog.wantsStandIn t = false:=by
  obtain rfl : f = 10 := Option.some.inj ((show Tryz.prog.funcNamed "presage/presagelaw15.ResolveSettles" = some 10 by kernel_rfl).symm.trans hf) |>.symm
  obtain rfl:fn = Tryz.f10:=(Option.some.inj (Tryz.func10.symm.trans hfn)).symm
  refine ⟨by kernel_rfl,fun j t ht=>?_⟩
  rw [Tryz.params10] at ht
  have hm:=Array.mem_of_getElem? ht
  simp only [List.mem_toArray,List.mem_cons,List.not_mem_nil,or_false] at hm
  subst hm
  exact (show Tryz.prog.wantsStandIn 27 = false by kernel_rfl)
theorem card:Rows.ResolveSettlesCardSaid :=
  Claim7.holds_tied_plain_at .later [] _ _ _ _ said (fun _ h=>by cases h) (by kernel_rfl) (fun _ h=>by cases h) resolveSettles_row_tie rfl ⟨rfl,rfl⟩ (by kernel_rfl) rfl plain (by kernel_rfl)
end Go.Proofs.YtndaepmjkbmjmaaGreatDoor.fnResolveSettles
