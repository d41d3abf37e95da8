/- Of every grammar and row of numbers: a run of a system without clashes accepts the sentences alone, and its tree derives the row. -/
import Derived.Test.YtaoaemnefghnbaaGreatDoorG9
set_option linter.unusedVariables false
set_option linter.unusedSectionVars false
set_option maxRecDepth 100000
set_option maxHeartbeats 16000000
namespace Go.Proofs.YtaoaemnefghnbaaGreatDoor.fnTopLanguage
open Go.RowKit Go.WideShapes Go.ChangeShapes Go.ChangeAt
theorem contract (H:Type) (enc:TypeId × Value→H) (W:World) (base:Nat) (args:Array Value) (ds gs:List (DataW H)) (before:List MemPlace)
    (hval:∀ (j:Nat) t v,Tryz.f3.params[j]? = some t→args[j]? = some v→Value.okWide Tryz.prog W .any base t v)
    (hW:DataW.Whole enc Tryz.prog Tryz.f3.params.toList Rows.topLanguageSpec.vars false W args.toList ds gs before)
    {ts:List TypeId} (hz:(DataW.weightsEach Tryz.prog (Tryz.f3.params.toList ++ ts) (ds ++ gs)).all (·≤reachBytes) = true) (hL:laidMetH Tryz.prog Rows.topLanguageRow.laid W) :
    Calls Tryz.prog 3 args W fun e W'=>∃ v,e = .returned v∧Rows.topLanguageSpec.post enc Tryz.prog Tryz.f3 false true false false W args v W':=by
  have hW':=hW
  obtain ⟨p,q,hA,hV,rfl,hfz,hnd⟩:=hW
  have hA:DataW.TrodAll enc Tryz.prog W 0 (fun _=>true) true Tryz.f3.params.toList args.toList ds p:=hA
  have hp:=Tryz.params3
  rw [hp] at hA hval hz
  obtain ⟨v0,vs0,d0,ds0,p0,q0,hargs,rfl,rfl,h0,r0⟩:=trodAll_cons hA
  obtain ⟨v1,vs1,d1,ds1,p1,q1,rfl,rfl,rfl,h1,r1⟩:=trodAll_cons r0
  obtain ⟨rfl,rfl,rfl⟩:=trodAll_nil r1
  obtain rfl:args = #[v0,v1]:=by cases args; simp_all
  obtain ⟨x0,cs0,rfl,hr0,hb0⟩:=Un ah0 Tryz.underlying27 (hval 0 27 _ rfl rfl) h0 (j9 hz 0 27 d0 rfl rfl)
  obtain ⟨x1,a1,l1,c1,rfl,hlc1,hr1,hb1⟩:=XP xB Tryz.underlying24 (hval 1 24 _ rfl rfl) h1 (j9 hz 1 24 d1 rfl rfl)
  obtain ⟨xA,rfl,hgr⟩:=hr0
  refine Calls.mono (L6 hgr hb0.1 hr1 hb1.2 (vE hL)) ?_
  rintro e W' ⟨v,rfl,hE,rfl,hG⟩
  exact ⟨_,rfl,abC rfl (by kernel_rfl) Tryz.underlying4 (by obtain ⟨rfl,rfl⟩:=trodVars_none hV; rfl) ahV (by kernel_rfl) hW' hE hG⟩
theorem laid_met (os:Os):laidMet Tryz.prog Rows.topLanguageRow.laid ((GK os).forCall (fun _ _=>0) ⟨#[],#[.agg #[.slice none 0 0,.slice none 0 0,.slice none 0 0,.int .i64 0,.slice none 0 0],.slice none 0 0],[]⟩).memory :=
  laidMet_of_run' 8 (by kernel_rfl) (by kernel_rfl)
theorem reads (os:Os) {H:Type} (enc:TypeId × Value→H):∃ places,DataW.whole enc Tryz.prog ((GK os).forCall (fun _ _=>0) ⟨#[],#[.agg #[.slice none 0 0,.slice none 0 0,.slice none 0 0,.int .i64 0,.slice none 0 0],.slice none 0 0],[]⟩).memory Tryz.f3.params.toList Rows.topLanguageSpec.vars false (#[.agg #[.slice none 0 0,.slice none 0 0,.slice none 0 0,.int .i64 0,.slice none 0 0],.slice none 0 0] : Array Value).toList 8 = some ([.agg [.nil,.nil,.nil,.lit (.int .i64 0),.nil],.nil],[],places) :=
  ⟨[],by kernel_rfl⟩
theorem lifted (os:Os) (started:os.Started) (H:Type) (enc:TypeId × Value→H) (F:Stop.Interp) :
    ReturnsInHanded {} Tryz.checked os 3 .any ((OpenSpec.ofChange Rows.topLanguageSpec).preRow enc Tryz.prog Tryz.f3 Rows.topLanguageRow.domain false Rows.topLanguageRow.laid) (((OpenSpec.ofChange Rows.topLanguageSpec).at F).post enc Tryz.prog Tryz.f3 false true false false):=by
  obtain ⟨places,hx⟩:=reads os enc
  refine returnsInHanded_of_row (C:=Tryz.checked) (s:=OpenSpec.ofChange Rows.topLanguageSpec) aio started (by kernel_rfl) Tryz.func3
    (witness_row_at (enc:=enc) (C:=Tryz.checked) false (GK os) #[.agg #[.slice none 0 0,.slice none 0 0,.slice none 0 0,.int .i64 0,.slice none 0 0],.slice none 0 0] rfl (by kernel_rfl) (by kernel_rfl) (by kernel_rfl)
      (OpenSpec.preRow_of_cond 8 hx (by kernel_rfl) (fun k hk=>by cases hk) (by kernel_rfl) (laid_met os))) ?_
  intro W base args ds gs before hval hW _ hcond hz hL _ _
  exact contract H enc W base args ds gs before hval hW hz hL
theorem fIn:Tryz.pinned.checked.prog.inPlace 3 = Rows.topLanguageRow.inPlace:=by kernel_rfl
theorem fUn:Tryz.pinned.checked.prog.unfollowed 3 = Rows.topLanguageRow.unfollowed:=by kernel_rfl
theorem fRec:Tryz.pinned.checked.prog.recurses 3 = Rows.topLanguageRow.recurses:=by kernel_rfl
theorem fNamed:Tryz.pinned.checked.prog.varsNamed 3 = Rows.topLanguageRow.named:=by kernel_rfl
theorem fGoes:false = Rows.topLanguageRow.goesBy Tryz.pinned.checked.prog:=by kernel_rfl
theorem fWf:Rows.topLanguageRow.wfByText (OpenSpec.ofChange Rows.topLanguageSpec) = true:=by kernel_rfl
theorem said:Rows.TopLanguageSaid :=
  OpenClaim.holds_of_cond 3 Tryz.f3 rfl rfl rfl rfl rfl rfl rfl ⟨rfl,rfl,rfl,rfl,rfl⟩ rfl rfl rfl rfl rfl (by kernel_rfl) Tryz.func3 (by unfold joinedFacts; rw [XQ,abD,abE,aeo,XR,XS,XT,XU,abF,fIn,fUn,fRec,fNamed]; kernel_rfl)
    (of_decide_eq_true (by kernel_rfl)) (by unfold Func.isWrapper; first | (rw [if_pos (by decide +kernel)]; kernel_rfl) | (rw [if_neg (by decide +kernel)]; exact ⟨rfl,rfl⟩))
    (fun os u H enc _ F=>by rw [OpenClaim.pre_eq_preRow]; exact lifted os u H enc F)
theorem plain (f : FuncId) (fn : Func) (hf : Tryz.pinned.checked.prog.funcNamed "presage/presagetop.TopLanguage" = some f) (hfn : Tryz.pinned.checked.prog.funcs[f]? = some fn) :
    true = Tryz.pinned.checked.prog.looks []∧∀ (j:Nat) t,fn.params[j]? = some t→Tryz.pinned.checked.prog.wantsStandIn t = false:=by
  obtain rfl : f = 3 := Option.some.inj ((show Tryz.prog.funcNamed "presage/presagetop.TopLanguage" = some 3 by kernel_rfl).symm.trans hf) |>.symm
  obtain rfl:fn = Tryz.f3:=(Option.some.inj (Tryz.func3.symm.trans hfn)).symm
  refine ⟨XV.symm,fun j t ht=>?_⟩
  rw [Tryz.params3] at ht
  have hm:=Array.mem_of_getElem? ht
  simp only [List.mem_toArray,List.mem_cons,List.not_mem_nil,or_false] at hm
  rcases hm with rfl | rfl
  · exact (show Tryz.prog.wantsStandIn 27 = false by kernel_rfl)
  · exact (show Tryz.prog.wantsStandIn 24 = false by kernel_rfl)
theorem card:Rows.TopLanguageCardSaid :=
  Claim7.holds_tied_plain_at .later [] _ _ _ _ said (fun _ h=>by cases h) fWf (fun _ h=>by cases h) topLanguage_row_tie rfl ⟨rfl,rfl⟩ abG rfl plain fGoes
end Go.Proofs.YtaoaemnefghnbaaGreatDoor.fnTopLanguage
