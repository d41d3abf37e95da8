/- Texts of this claim, one behind the other. -/
import Derived.Test.YtndaepmjkbmjmaaGreatDoorG2
import Derived.Test.YtndaepmjkbmjmaaGreatDoorCards
import Derived.Test.YtndaepmjkbmjmaaGreatDoorTie
import Derived.WalkKit
import Derived.ProofKit
import Derived.OpenShut
import Derived.Carry
import Derived.OpenVars
import Derived.Deep.DeepHandedRow
import Derived.Lib.LaidTab
import Derived.Test.YtndaepmjkbmjmaaGreatDoorG6
set_option linter.unusedVariables false
set_option linter.unusedSectionVars false
set_option maxRecDepth 100000
set_option maxHeartbeats 16000000
namespace Go.V
end Go.V
namespace Go.Proofs.YtndaepmjkbmjmaaGreatDoor
end Go.Proofs.YtndaepmjkbmjmaaGreatDoor
open Go.V Go.Proofs.YtndaepmjkbmjmaaGreatDoor
namespace Go.V
open Go.RowKit Go.WideShapes Go.ChangeShapes
theorem G1 {w:WB} {a:Addr} {v:Value} (h:w.cell? a = some v):oT (hp w) a = some v:=by
 unfold World.cell? at h
 unfold oT hp
 cases ho:w.heap[a.block]? with
 | none=>rw [ho] at h; cases h
 | some o=>rw [ho] at h; cases o <;> first | exact h | cases h
theorem De {α β : Type} {f:α->Option β}:∀ {l:List α} {r:List β},l.mapM f = some r->r.length = l.length/\∀ (i:Nat) (a:α) (b:β),l[i]? = some a->r[i]? = some b->f a = some b
 | [],r,h=>by
  simp at h; subst h; exact ⟨rfl,λi a b ha=>by simp at ha⟩
 | x :: l,r,h=>by
  simp only [List.mapM_cons,Option.bind_eq_bind,Option.bind_eq_some_iff,Option.pure_def,Option.some.injEq] at h
  obtain ⟨b,hb,r',hr',rfl⟩:=h
  obtain ⟨h1,h2⟩:=De hr'
  refine ⟨by simp [h1],λi a b' ha hb'=>?_⟩
  cases i with
  | zero=>simp at ha hb'; subst ha; subst hb'; exact hb
  | succ i=>exact h2 i a b' (by simpa using ha) (by simpa using hb')
theorem Lz {w:WB} {base n:Nat} {a:Addr} {vs:List Value} (h:w.cells? base a n = some vs):av (hp w) a vs:=by
 unfold World.cells? at h
 split at h
 ·obtain ⟨h1,h2⟩:=De h
  intro j v hj
  have hlt:=(UJ.1 hj).1
  rw [h1,VF] at hlt
  exact G1 (h2 j j v (by simp [hlt]) hj)
 ·cases h
theorem rq {H:Type} {P:Program} {e:TypeId} {N:Nat}:∀ {l:List (DataW H)},(DataW.weightsAll P e l).all (·<=N) = true->∀ d∈l,(d.weights P e).all (·<=N) = true
 | [],_,d,hd=>by simp at hd
 | x :: l,h,d,hd=>by
  rw [DataW.weightsAll,Wq,U3] at h
  rcases U1.1 hd with rfl | hd
  ·exact h.1
  ·exact rq h.2 d hd
theorem bS {H:Type} {P:Program} {N:Nat}:∀ {ts:List TypeId} {l:List (DataW H)},(DataW.weightsEach P ts l).all (·<=N) = true->∀ (i:Nat) t d,ts[i]? = some t->l[i]? = some d->(d.weights P t).all (·<=N) = true
 | [],l,_,i,t,d,ht,_=>by simp at ht
 | _ :: _,[],_,i,t,d,_,hd=>by simp at hd
 | t0 :: ts,x :: l,h,i,t,d,ht,hd=>by
  rw [DataW.weightsEach,Wq,U3] at h
  cases i with
  | zero=>simp at ht hd; subst ht; subst hd; exact h.1
  | succ i=>exact bS h.2 i t d (by simpa using ht) (by simpa using hd)
def EK (P:Program) (α : Type) [nV α] (bd:α->Prop) (t:TypeId):Prop :=
 ∀ {H:Type} (enc:TypeId × Value->H) (W:WB) (n:Nat) (cs:List Value) (x:DataW H × List MemPlace),DataW.trod enc P W 0 (λ_=>true) true n t cs = some x->(x.1.weights P t).all (·<=reachBytes) = true->∃ y:α,rd (hp W) y cs/\bd y
def anyS:ByteArray->Prop:=λs=>s.size<=reachBytes
def G2 {α : Type} (bytes:Nat) (bd:α->Prop):List α->Prop:=λxs=>xs.length * bytes<=reachBytes/\∀ x∈xs,bd x
section
variable {P:Program} {t e:TypeId}
theorem QE (ht:P.underlying t = some (.int .i64)):EK P Int anyI t:=by
 intro H enc W n cs x h hw
 obtain ⟨z,rfl,_,hwf⟩:=DataW.trod_int ht h
 refine ⟨z,rfl,?_⟩
 have:IntKind.i64.min<=z/\z<=IntKind.i64.max:=by simpa [Lit.wf] using hwf
 exact this
theorem QF (ht:P.underlying t = some .string):EK P ByteArray anyS t:=by
 intro H enc W n cs x h hw
 obtain ⟨z,rfl,rfl,_⟩:=DataW.trod_string ht h
 refine ⟨z,rfl,?_⟩
 simpa [DataW.weights,anyS] using hw
theorem nS {α : Type} [nV α] {bd:α->Prop} {bb:Nat} (ht:P.underlying t = some (.slice e)) (hc:P.cellsOf e = nV.n α) (hb:P.bytesOf e = bb) (he:EK P α bd e):EK P (List α) (G2 bb bd) t:=by
 intro H enc W n cs x h hw
 rcases DataW.trod_slice ht h with ⟨rfl,rfl⟩ | ⟨a,len,cap,elems,rest,m,rfl,rfl,rfl,_,hlc,hcm,hel,hg,_,_⟩
 ·exact ⟨[],⟨none,0,0,rfl,U2 _,aX.nil⟩,by simp [reachBytes],λx hx=>by simp at hx⟩
 ·simp only [DataW.weights,ht,List.all_cons,Wq,U3,UY,UQ] at hw
  obtain ⟨hw1,hw2,_⟩:=hw
  have key:∀ k,k<=len->∃ ys:List α,ys.length = k/\(∀ i y,ys[i]? = some y->∃ vs,av (hp W) (a.add (cT i (nV.n α))) vs/\rd (hp W) y vs)/\∀ y∈ys,bd y:=by
   intro k
   induction k with
   | zero=>exact λ_=>⟨[],rfl,λi y hy=>by simp at hy,λy hy=>by simp at hy⟩
   | succ k ih =>
    intro hk
    obtain ⟨ys,h1,h2,h3⟩:=ih (by omega)
    have hgk:=hg k (by omega)
    obtain ⟨d,hd⟩ : ∃ d,elems[k]? = some d:=⟨elems[k]'(by omega),UK _⟩
    rw [hd,Option.bind_eq_some_iff] at hgk
    obtain ⟨vs,hv1,hv2⟩:=hgk
    obtain ⟨y,hy1,hy2⟩:=he enc W m vs d hv2 (rq hw2 _ (by
     have:=UL hd
     exact List.mem_map_of_mem this))
    refine ⟨ys ++ [y],by simp [h1],λi z hz=>?_,λz hz=>?_⟩
    ·by_cases hi:i < k
     ·rw [U0 (by omega)] at hz
      exact h2 i z hz
     ·have:i = k:=by
       have:=(UJ.1 hz).1
       simp at this; omega
      subst this
      rw [UZ (by omega),h1,VD] at hz
      cases hz
      refine ⟨vs,?_,hy1⟩
      rw [aF,<- hc]
      exact Lz hv1
    ·rcases UO.1 hz with hz | hz
     ·exact h3 z hz
     ·simp at hz; subst hz; exact hy2
  obtain ⟨ys,h1,h2,h3⟩:=key len (U2 _)
  refine ⟨ys,⟨some a,len,cap,rfl,hlc,h1,λi y hy=>?_⟩,?_,h3⟩
  ·obtain ⟨vs,h4,h5⟩:=h2 i y hy
   exact ⟨a,vs,rfl,h4,h5⟩
  ·rw [h1,<- hb,<- hel]
   exact Vf (V5 _ (Nat.le_add_right _ _)) hw1
theorem lE {fs:Array Field} (ht:P.underlying t = some (.struct fs)) {H:Type} {enc:TypeId × Value->H} {W:WB} {n:Nat} {cs:List Value} {x:DataW H × List MemPlace} (h:DataW.trod enc P W 0 (λ_=>true) true n t cs = some x) (hw:(x.1.weights P t).all (·<=reachBytes) = true) :
  cs.length = P.cellsOf t/\∀ (i:Nat) (f:Field) (ty k o:Nat),fs[i]? = some f->P.cellsOf ty = k->f.type = ty->f.offset = o->∃ (m:Nat) (d:DataW H × List MemPlace),DataW.trod enc P W 0 (λ_=>true) true m ty ((cs.drop o).take k) = some d/\(d.1.weights P ty).all (·<=reachBytes) = true:=by
 obtain ⟨xs,m,rfl,rfl,hl,hxs,hf⟩:=DataW.trod_struct ht h
 refine ⟨hl,?_⟩
 rintro i f _ _ _ hi rfl rfl rfl
 have hlt:=(Vm.1 hi).1
 obtain ⟨d,hd⟩ : ∃ d,xs[i]? = some d:=⟨xs[i]'(by omega),UK _⟩
 refine ⟨m,d,by rw [hf i f hi,hd],?_⟩
 simp only [DataW.weights,ht] at hw
 exact bS hw i f.type d.1 (by simp [hi]) (by simp [hd])
theorem QG {α : Type} [nV α] {bd:α->Prop} (ho:EK P α bd t) {H:Type} {enc:TypeId × Value->H} {W:WB} {v:Value} {d:DataW H} {ps:List MemPlace} (h:DataW.Trod enc P W 0 (λ_=>true) true t v d ps)
  (hw:(d.weights P t).all (·<=reachBytes) = true):∃ y:α,rd (hp W) y v.cells.toList/\bd y:=by
 obtain ⟨n,h⟩:=h
 exact ho enc W n _ _ h hw
theorem zv {H:Type} {enc:TypeId × Value->H} {W:WB} {b:Nat} {v:Value} {d:DataW H} {ps:List MemPlace} (ht:P.underlying t = some (.int .i64)) (hval:Value.okWide P W .any b t v) (h:DataW.Trod enc P W 0 (λ_=>true) true t v d ps):∃ x:Int,v = .int .i64 x/\anyI x:=by
 obtain ⟨n,rfl,_,_,hwf⟩:=open_int ht hval h
 refine ⟨n,rfl,?_⟩
 have:IntKind.i64.min<=n/\n<=IntKind.i64.max:=by simpa [Lit.wf] using hwf
 exact this
theorem jc {α : Type} [nV α] {bd:α->Prop} {fs:Array Field} (ho:EK P α bd t) (ht:P.underlying t = some (.struct fs)) {H:Type} {enc:TypeId × Value->H} {W:WB} {b:Nat} {v:Value} {d:DataW H} {ps:List MemPlace}
  (hval:Value.okWide P W .any b t v) (h:DataW.Trod enc P W 0 (λ_=>true) true t v d ps) (hw:(d.weights P t).all (·<=reachBytes) = true):∃ (x:α) (cs:List Value),v = .agg ⟨cs⟩/\rd (hp W) x cs/\bd x:=by
 obtain ⟨x,hr,hb⟩:=QG ho h hw
 simp only [Value.okWide,ht] at hval
 obtain ⟨cs,rfl,_⟩:=hval
 exact ⟨x,cs.toList,rfl,hr,hb⟩
theorem OL {w w' : WB} (h:Ev w w') (g:Gr w w'):Below w.heap.size w w':=by
 refine ⟨h.os,h.tape,h.output,h.size,λk hk=>?_⟩
 cases ho:w.heap[k]? with
 | none=>rw [Array.getElem?_eq_none_iff] at ho; omega
 | some o =>
  by_cases hd:EM o = true
  ·have:hp w k = some o:=by unfold hp; rw [ho,zz hd]
   exact mQ (g k o this)
  ·cases o <;> first | exact absurd rfl hd | exact h.dfr _ _ ho
theorem tG (hl:laidOutB P = true) {H:Type} {enc:TypeId × Value->H} {W W' : WB} (hb:Below W.heap.size W W') {sp:Nat->Bool}:∀ {ts:List TypeId} {vs:List Value} {ds:List (DataW H)} {ps:List MemPlace},
  (ts.all λt=>P.readableRec t && decide (t < P.types.size)) = true->DataW.TrodAll enc P W 0 (λ_=>true) true ts vs ds ps->(∀ x∈ps,x.block < W.heap.size)->(∀ x∈ps,sp x.block = true) ->
  DataW.TrodAll enc P W' 0 sp true ts vs ds ps
 | [],[],[],ps,_,h,_,_=>h
 | [],_ :: _,_,_,_,h,_,_=>h.elim
 | [],[],_ :: _,_,_,h,_,_=>h.elim
 | _ :: _,[],_,_,_,h,_,_=>h.elim
 | _ :: _,_ :: _,[],_,_,h,_,_=>h.elim
 | t :: ts,v :: vs,d :: ds,ps,ht,h,hlt,hsp=>by
  obtain ⟨p,q,h1,h2,rfl⟩:=h
  rw [List.all_cons,U3,U3,UY] at ht
  exact ⟨p,q,WideElems.Trod_stays hl ht.1.1 ht.1.2 h1 (λx hx=>hb.same (hlt x (by simp [hx]))) (λx hx=>hsp x (by simp [hx])),tG hl hb ht.2 h2 (λx hx=>hlt x (by simp [hx])) (λx hx=>hsp x (by simp [hx])),rfl⟩
theorem rr {H:Type} {enc:TypeId × Value->H} {s:ChangeSpec} {f:Func} {W W' : WB} {args:Array Value} {ds gs:List (DataW H)} {before:List MemPlace} {tb:TypeId} (hv:s.vars = []) (hrt:f.resultTypes = #[tb]) (htb:P.underlying tb = some .bool)
  (hsp:s.fn H (ds ++ gs) = { results:=[.lit (.bool true)],args:=ds }) (hl:laidOutB P = true) (hrd:(f.params.toList.all λt=>P.readableRec t && decide (t < P.types.size)) = true)
  (hW:DataW.Whole enc P f.params.toList s.vars false W args.toList ds gs before) (hE:Ev W W') (hg:Gr W W'):s.post enc P f false true false false W args (.bool true) W':=by
 have hb:=OL hE hg
 have hlt:∀ p∈before,p.block < W.heap.size:=λp hp=>hW.lt p hp
 have hold:∀ p∈before,(λb=>decide (b < W.heap.size)) p.block = true:=λp hp=>by simpa using hlt p hp
 have hW':=hW
 obtain ⟨p,q,h1,h2,rfl,h3,h4⟩:=hW
 have hq:q = []:=by
  rw [hv] at h2
  cases gs with
  | nil=>exact h2
  | cons _ _=>exact h2.elim
 subst hq
 rw [Vb] at *
 have hargs:∀ sp:Nat->Bool,(∀ x∈p,sp x.block = true)->DataW.TrodAll enc P W' 0 sp true f.params.toList args.toList (s.fn H (ds ++ gs)).args p:=λsp hs=>by
  rw [hsp]; exact tG hl hb hrd h1 hlt hs
 have hvars:∀ sp:Nat->Bool,DataW.TrodVars enc P W' sp s.vars (s.fn H (ds ++ gs)).vars []:=λsp=>by
  rw [hsp,hv]; exact rfl
 have hres:∀ (b:Nat) (sp:Nat->Bool) (hd:Bool),DataW.TrodAll enc P W' b sp hd f.resultTypes.toList ((Value.bool true).resultList f.resultTypes.size) (s.fn H (ds ++ gs)).results []:=λb sp hd=>by
  rw [hsp,hrt]; exact trodAll_cons_mk (shut_bool htb _) trodAll_mk0
 have hok:∀ (j:Nat) (t:TypeId) (r:Value),f.resultTypes[j]? = some t->((Value.bool true).resultList f.resultTypes.size)[j]? = some r->Value.okWide P W' .any 0 t r:=ok_one hrt rfl (okWide_bool_mk htb _)
 refine ⟨ds,gs,p,[],p,[],hW',hres _ _ _,hargs _ hold,hvars _,World.keptBut_mono (λx hx=>⟨hx,?_⟩) (hb.frame (·∈p)),λ_=>?_⟩
 ·exact Or.inr (by simpa using hx)
 ·refine ⟨hok,_,_,([] ++ p) ++ [],⟨[] ++ p,[],trodAll_append (hargs _ (λ_ _=>rfl)) (hres _ _ _),hvars _,rfl,?_,?_⟩,?_⟩
  ·intro b off hp
   have hin:MemPlace.cell b off∈p:=by simpa using hp
   rw [hb.frozen (hlt _ hin)]
   exact h3 b off hin
  ·intro ha; cases ha
  ·intro x hx _
   simpa using hx
end
end Go.V
namespace Go.Proofs.YtndaepmjkbmjmaaGreatDoor
open Go.V Go.RowKit Go.WideShapes Go.ChangeShapes Go.ChangeAt
theorem OM:ownKnob Tryz.prog.godebug = none:=by kernel_rfl
theorem nT:Tryz.pinned.checked.prog.mayEnter = true:=by kernel_rfl
theorem rC:Tryz.pinned.checked.prog.liftsFinal = Rows.tableOneRow.lifted:=by kernel_rfl
theorem rD:Tryz.pinned.checked.prog.make = some Rows.tableOneRow.make:=by kernel_rfl
theorem G3:laidOutB Tryz.prog = true:=by kernel_rfl
theorem oP:Tryz.prog.cellsOf 3 = 1:=by kernel_rfl
theorem Sy:Tryz.prog.bytesOf 3 = 8:=by kernel_rfl
theorem G4:Tryz.prog.cellsOf 9 = 1:=by kernel_rfl
theorem ON:Tryz.prog.bytesOf 9 = 16:=by kernel_rfl
theorem G5:Tryz.prog.cellsOf 24 = 1:=by kernel_rfl
theorem OO:Tryz.prog.cellsOf 22 = 1:=by kernel_rfl
theorem OP:Tryz.prog.cellsOf 23 = 1:=by kernel_rfl
theorem OQ:Tryz.prog.cellsOf 25 = 1:=by kernel_rfl
theorem OR:Tryz.prog.cellsOf 83 = 2:=by kernel_rfl
theorem Sz:Tryz.prog.bytesOf 83 = 24:=by kernel_rfl
theorem OS:Tryz.prog.cellsOf 81 = 3:=by kernel_rfl
theorem SA:Tryz.prog.bytesOf 81 = 40:=by kernel_rfl
theorem SB:Tryz.prog.cellsOf 27 = 5:=by kernel_rfl
theorem EI:EK Tryz.prog Int anyI 3:=QE Tryz.underlying3
theorem Q6:EK Tryz.prog (List Int) (G2 8 anyI) 24:=nS Tryz.underlying24 oP Sy EI
theorem Tw:EK Tryz.prog ByteArray anyS 9:=QF Tryz.underlying9
theorem Tx:EK Tryz.prog (List ByteArray) (G2 16 anyS) 23:=nS Tryz.underlying23 G4 ON Tw
theorem Tz:EK Tryz.prog h_ (λt=>anyS t.name/\anyI t.level) 83:=by
 intro H enc W n cs x h hw
 obtain ⟨hl,hf⟩:=lE Tryz.underlying83 h hw
 rw [OR] at hl
 obtain ⟨_,_,t0,w0⟩:=hf 0 _ 9 1 0 rfl G4 rfl rfl
 obtain ⟨_,_,t1,w1⟩:=hf 1 _ 3 1 1 rfl oP rfl rfl
 obtain ⟨y0,r0,b0⟩:=Tw enc W _ _ _ t0 w0
 obtain ⟨y1,r1,b1⟩:=EI enc W _ _ _ t1 w1
 match cs,hl with
 | [c0,c1],_ =>
  have e0:[c0] = [.string y0]:=r0
  have e1:[c1] = [.int .i64 y1]:=r1
  cases e0; cases e1
  exact ⟨⟨y0,y1⟩,rfl,b0,b1⟩
theorem SC:EK Tryz.prog (List h_) (G2 24 λt=>anyS t.name/\anyI t.level) 22:=nS Tryz.underlying22 OR Sz Tz
theorem TA:EK Tryz.prog aO (λp=>anyI p.left/\G2 8 anyI p.right/\anyI p.level) 81:=by
 intro H enc W n cs x h hw
 obtain ⟨hl,hf⟩:=lE Tryz.underlying81 h hw
 rw [OS] at hl
 obtain ⟨_,_,t0,w0⟩:=hf 0 _ 3 1 0 rfl oP rfl rfl
 obtain ⟨_,_,t1,w1⟩:=hf 1 _ 24 1 1 rfl G5 rfl rfl
 obtain ⟨_,_,t2,w2⟩:=hf 2 _ 3 1 2 rfl oP rfl rfl
 obtain ⟨y0,r0,b0⟩:=EI enc W _ _ _ t0 w0
 obtain ⟨y1,⟨a,l,c,r1,hlc,r1'⟩,b1⟩:=Q6 enc W _ _ _ t1 w1
 obtain ⟨y2,r2,b2⟩:=EI enc W _ _ _ t2 w2
 match cs,hl with
 | [c0,c1,c2],_ =>
  have e0:[c0] = [.int .i64 y0]:=r0
  have e1:[c1] = [.slice a l c]:=r1
  have e2:[c2] = [.int .i64 y2]:=r2
  cases e0; cases e1; cases e2
  exact ⟨⟨y0,y1,y2⟩,⟨a,l,c,rfl,hlc,r1'⟩,b0,b1,b2⟩
theorem SD:EK Tryz.prog (List aO) (G2 40 λp=>anyI p.left/\G2 8 anyI p.right/\anyI p.level) 25:=nS Tryz.underlying25 OS SA TA
def Uf (g:ae):Prop:=iq g/\g.terms.length * 24<=140737488355328/\g.nons.length * 16<=140737488355328
theorem G6:EK Tryz.prog ae Uf 27:=by
 intro H enc W n cs x h hw
 obtain ⟨hl,hf⟩:=lE Tryz.underlying27 h hw
 rw [SB] at hl
 obtain ⟨_,_,t0,w0⟩:=hf 0 _ 22 1 0 rfl OO rfl rfl
 obtain ⟨_,_,t1,w1⟩:=hf 1 _ 23 1 1 rfl OP rfl rfl
 obtain ⟨_,_,t2,w2⟩:=hf 2 _ 24 1 2 rfl G5 rfl rfl
 obtain ⟨_,_,t3,w3⟩:=hf 3 _ 3 1 3 rfl oP rfl rfl
 obtain ⟨_,_,t4,w4⟩:=hf 4 _ 25 1 4 rfl OQ rfl rfl
 obtain ⟨y0,⟨a0,l0,c0',r0,k0,q0⟩,b0⟩:=SC enc W _ _ _ t0 w0
 obtain ⟨y1,⟨a1,l1,c1',r1,k1,q1⟩,b1⟩:=Tx enc W _ _ _ t1 w1
 obtain ⟨y2,⟨a2,l2,c2',r2,k2,q2⟩,b2⟩:=Q6 enc W _ _ _ t2 w2
 obtain ⟨y3,r3,b3⟩:=EI enc W _ _ _ t3 w3
 obtain ⟨y4,⟨a4,l4,c4',r4,k4,q4⟩,b4⟩:=SD enc W _ _ _ t4 w4
 match cs,hl with
 | [c0,c1,c2,c3,c4],_ =>
  have e0:[c0] = [.slice a0 l0 c0']:=r0
  have e1:[c1] = [.slice a1 l1 c1']:=r1
  have e2:[c2] = [.slice a2 l2 c2']:=r2
  have e3:[c3] = [.int .i64 y3]:=r3
  have e4:[c4] = [.slice a4 l4 c4']:=r4
  cases e0; cases e1; cases e2; cases e3; cases e4
  refine ⟨⟨y0,y1,y2,y3,y4⟩,⟨⟨a0,l0,c0',a1,l1,c1',a2,l2,c2',y3,a4,l4,c4'⟩,rfl,q0,q1,q2,rfl,q4,k0,k1,k2,k4⟩,?_⟩
  have z0:=b0.1
  have z1:=b1.1
  have z2:=b2.1
  have z4:=b4.1
  unfold reachBytes at z0 z1 z2 z4
  refine ⟨⟨by show y0.length<=_; omega,by show y1.length<=_; omega,by show y2.length<=_; omega,by show y4.length * 40<=_; omega,λt ht=>⟨?_,(b0.2 t ht).2⟩,λs hs=>?_,λp hp=>?_⟩,by show y0.length * 24<=_; omega,by show y1.length * 16<=_; omega⟩
  ·have:=(b0.2 t ht).1; unfold anyS reachBytes at this; omega
  ·have:=b1.2 s hs; unfold anyS reachBytes at this; omega
  ·have:=(b4.2 p hp).2.1.1; unfold reachBytes at this; omega
theorem OT:Tryz.prog.cellsOf 38 = 1:=by kernel_rfl
theorem OU:Tryz.prog.cellsOf 62 = 2:=by kernel_rfl
theorem SE:Tryz.prog.bytesOf 62 = 16:=by kernel_rfl
theorem SF:Tryz.prog.cellsOf 60 = 3:=by kernel_rfl
theorem Ug:EK Tryz.prog ax (λt=>anyI t.kind/\anyI t.to) 62:=by
 intro H enc W n cs x h hw
 obtain ⟨hl,hf⟩:=lE Tryz.underlying62 h hw
 rw [OU] at hl
 obtain ⟨_,_,t0,w0⟩:=hf 0 _ 3 1 0 rfl oP rfl rfl
 obtain ⟨_,_,t1,w1⟩:=hf 1 _ 3 1 1 rfl oP rfl rfl
 obtain ⟨y0,r0,b0⟩:=EI enc W _ _ _ t0 w0
 obtain ⟨y1,r1,b1⟩:=EI enc W _ _ _ t1 w1
 match cs,hl with
 | [c0,c1],_ =>
  have e0:[c0] = [.int .i64 y0]:=r0
  have e1:[c1] = [.int .i64 y1]:=r1
  cases e0; cases e1
  exact ⟨⟨y0,y1⟩,rfl,b0,b1⟩
theorem TB:EK Tryz.prog (List ax) (G2 16 λt=>anyI t.kind/\anyI t.to) 38:=nS Tryz.underlying38 OU SE Ug
theorem TC:EK Tryz.prog bI (λt=>(t.acts.length + 1) * 16<=140737488355328) 60:=by
 intro H enc W n cs x h hw
 obtain ⟨hl,hf⟩:=lE Tryz.underlying60 h hw
 rw [SF] at hl
 obtain ⟨_,_,t0,w0⟩:=hf 0 _ 3 1 0 rfl oP rfl rfl
 obtain ⟨_,_,t1,w1⟩:=hf 1 _ 3 1 1 rfl oP rfl rfl
 obtain ⟨_,_,t2,w2⟩:=hf 2 _ 38 1 2 rfl OT rfl rfl
 obtain ⟨y0,r0,b0⟩:=EI enc W _ _ _ t0 w0
 obtain ⟨y1,r1,b1⟩:=EI enc W _ _ _ t1 w1
 obtain ⟨y2,⟨a,l,c,r2,hlc,r2'⟩,b2⟩:=TB enc W _ _ _ t2 w2
 match cs,hl with
 | [c0,c1,c2],_ =>
  have e0:[c0] = [.int .i64 y0]:=r0
  have e1:[c1] = [.int .i64 y1]:=r1
  have e2:[c2] = [.slice a l c]:=r2
  cases e0; cases e1; cases e2
  have hll:=r2'.1
  subst hll
  refine ⟨⟨y0,y1,y2⟩,⟨a,c,rfl,r2'⟩,?_⟩
  have z:=b2.1
  unfold reachBytes at z
  show (y2.length + 1) * 16<=_
  omega

theorem TD : Tryz.prog.globalNamed "math/bits.deBruijn64tab" = some 0 := by kernel_rfl
theorem OV:(Tryz.prog.globals[0]?).map (·.type) = some 294:=by kernel_rfl
theorem OW:Tryz.prog.cellsOf 294 = 64:=by kernel_rfl
theorem LA:Tryz.prog.cellsOf 5 = 1:=by kernel_rfl
theorem table {W : WB} (h : laidMetH Tryz.prog [("math/bits.deBruijn64tab", Rows.laid_math_bits_deBruijn64tab)] W) : dy (hp W) := by
 have ht : Lib.TabIs Tryz.prog W "math/bits.deBruijn64tab" .u8 (Lib.deBruijn64tab.map λ(k : Nat) => (k : Int)) :=
  Lib.tabIs_of_head (rest:=[]) TD OV Tryz.underlying294 Tryz.underlying5 LA OW h
 refine .inr ⟨_,rfl,λj v hj=>?_⟩
 have hlt:=(UJ.1 hj).1
 have hc:=ht.cell TD j (by simpa [Pp] using hlt)
 rw [aV]
 refine G1 (hc.trans ?_)
 rw [<- hj]
 simp only [Pp,UM,UQ] at hj hlt ⊢
 rw [UK hlt]
 simp [hlt]
theorem tables {W : WB} (h : laidMetH Tryz.prog [("math/bits.deBruijn32tab", Rows.laid_math_bits_deBruijn32tab), ("math/bits.deBruijn64tab", Rows.laid_math_bits_deBruijn64tab), ("internal/strconv.uint64pow10", Rows.laid_internal_strconv_uint64pow10)] W) : dy (hp W) := by
 have h2 := h.filter λx => x.1 == "math/bits.deBruijn64tab"
 have e : ([("math/bits.deBruijn32tab", Rows.laid_math_bits_deBruijn32tab), ("math/bits.deBruijn64tab", Rows.laid_math_bits_deBruijn64tab), ("internal/strconv.uint64pow10", Rows.laid_internal_strconv_uint64pow10)].filter λx => x.1 == "math/bits.deBruijn64tab" : List (String × DataW Unit)) = [("math/bits.deBruijn64tab", Rows.laid_math_bits_deBruijn64tab)] := by kernel_rfl
 rw [e] at h2
 exact table h2
noncomputable def bX (os:Os):WB :=
  { World.holding Tryz.prog os ⟨#[],#[],[]⟩ with heap:=((((World.holding Tryz.prog os ⟨#[],#[],[]⟩).heap.modify 0 fun
      | .cells _ t frozen=>.cells ⟨Pp⟩ t frozen
      | o=>o).modify 3 fun
      | .cells _ t frozen=>.cells ⟨[.int .u8 0,.int .u8 1,.int .u8 28,.int .u8 2,.int .u8 29,.int .u8 14,.int .u8 24,.int .u8 3,.int .u8 30,.int .u8 22,.int .u8 20,.int .u8 15,.int .u8 25,.int .u8 17,.int .u8 4,.int .u8 8,.int .u8 31,.int .u8 27,.int .u8 13,.int .u8 23,.int .u8 21,.int .u8 19,.int .u8 16,.int .u8 7,.int .u8 26,.int .u8 12,.int .u8 18,.int .u8 6,.int .u8 11,.int .u8 5,.int .u8 10,.int .u8 9]⟩ t frozen
      | o=>o).modify 1 fun
      | .cells _ t frozen=>.cells ⟨[.int .u64 1,.int .u64 10,.int .u64 100,.int .u64 1000,.int .u64 10000,.int .u64 100000,.int .u64 1000000,.int .u64 10000000,.int .u64 100000000,.int .u64 1000000000,.int .u64 10000000000,.int .u64 100000000000,.int .u64 1000000000000,.int .u64 10000000000000,.int .u64 100000000000000,.int .u64 1000000000000000,.int .u64 10000000000000000,.int .u64 100000000000000000,.int .u64 1000000000000000000,.int .u64 10000000000000000000]⟩ t frozen
      | o=>o) }
end Go.Proofs.YtndaepmjkbmjmaaGreatDoor
