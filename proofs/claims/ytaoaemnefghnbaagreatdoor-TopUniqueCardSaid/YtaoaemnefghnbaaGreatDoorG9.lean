/- Texts of this claim, one behind the other. -/
import Derived.Test.YtaoaemnefghnbaaGreatDoorG2
import Derived.Test.YtaoaemnefghnbaaGreatDoorCards
import Derived.Test.YtaoaemnefghnbaaGreatDoorTie
import Derived.WalkKit
import Derived.ProofKit
import Derived.OpenShut
import Derived.Carry
import Derived.OpenVars
import Derived.Deep.DeepHandedRow
import Derived.Lib.LaidTab
import Derived.Test.YtaoaemnefghnbaaGreatDoorG8
set_option linter.unusedVariables false
set_option linter.unusedSectionVars false
set_option maxRecDepth 100000
set_option maxHeartbeats 16000000
namespace Go.V
end Go.V
namespace Go.Proofs.YtaoaemnefghnbaaGreatDoor
end Go.Proofs.YtaoaemnefghnbaaGreatDoor
open Go.V Go.Proofs.YtaoaemnefghnbaaGreatDoor
namespace Go.Proofs.YtaoaemnefghnbaaGreatDoor
section
open Go.RowKit Go.WideShapes Go.ChangeShapes
theorem Qm{w:aiA}{a:Addr}{v:Value}(h:w.cell? a=some v):vn (hp w) a=some v:=by
 unfold World.cell? at h;unfold vn hp;cases ho:w.heap[a.block]? with
 |none=>simp_all
 |some o=>rw[ho] at h;cases o<;>first|exact h|cases h
theorem LC{α β:Type}{f:α->Option β}:∀{l:List α}{r:List β},l.mapM f=some r->r.length=l.length/\∀(i:Nat)(a:α)(b:β),l[i]? =some a->r[i]? =some b->f a=some b
 |[],r,h=>by simp_all
 |x::l,r,h=>by
  simp only[List.mapM_cons,Option.bind_eq_bind,Option.bind_eq_some_iff,Option.pure_def,Option.some.injEq] at h
  obtain⟨b,hb,r',hr',rfl⟩:=h
  obtain⟨h1,h2⟩:=LC hr'
  grind
theorem VR{w:aiA}{base n:Nat}{a:Addr}{vs:List Value}(h:w.cells? base a n=some vs):aq (hp w) a vs:=by
 unfold World.cells? at h
 split at h
 ·obtain⟨J,O⟩:=LC h;intro j v u
  grind[List.getElem?_eq_some_iff,List.length_range,Qm]
 simp_all
theorem yq{H:Type}{P:Program}{e:TypeId}{N:Nat}:∀{l:List (DataW H)},(DataW.weightsAll P e l).all (·<=N)=true->∀d∈l,(d.weights P e).all (·<=N)=true
 |[],_,d,hd=>by simp_all
 |x::l,h,d,hd=>by
  rw[DataW.weightsAll,List.all_append,ag1] at h
  rcases ag6.1 hd with rfl|hd
  ·grind
  ·exact yq h.2 d hd
theorem jK{H:Type}{P:Program}{N:Nat}:∀{ts:List TypeId}{l:List (DataW H)},(DataW.weightsEach P ts l).all (·<=N)=true->∀(i:Nat) t d,ts[i]? =some t->l[i]? =some d->(d.weights P t).all (·<=N)=true
 |[],l,_,i,t,d,ht,_=>by simp_all
 |_::_,[],_,i,t,d,_,hd=>by simp_all
 |t0::ts,x::l,h,i,t,d,ht,hd=>by
  rw[DataW.weightsEach,List.all_append,ag1] at h
  cases i with
  |zero=>simp_all
  |succ i=>exact jK h.2 i t d (by simp_all) (by simp_all)
def Qx(P:Program)(α:Type)[uj α](bd:α->Prop)(t:TypeId):Prop:=
 ∀{H:Type}(enc:TypeId×Value->H)(W:aiA)(n:Nat)(cs:List Value)(x:DataW H×List MemPlace),DataW.trod enc P W 0 (λ_=>true) true n t cs=some x->(x.1.weights P t).all (·<=reachBytes)=true->∃y:α,rd (hp W) y cs/\bd y
def anyS:ByteArray->Prop:=λs=>s.size<=reachBytes
def NB{α:Type}(bytes:Nat)(bd:α->Prop):List α->Prop:=λxs=>xs.length*bytes<=reachBytes/\∀x∈xs,bd x
section
variable{P:Program}{t e:TypeId}
theorem acy(ht:P.underlying t=some (.int .i64)):Qx P Int anyI t:=by
 intro H enc W n cs x h J;obtain⟨z,rfl,_,u⟩:=DataW.trod_int ht h;refine⟨z,rfl,?_⟩;have:IntKind.i64.min<=z/\z<=IntKind.i64.max:=by simp_all[Lit.wf]
 exact this
theorem acz(ht:P.underlying t=some .string):Qx P ByteArray anyS t:=by
 intro H enc W n cs x h u;obtain⟨z,rfl,rfl,_⟩:=DataW.trod_string ht h;refine⟨z,rfl,?_⟩
 simp_all[DataW.weights,anyS]
theorem yU{α:Type}[uj α]{bd:α->Prop}{bb:Nat}(ht:P.underlying t=some (.slice e))(hc:P.cellsOf e=uj.n α)(hb:P.bytesOf e=bb)(he:Qx P α bd e):Qx P (List α) (NB bb bd) t:=by
 intro H enc W n cs x h hw
 rcases DataW.trod_slice ht h with⟨rfl,rfl⟩|⟨a,len,cap,u,rest,m,rfl,rfl,rfl,_,a0,a8,a6,hg,_,_⟩
 ·exact⟨[],⟨none,0,0,rfl,agT _,aX.nil⟩,σ,λx hx=>by simp at hx⟩
 ·simp only[DataW.weights,ht,List.all_cons,List.all_append,ag1,ahc,ag5] at hw;obtain⟨a5,X,_⟩:=hw
  have key:∀k,k<=len->∃ys:List α,ys.length=k/\(∀i y,ys[i]? =some y->∃vs,aq (hp W) (a.add (ff i (uj.n α))) vs/\rd (hp W) y vs)/\∀y∈ys,bd y:=by
   intro k
   induction k with
   |zero=>simp
   |succ k ih=>
    intro hk;obtain⟨ys,Z,h2,U⟩:=ih ω;have O:=hg k ω;obtain⟨d,hd⟩:∃d,u[k]? =some d:=⟨u[k]'ω,agM _⟩;rw[hd,Option.bind_eq_some_iff] at O;obtain⟨vs,a4,V⟩:=O;obtain⟨y,a7,Y⟩:=he enc W m vs d V (yq X _ (by grind))
    refine⟨ys++[y],by grind,λi z J=>?_,λz J=>?_⟩
    ·by_cases hi:i<k
     ·grind
     ·have:i=k:=by grind
      subst this;rw[ahg ω,Z,ah2] at J
      grind[bh,VR]
    ·rcases agX.1 J with J|J
     ·exact U z J
     ·simp at J;subst J;exact Y
  obtain⟨ys,Z,h2,U⟩:=key len (agT _)
  refine⟨ys,⟨some a,len,cap,rfl,a0,Z,λi y hy=>?_⟩,?_,U⟩
  ·simp_all
  grind
theorem Bx{fs:Array Field}(ht:P.underlying t=some (.struct fs)){H:Type}{enc:TypeId×Value->H}{W:aiA}{n:Nat}{cs:List Value}{x:DataW H×List MemPlace}(h:DataW.trod enc P W 0 (λ_=>true) true n t cs=some x)(hw:(x.1.weights P t).all (·<=reachBytes)=true):
  cs.length=P.cellsOf t/\∀(i:Nat)(f:Field)(ty k o:Nat),fs[i]? =some f->P.cellsOf ty=k->f.type=ty->f.offset=o->∃(m:Nat)(d:DataW H×List MemPlace),DataW.trod enc P W 0 (λ_=>true) true m ty ((cs.drop o).take k)=some d/\(d.1.weights P ty).all (·<=reachBytes)=true:=by
 obtain⟨xs,m,rfl,rfl,hl,u,hf⟩:=DataW.trod_struct ht h;refine⟨hl,?_⟩;rintro i f _ _ _ hi rfl rfl rfl;have J:=(ah5.1 hi).1;obtain⟨d,O⟩:∃d,xs[i]? =some d:=⟨xs[i]'ω,agM _⟩;refine⟨m,d,by grind,?_⟩;simp only[DataW.weights,ht] at hw;exact jK hw i f.type d.1 (by grind) (by grind)
theorem Ur{α:Type}[uj α]{bd:α->Prop}(ho:Qx P α bd t){H:Type}{enc:TypeId×Value->H}{W:aiA}{v:Value}{d:DataW H}{ps:List MemPlace}(h:DataW.Trod enc P W 0 (λ_=>true) true t v d ps)
  (hw:(d.weights P t).all (·<=reachBytes)=true):∃y:α,rd (hp W) y v.cells.toList/\bd y:=by
 obtain⟨n,h⟩:=h;exact ho enc W n _ _ h hw
theorem VS{α:Type}[uj α]{bd:α->Prop}{bb:Nat}(ho:Qx P (List α) (NB bb bd) t)(ht:P.underlying t=some (.slice e)){H:Type}{enc:TypeId×Value->H}{W:aiA}{b:Nat}{v:Value}{d:DataW H}{ps:List MemPlace}
  (hval:Value.okWide P W .any b t v) (h:DataW.Trod enc P W 0 (λ_=>true) true t v d ps) (hw:(d.weights P t).all (·<=reachBytes)=true):∃(xs:List α)(a:aiz)(l c:Nat),v=vS a l c/\l<=c/\aX (hp W) xs a l/\NB bb bd xs:=by
 obtain⟨xs,⟨a,l,c,O,u,J⟩,hb⟩:=Ur ho h hw;refine⟨xs,a,l,c,?_,u,J,hb⟩;cases v<;>first|(simp[Value.okWide,ht,Cell.okWide,Cell.ok] at hval;done)|simpa[Value.cells] using O
theorem Sm{α:Type}[uj α]{bd:α->Prop}{fs:Array Field}(ho:Qx P α bd t)(ht:P.underlying t=some (.struct fs)){H:Type}{enc:TypeId×Value->H}{W:aiA}{b:Nat}{v:Value}{d:DataW H}{ps:List MemPlace}
  (hval:Value.okWide P W .any b t v) (h:DataW.Trod enc P W 0 (λ_=>true) true t v d ps) (hw:(d.weights P t).all (·<=reachBytes)=true):∃(x:α)(cs:List Value),v=.agg ⟨cs⟩/\rd (hp W) x cs/\bd x:=by
 obtain⟨x,u,hb⟩:=Ur ho h hw;simp only[Value.okWide,ht] at hval;obtain⟨cs,rfl,_⟩:=hval;exact⟨x,cs.toList,rfl,u,hb⟩
theorem ZP{w w':aiA}(h:Ev w w')(g:Gr w w'):Below w.heap.size w w':=by
 refine⟨h.os,h.tape,h.output,h.size,λk J=>?_⟩;cases ho:w.heap[k]? with
 |none=>simp_all
 |some o=>
  by_cases u:NG o=true
  ·have:hp w k=some o:=by simp_all[hp,G0]
   exact sD (g k o this)
  ·cases o<;>first|exact absurd rfl u|exact h.dfr _ _ ho
theorem Ae(hl:laidOutB P=true){H:Type}{enc:TypeId×Value->H}{W W':aiA}(hb:Below W.heap.size W W'){sp:Nat->Bool}:∀{ts:List TypeId}{vs:List Value}{ds:List (DataW H)}{ps:List MemPlace},
  (ts.all λt=>P.readableRec t&&decide (t<P.types.size))=true->DataW.TrodAll enc P W 0 (λ_=>true) true ts vs ds ps->(∀x∈ps,x.block<W.heap.size)->(∀x∈ps,sp x.block=true)->
  DataW.TrodAll enc P W' 0 sp true ts vs ds ps
 |[],[],[],ps,_,h,_,_=>h
 |[],_::_,_,_,_,h,_,_=>h.elim
 |[],[],_::_,_,_,h,_,_=>h.elim
 |_::_,[],_,_,_,h,_,_=>h.elim
 |_::_,_::_,[],_,_,h,_,_=>h.elim
 |t::ts,v::vs,d::ds,ps,ht,h,hlt,hsp=>by
  obtain⟨p,q,h1,h2,rfl⟩:=h
  rw[List.all_cons,ag1,ag1,ahc] at ht
  exact⟨p,q,WideElems.Trod_stays hl ht.1.1 ht.1.2 h1 (λx hx=>hb.same (hlt x (by grind))) (λx hx=>hsp x (by grind)),Ae hl hb ht.2 h2 (λx hx=>hlt x (by grind)) (λx hx=>hsp x (by grind)),rfl⟩
theorem ZQ{H:Type}{enc:TypeId×Value->H}{s:ChangeSpec}{f:Func}{W W':aiA}{args:Array Value}{ds gs:List (DataW H)}{before:List MemPlace}{tb:TypeId}(hv:s.vars=[])(hrt:f.resultTypes=#[tb])(htb:P.underlying tb=some .bool)
  (hsp:s.fn H (ds++gs)={ results:=[.lit (.bool true)],args:=ds }) (hl:laidOutB P=true) (hrd:(f.params.toList.all λt=>P.readableRec t&&decide (t<P.types.size))=true)
  (hW:DataW.Whole enc P f.params.toList s.vars false W args.toList ds gs before) (hE:Ev W W') (hg:Gr W W'):s.post enc P f false true false false W args (vB true) W':=by
 have hb:=ZP hE hg;have a0:∀p∈before,p.block<W.heap.size:=λp hp=>hW.lt p hp;have V:∀p∈before,(λb=>decide (b<W.heap.size)) p.block=true:=λp hp=>by simp_all
 have X:=hW;obtain⟨p,q,h1,Y,rfl,h3,h4⟩:=hW
 have hq:q=[]:=by
  rw[hv] at Y;cases gs with
  |nil=>exact Y
  |cons _ _=>exact Y.elim
 subst hq;rw[ahe] at*;have J:∀u:Nat->Bool,(∀x∈p,u x.block=true)->DataW.TrodAll enc P W' 0 u true f.params.toList args.toList (s.fn H (ds++gs)).args p:=λu hs=>by grind[Ae]
 have O:∀u:Nat->Bool,DataW.TrodVars enc P W' u s.vars (s.fn H (ds++gs)).vars []:=λu=>by
  rw[hsp,hv];rfl
 have U:∀(b:Nat)(u:Nat->Bool)(Z:Bool),DataW.TrodAll enc P W' b u Z f.resultTypes.toList ((vB true).resultList f.resultTypes.size) (s.fn H (ds++gs)).results []:=λb u Z=>by
  rw[hsp,hrt];exact trodAll_cons_mk (shut_bool htb _) trodAll_mk0
 have a4:∀(j:Nat)(t:TypeId)(r:Value),f.resultTypes[j]? =some t->((vB true).resultList f.resultTypes.size)[j]? =some r->Value.okWide P W' .any 0 t r:=ok_one hrt rfl (okWide_bool_mk htb _)
 refine⟨ds,gs,p,[],p,[],X,U _ _ _,J _ V,O _,World.keptBut_mono (λx hx=>⟨hx,?_⟩) (hb.frame (·∈p)),λ_=>?_⟩
 ·simp_all
 simp_all
end
end
section
open Go.V Go.RowKit Go.WideShapes Go.ChangeShapes Go.ChangeAt
theorem agJ:ownKnob Tryz.prog.godebug=none:=by kernel_rfl
theorem VT:Tryz.pinned.checked.prog.mayEnter=true:=by kernel_rfl
theorem ZR:Tryz.pinned.checked.prog.liftsFinal=Rows.topUniqueRow.lifted:=by kernel_rfl
theorem ZS:Tryz.pinned.checked.prog.make=some Rows.topUniqueRow.make:=by kernel_rfl
theorem acA:laidOutB Tryz.pinned.checked.prog=true:=by kernel_rfl
theorem VU:mapsRowed Tryz.pinned.checked.prog=true:=by kernel_rfl
theorem VV:Tryz.pinned.checked.prog.stops=[]:=by kernel_rfl
theorem VW:Tryz.pinned.checked.prog.stopKnobs=[]:=by kernel_rfl
theorem VX:Tryz.pinned.checked.prog.stopsHeard=true:=by kernel_rfl
theorem ZT:Tryz.pinned.checked.prog.plainKeys=false:=by kernel_rfl
theorem VY:Tryz.pinned.checked.prog.looks []=true:=by kernel_rfl
theorem ZU:Tryz.pinned.checked.prog.mainIs=some (true,"5752f73987eab450df8fa777ac1da065d74fe7e5dd4b24fd50114edcd979b5cc".toList):=by kernel_rfl
theorem agh:laidOutB Tryz.prog=true:=by kernel_rfl
theorem Jo:Tryz.prog.cellsOf 3=1:=by kernel_rfl
theorem ae_:Tryz.prog.bytesOf 3=8:=by kernel_rfl
theorem Qn:Tryz.prog.cellsOf 9=1:=by kernel_rfl
theorem ZV:Tryz.prog.bytesOf 9=16:=by kernel_rfl
theorem Qo:Tryz.prog.cellsOf 24=1:=by kernel_rfl
theorem ZW:Tryz.prog.cellsOf 22=1:=by kernel_rfl
theorem ZX:Tryz.prog.cellsOf 23=1:=by kernel_rfl
theorem ZY:Tryz.prog.cellsOf 25=1:=by kernel_rfl
theorem ZZ:Tryz.prog.cellsOf 288=2:=by kernel_rfl
theorem afa:Tryz.prog.bytesOf 288=24:=by kernel_rfl
theorem Z0:Tryz.prog.cellsOf 134=3:=by kernel_rfl
theorem afb:Tryz.prog.bytesOf 134=40:=by kernel_rfl
theorem afc:Tryz.prog.cellsOf 27=5:=by kernel_rfl
theorem Z1:Qx Tryz.prog Int anyI 3:=acy Tryz.underlying3
theorem Z2:Qx Tryz.prog (List Int) (NB 8 anyI) 24:=yU Tryz.underlying24 Jo ae_ Z1
theorem agi:Qx Tryz.prog ByteArray anyS 9:=acz Tryz.underlying9
theorem agj:Qx Tryz.prog (List ByteArray) (NB 16 anyS) 23:=yU Tryz.underlying23 Qn ZV agi
theorem agk:Qx Tryz.prog nf (λt=>anyS t.name/\anyI t.level) 288:=by
 intro H enc W n cs x h Y;obtain⟨hl,hf⟩:=Bx Tryz.underlying288 h Y;rw[ZZ] at hl;obtain⟨_,_,U,w0⟩:=hf 0 _ 9 1 0 rfl Qn rfl rfl;obtain⟨_,_,t1,J⟩:=hf 1 _ 3 1 1 rfl Jo rfl rfl;obtain⟨y0,r0,b0⟩:=agi enc W _ _ _ U w0;obtain⟨u,X,O⟩:=Z1 enc W _ _ _ t1 J
 match cs,hl with
 |[c0,c1],_=>
  have Z:[c0]=[.string y0]:=r0;have V:[c1]=[iI u]:=X;cases Z;cases V;exact⟨⟨y0,u⟩,rfl,b0,O⟩
theorem afd:Qx Tryz.prog (List nf) (NB 24 λt=>anyS t.name/\anyI t.level) 22:=yU Tryz.underlying22 ZZ afa agk
theorem agl:Qx Tryz.prog aJ (λp=>anyI p.left/\NB 8 anyI p.right/\anyI p.level) 134:=by
 intro H enc W n cs x h hw;obtain⟨hl,hf⟩:=Bx Tryz.underlying134 h hw;rw[Z0] at hl;obtain⟨_,_,X,w0⟩:=hf 0 _ 3 1 0 rfl Jo rfl rfl;obtain⟨_,_,t1,U⟩:=hf 1 _ 24 1 1 rfl Qo rfl rfl;obtain⟨_,_,t2,w2⟩:=hf 2 _ 3 1 2 rfl Jo rfl rfl;obtain⟨y0,r0,b0⟩:=Z1 enc W _ _ _ X w0;obtain⟨Y,⟨a,l,c,r1,J,u⟩,V⟩:=Z2 enc W _ _ _ t1 U;obtain⟨O,r2,b2⟩:=Z1 enc W _ _ _ t2 w2
 match cs,hl with
 |[c0,c1,c2],_=>
  have e0:[c0]=[iI y0]:=r0;have e1:[c1]=[vS a l c]:=r1;have Z:[c2]=[iI O]:=r2;cases e0;cases e1;cases Z;exact⟨⟨y0,Y,O⟩,⟨a,l,c,rfl,J,u⟩,b0,V,b2⟩
theorem afe:Qx Tryz.prog (List aJ) (NB 40 λp=>anyI p.left/\NB 8 anyI p.right/\anyI p.level) 25:=yU Tryz.underlying25 Z0 afb agl
def agK(g:ah):Prop:=lq g/\g.terms.length*24<=140737488355328/\g.cR.length*16<=140737488355328
theorem agm:Qx Tryz.prog ah agK 27:=by
 intro H enc W n cs x h hw;obtain⟨hl,hf⟩:=Bx Tryz.underlying27 h hw;rw[afc] at hl;obtain⟨_,_,t0,w0⟩:=hf 0 _ 22 1 0 rfl ZW rfl rfl;obtain⟨_,_,t1,w1⟩:=hf 1 _ 23 1 1 rfl ZX rfl rfl;obtain⟨_,_,t2,w2⟩:=hf 2 _ 24 1 2 rfl Qo rfl rfl;obtain⟨_,_,t3,w3⟩:=hf 3 _ 3 1 3 rfl Jo rfl rfl;obtain⟨_,_,t4,w4⟩:=hf 4 _ 25 1 4 rfl ZY rfl rfl;obtain⟨y0,⟨a0,Z,U,r0,k0,q0⟩,b0⟩:=afd enc W _ _ _ t0 w0;obtain⟨V,⟨a1,l1,O,r1,k1,q1⟩,b1⟩:=agj enc W _ _ _ t1 w1;obtain⟨y2,⟨a2,l2,J,r2,k2,q2⟩,b2⟩:=Z2 enc W _ _ _ t2 w2;obtain⟨X,r3,b3⟩:=Z1 enc W _ _ _ t3 w3;obtain⟨Y,⟨a4,l4,u,r4,k4,q4⟩,b4⟩:=afe enc W _ _ _ t4 w4
 match cs,hl with
 |[c0,c1,c2,c3,c4],_=>
  have e0:[c0]=[vS a0 Z U]:=r0;have e1:[c1]=[vS a1 l1 O]:=r1;have e2:[c2]=[vS a2 l2 J]:=r2;have e3:[c3]=[iI X]:=r3;have e4:[c4]=[vS a4 l4 u]:=r4;cases e0;cases e1;cases e2;cases e3;cases e4;refine⟨⟨y0,V,y2,X,Y⟩,⟨⟨a0,Z,U,a1,l1,O,a2,l2,J,X,a4,l4,u⟩,rfl,q0,q1,q2,rfl,q4,k0,k1,k2,k4⟩,?_⟩;have z0:=b0.1;have z1:=b1.1;have z2:=b2.1;have z4:=b4.1;unfold reachBytes at z0 z1 z2 z4
  refine⟨⟨by show y0.length<=_;omega,by show V.length<=_;omega,by show y2.length<=_;omega,by show Y.length*40<=_;omega,λt ht=>⟨?_,(b0.2 t ht).2⟩,λs hs=>?_,λp hp=>?_⟩,by show y0.length*24<=_;omega,by show V.length*16<=_;omega⟩
  ·have:=(b0.2 t ht).1;unfold anyS reachBytes at this;omega
  ·have:=b1.2 s hs;unfold anyS reachBytes at this;omega
  ·have:=(b4.2 p hp).2.1.1;unfold reachBytes at this;omega
theorem agn:Tryz.prog.globalNamed "math/bits.deBruijn64tab"=some 0:=by kernel_rfl
theorem Z3:(Tryz.prog.globals[0]?).map (·.type)=some 465:=by kernel_rfl
theorem Z4:Tryz.prog.cellsOf 465=64:=by kernel_rfl
theorem VZ:Tryz.prog.cellsOf 5=1:=by kernel_rfl
theorem table{W:aiA}(h:laidMetH Tryz.prog [("math/bits.deBruijn64tab",Rows.laid_math_bits_deBruijn64tab)] W):dP (hp W):=by
 have ht:Lib.TabIs Tryz.prog W "math/bits.deBruijn64tab" .u8 (Lib.deBruijn64tab.map λ(k:Nat)=>(k:Int)):=
  Lib.tabIs_of_head (rest:=[]) agn Z3 Tryz.underlying465 Tryz.underlying5 VZ Z4 h
 refine .inr ⟨_,rfl,λj v J=>?_⟩;have u:=(agN.1 J).1;have hc:=ht.cell agn j (by simpa[aax] using u);rw[ak];refine Qm (hc.trans ?_);rw[<-J];simp only[aax,agS,ag5] at J u ⊢;rw[agM u];simp[u]
noncomputable def E3(os:Os):aiA:=
  { World.holding Tryz.prog os ⟨#[],#[],[]⟩ with heap:=(World.holding Tryz.prog os ⟨#[],#[],[]⟩).heap.modify 0 fun
      |.cells _ t frozen=>.cells ⟨aax⟩ t frozen
      |o=>o }
end
end Go.Proofs.YtaoaemnefghnbaaGreatDoor
