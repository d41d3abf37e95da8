/- Texts of this claim, one behind the other. -/
import Derived.Test.YtndaepmjkbmjmaaGreatDoorG2
import Derived.Test.YtndaepmjkbmjmaaGreatDoorCards
import Derived.Test.YtndaepmjkbmjmaaGreatDoorTie
import Derived.WalkKit
import Derived.ProofKit
import Derived.OpenShut
import Derived.Carry
import Derived.OpenVars
import Derived.Deep.DeepHandedRow
import Derived.Lib.LaidTab
import Derived.Test.YtndaepmjkbmjmaaGreatDoorG7
set_option linter.unusedVariables false
set_option linter.unusedSectionVars false
set_option maxRecDepth 100000
set_option maxHeartbeats 16000000
namespace Go.V
end Go.V
namespace Go.Proofs.YtndaepmjkbmjmaaGreatDoor
end Go.Proofs.YtndaepmjkbmjmaaGreatDoor
open Go.V Go.Proofs.YtndaepmjkbmjmaaGreatDoor
namespace Go.Proofs.YtndaepmjkbmjmaaGreatDoor
section
open Go.RowKit Go.WideShapes Go.ChangeShapes
theorem Km {w:aa4} {a:Addr} {v:Value} (h:w.cell? a = some v):rJ (hp w) a = some v:=by
 unfold World.cell? at h;unfold rJ hp;cases ho:w.heap[a.block]? with
 | none=>rw [ho] at h; cases h
 | some o=>rw [ho] at h; cases o <;> first | exact h | cases h
theorem Gw {α β : Type} {f:α->Option β}:∀ {l:List α} {r:List β},l.mapM f = some r->r.length = l.length/\∀ (i:Nat) (a:α) (b:β),l[i]? = some a->r[i]? = some b->f a = some b
 | [],r,h=>by
  simp at h; subst h; exact ⟨rfl,λi a b ha=>by simp at ha⟩
 | x :: l,r,h=>by
  simp only [List.mapM_cons,Option.bind_eq_bind,Option.bind_eq_some_iff,Option.pure_def,Option.some.injEq] at h
  obtain ⟨b,hb,r',hr',rfl⟩:=h
  obtain ⟨h1,h2⟩:=Gw hr'
  refine ⟨by simp [h1],λi a b' ha hb'=>?_⟩
  cases i with
  | zero=>simp at ha hb'; subst ha; subst hb'; exact hb
  | succ i=>exact h2 i a b' (by simpa using ha) (by simpa using hb')
theorem OI {w:aa4} {base n:Nat} {a:Addr} {vs:List Value} (h:w.cells? base a n = some vs):au (hp w) a vs:=by
 unfold World.cells? at h
 split at h
 ·obtain ⟨O,G⟩:=Gw h;intro j v z;have u:=(YT.1 z).1;rw [O,ZX] at u;exact Km (G j j v (by simp [u]) z)
 ·cases h
theorem u7 {H:Type} {P:Program} {e:TypeId} {N:Nat}:∀ {l:List (DataW H)},(DataW.weightsAll P e l).all (·<=N) = true->∀ d∈l,(d.weights P e).all (·<=N) = true
 | [],_,d,hd=>by simp at hd
 | x :: l,h,d,hd=>by
  rw [DataW.weightsAll,aaM,Zd] at h
  rcases Ze.1 hd with rfl | hd
  ·exact h.1
  ·exact u7 h.2 d hd
theorem kW {H:Type} {P:Program} {N:Nat}:∀ {ts:List TypeId} {l:List (DataW H)},(DataW.weightsEach P ts l).all (·<=N) = true->∀ (i:Nat) t d,ts[i]? = some t->l[i]? = some d->(d.weights P t).all (·<=N) = true
 | [],l,_,i,t,d,ht,_=>by simp at ht
 | _ :: _,[],_,i,t,d,_,hd=>by simp at hd
 | t0 :: ts,x :: l,h,i,t,d,ht,hd=>by
  rw [DataW.weightsEach,aaM,Zd] at h
  cases i with
  | zero=>simp at ht hd; subst ht; subst hd; exact h.1
  | succ i=>exact kW h.2 i t d (by simpa using ht) (by simpa using hd)
def LX (P:Program) (α : Type) [qk α] (bd:α->Prop) (t:TypeId):Prop :=
 ∀ {H:Type} (enc:TypeId × Value->H) (W:aa4) (n:Nat) (cs:List Value) (x:DataW H × List MemPlace),DataW.trod enc P W 0 (λ_=>true) true n t cs = some x->(x.1.weights P t).all (·<=reachBytes) = true->∃ y:α,rd (hp W) y cs/\bd y
def anyS:ByteArray->Prop:=λs=>s.size<=reachBytes
def LY {α : Type} (bytes:Nat) (bd:α->Prop):List α->Prop:=λxs=>xs.length * bytes<=reachBytes/\∀ x∈xs,bd x
section
variable {P:Program} {t e:TypeId}
theorem Us (ht:P.underlying t = some (.int .i64)):LX P Int anyI t:=by
 intro H enc W n cs x h G;obtain ⟨z,rfl,_,u⟩:=DataW.trod_int ht h;refine ⟨z,rfl,?_⟩;have:IntKind.i64.min<=z/\z<=IntKind.i64.max:=by simpa [Lit.wf] using u
 exact this
theorem Ut (ht:P.underlying t = some .string):LX P ByteArray anyS t:=by
 intro H enc W n cs x h u;obtain ⟨z,rfl,rfl,_⟩:=DataW.trod_string ht h;refine ⟨z,rfl,?_⟩;simpa [DataW.weights,anyS] using u
theorem vr {α : Type} [qk α] {bd:α->Prop} {bb:Nat} (ht:P.underlying t = some (.slice e)) (hc:P.cellsOf e = qk.n α) (hb:P.bytesOf e = bb) (he:LX P α bd e):LX P (List α) (LY bb bd) t:=by
 intro H enc W n cs x h hw
 rcases DataW.trod_slice ht h with ⟨rfl,rfl⟩ | ⟨a,len,a4,G,rest,m,rfl,rfl,rfl,_,a0,a7,a5,hg,_,_⟩
 ·exact ⟨[],⟨none,0,0,rfl,Zc _,bh.nil⟩,by simp [reachBytes],λx hx=>by simp at hx⟩
 ·simp only [DataW.weights,ht,List.all_cons,aaM,Zd,Y7,Y3] at hw;obtain ⟨a1,a6,_⟩:=hw
  have key:∀ k,k<=len->∃ ys:List α,ys.length = k/\(∀ i y,ys[i]? = some y->∃ vs,au (hp W) (a.add (cE i (qk.n α))) vs/\rd (hp W) y vs)/\∀ y∈ys,bd y:=by
   intro k
   induction k with
   | zero=>exact λ_=>⟨[],rfl,λi y R=>by simp at R,λy R=>by simp at R⟩
   | succ k ih =>
    intro hk;obtain ⟨ys,O,X,h3⟩:=ih ω;have U:=hg k ω;obtain ⟨d,hd⟩ : ∃ d,G[k]? = some d:=⟨G[k]'ω,YU _⟩;rw [hd,Option.bind_eq_some_iff] at U;obtain ⟨vs,Z,V⟩:=U
    obtain ⟨y,a3,Y⟩:=he enc W m vs d V (u7 a6 _ (by
     have:=YV hd;exact aaO this))
    refine ⟨ys ++ [y],by simp [O],λi z u=>?_,λz u=>?_⟩
    ·by_cases hi:i < k
     ·rw [Y8 ω] at u;exact X i z u
     ·have:i = k:=by
       have:=(YT.1 u).1;simp at this; omega
      subst this;rw [Y_ ω,O,Z0] at u;cases u;refine ⟨vs,?_,a3⟩;rw [aN,<- hc];exact OI Z
    ·rcases YY.1 u with u | u
     ·exact h3 z u
     ·simp at u; subst u; exact Y
  obtain ⟨ys,O,X,h3⟩:=key len (Zc _)
  refine ⟨ys,⟨some a,len,a4,rfl,a0,O,λi y R=>?_⟩,?_,h3⟩
  ·obtain ⟨vs,h4,h5⟩:=X i y R;exact ⟨a,vs,rfl,h4,h5⟩
  ·rw [O,<- hb,<- a5];exact Zq (aah _ (Nat.le_add_right _ _)) a1
theorem xX {fs:Array Field} (ht:P.underlying t = some (.struct fs)) {H:Type} {enc:TypeId × Value->H} {W:aa4} {n:Nat} {cs:List Value} {x:DataW H × List MemPlace} (h:DataW.trod enc P W 0 (λ_=>true) true n t cs = some x) (hw:(x.1.weights P t).all (·<=reachBytes) = true) :
  cs.length = P.cellsOf t/\∀ (i:Nat) (f:Field) (ty k o:Nat),fs[i]? = some f->P.cellsOf ty = k->f.type = ty->f.offset = o->∃ (m:Nat) (d:DataW H × List MemPlace),DataW.trod enc P W 0 (λ_=>true) true m ty ((cs.drop o).take k) = some d/\(d.1.weights P ty).all (·<=reachBytes) = true:=by
 obtain ⟨xs,m,rfl,rfl,O,G,hf⟩:=DataW.trod_struct ht h;refine ⟨O,?_⟩;rintro i f _ _ _ hi rfl rfl rfl;have z:=(ZG.1 hi).1;obtain ⟨d,u⟩ : ∃ d,xs[i]? = some d:=⟨xs[i]'ω,YU _⟩;refine ⟨m,d,by rw [hf i f hi,u],?_⟩;simp only [DataW.weights,ht] at hw;exact kW hw i f.type d.1 (by simp [hi]) (by simp [u])
theorem Uu {α : Type} [qk α] {bd:α->Prop} (ho:LX P α bd t) {H:Type} {enc:TypeId × Value->H} {W:aa4} {v:Value} {d:DataW H} {ps:List MemPlace} (h:DataW.Trod enc P W 0 (λ_=>true) true t v d ps)
  (hw:(d.weights P t).all (·<=reachBytes) = true):∃ y:α,rd (hp W) y v.cells.toList/\bd y:=by
 obtain ⟨n,h⟩:=h;exact ho enc W n _ _ h hw
theorem LZ {α : Type} [qk α] {bd:α->Prop} {fs:Array Field} (ho:LX P α bd t) (ht:P.underlying t = some (.struct fs)) {H:Type} {enc:TypeId × Value->H} {W:aa4} {b:Nat} {v:Value} {d:DataW H} {ps:List MemPlace}
  (hval:Value.okWide P W .any b t v) (h:DataW.Trod enc P W 0 (λ_=>true) true t v d ps) (hw:(d.weights P t).all (·<=reachBytes) = true):∃ (x:α) (cs:List Value),v = .agg ⟨cs⟩/\rd (hp W) x cs/\bd x:=by
 obtain ⟨x,z,u⟩:=Uu ho h hw;simp only [Value.okWide,ht] at hval;obtain ⟨cs,rfl,_⟩:=hval;exact ⟨x,cs.toList,rfl,z,u⟩
theorem RZ {w w' : aa4} (h:Ev w w') (g:Gr w w'):Below w.heap.size w w':=by
 refine ⟨h.os,h.tape,h.output,h.size,λk z=>?_⟩;cases ho:w.heap[k]? with
 | none=>rw [Array.getElem?_eq_none_iff] at ho; omega
 | some o =>
  by_cases u:H5 o = true
  ·have:hp w k = some o:=by unfold hp; rw [ho,CP u]
   exact oR (g k o this)
  ·cases o <;> first | exact absurd rfl u | exact h.dfr _ _ ho
theorem wO (hl:laidOutB P = true) {H:Type} {enc:TypeId × Value->H} {W W' : aa4} (hb:Below W.heap.size W W') {sp:Nat->Bool}:∀ {ts:List TypeId} {vs:List Value} {ds:List (DataW H)} {ps:List MemPlace},
  (ts.all λt=>P.readableRec t && decide (t < P.types.size)) = true->DataW.TrodAll enc P W 0 (λ_=>true) true ts vs ds ps->(∀ x∈ps,x.block < W.heap.size)->(∀ x∈ps,sp x.block = true) ->
  DataW.TrodAll enc P W' 0 sp true ts vs ds ps
 | [],[],[],ps,_,h,_,_=>h
 | [],_ :: _,_,_,_,h,_,_=>h.elim
 | [],[],_ :: _,_,_,h,_,_=>h.elim
 | _ :: _,[],_,_,_,h,_,_=>h.elim
 | _ :: _,_ :: _,[],_,_,h,_,_=>h.elim
 | t :: ts,v :: vs,d :: ds,ps,ht,h,hlt,hsp=>by
  obtain ⟨p,q,h1,h2,rfl⟩:=h
  rw [List.all_cons,Zd,Zd,Y7] at ht
  exact ⟨p,q,WideElems.Trod_stays hl ht.1.1 ht.1.2 h1 (λx hx=>hb.same (hlt x (by simp [hx]))) (λx hx=>hsp x (by simp [hx])),wO hl hb ht.2 h2 (λx hx=>hlt x (by simp [hx])) (λx hx=>hsp x (by simp [hx])),rfl⟩
theorem R0 {H:Type} {enc:TypeId × Value->H} {s:ChangeSpec} {f:Func} {W W' : aa4} {args:Array Value} {ds gs:List (DataW H)} {before:List MemPlace} {tb:TypeId} (hv:s.vars = []) (hrt:f.resultTypes = #[tb]) (htb:P.underlying tb = some .bool)
  (hsp:s.fn H (ds ++ gs) = { results:=[.lit (.bool true)],args:=ds }) (hl:laidOutB P = true) (hrd:(f.params.toList.all λt=>P.readableRec t && decide (t < P.types.size)) = true)
  (hW:DataW.Whole enc P f.params.toList s.vars false W args.toList ds gs before) (hE:Ev W W') (hg:Gr W W'):s.post enc P f false true false false W args (.bool true) W':=by
 have hb:=RZ hE hg;have R:∀ p∈before,p.block < W.heap.size:=λp hp=>hW.lt p hp;have X:∀ p∈before,(λb=>decide (b < W.heap.size)) p.block = true:=λp hp=>by simpa using R p hp
 have a0:=hW;obtain ⟨p,q,h1,h2,rfl,h3,h4⟩:=hW
 have hq:q = []:=by
  rw [hv] at h2;cases gs with
  | nil=>exact h2
  | cons _ _=>exact h2.elim
 subst hq;rw [Zm] at *
 have u:∀ G:Nat->Bool,(∀ x∈p,G x.block = true)->DataW.TrodAll enc P W' 0 G true f.params.toList args.toList (s.fn H (ds ++ gs)).args p:=λG hs=>by
  rw [hsp]; exact wO hl hb hrd h1 R hs
 have z:∀ G:Nat->Bool,DataW.TrodVars enc P W' G s.vars (s.fn H (ds ++ gs)).vars []:=λG=>by
  rw [hsp,hv]; exact rfl
 have O:∀ (b:Nat) (G:Nat->Bool) (hd:Bool),DataW.TrodAll enc P W' b G hd f.resultTypes.toList ((Value.bool true).resultList f.resultTypes.size) (s.fn H (ds ++ gs)).results []:=λb G hd=>by
  rw [hsp,hrt]; exact trodAll_cons_mk (shut_bool htb _) trodAll_mk0
 have Z:∀ (j:Nat) (t:TypeId) (r:Value),f.resultTypes[j]? = some t->((Value.bool true).resultList f.resultTypes.size)[j]? = some r->Value.okWide P W' .any 0 t r:=ok_one hrt rfl (okWide_bool_mk htb _)
 refine ⟨ds,gs,p,[],p,[],a0,O _ _ _,u _ X,z _,World.keptBut_mono (λx Y=>⟨Y,?_⟩) (hb.frame (·∈p)),λ_=>?_⟩
 ·exact Or.inr (by simpa using Y)
 ·refine ⟨Z,_,_,([] ++ p) ++ [],⟨[] ++ p,[],trodAll_append (u _ (λ_ _=>rfl)) (O _ _ _),z _,rfl,?_,?_⟩,?_⟩
  ·intro b V hp;have U:MemPlace.cell b V∈p:=by simpa using hp
   rw [hb.frozen (R _ U)];exact h3 b V U
  ·intro ha; cases ha
  ·intro x Y _;simpa using Y
end
end
section
open Go.V Go.RowKit Go.WideShapes Go.ChangeShapes Go.ChangeAt
theorem Yp:ownKnob Tryz.prog.godebug = none:=by kernel_rfl
theorem OJ:Tryz.pinned.checked.prog.mayEnter = true:=by kernel_rfl
theorem R3:Tryz.pinned.checked.prog.liftsFinal = Rows.tableOneRow.lifted:=by kernel_rfl
theorem R4:Tryz.pinned.checked.prog.make = some Rows.tableOneRow.make:=by kernel_rfl
theorem Xz:laidOutB Tryz.prog = true:=by kernel_rfl
theorem EG:Tryz.prog.cellsOf 3 = 1:=by kernel_rfl
theorem Wy:Tryz.prog.bytesOf 3 = 8:=by kernel_rfl
theorem Kn:Tryz.prog.cellsOf 9 = 1:=by kernel_rfl
theorem R5:Tryz.prog.bytesOf 9 = 16:=by kernel_rfl
theorem Ko:Tryz.prog.cellsOf 24 = 1:=by kernel_rfl
theorem R6:Tryz.prog.cellsOf 22 = 1:=by kernel_rfl
theorem R7:Tryz.prog.cellsOf 23 = 1:=by kernel_rfl
theorem R8:Tryz.prog.cellsOf 25 = 1:=by kernel_rfl
theorem R9:Tryz.prog.cellsOf 83 = 2:=by kernel_rfl
theorem Wz:Tryz.prog.bytesOf 83 = 24:=by kernel_rfl
theorem R_:Tryz.prog.cellsOf 81 = 3:=by kernel_rfl
theorem WA:Tryz.prog.bytesOf 81 = 40:=by kernel_rfl
theorem WB:Tryz.prog.cellsOf 27 = 5:=by kernel_rfl
theorem Sa:LX Tryz.prog Int anyI 3:=Us Tryz.underlying3
theorem UW:LX Tryz.prog (List Int) (LY 8 anyI) 24:=vr Tryz.underlying24 EG Wy Sa
theorem XA:LX Tryz.prog ByteArray anyS 9:=Ut Tryz.underlying9
theorem XB:LX Tryz.prog (List ByteArray) (LY 16 anyS) 23:=vr Tryz.underlying23 Kn R5 XA
theorem XC:LX Tryz.prog jM (λt=>anyS t.name/\anyI t.level) 83:=by
 intro H enc W n cs x h V;obtain ⟨z,hf⟩:=xX Tryz.underlying83 h V;rw [R9] at z;obtain ⟨_,_,X,w0⟩:=hf 0 _ 9 1 0 rfl Kn rfl rfl;obtain ⟨_,_,Z,O⟩:=hf 1 _ 3 1 1 rfl EG rfl rfl;obtain ⟨G,r0,b0⟩:=XA enc W _ _ _ X w0;obtain ⟨u,r1,R⟩:=Sa enc W _ _ _ Z O
 match cs,z with
 | [c0,c1],_ =>
  have Y:[c0] = [.string G]:=r0;have U:[c1] = [.int .i64 u]:=r1;cases Y; cases U;exact ⟨⟨G,u⟩,rfl,b0,R⟩
theorem WC:LX Tryz.prog (List jM) (LY 24 λt=>anyS t.name/\anyI t.level) 22:=vr Tryz.underlying22 R9 Wz XC
theorem XD:LX Tryz.prog aP (λp=>anyI p.left/\LY 8 anyI p.right/\anyI p.level) 81:=by
 intro H enc W n cs x h hw;obtain ⟨G,hf⟩:=xX Tryz.underlying81 h hw;rw [R_] at G;obtain ⟨_,_,t0,w0⟩:=hf 0 _ 3 1 0 rfl EG rfl rfl;obtain ⟨_,_,t1,U⟩:=hf 1 _ 24 1 1 rfl Ko rfl rfl;obtain ⟨_,_,Y,w2⟩:=hf 2 _ 3 1 2 rfl EG rfl rfl;obtain ⟨R,r0,b0⟩:=Sa enc W _ _ _ t0 w0;obtain ⟨V,⟨a,l,c,r1,u,z⟩,X⟩:=UW enc W _ _ _ t1 U;obtain ⟨O,r2,b2⟩:=Sa enc W _ _ _ Y w2
 match cs,G with
 | [c0,c1,c2],_ =>
  have e0:[c0] = [.int .i64 R]:=r0;have e1:[c1] = [.slice a l c]:=r1;have Z:[c2] = [.int .i64 O]:=r2;cases e0; cases e1; cases Z;exact ⟨⟨R,V,O⟩,⟨a,l,c,rfl,u,z⟩,b0,X,b2⟩
theorem WE:LX Tryz.prog (List aP) (LY 40 λp=>anyI p.left/\LY 8 anyI p.right/\anyI p.level) 25:=vr Tryz.underlying25 R_ WA XD
def Yq (g:af):Prop:=jd g/\g.terms.length * 24<=140737488355328/\g.nons.length * 16<=140737488355328
theorem XE:LX Tryz.prog af Yq 27:=by
 intro H enc W n cs x h hw;obtain ⟨Z,hf⟩:=xX Tryz.underlying27 h hw;rw [WB] at Z;obtain ⟨_,_,t0,w0⟩:=hf 0 _ 22 1 0 rfl R6 rfl rfl;obtain ⟨_,_,t1,w1⟩:=hf 1 _ 23 1 1 rfl R7 rfl rfl;obtain ⟨_,_,t2,w2⟩:=hf 2 _ 24 1 2 rfl Ko rfl rfl;obtain ⟨_,_,t3,w3⟩:=hf 3 _ 3 1 3 rfl EG rfl rfl;obtain ⟨_,_,t4,w4⟩:=hf 4 _ 25 1 4 rfl R8 rfl rfl;obtain ⟨U,⟨a0,l0,O,r0,k0,q0⟩,X⟩:=WC enc W _ _ _ t0 w0;obtain ⟨R,⟨a1,l1,u,r1,k1,q1⟩,Y⟩:=XB enc W _ _ _ t1 w1;obtain ⟨y2,⟨a2,l2,z,r2,k2,q2⟩,b2⟩:=UW enc W _ _ _ t2 w2;obtain ⟨V,r3,b3⟩:=Sa enc W _ _ _ t3 w3;obtain ⟨y4,⟨a4,l4,G,r4,k4,q4⟩,b4⟩:=WE enc W _ _ _ t4 w4
 match cs,Z with
 | [c0,c1,c2,c3,c4],_ =>
  have e0:[c0] = [.slice a0 l0 O]:=r0;have e1:[c1] = [.slice a1 l1 u]:=r1;have e2:[c2] = [.slice a2 l2 z]:=r2;have e3:[c3] = [.int .i64 V]:=r3;have e4:[c4] = [.slice a4 l4 G]:=r4;cases e0; cases e1; cases e2; cases e3; cases e4;refine ⟨⟨U,R,y2,V,y4⟩,⟨⟨a0,l0,O,a1,l1,u,a2,l2,z,V,a4,l4,G⟩,rfl,q0,q1,q2,rfl,q4,k0,k1,k2,k4⟩,?_⟩;have z0:=X.1;have z1:=Y.1;have z2:=b2.1;have z4:=b4.1;unfold reachBytes at z0 z1 z2 z4
  refine ⟨⟨by show U.length<=_; omega,by show R.length<=_; omega,by show y2.length<=_; omega,by show y4.length * 40<=_; omega,λt ht=>⟨?_,(X.2 t ht).2⟩,λs hs=>?_,λp hp=>?_⟩,by show U.length * 24<=_; omega,by show R.length * 16<=_; omega⟩
  ·have:=(X.2 t ht).1; unfold anyS reachBytes at this; omega
  ·have:=Y.2 s hs; unfold anyS reachBytes at this; omega
  ·have:=(b4.2 p hp).2.1.1; unfold reachBytes at this; omega
theorem XF : Tryz.prog.globalNamed "math/bits.deBruijn64tab" = some 0 := by kernel_rfl
theorem Sb:(Tryz.prog.globals[0]?).map (·.type) = some 294:=by kernel_rfl
theorem Sd:Tryz.prog.cellsOf 294 = 64:=by kernel_rfl
theorem OL:Tryz.prog.cellsOf 5 = 1:=by kernel_rfl
theorem table {W : aa4} (h : laidMetH Tryz.prog [("math/bits.deBruijn64tab", Rows.laid_math_bits_deBruijn64tab)] W) : gA (hp W) := by
 have ht : Lib.TabIs Tryz.prog W "math/bits.deBruijn64tab" .u8 (Lib.deBruijn64tab.map λ(k : Nat) => (k : Int)) :=
  Lib.tabIs_of_head (rest:=[]) XF Sb Tryz.underlying294 Tryz.underlying5 OL Sd h
 refine .inr ⟨_,rfl,λj v z=>?_⟩;have u:=(YT.1 z).1;have G:=ht.cell XF j (by simpa [SJ] using u);rw [aK];refine Km (G.trans ?_);rw [<- z];simp only [SJ,YW,Y3] at z u ⊢;rw [YU u];simp [u]
theorem tables {W : aa4} (h : laidMetH Tryz.prog [("math/bits.deBruijn32tab", Rows.laid_math_bits_deBruijn32tab), ("math/bits.deBruijn64tab", Rows.laid_math_bits_deBruijn64tab), ("internal/strconv.uint64pow10", Rows.laid_internal_strconv_uint64pow10)] W) : gA (hp W) := by
 have u := h.filter λx => x.1 == "math/bits.deBruijn64tab";have e : ([("math/bits.deBruijn32tab", Rows.laid_math_bits_deBruijn32tab), ("math/bits.deBruijn64tab", Rows.laid_math_bits_deBruijn64tab), ("internal/strconv.uint64pow10", Rows.laid_internal_strconv_uint64pow10)].filter λx => x.1 == "math/bits.deBruijn64tab" : List (String × DataW Unit)) = [("math/bits.deBruijn64tab", Rows.laid_math_bits_deBruijn64tab)] := by kernel_rfl
 rw [e] at u;exact table u
noncomputable def Be (os:Os):aa4 :=
  { World.holding Tryz.prog os ⟨#[],#[],[]⟩ with heap:=((((World.holding Tryz.prog os ⟨#[],#[],[]⟩).heap.modify 0 fun
      | .cells _ t frozen=>.cells ⟨SJ⟩ t frozen
      | o=>o).modify 3 fun
      | .cells _ t frozen=>.cells ⟨[.int .u8 0,.int .u8 1,.int .u8 28,.int .u8 2,.int .u8 29,.int .u8 14,.int .u8 24,.int .u8 3,.int .u8 30,.int .u8 22,.int .u8 20,.int .u8 15,.int .u8 25,.int .u8 17,.int .u8 4,.int .u8 8,.int .u8 31,.int .u8 27,.int .u8 13,.int .u8 23,.int .u8 21,.int .u8 19,.int .u8 16,.int .u8 7,.int .u8 26,.int .u8 12,.int .u8 18,.int .u8 6,.int .u8 11,.int .u8 5,.int .u8 10,.int .u8 9]⟩ t frozen
      | o=>o).modify 1 fun
      | .cells _ t frozen=>.cells ⟨[.int .u64 1,.int .u64 10,.int .u64 100,.int .u64 1000,.int .u64 10000,.int .u64 100000,.int .u64 1000000,.int .u64 10000000,.int .u64 100000000,.int .u64 1000000000,.int .u64 10000000000,.int .u64 100000000000,.int .u64 1000000000000,.int .u64 10000000000000,.int .u64 100000000000000,.int .u64 1000000000000000,.int .u64 10000000000000000,.int .u64 100000000000000000,.int .u64 1000000000000000000,.int .u64 10000000000000000000]⟩ t frozen
      | o=>o) }
end
end Go.Proofs.YtndaepmjkbmjmaaGreatDoor
