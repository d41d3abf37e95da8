/- A part of the claim. -/
import Derived.Test.YtaoaemnefghnbaaGreatDoorG4
import Derived.Test.YtaoaemnefghnbaaGreatDoorG2
import Derived.Test.YtaoaemnefghnbaaGreatDoorG3
import Derived.LaidEql
set_option linter.unusedVariables false
set_option linter.unusedSectionVars false
set_option maxRecDepth 100000
set_option maxHeartbeats 16000000
namespace Go.Proofs.YtaoaemnefghnbaaGreatDoor
open Tryz
inductive TB (g:B):Int->Prop
 |mk (p:aD):p∈g.prods->(∀s∈p.right,TB g s)->TB g p.left
inductive W2 (g:B):Int->Nat->Prop
 |tm (t:Nat):t<g.T->W2 g (t:Int) t
 |pr (p:aD) (i:Nat) (s:Int) (t:Nat):p∈g.prods->p.right[i]? =some s->(∀x∈p.right.take i,TB g x)->W2 g s t->W2 g p.left t
def W3(g:B)(row:Az):Prop:=∀s∈row,TB g s
def wo(g:B)(row:Az)(t:Nat):Prop:=∃(i:Nat)(s:Int),row[i]? =some s/\(∀x∈row.take i,TB g x)/\W2 g s t
theorem Q7{nl:At}{row:Az}:HW nl row=true↔∀s∈row,bt nl s.toNat=true:=by simp[HW]
theorem D9(nl:At)(vs:A5):∀(row:Az)(bs:At)(k:Nat),bt (qB nl vs bs row) k=true↔bt bs k=true\/(k<bs.length/\∃(i:Nat)(s:Int),row[i]? =some s/\(∀x∈row.take i,bt nl x.toNat=true)/\bt (vs.getD s.toNat []) k=true)
 |[],bs,k=>by simp[Q6]
 |s::r,bs,k=>by
  rw[MQ]
  constructor
  ·intro h
   by_cases hz:bt nl s.toNat=true
   ·rw[gD hz,D9 nl vs r] at h
    rw[iK,bF,kj,jn,jV] at h
    rcases h with(h|⟨h1,h2⟩)|⟨h1,i,y,h2,h3,h4⟩
    ·simp_all
    ·exact .inr ⟨h1,0,s,rfl,V,h2⟩
    ·refine .inr ⟨h1,i+1,y,h2,?_,h4⟩
     simp_all
   ·rw[gv hz,iK,kj,jn,jV] at h
    rcases h with h|⟨h1,h2⟩
    ·simp_all
    ·exact .inr ⟨h1,0,s,rfl,V,h2⟩
  ·intro h
   have hu:(bt bs k=true\/(k<bs.length/\bt (vs.getD s.toNat []) k=true))->bt (dw bs (jC (vs.getD s.toNat []))) k=true:=λh=>by simp_all[iK]
   by_cases hz:bt nl s.toNat=true
   ·rw[gD hz,D9 nl vs r,bF]
    rcases h with h|⟨h1,i,y,h2,h3,h4⟩
    ·simp_all
    ·match i,h2,h3 with
     |0,h2,_=>simp_all
     |i+1,h2,h3=>grind
   ·rw[gv hz]
    rcases h with h|⟨h1,i,y,h2,h3,h4⟩
    ·simp_all
    ·match i,h2,h3 with
     |0,h2,_=>simp_all
     |i+1,h2,h3=>simp_all
def Q8(g:B):Prop:=∀p∈g.prods,((g.T:Int)<=p.left/\p.left<g.T+g.N)/\∀s∈p.right,0<=s/\s<(g.T:Int)+g.N
structure Q9(g:B)(nl:At)(vs:A5):Prop where
 ln:nl.length=g.T+g.N
 lv:vs.length=g.T+g.N
 le:∀v∈vs,v.length=g.T
 sn:∀i,bt nl i=true->TB g (i:Int)
 sv:∀i t,bt (vs.getD i []) t=true->W2 g (i:Int) t
 tm:∀t,t<g.T->bt (vs.getD t []) t=true
def rL(nl:At)(vs:A5)(p:aD):Prop:=(HW nl p.right=true->bt nl p.left.toNat=true)/\qB nl vs (vs.getD p.left.toNat []) p.right=vs.getD p.left.toNat []
theorem kU{s:Int}(h:0<=s):((s.toNat:Nat):Int)=s:=U
theorem Q9.row{g:B}{nl:At}{vs:A5}(m:Q9 g nl vs){row:Az}(j:∀s∈row,0<=s/\s<(g.T:Int)+g.N):(HW nl row=true->W3 g row)/\∀bs t,bt (qB nl vs bs row) t=true->bt bs t=true\/wo g row t:=by
 refine⟨λa s b=>?_,λbs t a=>?_⟩
 ·have:=m.sn _ (Q7.1 a s b)
  grind
 ·rcases(D9 nl vs row bs t).1 a with k|⟨_,c,s,d,e,f⟩
  ·simp_all
  ·refine .inr ⟨c,s,d,λh i=>?_,?_⟩
   ·have:=m.sn _ (e h i)
    grind
   ·have:=m.sv _ _ f
    grind
theorem W2.lt{g:B}{s:Int}{t:Nat}(h:W2 g s t):t<g.T:=by
 induction h with
 |tm t h=>omega
 |pr a b s t _ _ _ _ c=>omega
structure zd(g:B)(nl:At)(vs:A5):Prop where
 ln:nl.length=g.T+g.N
 lv:vs.length=g.T+g.N
 le:∀v∈vs,v.length=g.T
 nn:∀i,bt nl i=true↔TB g (i:Int)
 nv:∀i t,bt (vs.getD i []) t=true↔W2 g (i:Int) t
theorem Q9.Q_{g:B}{nl:At}{vs:A5}(m:Q9 g nl vs){i:Nat}(hi:i<g.T+g.N):(vs.getD i []).length=g.T:=by
 have h:vs[i]? =some (vs[i]'(by rw[m.lv];omega)):=gn _;rw[List.getD,h];exact m.le _ (gg h)
theorem Q9.all{g:B}{nl:At}{vs:A5}(e:Q8 g)(m:Q9 g nl vs)(a:∀p∈g.prods,rL nl vs p):zd g nl vs:=by
 have b:∀c,TB g c->bt nl c.toNat=true:=λf c=>by
  induction c with
  |mk p hp _ d=>exact(a p hp).1 (Q7.2 d)
 have f:∀c d,W2 g c d->bt (vs.getD c.toNat []) d=true:=λq r d=>by
  induction d with
  |tm c h=>exact m.tm c h
  |pr p h i s hp j k l n=>
   have t:=(e p hp).1;rw[<-(a p hp).2,D9];exact .inr ⟨by rw[m.Q_ U];exact l.lt,h,i,j,λc o=>b c<|k c o,n⟩
 exact⟨m.ln,m.lv,m.le,λc=>⟨m.sn c,λd=>b _ d⟩,λc d=>⟨m.sv c d,λh=>f _ _ h⟩⟩
def EO(v:At):Nat:=v.length-bK v
def CK(nl:At)(vs:A5):Nat:=EO nl+(vs.map EO).sum
theorem Vg:∀{l:A0}{k x y:Nat},l[k]? =some x->(l.set k y).sum+x=l.sum+y
 |[],k,x,y,h=>G
 |z::l,0,x,y,h=>G
 |z::l,k+1,x,y,h=>by
  have:=Vg (l:=l) (k:=k) (x:=x) (y:=y) η
  grind
theorem ZW{nl:At}{vs:A5}{k:Nat}{v a:At}(h:vs[k]? =some v)(b:a.length=v.length)(c:bK v<=bK a):CK nl (vs.set k a)+(bK a-bK v)=CK nl vs:=by
 have d:=Vg (l:=vs.map EO) (k:=k) (x:=EO v) (y:=EO a) η
 grind[dH,CK,List.map_set,EO]
theorem I8{P:Nat->Prop}(h:∃m,P m):∃m,P m/\∀k,P k->m<=k:=by
 obtain⟨m,a⟩:=h
 induction m using Nat.strongRecOn with
 |_ m b=>
  grind
theorem zv{α:Type}(P:α->Nat->Prop):∃a:α->Nat,(∀x m,P x m->a x<=m)/\∀x,(∃m,P x m)->P x (a x):=by
 have a:∀x,∃m,(∀b,P x b->m<=b)/\((∃b,P x b)->P x m):=λx=>by
  by_cases b:∃c,P x c
  ·obtain⟨m,c,d⟩:=I8 b
   grind
  simp_all
 exact⟨λx=>(a x).choose,λx=>(a x).choose_spec.1,λx=>(a x).choose_spec.2⟩
theorem Ak{m m':Nat->Bool}(h:∀k,m k=true->m' k=true):∀n,du n m<=du n m'/\(du n m=du n m'->∀k,k<n->m k=m' k)
 |0=>⟨gP _,λ_ k hk=>U⟩
 |n+1=>by
  obtain⟨h1,h2⟩:=Ak h n
  rw[yw,yw]
  grind
theorem J7{bs cs:At}(b:cs.length=bs.length)(c:∀k,bt bs k=true->bt cs k=true)(a:bK cs=bK bs):cs=bs:=by
 refine lV b λk=>?_
 by_cases d:k<bs.length
 ·unfold bK at a;rw[b] at a;exact((Ak c bs.length).2 a.symm k d).symm
 simp_all[vw]
theorem qC{nl:At}{k:Nat}(a:k<nl.length)(j:Nat):bt (nl.set k true) j=(bt nl j||j==k):=by grind[bt]
theorem Is{nl:At}{k:Nat}(a:k<nl.length)(b:bt nl k=false):EO (nl.set k true)+1=EO nl:=by
 have c:bK (nl.set k true)=bK nl+1:=by
  unfold bK;rw[ky,<-UL a b]
  grind[Ms,qC]
 grind[dH,List.length_set,EO]
theorem F7{vs:A5}{k:Nat}(a:k<vs.length)(v:At)(j:Nat):(vs.set k v).getD j []=if j=k then v else vs.getD j []:=G
theorem Q9.lay{g:B}(hg:Q8 g){nl:At}{vs:A5}(m:Q9 g nl vs){p:aD}(hp:p∈g.prods):Q9 g nl (vs.set p.left.toNat (qB nl vs (vs.getD p.left.toNat []) p.right)):=by
 obtain⟨hl,O⟩:=hg p hp;have V:p.left.toNat<g.T+g.N:=U
 have u:p.left.toNat<vs.length:=by rw[m.lv];omega
 refine⟨m.ln,by rw[ky];exact m.lv,λv J=>?_,m.sn,λi t h=>?_,λt ht=>?_⟩
 ·rcases List.mem_or_eq_of_mem_set J with J|rfl
  ·exact m.le v J
  ·rw[J6];exact m.Q_ V
 ·rw[F7 u] at h
  split at h
  ·rename_i e;subst e;rw[kU U]
   rcases(m.row O).2 _ _ h with h|⟨i,s,X,W,a⟩
   ·have:=m.sv _ _ h;grind
   ·exact .pr p i s t hp X W a
  ·exact m.sv _ _ h
 ·rw[F7 u]
  split
  ·omega
  ·exact m.tm t ht
theorem Q9.van{g:B}(b:Q8 g){nl:At}{vs:A5}(m:Q9 g nl vs){p:aD}(hp:p∈g.prods)(c:W3 g p.right):Q9 g (nl.set p.left.toNat true) vs:=by
 obtain⟨h,i⟩:=b p hp;have d:p.left.toNat<nl.length:=by rw[m.ln];omega
 refine⟨by rw[ky];exact m.ln,m.lv,m.le,λe a=>?_,m.sv,m.tm⟩;rw[qC d,kj,beq_iff_eq] at a
 rcases a with f|rfl
 ·exact m.sn e f
 ·rw[kU U];exact .mk p hp c
theorem I9{g:B}{nl:At}{vs:A5}(m:Q9 g nl vs):CK nl vs<=(g.T+g.N)+(g.T+g.N)*g.T:=by
 unfold CK;have d:EO nl<=g.T+g.N:=by unfold EO;rw[m.ln];omega
 have b:∀a:A5,(∀c∈a,c.length=g.T)->(a.map EO).sum<=a.length*g.T:=λa=>by
  induction a with
  |nil=>simp
  |cons c e f=>
   grind[List.mem_cons_of_mem,EO,List.mem_cons_self,List.length_cons,Nat.succ_mul]
 have a:=b vs m.le;rw[m.lv] at a;omega
theorem EP{g:B}(h:bL g):Q8 g/\g.T<=65/\g.N<=65/\0<g.N/\0<g.T/\g.prods.length<=97:=by
 have l:g.T=g.terms.length:=rfl;have m:g.N=g.b9.length:=rfl
 rcases h with⟨b,a,_⟩|⟨n,b,a,e,o,p,f,q⟩
 ·have k:=Dx.1 b;have r:0<g.terms.length:=(gJ.1 b.1).1;refine⟨λc d=>?_,U,U,U,U,by have:=a.2.1;omega⟩;have:=a.2.2.1 c d;exact⟨⟨by have:=this.1.1;omega,this.1.2.1⟩,λi j=>by have:=this.2 i j;grind[gI]⟩
 ·have r:=Dx.1 b;have s:0<g.terms.length:=(gJ.1 b.1).1;refine⟨λc t=>?_,U,U,U,U,by have:=a.2.1;omega⟩
  have i:c=e\/c∈g.prods.drop 1:=by
   cases d:g.prods with
   |nil=>simp_all
   |cons j k=>
    simp_all
  rcases i with rfl|j
  ·refine⟨U,λk d=>?_⟩;rw[f,jA] at d;subst d;have:=a.2.2.2.2;omega
  ·have:=a.2.2.1 c j;exact⟨⟨by have:=this.1.1;omega,this.1.2.1⟩,λd k=>by have:=this.2 d k;grind[gI]⟩
theorem su{α:Sort _}(a:α):∃q,q=a:=⟨a,rfl⟩
def FC(x:GA)(k14 n:Nat)(o:E)(j c:Nat):Ay:=[T x.ta x.tl x.tc,T x.na x.nl x.nc,T x.la x.ll x.lc,O x.s,T x.pa x.pl x.pc,T (some ⟨k14,0,none⟩) n n,T o j c]
def qD(T j:Nat):A5:=(List.range j).map λ(i:Nat)=>Aa (T:Int) [(i:Int)]
theorem TC(a j:Nat):qD a (j+1)=qD a j++[Aa (a:Int) [(j:Int)]]:=by simp[qD,k8]
theorem MS(a j:Nat):(qD a j).length=j:=by simp[qD]
theorem TD{a i:Nat}(c:a<=65)(t:Nat):(Aa (a:Int) [(i:Int)]).length=a/\(bt (Aa (a:Int) [(i:Int)]) t=true↔t=i/\t<a):=by
 have b:Mv (a:Int)=a:=by grind[Mv]
 unfold Aa;refine⟨by rw[bF,oF,b],?_⟩;rw[fl,oF,b,gE,j7,Bool.false_or]
 grind
theorem ZX{g:B}(c:g.T<=65):Q9 g (List.replicate (g.T+g.N) false) (qD g.T (g.T+g.N)):=by
 have d:∀a,bt ((qD g.T<|g.T+g.N).getD a [])=if a<g.T+g.N then bt (Aa (g.T:Int) [(a:Int)]) else bt []:=λa=>by
  unfold qD
  grind
 refine⟨V,MS _ _,λj e=>?_,λf a=>?_,λf b a=>?_,λb h=>?_⟩
 ·obtain⟨i,_,rfl⟩:=iz.1 e;exact(TD c 0).1
 ·simp_all[j7]
 ·rw[d] at a
  split at a
  ·obtain⟨rfl,i⟩:=((TD c b).2).1 a;exact .tm b i
  simp_all[bt]
 ·rw[d,gD U];exact(TD c b).2.2 ⟨rfl,h⟩
section
variable{w:ga}{L:List aG}{g:B}{x:GA}
theorem Ji(hg:gR (hp w) g x)(hb:jq g)(he:bL g)(ht:ec (hp w)):ρ 268 [.agg ⟨x.cells⟩] w λv w'=>∃(b k14:Nat)(o:E)(c:Nat)(nl:At)(ps:A0)(vs:A5),v=.pointer (some ⟨b,0,none⟩)/\zd g nl vs/\ps.length=vs.length/\
  W w' (ax b (FC x k14 (g.T+g.N) o ps.length c)::ax k14 (bv nl)::own 1 o ps.length c (pv (ps.map bk))::aT (dg ps vs)::all w):=by
 refine OH ?_;refine dZ hg λk1 w1 gw hg B=>?_;obtain⟨iG,bT,bN,pN,pT,bP⟩:=EP he;have tl:g.T=x.tl:=hg.t.1;have nl:g.N=x.nl:=hg.n.1;have pl:=hg.p.1;have ht:=dX.mono gw ht;refine⟨_,_,_,B.c0 sZ,_,_,_,B.c1 sZ,ξ,λw2 hd=>?_⟩;have e2:hp w2=hp w1:=fM hd;have gs:sub (hp w) (hp w1):=gw;generalize hH:hp w1=H at*;have eN:(x.tl:Int)+(x.nl:Int)=((g.T+g.N:Nat):Int):=U
 rw[eN];have cm:(x.tl:Int)=(g.T:Int):=U
 rw[je,de];have h2:W w2 [has H]:=by have:=W.all w2;grind
 refine⟨λw=>sub H<|hp w,e2▸sZ,_,_,_,_,_,_,_,_,_,_,_,_,_,λw s=>B.row s,⟨U,rfl,U⟩,ag h2 λk14 w4 h4=>⟨aE 1 h4.l,ag h4 λu w5 h5=>⟨aE 2 h5.l,?_⟩⟩⟩;clear h2 h4;have bQ:List.replicate (g.T+g.N) (J false)=bv (List.replicate (g.T+g.N) false):=by simp[bv]
 rw[bQ] at h5
 refine⟨λn w'=>∃(j:Nat)(o:E)(c:Nat)(ps:A0),n=j/\j<=g.T+g.N/\ps.length=j/\W w' [ax u (FC x k14 (g.T+g.N) o j c),ax k14<|bv<|List.replicate (g.T+g.N) false,own 1 o j c<|pv<|ps.map bk,aT<|dg ps<|qD g.T j,has H],λn _=>g.T+g.N-n.toNat,⟨0,none,0,[],rfl,U,rfl,?_⟩,?_⟩
 ·have h6:=aH 1 h5;have h7:W w5 (aT (dg []<|qD g.T 0)::_):=W.flat.2 (show W w5 ([]++_) from h6);exact h7.pick 5 [2,3,1,0,4]
 clear h5;rintro _ n2 w6⟨j,o,c,ps,rfl,hj,a5,h⟩
 refine ae (λC=>?_) λC=>?_
 ·have C:j<g.T+g.N:=G
  intro w7 hd;have h:=h.drawn hd;have I:∀{w:ga}{cs},aj (hp w) ⟨u,0,none⟩ cs->sub H (hp w)->aj (hp w) ⟨u,0,none⟩ cs/\sub H (hp w):=λa b=>⟨a,b⟩;refine⟨λw=>aj (hp w) ⟨u,0,none⟩ (FC x k14 (g.T+g.N) o j c)/\sub H (hp w),I (af 0 h.l)<|aE 4 h.l,_,_,_,λw h=>h.1.cell sZ (j:=6) rfl,_,_,_,λw h=>B.c0 h.2,ag h λe5 d0 h=>⟨I (af 1 h.l)<|aE 5 h.l,?_⟩⟩;refine(WE (xs:=[(j:Int)]) (l:=1) (x.tl:Int) (bA rfl (.inr ⟨_,rfl,af 0 h.l⟩)) U).mono ?_;rintro _ d7⟨e,rfl,h1⟩;have h:=h1.fy h;refine⟨_,rfl,I (af 2 h.l)<|aE 6 h.l,ag h λd8 dk h=>⟨I (af 3 h.l)<|aE 7 h.l,?_⟩⟩;refine(aU aY (rfl:ai Ty _=.slice _) (rfl:ai Ty _=.slice _) rfl rfl rfl (h.pick 8 [0,5,1,2,3,4,6,7]) rfl (by simp[aO]) G U).mono ?_;rintro _ c9⟨o',c',rfl,h⟩;refine⟨_,_,_,rfl,I (af 4 h.l)<|aE 7 h.l,?_⟩
  show gh c9 ((⟨u,0,none⟩:vP).add 6) _ _
  rw[ak];refine aX (h.pick 8 [4,0,2,5,6,7]) (by simp[FC]) λcx h=>⟨ξ,⟨j+1,o',c',ps++[e],V,U,η,?_⟩,bS C⟩;have h:W cx [ax u (FC x k14 (g.T+g.N) o' (j+1) c'),own 1 o' (j+1) c'<|pv (ps.map bk)++[.pointer (some ⟨e,0,none⟩)],cZ (some ⟨e,0,none⟩)<|Aa (x.tl:Int) [(j:Int)],ax k14<|bv<|List.replicate (g.T+g.N) false,aT<|dg ps<|qD g.T j,has H]:=h;have e1:pv (ps.map bk)++[.pointer (some ⟨e,0,none⟩)]=pv ((ps++[e]).map bk):=by simp[pv,bk]
  have cd:(dg ps (qD g.T j)++[cZ (some ⟨e,0,none⟩) (Aa (x.tl:Int) [(j:Int)])])=dg (ps++[e]) (qD g.T<|j+1):=by
   rw[TC,cm];unfold dg;rw[List.zipWith_append (by simp_all[MS])];rfl
  rw[e1] at h;have h:=W.snoc (A:=cZ (some ⟨e,0,none⟩)<|Aa (x.tl:Int) [(j:Int)]) (M:=dg ps<|qD g.T j)<|h.pick 6 [2,4,0,1,3,5];rw[cd] at h;exact h.pick 5 [1,3,2,0,4]
 have C:j=g.T+g.N:=G
 subst C
 obtain⟨Q,hQ⟩:=su (λ(n:Int)(w:ga)(m:Nat)=>∃(nl:At)(vs:A5),Q9 g nl vs/\0<=n/\(m:Int)=CK nl vs+(if 0<n then 1 else 0)/\(n=0->∀p∈g.prods,rL nl vs p)/\
  W w [ax u (FC x k14 (g.T+g.N) o (g.T+g.N) c),ax k14<|bv nl,own 1 o (g.T+g.N) c<|pv<|ps.map bk,aT<|dg ps vs,has H])
 obtain⟨μ,cu,bz⟩:=zv (λ(y:Int×ga) m=>Q y.1 y.2 m)
 refine⟨λn w'=>∃m,Q n w' m,λn w=>μ (n,w),⟨CK (List.replicate (g.T+g.N) false) (qD g.T<|g.T+g.N)+1,?_⟩,?_⟩
 ·rw[hQ]
  grind[ZX,absurd]
 clear h;intro _ n3 b3 hP;have hP:=bz (n3,b3) hP;dsimp only at hP;generalize hμ:μ (n3,b3)=μ0 at*;rw[hQ] at hP;obtain⟨Z,a6,a7,e8,ch,av,h⟩:=hP;refine ae (λd=>?_) λd=>?_
 rotate_left
 ·have d:=hY d;have av:=av U;refine⟨u,k14,o,c,Z,ps,a6,rfl,a7.all iG av,by rw[a5,a7.lv],?_⟩;rw[a5];exact W.on (N:=[_,_,_,_]) h (bM gs)
 have d:=gZ d;rw[gD d] at ch;refine⟨_,_,_,B.c4<|aE 4 h.l,λY n5 w'=>∃(j:Nat)(nl:At)(vs:A5),n5=j/\j<=x.pl/\0<=Y/\Y+CK nl vs=CK Z a6/\Q9 g nl vs/\(Y=0->∀p∈g.prods.take j,rL nl vs p)/\W w' [ax u (FC x k14 (g.T+g.N) o (g.T+g.N) c),ax k14<|bv nl,own 1 o (g.T+g.N) c<|pv<|ps.map bk,aT<|dg ps vs,has H],λ_ n5 _=>x.pl-n5.toNat,⟨0,Z,a6,rfl,U,U,U,a7,V,h⟩,?_⟩;clear h;rintro _ Y n5 aK⟨j,nl,vs,rfl,hj,cI,dF,mk,bb,h⟩;refine ae (λC=>?_) λC=>?_
 rotate_left
 ·have C:j=x.pl:=G
  subst C;rw[jy U] at bb
  have key:Q Y aK (CK nl vs+(if 0<Y then 1 else 0)):=by
   rw[hQ];grind
  refine⟨⟨_,key⟩,?_⟩;have:=cu (Y,aK) _ key
  grind
 have C:j<x.pl:=G
 obtain⟨p,ad,d5,ci,cg,be,a,l,c3,rfl,e9,aV⟩:=hg.p.get C;have a4:=gg ci;obtain⟨d3,b1⟩:=iG p a4;have et:g.prods.take (j+1)=g.prods.take j++[p]:=by grind[List.take_add_one]
 refine aI cg C ⟨_,_,_,_,_,be.at (aE 4 h.l) rfl,ag h λa0 cA h=>aQ h rfl (by intro v hv;simp at hv;rcases hv with rfl|rfl|rfl<;>rfl) λdl h=>?_⟩;intro ca hd;have h:=h.drawn hd;obtain⟨k,hk⟩:∃k:Nat,p.left=k:=⟨p.left.toNat,U⟩;rw[hk] at h;have b4:p.left.toNat=k:=U
 have f:k<g.T+g.N:=U
 obtain⟨e,c8⟩:∃e,ps[k]? =some e:=⟨ps[k]'U,gn _⟩;obtain⟨v,hv⟩:∃v,vs[k]? =some v:=⟨vs[k]'(by rw[mk.lv];omega),gn _⟩;have cp:vs.getD k []=v:=G
 have b7:(ps.map bk)[k]? =some (bk e):=G
 have rp:bf (hp ca) (ps.map bk) o (g.T+g.N):=WG 3 h.l rfl rfl G;obtain⟨q,cT,b6,az,dW⟩:=rp.dy f;rw[b7] at b6;cases b6;refine⟨λw=>aj (hp w) ⟨u,0,none⟩ (FC x k14 (g.T+g.N) o (g.T+g.N) c)/\aj (hp w) ⟨a0,0,none⟩ [O (k:Int),T a l c3,O p.level]/\bf (hp w) (ps.map bk) o (g.T+g.N),⟨af 1 h.l,af 0 h.l,rp⟩,_,_,_,λw h=>h.1.cell sZ (j:=6) rfl,_,λw h=>h.2.1.cell0 sZ,?_⟩
 refine au az f ⟨bk e,λw h=>?_,_,_,_,λw h=>h.2.1.cell sZ (j:=1) rfl,?_⟩
 ·obtain⟨q',cC,e1,e2,e3⟩:=h.2.2.dy f;rw[b7] at e1;cases e1;rw[az] at e2;cases e2;exact e3 _ sZ
 have gS:(dg ps vs)[k]? =some (cZ (bk e) v):=by grind[dg]
 have Sw:∀t,(dg ps vs).set k (cZ (bk e) t)=dg ps (vs.set k t):=λt=>NQ (λp v=>cZ (bk p) v) c8;have h:=W.out (h.pick 6 [4,0,1,2,3,5]) gS
 refine(I7 (nulls:=nl) (os:=ps.map bk) (vss:=vs) (row:=p.right) (gs:=x.cells) h (λh X=>af 2 X) rfl (λh X=>BY mk.ln<|.inr ⟨_,rfl,af 3 X⟩) (λh X=>WG 4 X rfl rfl G) (by simp[a5,mk.lv]) (by simp[a5,mk.ln]) (λh X i q t hi ck=>?_) (λh X=>dX.mono (aE 5 X) ht) (λh X=>aV.mono<|aE 5 X) (λs hs=>⟨(b1 s hs).1,?_⟩) ?_).mono ?_
 ·rw[iE] at hi;cases hpi:ps[i]? with
  |none=>grind
  |some pi=>
   rw[hpi] at hi;cases hi
   by_cases ek:i=k
   ·grind
   ·exact .inl (EG 0 X hpi ck ek)
 ·grind
 ·have:=aV.1;have:=hb.2.2.2.2.2.2 p a4;omega
 rintro _ e7⟨rfl,h⟩;have aa:=mk.lay iG a4;rw[b4,cp] at aa;have a9:(qB nl vs v p.right).length=v.length:=J6 _ _ _ _;have bl:=MR nl vs p.right v;have e6:=ZW (nl:=nl) hv a9 bl;have c7:=D8 nl vs p.right v;have dc:=I9 a7
 have d6:(g.T+g.N)+(g.T+g.N)*g.T<=100000:=by
  have:=Nat.mul_le_mul (show g.T+g.N<=130 by omega) bT;omega
 have am:(HW nl p.right=true->bt nl k=true)->Y+((bK (qB nl vs v p.right):Int)-bK v)=0->∀r∈g.prods.take (j+1),rL nl (vs.set k<|qB nl vs v p.right) r:=λb5 h0 r hr=>by
  have e0:qB nl vs v p.right=v:=J7 a9 c7 U
  have e1:vs.set k v=vs:=by
   apply kv
   grind
  grind[rL]
 have h:=W.back h gS;rw[Sw] at h;generalize qB nl vs v p.right=t at*;refine⟨_,_,rfl,⟨af 2 h.l,af 1 h.l,WG 4 h.l rfl rfl G⟩,ξ,λaR hd=>?_⟩;have h:=h.drawn hd
 have a8:∀{w'},W w' [aT (dg ps<|vs.set k t),ax a0 [O (k:Int),T a l c3,O p.level],ax u<|FC x k14 (g.T+g.N) o (g.T+g.N) c,ax k14<|bv nl,own 1 o (g.T+g.N) c<|pv<|ps.map bk,has H]->(HW nl p.right=true->bt nl k=true)->K ((j:Int)+1)/\(∃(j':Nat)(nl:At)(vs:A5),(j:Int)+1=j'/\j'<=x.pl/\0<=Y+((bK t:Int)-bK v)/\Y+((bK t:Int)-bK v)+CK nl vs=CK Z a6/\Q9 g nl vs/\(Y+((bK t:Int)-bK v)=0->∀p∈g.prods.take j',rL nl vs p)/\W w' [ax u (FC x k14 (g.T+g.N) o (g.T+g.N) c),ax k14<|bv nl,own 1 o (g.T+g.N) c<|pv<|ps.map bk,aT<|dg ps vs,has H])/\x.pl-((j:Int)+1).toNat<x.pl-(j:Int).toNat:=λ{w'} h b5=>by
  refine⟨ξ,⟨j+1,nl,vs.set k t,V,U,U,U,aa,am b5,h.pick 6 [2,3,4,0,5]⟩,bS C⟩
 refine⟨λw=>sub (hp aR)<|hp w,sZ,ae (λh1=>?_) λh1=>a8 h λh2=>G⟩;refine⟨_,_,_,λw s=>(af (b:=u) (vs:=FC x k14 (g.T+g.N) o (g.T+g.N) c) 2 h.l).cell s (j:=5) rfl,_,λw s=>(af (b:=a0) (vs:=[O (k:Int),T a l c3,O p.level]) 1 h.l).cell0 s,?_⟩;have rn:bf (hp aR) nl (some ⟨k14,0,none⟩) (g.T+g.N):=BY mk.ln<|.inr ⟨_,rfl,af 3 h.l⟩;obtain⟨z,e4,d9,cz,c6⟩:=rn.dy f;have c5:bt nl k=z:=by grind[bt]
 cases cz;refine au rfl f ⟨z,λw s=>c6 _ s,ae (λh2=>?_) λh2=>a8 h λ_=>G⟩;have h2:z=false:=G
 subst h2;intro bi hd;have h:=h.drawn hd;refine⟨λw=>sub (hp bi)<|hp w,sZ,_,_,_,λw s=>(af (b:=u) (vs:=FC x k14 (g.T+g.N) o (g.T+g.N) c) 2 h.l).cell s (j:=5) rfl,_,λw s=>(af (b:=a0) (vs:=[O (k:Int),T a l c3,O p.level]) 1 h.l).cell0 s,?_⟩;refine au rfl f ?_;rw[ak];refine aX (h.pick 6 [3,0,2,4,5]) (by grind[bv]) λcF h=>?_;have eb:(bv nl).set k (J true)=bv (nl.set k true):=by simp[bv]
 rw[eb] at h;have ho:=Is (nl:=nl) (k:=k) G c5;have b2:=aa.van iG a4<|(mk.row b1).1 h1;rw[b4] at b2;have d4:CK (nl.set k true) (vs.set k t)+1=CK nl (vs.set k t):=by grind[CK]
 exact⟨ξ,ξ,⟨j+1,nl.set k true,vs.set k t,V,U,U,U,b2,λh0=>U,h.pick 5 [2,0,3,1,4]⟩,bS C⟩
end
def tC(g:B)(nn:At):Prop:=nn.length=g.N/\∀i:Nat,bt nn i=true↔TB g ((g.T+i:Nat):Int)
def Jj(g:B)(row:Az):Prop:=∀s∈row,0<=s/\s<(g.T:Int)+g.N
theorem fU(l:At)(k i:Nat):bt (l.drop k) i=bt l (k+i):=by simp[bt]
theorem tC.inj{g:B}{bs cs:At}(h:tC g bs)(k:tC g cs):bs=cs:=
 lV (h.1.trans k.1.symm) λi=>by rw[lG,h.2,k.2]
section
variable{w:ga}{L:List aG}{g:B}{x:GA}
theorem ZY(f:gR (hp w) g x)(b:jq g):ρ 267 [.agg ⟨x.cells⟩] w λa c=>(∃r:Bool,a=J r/\(r=true↔bL g))/\Gr w c:=by
 refine F5 ?_;refine dZ f λl m c d e=>?_;refine⟨_,_,_,_,_,_,_,_,_,_,_,_,_,e.row sZ,(NX (x:=x) d b).mono ?_⟩;rintro _ n⟨⟨o,rfl,h⟩,a⟩;unfold bL;rw[<-h];refine⟨_,rfl,ae (λi=>⟨⟨true,rfl,G⟩,c.trans a⟩) λp=>⟨_,_,_,_,_,_,_,_,_,_,_,_,_,e.row a,(uy (x:=x) (d.mono a) b).mono ?_⟩⟩;rintro _ q⟨⟨i,rfl,j⟩,k⟩;rw[<-j];exact⟨_,rfl,⟨i,rfl,G⟩,c.trans<|a.trans k⟩
theorem J8(p:gR (hp w) g x)(n:jq g)(q:ec (hp w)):ρ 179 [.agg ⟨x.cells⟩] w λa b=>
  (¬bL g/\a=.tuple #[D,O 1]/\Gr w b)\/
  (bL g/\∃(k:Nat)(nl nn:At),nl.length=g.T/\tC g nn/\a=.tuple #[T (some ⟨k,g.T,none⟩) g.N g.N,O 0]/\W b (ax k (bv (nl++nn))::all w)):=by
 refine CH ?_;refine dZ p λQ r d e f=>?_;refine⟨_,_,_,_,_,_,_,_,_,_,_,_,_,f.row sZ,(ZY (x:=x) e n).mono ?_⟩;rintro _ R⟨⟨S,rfl,s⟩,o⟩
 refine⟨_,rfl,ae (λt=>.inl ⟨λX=>?_,rfl,d.trans o⟩) λt=>λb v=>?_⟩
 ·simp_all
 have h:=s.1 η;have a:Gr r b:=o.trans<|Gr.drawn v;obtain⟨Y,a0,a1,a2,a3,a4⟩:=EP h;have y:g.T=x.tl:=e.t.1;refine⟨λw=>Gr b w,Gr.refl _,_,_,_,_,_,_,_,_,_,_,_,_,_,λw c=>f.row<|a.trans c,_,_,_,λw c=>f.c0<|a.trans c,(Ji (x:=x) (e.mono a) n h<|dX.mono (d.trans a) q).mono ?_⟩;rintro _ i⟨z,c,A,C,nl,F,a5,rfl,l,a6,m⟩;have I:sub (hp b) (hp i):=aE 4 m.l;have L:aj (hp i) ⟨z,0,none⟩ (FC x c (g.T+g.N) A F.length C):=af 0 m.l
 refine⟨_,rfl,λw=>sub (hp i)<|hp w,sZ,λw P=>sub.trans I P,_,_,_,λw P=>L.cell P (j:=5) rfl,dS (lo:=x.tl) U (gP _)<|.inr ⟨h,c,nl.take g.T,nl.drop g.T,by rw[k5,l.ln];omega,⟨by rw[qR,l.ln];omega,λa7=>?_⟩,?_,?_⟩⟩
 ·rw[fU];exact l.nn _
 ·rw[<-y,show g.T+g.N-g.T=g.N from U]
  have P:f_ (some ⟨c,0,none⟩) g.T (g.T+g.N) 1=some ⟨c,g.T,none⟩:=by
   unfold f_;rw[gv U,oI,show ew g.T 1=g.T from by rfl,ak]
  rw[P]
 ·rw[l9];exact W.on (N:=[_]) (h0:=hp b) (m.pick 5 [1,4]) (bM<|d.trans a)
end
def dK(n:Nat)(f:Nat->Bool):Az:=((List.range n).filter f).map Int.ofNat
def qE(l:Az):Prop:=l.Pairwise (·<·)
theorem OI:∀{l m:Az},qE l->qE m->(∀z,z∈l↔z∈m)->l=m
 |[],[],_,_,_=>rfl
 |[],b::m,_,_,h=>absurd ((h b).2 V) V
 |a::l,[],_,_,h=>absurd ((h a).1 V) V
 |a::l,b::m,hl,hm,h=>by
  obtain⟨l1,l2⟩:=my.1 hl
  obtain⟨m1,m2⟩:=my.1 hm
  have e:a=b:=by
   rcases jb.1 ((h a).1 V) with e|ha
   ·omega
   ·rcases jb.1 ((h b).2 V) with e|hb
    ·omega
    grind
  subst e
  rw[OI l2 m2 λz=>?_]
  grind
theorem gL{n:Nat}{f:Nat->Bool}{z:Int}:z∈dK n f↔∃k:Nat,z=k/\k<n/\f k=true:=by
 unfold dK
 grind
theorem u5(n:Nat)(f:Nat->Bool):qE (dK n f):=by
 unfold dK qE;rw[lF];refine List.Pairwise.filter _ ?_;exact List.pairwise_lt_range.imp λh=>η
theorem qF(n:Nat)(f:Nat->Bool):(dK n f).length<=n:=by grind[dK,List.length_map,List.length_filter_le,List.range,List.length_range]
def dd:Az->Az
 |[]=>[]
 |[a]=>[a]
 |a::b::l=>if a=b then dd (b::l) else a::dd (b::l)
theorem OJ:∀(l:Az)(z:Int),z∈dd l↔z∈l
 |[],z=>by rfl
 |[a],z=>by rfl
 |a::b::l,z=>by
  unfold dd
  split
  ·rename_i h;subst h
   rw[OJ (a::l)];simp
  ·rw[jb,OJ (b::l),jb,jb,jb]
theorem OL:∀{l:Az},l.Pairwise (·<=·)->qE (dd l)
 |[],_=>by simp[dd,qE]
 |[a],_=>by simp[dd,qE]
 |a::b::l,h=>by
  obtain⟨h1,h2⟩:=my.1 h
  unfold dd
  split
  ·exact OL h2
  ·rename_i hne
   refine my.2 ⟨λz hz=>?_,OL h2⟩
   rw[OJ] at hz
   have hb:=h1 b V
   rcases jb.1 hz with rfl|hz
   ·omega
   grind[List.pairwise_cons]
theorem TE:∀l:Az,(dd l).length<=l.length
 |[]=>by simp[dd]
 |[a]=>by simp[dd]
 |a::b::l=>by
  unfold dd
  split
  ·have:=TE (b::l);grind
  ·have:=TE (b::l);simp_all
def CM(g:B)(ss:List SQ)(t:aJ):Int:=if t∈b_ g ss then((b_ g ss).idxOf t:Int)+1 else 0
def qg(ss:List SQ)(k:aJ):Int:=if k.st<0 then 0 else match dt ss k.st.toNat k.sym with
 |some j=>j+1
 |none=>0
def Ba(g:B)(nn:At)(s:Int):Bool:=decide ((g.T:Int)<=s)&&bt nn (s.toNat-g.T)
def HX(g:B)(nn:At)(row:Az):Bool:=row.all (Ba g nn)
def mf(g:B)(nn:At)(ss:List SQ)(i k:Nat):Bool:=match(b_ g ss)[i]?,(b_ g ss)[k]? with
 |some t,some u=>decide (dt ss t.st.toNat t.sym=some u.st)&&Ba g nn u.sym
 |_,_=>false
def D_(g:B)(nn:At)(ss:List SQ)(n i:Nat):Bool:=match(b_ g ss)[i]? with
 |some t=>(List.range g.prods.length).any λm=>decide (m≠0)&&match g.prods[m]? with
  |some p=>decide (p.left=t.sym)&&(List.range p.right.length).any λk=>decide ((b_ g ss)[n]? =some ⟨dI ss t.st (p.right.take k),p.right.getD k 0⟩)&&HX g nn (p.right.drop (k+1))
  |none=>false
 |none=>false
def fA(g:B)(ss:List SQ)(q m i:Nat):Bool:=match(b_ g ss)[i]?,g.prods[m]? with
 |some t,some p=>decide (m≠0)&&decide (p.left=t.sym)&&decide (dI ss t.st p.right=q)
 |_,_=>false
def zw(g:B)(nn:At)(ss:List SQ):A7:=(List.range (b_ g ss).length).map λi=>dK (b_ g ss).length (mf g nn ss i)
def CN(g:B)(nn:At)(ss:List SQ):A7:=(List.range (b_ g ss).length).map λn=>dK (b_ g ss).length (D_ g nn ss n)
structure nY where
 st:Int
 prod:Int
 tr:Az
deriving DecidableEq
instance:Inhabited nY:=⟨⟨0,0,[]⟩⟩
def zx(g:B)(ss:List SQ)(q m:Nat):List nY:=if dK (b_ g ss).length (fA g ss q m)=[] then[] else[⟨q,m,dK (b_ g ss).length (fA g ss q m)⟩]
def gM(g:B)(ss:List SQ)(q j:Nat):List nY:=(List.range j).flatMap (zx g ss q)
def wq(g:B)(ss:List SQ):List nY:=(List.range ss.length).flatMap λq=>gM g ss q g.prods.length
theorem CO(g:B)(ss:List SQ)(q j:Nat):gM g ss q (j+1)=gM g ss q j++zx g ss q j:=by simp[gM,k8]
def K6(g:B)(j:Nat)(s:Int):A0:=(n4 g j s).filter λi=>decide (0<i)
theorem J9{g:B}{j:Nat}{p:aD}(h:g.prods[j]? =some p)(s:Int):K6 g (j+1) s=K6 g j s++if s=p.left/\0<j then[j] else[]:=by grind[K6,JQ]
theorem It(g:B)(j:Nat)(s:Int):(K6 g j s).length<=j:=j3 (mr _ _) (Oo g j s)
theorem sx{g:B}{s:Int}{i:Nat}:i∈K6 g g.prods.length s↔0<i/\∃p,g.prods[i]? =some p/\p.left=s:=by
 unfold K6;rw[kh,show n4 g g.prods.length s=K5 g s from rfl,Ai,jV,and_comm]
section
variable{g:B}{ss:List SQ}
theorem TF(hA:bG g ss):∀n:Nat,(Aj g ss n).Nodup
 |0=>by simp[Aj]
 |n+1=>by
  cases hq:ss[n]? with
  |none=>simp only[Aj,hq,jK];exact TF hA n
  |some q=>
   rw[uY hq,kS]
   refine⟨TF hA n,?_,λx hx y hy e=>?_⟩
   ·unfold iP
    have h1:=FW hA hq
    grind
   ·subst e
    obtain⟨i,_,_,e,hi,_,_,_,rfl⟩:=me hx
    unfold iP at hy
    grind
theorem ZZ(a:bG g ss):(b_ g ss).Nodup:=TF a _
theorem Z0{α:Type}[DecidableEq α]{l:List α}(h:l.Nodup){i:Nat}{x:α}(a:l[i]? =some x):l.idxOf x=i:=G
theorem Iu(a:bG g ss){i:Nat}{t:aJ}(h:(b_ g ss)[i]? =some t):CM g ss t=(i:Int)+1:=by
 unfold CM;rw[gD (gg h),Z0 (ZZ a) h]
theorem Ea(a:bG g ss){t:aJ}(h:0<CM g ss t):∃i:Nat,CM g ss t=(i:Int)+1/\(b_ g ss)[i]? =some t:=by
 unfold CM at h ⊢
 grind
end
section
variable{a b c d:E}{i j k l m n o p:Nat}{A B:Int}{w:ga}{R:ah->WP}
theorem Bc(h:new w (ψ a i j b k l c m n A d o p) λa b=>χ b (Z a) λc=>qf 195 [c] b λd e c=>br (e !=0) (R (vU [D,O e]) c) (new c (Obj.map (Array.mk []) 0) λb c=>nn d λe=>gp c (e.add 8) λf g h=>gT 0 c λe h c i=>bQ (c<(g:Int)) (M f g c 2 λf=>∃g j,rA i f 2 [O g,O j]/\H i [O 0,O 0] 297 λf k=>bC k (Z f) [O g,O j] λg=>gj g λj g=>nn d λk=>∃l,(∀a,g a->cL a (k.add 12) (Value.map l))/\jr g f 1 λk=>bg prog (Instr.lookup 328 (Value.map l) (O k) false) j λj k=>∃l m n,j=T l m n/\g k/\gT 0 k λg j k n=>bQ (k<(m:Int)) (M l m k 1 λe=>gX n e λh=>gj n λe i=>gy i (Z f) λl=>jo i a 4 λf m o=>M f m h 3 λa=>gz i (a.add 1) λf m o=>iC 196 [u d,O l,T f m o,vF 197 []] e λe d=>i d/\H d [O 0,O 0] 297 λa d=>bC d (Z a) [O e,O h] λd=>∃e f,rA d (Z a) 2 [O e,O f]/\H d [O c] 3 λa c=>bg prog (Instr.mapEntry 346 (Value.map (some b)) (vG [O e,O f])) c λc d=>∃e f h i,c=vU [T e f h,O i]/\iT 24 e f h a d λd e f c=>bg prog (Instr.entryStore 346 (Value.map (some b)) (O i) (T d e f)) c λ(_:Unit)(a:ga)=>gx g j k a n) (gx e h c n i)) (nn d λc=>gp i (c.add 5) λd e f=>τ [(13,jG),(77,aP)] λc d=>c none 0 0 0 i/\∀(_:ν) f g h i j,c f g h i j->bQ (i<(e:Int)) (hU j a 4 λe k l=>τ [(13,jG),(83,aP)] λa e=>a f g h 0 j/\∀(_:ν) l m n o p,a l m n o p->bQ (o<(k:Int)) (bg prog (Instr.lookup 346 (Value.map (some b)) (vG [O i,O o]) false) p λb c=>∃d f g,b=T d f g/\bQ (0<(f:Int)) (gF 132 [T d f g] c λd f g c=>H c [O i,O o,T d f g] 212 λb c=>iT 208 l m n b c λd f g c=>K (o+1)/\nD a e d f g (o+1) c l m n o p) (K (o+1)/\nD a e l m n (o+1) c l m n o p)) (K (i+1)/\nD c d l m n (i+1) p f g h i j)) (gF 198 [T f g h] j λc d e b=>R (vU [T c d e,O 0]) b)))):ρ 101 [φ a i j b k l c m n A d o p] w R:=rv func101 h ⟨[(6,[(31,aP)]),(9,[(44,aP)]),(18,[(13,jG),(77,aP)]),(21,[(13,jG),(83,aP)])],[],[],[]⟩
theorem LS(h:new w (ψ a i j b k l c m n A d o p) λa b=>χ b (Z a) λc=>rE 41 [c] b λb c=>∃d e f g h i,b=vU [vG [T d e f,O g,O h],O i]/\H c [D,O 0,O 0] 76 λb c=>bC c (Z b) [T d e f,O g,O h] λc=>br (i !=0) (R (vU [u none,O i]) c) (∃d e f g h i j k l m n o p,rA c (Z a) 5 [T d e f,T g h i,T j k l,O m,T n o p]/\∃q r s t v,rA c (Z b) 3 [T q r s,O t,O v]/\new c (Obj.map (Array.mk []) 0) λc x=>new x (Obj.map (Array.mk []) 0) λy w=>new w (Obj.map (Array.mk []) 0) λw z=>H z [T d e f,T g h i,T j k l,O m,T n o p,T q r s,O t,O v,D,Value.map (some c),Value.map (some y),D,Value.map (some w)] 349 λc d=>χ d (Z a) λe=>kX 289 [e] d λf g h i e=>gh e (Addr.add (Z c) 8) (T f g h) λd=>χ d (Z a) λe=>kX 179 [e] d λf g h i e=>gh e (Addr.add (Z c) 11) (T f g h) λd=>hU d c 8 λe f g=>gT 0 d λg h d i=>bQ (d<(f:Int)) (M e f d 2 λa=>∃b e,rA i a 2 [O b,O e]/\H i [O 0,O 0] 297 λa f=>bC f (Z a) [O b,O e] λb=>gj b λe b=>∃f,(∀a,b a->cL a (Addr.add (Z c) 9) (Value.map f))/\∃c j,(∀d,b d->rA d (Z a) 2 [O c,O j])/\K (d+1)/\bg prog (Instr.mapUpdate 347 (Value.map f) (vG [O c,O j]) (O (d+1))) e λ(_:Unit)(a:ga)=>gx g h d a i) (gp i (Z b) λd e f=>gT 0 i λb f g h=>bQ (g<(e:Int)) (M d e g 2 λa=>∃d e i j k l,rA h a 2 [T d e i,T j k l]/\H h [D,D] 199 λa m=>bC m (Z a) [T d e i,T j k l] λd=>hU d a 1 λe i j=>gT 0 d λa j d k=>bQ (d<(i:Int)) (M e i d 2 λb=>∃e f,rA k b 2 [O e,O f]/\H k [O 0,O 0] 203 λb h=>bC h (Z b) [O e,O f] λe=>gj e λf e=>∃h,(∀a,e a->cL a (Addr.add (Z c) 10) (Value.map h))/\gy e (Z b) λc=>jr e b 1 λi=>K (i+1)/\bg prog (Instr.mapUpdate 347 (Value.map h) (vG [O g,O c]) (O (i+1))) f λ(_:Unit)(b:ga)=>gx a j d b k) (gx b f g k h)) (hU h a 4 λb d e=>gT 0 h λa e f g=>bQ (f<(d:Int)) (M b d f 3 λb=>∃d h i j k,rA g b 3 [O d,T h i j,O k]/\H g [O 0,D,O 0] 134 λb l=>bC l (Z b) [O d,T h i j,O k] λd=>bQ (0<f) (gj d λh d=>∃i,(∀a,d a->cL a (Addr.add (Z c) 12) (Value.map i))/\gy d (Z b) λj=>∃k,(∀a,d a->cL a (Addr.add (Z c) 12) (Value.map k))/\gy d (Z b) λc=>(bg prog (Instr.lookup 328 (Value.map k) (O c) false) h λb c=>∃h k l,b=T h k l/\d c/\H c [O f] 3 λb c=>d c/\iT 24 h k l b c λh k l c=>d c/\bg prog (Instr.mapUpdate 328 (Value.map i) (O j) (T h k l)) c λ(_:Unit)(b:ga)=>gx a e f b g)/\H h [O f] 3 λb h=>d h/\bg prog (Instr.lookup 328 (Value.map k) (O c) false) h λc h=>∃k l m,c=T k l m/\d h/\iT 24 k l m b h λh k l c=>d c/\bg prog (Instr.mapUpdate 328 (Value.map i) (O j) (T h k l)) c λ(_:Unit)(b:ga)=>gx a e f b g) (gx a e f d g)) (R (vU [u (some (Z c)),O 0]) g))))):ρ 195 [φ a i j b k l c m n A d o p] w R:=rv func195 h ⟨[(8,[(51,aP)]),(13,[(67,aP)]),(16,[(75,aP)]),(22,[(95,aP)])],[],[],[]⟩
theorem wv{f:aM}{g:Ay}(h:τ [(1,aP),(13,aP)] λc d=>c A 0 w/\∀(_:ν) e h j,c e h j->bQ (h<(i:Int)) (M b i h 1 λb=>gX j b λi=>p9 (Fn f) (rE f (O e::O h::g) j λb f=>b=vU []/\nn a λa=>∃b,cL f (a.add 10) (Value.map b)/\bg prog (Instr.lookup 347 (Value.map b) (vG [O e,O i]) false) f λa b=>∃f,a=O f/\K (f-1)/\K (h+1)/\nB c d (f-1) (h+1) b e h j)) (R (O e) j)):ρ 196 [.pointer a,O A,T b i j,(.func (.func f) #[] ⟨g⟩)] w R:=rv func196 h ⟨[(2,[(1,aP),(13,aP)])],[],[],[]⟩
theorem wy(h:R (vU []) w):ρ 197 [O A,O B] w R:=rv func197 h
abbrev qG:aM:=285
theorem F9(h:new w (ψ a i j b k l c m n A d o p) λa b=>χ b (Z a) λc=>qf 195 [c] b λd e c=>H c [u none] 343 λb c=>gh c (Z b) (u d) λc=>br (e !=0) (R (vU [D,O e]) c) (jQ c (Z b) λd=>gF 340 [u d,vF 341 [u (some (Z b)),u (some (Z a))]] c λc d e b=>R (vU [T c d e,O 0]) b)):ρ 285 [φ a i j b k l c m n A d o p] w R:=rv func285 h
abbrev mg:aM:=287
theorem Be(h:new w (ψ a i j b k l c m n A d o p) λa b=>χ b (Z a) λc=>qf 195 [c] b λd e c=>H c [u none] 343 λb c=>gh c (Z b) (u d) λc=>br (e !=0) (R (vU [D,O e]) c) (jQ c (Z b) λd=>gF 340 [u d,vF 342 [u (some (Z b)),u (some (Z a))]] c λc d e b=>R (vU [T c d e,O 0]) b)):ρ 287 [φ a i j b k l c m n A d o p] w R:=rv func287 h
theorem xL{b:aM}{c:Ay}(h:nn a λa=>gp w (a.add 8) λd e f=>qT (e:Int) (e:Int) 24/\new w (Obj.cells (Array.mk (ir (Int.toNat (e:Int)) [D])) 24) λa d=>H d [D] 71 λd f=>gh f (Z d) (T (some (Z a)) (Int.toNat (e:Int)) (Int.toNat (e:Int))) λa=>p9 (Fn b) (rE b (vF 377 [u (some (Z d))]::c) a λa b=>a=vU []/\gp b (Z d) λa c e=>gT 0 b λa e b f=>bQ (b<(c:Int)) (gp f (Z d) λc g h=>M c g b 1 λc=>gp f c λg h i=>rE 96 [T g h i] f λc g=>c=vU []/\gj g λc g=>gz g (Z d) λh i j=>gz g (Z d) λj k l=>M j k b 1 λd=>gz g d λj k l=>gF 378 [T j k l] c λj k l d=>g d/\gF 132 [T j k l] d λj k l d=>g d/\M h i b 1 λc=>gh d c (T j k l) λc=>gx a e b c f) (gp f (Z d) λa b c=>R (T a b c) f))):ρ 340 [.pointer a,(.func (.func b) #[] ⟨c⟩)] w R:=rv func340 h ⟨[(4,[(18,aP)])],[],[],[]⟩
theorem Bh{a:aM}{b:Ay}{c:vP}{d:vP}(h:jQ w c λe=>nn e λe=>gp w (e.add 8) λf g h=>gT 0 w λe h i j=>bQ (i<(g:Int)) (M f g i 2 λf=>∃g k,rA j f 2 [O g,O k]/\H j [O 0,O 0] 297 λf l=>bC l (Z f) [O g,O k] λg=>gj g λk g=>jc g c λl=>nn l λl=>∃m,(∀a,g a->cL a (l.add 10) (Value.map m))/\∃l n,(∀a,g a->rA a (Z f) 2 [O l,O n])/\bg prog (Instr.lookup 347 (Value.map m) (vG [O l,O n]) false) k λf k=>∃l,f=O l/\g k/\K (l-1)/\jQ k c λf=>nn f λf=>gp k (f.add 5) λg m n=>M g m (l-1) 2 λf=>gp k (f.add 1) λg m n=>gT 0 k λf n k o=>bQ (k<(m:Int)) (M g m k 2 λe=>∃g h,rA o e 2 [O g,O h]/\H o [O 0,O 0] 203 λe j=>bC j (Z e) [O g,O h] λg=>gj g λh g=>gy g (Z e) λj=>gz g d λm p q=>bQ ((p:Int)<=j) (jc g c λj=>nn j λj=>gz g (j.add 11) λm p q=>gy g (Z e) λj=>gz g d λq r s=>K (j-(r:Int))/\M m p (j-(r:Int)) 1 λd=>qd g d λj=>br j (gj h λd g=>jc g c λh=>nn h λc=>∃h,(∀a,g a->cL a (c.add 9) (Value.map h))/\gy g (Z e) λc=>bg prog (Instr.lookup 347 (Value.map h) (vG [O (l-1),O c]) false) d λc d=>∃e,c=O e/\g d/\K (e-1)/\p9 (Fn a) (rE a (O i::O (e-1)::b) d λa b=>a=vU []/\gx f n k b o)) (gx f n k h o)) (gx f n k h o)) (gx e h i o j)) (R (vU []) j)):ρ 341 [(.func (.func a) #[] ⟨b⟩),(.pointer (some c)),(.pointer (some d))] w R:=rv func341 h ⟨[(1,[(14,aP)]),(5,[(36,aP)])],[],[],[]⟩
theorem wA{a:aM}{b:Ay}{c:vP}{d:vP}(h:H w [vF a b] 351 λa b=>jQ b c λe=>nn e λe=>gp b (e.add 8) λf g h=>gT 0 b λe h b i=>bQ (b<(g:Int)) (M f g b 2 λf=>∃g j,rA i f 2 [O g,O j]/\H i [O 0] 3 λf k=>H k [O 0,O 0] 297 λk l=>gh l (Z f) (O b) λl=>bC l (Z k) [O g,O j] λg=>gj g λj g=>jc g c λl=>nn l λl=>∃m,(∀a,g a->cL a (l.add 12) (Value.map m))/\jr g k 1 λl=>bg prog (Instr.lookup 328 (Value.map m) (O l) false) j λj l=>∃m n o,j=T m n o/\g l/\gT 0 l λg j l o=>bQ (l<(n:Int)) (M m n l 1 λb=>gX o b λe=>gp o (d.add 4) λb h i=>M b h e 3 λb=>gp o (b.add 1) λd e h=>H o [D] 24 λb i=>gh i (Z b) (T d e h) λd=>jQ d c λe=>gX d (Z k) λh=>gp d (Z b) λi k m=>iC 196 [u e,O h,T i k m,vF 343 [u (some c),u (some (Z b)),u (some (Z a)),u (some (Z f))]] d λc b=>gx g j l b o) (gx e h b o i)) (R (vU []) i)):ρ 342 [(.func (.func a) #[] ⟨b⟩),(.pointer (some c)),(.pointer (some d))] w R:=rv func342 h ⟨[(2,[(14,aP)]),(5,[(27,aP)])],[],[],[]⟩
theorem rJ{c:vP}{d:vP}{e:vP}{f:vP}(h:gj w λa b=>jc b c λg=>nn g λg=>∃h,(∀a,b a->cL a (g.add 9) (Value.map h))/\gz b d λg i j=>M g i B 1 λg=>gy b g λi=>bg prog (Instr.lookup 347 (Value.map h) (vG [O A,O i]) false) a λa g=>∃h,a=O h/\b g/\gj g λa b=>bQ (0<h) (jc b c λg=>gz b d λc i j=>K (B+1)/\mA c i j (some (B+1)) none none 1 λ(c:E)(d i:Nat)=>iu 344 [u g,T c d i] a λd c=>b c/\br d (∃a b,cL c e (vF a b)/\K (h-1)/\gX c f λd=>p9 (Fn a) (rE a (O (h-1)::O d::b) c λa b=>a=vU []/\R (vU []) b)) (R (vU []) c)) (R (vU []) a)):ρ 343 [O A,O B,(.pointer (some c)),(.pointer (some d)),(.pointer (some e)),(.pointer (some f))] w R:=rv func343 h
theorem rM(h:H w [u a] 343 λa c=>iu 126 [T b i j,vF 379 [u (some (Z a))]] c λc b=>R (J !c) b):ρ 344 [.pointer a,T b i j] w R:=rv func344 h
abbrev bY:aM:=377
theorem tE{c:vP}(h:gj w λa b=>gz b c λd e f=>gz b c λf g h=>M f g A 1 λc=>gz b c λf g h=>H a [O B] 3 λa c=>b c/\iT 24 f g h a c λf g h c=>b c/\M d e A 1 λa=>gh c a (T f g h) λa=>R (vU []) a):ρ 377 [O A,O B,(.pointer (some c))] w R:=rv func377 h
abbrev iR:aM:=379
theorem oP{b:vP}(h:gj w λa c=>jc c b λd=>nn d λd=>gz c d λe f g=>bQ (A<(f:Int)) (R (J true) a) (jc c b λd=>nn d λd=>gz c (d.add 11) λe f g=>jc c b λd=>nn d λb=>gz c b λd g h=>K (A-(g:Int))/\M e f (A-(g:Int)) 1 λb=>qd c b λd=>R (J !d) a)):ρ 379 [O A,(.pointer (some b))] w R:=rv func379 h
end
theorem Vh:∀(l:Az)(a b:Int),dd (l++[a,b])=if a=b then dd (l++[a]) else dd (l++[a])++[b]
 |[],a,b=>by simp_all[dd]
 |[x],a,b=>by grind[dd]
 |x::y::l,a,b=>by
  have ih:=Vh (y::l) a b
  have e1:dd (x::y::l++[a,b])=if x=y then dd (y::l++[a,b]) else x::dd (y::l++[a,b]):=rfl
  have e2:dd (x::y::l++[a])=if x=y then dd (y::l++[a]) else x::dd (y::l++[a]):=rfl
  grind
theorem Iv{xs:Az}{m:Nat}{a b:Int}(c:xs[m]? =some a)(d:xs[m+1]? =some b):dd (xs.take (m+2))=if a=b then dd (xs.take (m+1)) else dd (xs.take (m+1))++[b]:=by simp_all[iw,Vh]
theorem Z1{xs:Az}{n:Nat}(h:n<=1):dd (xs.take n)=xs.take n:=by
 match n,h with
 |0,_=>rfl
 |1,_=>cases xs<;>simp[dd]
section
open Go.Sort Go.Shelf
variable{w:ga}{L:List aG}{a:E}{l c:Nat}{xs:Az}
theorem TG(h:W w (own 1 a l c (iv xs)::L))(aB:l<4611686018427387904):
  ρ 378 [T a l c] w λd e=>∃b c',d=.slice b (dd xs).length c'/\W e (own 1 b (dd xs).length c' (iv (dd xs))::L):=by
 have a1:=gm h;rw[dq] at a1;have p:=bJ h;have y:xs.length=l:=U
 refine pF (ae (λa2=>?_) λa2=>?_)
 ·have b:l<2:=G
  have d:dd xs=xs:=by have:=Z1 (xs:=xs) (n:=l) U;grind
  grind
 have aK:2<=l:=G
 refine⟨λb d=>∃n:Nat,b=((n+1:Nat):Int)/\n+1<=l/\dd (xs.take<|n+1)=xs.take (n+1)/\W d (own 1 a l c (iv xs)::L),λb _=>l-b.toNat,⟨0,rfl,U,Z1<|gP _,h⟩,?_⟩;clear h;rintro _ aR aS⟨n,rfl,aV,z,h⟩;refine ae (λa3=>?_) λa3=>?_
 rotate_left
 ·grind
 have f:n+1<l:=G
 intro A a4;have h:=h.eq<|aW a4;have q:bf (hp A) xs a l:=bA y<|dT 0 h.l;obtain⟨r,C,s,rfl,F⟩:=q.dy f;obtain⟨t,b0,I,a5,N⟩:=q.dy (by omega:n<l);cases a5;have a6:((n+1:Nat):Int)-1=(n:Int):=U
 rw[a6];refine⟨λb=>Gr A b,Gr.refl _,au rfl f ⟨r,λb d=>F b d,ξ,au rfl U ⟨t,λb d=>N b d,ae (λa7=>?_) λa7=>?_⟩⟩⟩
 rotate_left
 ·have b:r≠t:=η
  refine⟨ξ,⟨n+1,V,f,?_,h⟩,bS f⟩;rw[Iv I s,gv<|Ne.symm b,z,iw (i:=n+1),s];rfl
 have a8:r=t:=η
 subst a8;refine dS U p ?_
 refine⟨λe g j=>∃(k b:Nat)(d:Az),e=(k:Int)/\g=((b+1:Nat):Int)/\n+1<=k/\k<=n+1+b/\n+1+b+1<=l/\d.length=l/\d.drop k=xs.drop k/\d.take k=dd (xs.take<|n+1+b+1)/\W j (own 1 (some C) l c (iv d)::L),λ_ b _=>l-b.toNat,
  ⟨n+1,0,xs,rfl,rfl,gP _,gP _,U,y,rfl,?_,h⟩,?_⟩
 ·rw[show n+1+0+1=n+2 by omega,Iv I s,gD rfl,z]
 clear h q F N;rintro _ _ _ b1⟨k,b,d,rfl,rfl,a9,b2,b3,P,v,g,h⟩;have b4:(iv d).length=l:=by grind[dq]
 refine ae (λaa=>?_) λaa=>?_
 rotate_left
 ·have e:l=n+1+b+1:=G
  rw[<-e,jy (show xs.length<=l by omega)] at g;have Q:(dd xs).length=k:=G
  have j:=MD (ty:=0) (c2:=c-k) aY (rfl:ai Ty Y3=.slice _) (rfl:Ty eQ=some _) rfl rfl (λx o=>by rcases jb.1 o with rfl|R;rfl;grind) V h (show k<=l by omega);refine dS U p<|j.mono ?_;rintro _ R⟨o,x,h⟩;refine ij U ?_;have h:=po h (k:=k) U;have S:o.take (k*1)=iv (dd xs):=x.trans (by rw[<-g];simp[iv,List.map_take])
  grind
 have x:b+1<l-(n+1):=G
 intro Q ab;have h:=h.eq<|aW ab;have R:=(bA P (dT 0 h.l):bf (hp Q) d (some C) l).drop (k:=n+1) (m:=c) U p
 have ac:∀e,k<=e->d[e]? =xs[e]?:=λad b5=>by
  have:=congrArg (λl=>l[ad-k]?) v;simp only[kI] at this
  simp_all
 obtain⟨e,b6,al,j,S⟩:=R.dy x;obtain⟨o,b7,am,X,an⟩:=R.dy (by omega:b<l-(n+1));rw[j] at X;cases X;rw[kI,ac _ U] at al am;have ao:((b+1:Nat):Int)-1=(b:Int):=U
 have Y:xs[n+1+b+1]? =some e:=U
 have a0:xs[n+1+b]? =some o:=U
 rw[ao];refine⟨λap=>Gr Q ap,Gr.refl _,au j x ⟨e,λap av=>S ap av,ξ,au j U ⟨o,λap av=>an ap av,ae (λap=>?_) λap=>?_⟩⟩⟩
 rotate_left
 ·have av:e=o:=η
  subst av;refine⟨ξ,⟨k,b+1,d,rfl,V,a9,U,U,P,v,?_,h⟩,bS U⟩;rw[g,show n+1+(b+1)+1=n+1+b+2 by omega,Iv a0 Y,gD rfl]
 have av:e≠o:=η
 refine au j x ⟨e,S _<|Gr.refl _,au rfl U ?_⟩;refine ib h rfl U λb9 h=>?_;rw[Ik] at h
 refine⟨ξ,ξ,⟨k+1,b+1,d.set k e,V,V,U,U,U,η,?_,?_,h⟩,bS U⟩
 ·rw[List.drop_set_of_lt U,<-o9 (i:=1),v,o9]
 ·have az:k<d.length:=U
  rw[show n+1+(b+1)+1=n+1+b+2 by omega,Iv a0 Y,gv<|Ne.symm av,<-g,iw,sq az,List.take_set_of_le<|gP _];rfl
end
section
open MapKept
section
variable{κ:Type}[DecidableEq κ][jj κ]{P:iI}{w:ga}{L:List aG}{Ty:aC->Option dL}
theorem Al(k:κ)(u v:ah):∀m:List (κ×ah),c_ k v (c_ k u m)=c_ k v m
 |[]=>by simp[c_]
 |(a,x)::m=>by
  unfold c_
  by_cases h:k=a
  ·simp_all[c_]
  ·have e:c_ k u ((a,x)::m)=(a,x)::c_ k u m:=by show(if k=a then _ else _)=_;simp_all
   rw[e,gv h]
   show(if k=a then _ else(a,x)::c_ k v (c_ k u m))=_
   rw[gv h,Al k u v m]
theorem ze{k:κ}{u:ah}:∀{m:List (κ×ah)}{j:Nat},iV k m=some u->(m[j]?).map (·.1)=some k->(∀v,c_ k v m=m.set j (k,v))->m[j]? =some (k,u)
 |[],j,h,_,_=>G
 |(a,x)::m,0,h,hk,hp=>by simp_all[iV]
 |(a,x)::m,j+1,h,hk,hp=>by
  by_cases e:k=a
  ·simp_all[c_]
  ·have e1:iV k ((a,x)::m)=iV k m:=by show(if k=a then _ else _)=_;simp_all
   rw[e1] at h
   rw[qY] at hk ⊢
   refine ze h hk λv=>?_
   simp_all[c_]
def wX(b:Nat)(m:List (κ×ah))(k:κ)(n:Int):aG:=λh=>∃es clock i,h b=some (.map es clock)/\BC es clock m/\i<m.length/\(∀u,c_ k u m=m.set i (k,u))/\(m[i]?).map (·.1)=some k/\(es[i]?).map (λe=>(e.born:Int))=some n
theorem OM{b:Nat}{m:List (κ×ah)}{k:κ}{n:Int}:W w (wX b m k n::L)↔∃es a i,BC es a m/\i<m.length/\(∀c,c_ k c m=m.set i (k,c))/\(m[i]?).map (·.1)=some k/\(es[i]?).map (λc=>(c.born:Int))=some n/\W w (blk b (.map es a)::L):=
 ⟨λ⟨a,c,d,e,f,⟨es,g,i,h,j,l,o,p,q⟩,r⟩=>⟨es,g,i,j,l,o,p,q,a,c,d,e,f,h,r⟩,λ⟨es,a,i,c,d,e,f,g,h,j,l,o,p,q,r⟩=>⟨h,j,l,o,p,⟨es,a,i,q,c,d,e,f,g⟩,r⟩⟩
theorem TH{b:Nat}{es:Array MapEntry}{a:Nat}(c:w.heap[b]? =some (.map es a))(o:Array MapEntry×Nat):Ev w { w with heap:=w.heap.setIfInBounds b (.map o.1 o.2) }:=by
 refine⟨rfl,rfl,rfl,V,?_,?_⟩<;>
 ·grind
theorem map_take(hT:fb P Ty){t kt et:aC}{i:dL}{z:ah}(hk:ai Ty t=.map kt et)(hkt:yx P kt κ)(hi:Ty et=some i)(hz:i.zero=some z){b:Nat}{m:List (κ×ah)}(h:W w (hZ b m::L))(k:κ):
  bg P (Instr.mapEntry t (.map (some b)) (jj.val k)) w λv w'=>∃n:Int,v=.tuple #[(iV k m).getD z,O n]/\W w' (wX b (c_ k ((iV k m).getD z) m) k n::L):=by
 obtain⟨d,hd,a8⟩:=dR hT hk V;rw[Dr a8] at hd;obtain⟨es,cl,⟨Z,a4,a5⟩,h⟩:=nu.1 h;obtain⟨r,hf,q2,q3,q4⟩:=hkt.find w k es.toList m Z;obtain⟨a9,d2,ha⟩:=tY hT hi;have a0:(zeroValue et).run P w=.ok z w:=nI ha.inf (by rw[<-ha.zero,hz]);have J:=h.get;have hc:=λe=>hkt.check w e k;have aa:es.size=m.length:=by have:=congrArg List.length Z;grind
 cases r with
 |none=>
  have Y:iV k m=none:=η
  rw[Y]
  refine⟨_,_,?_,TH J (es.push { key:=jj.val k,val:=z,born:=cl },cl+1),cl,rfl,OM.2 ⟨_,_,m.length,?_,?_,?_,?_,?_,h.setObj _⟩⟩
  ·unfold Instr.mapEntry;simp only[Sem.run_bind,bx hd,Result.andThen_ok,run_getObj_map w b es cl J,hc,hf,a0];rw[run_setObj_map _ J];rfl
  ·refine⟨η,?_,?_⟩
   ·grind
   grind
  ·simp_all
  ·intro u
   show c_ k u (c_ k z m)=(c_ k z m).set _ _
   rw[Al,q4 rfl u,q4 rfl z];simp
  ·simp_all
  grind
 |some x=>
  obtain⟨j,u⟩:=x;obtain⟨p2,p3,p4⟩:=q3 j u rfl;have hj:j<es.size:=U
  have Y:iV k m=some u:=η
  have ad:m[j]? =some (k,u):=ze Y p3 p4;have a:c_ k u m=m:=by simp_all[DC]
  have f:(es[j]?).map (λe=>(e.key,e.val))=some (jj.val k,u):=by
   have h1:=congrArg (λl=>l[j]?) Z
   grind
  obtain⟨e,c,a7⟩:=rj.1 f;have X:e.key=jj.val k:=congrArg Prod.fst a7;have a6:((es[j]?).map (·.key)).getD (jj.val k)=jj.val k:=η
  have g:(es.modify j λe=>{ e with key:=jj.val k })=es:=by
   apply Array.ext_getElem?;intro i;rw[tL]
   split
   ·rename_i hji;subst hji;rw[c,<-X];rfl
   rfl
  rw[Y]
  refine⟨_,_,?_,TH J (es,cl),(e.born:Int),rfl,OM.2 ⟨_,_,j,?_,?_,?_,?_,?_,h.setObj _⟩⟩
  ·unfold Instr.mapEntry;simp only[Sem.run_bind,bx hd,Result.andThen_ok,run_getObj_map w b es cl J,hc,hf,a6,Instr.keyThatStays,hkt.bits,if_true,Sem.run_pure,g];rw[run_setObj_map _ J];simp[c,goInt]
  ·show BC _ _ (c_ k u m)
   rw[a];exact⟨Z,a4,a5⟩
  ·simp_all
  ·simp_all
  ·simp_all
  simp_all
theorem Rb{t:aC}{b:Nat}{m:List (κ×ah)}{k:κ}{n:Int}(h:W w (wX b m k n::L))(x:ah):
  bg P (Instr.entryStore t (.map (some b)) (O n) x) w λ_ a=>W a (hZ b (c_ k x m)::L):=by
 obtain⟨a,e,c,⟨f,p,q⟩,r,i,s,j,h⟩:=OM.1 h;have g:=h.get;have v:a.size=m.length:=by have:=congrArg List.length f;grind
 obtain⟨l,y,z⟩:=rj.1 j
 have A:a.findIdx? (λd=>(d.born:Int)==n)=some c:=by
  rw[Array.findIdx?_eq_some_iff_getElem]
  refine⟨U,?_,λd o=>?_⟩
  ·simp_all
  ·intro C;have F:(a[d].born:Int)=n:=η
   have I:(a.toList.map (·.born))[d]? =some a[d].born:=G
   have N:(a.toList.map (·.born))[c]? =some l.born:=η
   grind[List.getElem?_inj]
 refine⟨(),_,?_,TH g (a.modify c λd=>{ d with val:=x },e),nu.2 ⟨_,_,?_,h.setObj _⟩⟩
 ·unfold Instr.entryStore;simp only[Sem.run_bind,run_getObj_map w b a e g,Result.andThen_ok]
  show((asInt<|O n).run P w).andThen _=_
  have d:(asInt<|O n).run P w=.ok n w:=rfl
  grind[Result.andThen_ok,run_setObj_map]
 ·refine⟨?_,?_,?_⟩
  rotate_left
  ·have:(a.modify c λd=>{ d with val:=x }).toList.map (·.born)=a.toList.map (·.born):=by
    apply kv
    grind
   simp_all
  ·grind[List.getElem?_of_mem,List.mem_of_getElem?]
  rw[i x];apply kv;intro d;have C:=congrArg (λo=>o[d]?) f
  grind
end
theorem aj.part{h:Hp}{b:Nat}{vs:Ay}(r:aj h ⟨b,0,none⟩ vs)(i n:Nat):aj h ((⟨b,0,none⟩:vP).add (ew i n)) ((vs.drop (i*n)).take n):=λd c a=>by
 rw[nN] at a
 split at a
 ·rw[kI] at a
  rw[ke,bh]
  exact r _ c a
 simp_all
theorem Jl{h:Hp}{k a:Nat}{nl nn:At}(r:aj h ⟨k,0,none⟩ (bv (nl++nn)))(f:nl.length=a)(g:0<nn.length):bf h nn (some ⟨k,a,none⟩) nn.length:=by
 have c:bf h (nl++nn) (some ⟨k,0,none⟩) (nl.length+nn.length):=BY V<|.inr ⟨_,rfl,r⟩;have b:=c.drop (k:=a) (m:=nl.length+nn.length) U (gP _)
 have d:f_ (some ⟨k,0,none⟩) a (nl.length+nn.length) 1=some ⟨k,a,none⟩:=by
  unfold f_;rw[gv U,oI,show ew a 1=a from by rfl,ak]
 have e:(nl++nn).drop a=nn:=η
 rw[e,show nl.length+nn.length-a=nn.length from U] at b;exact d▸b
end
section
variable{w:ga}{L:List aG}{g:B}{x:GA}
theorem Re(h:gR (hp w) g x)(i:jq g)(j:ec (hp w)):ρ 179 [.agg ⟨x.cells⟩] w λb a=>∃(o:E)(n c:Nat)(e:Int),b=.tuple #[T o n c,O e]/\Gr w a/\((¬bL g/\e=1/\n=0)\/(bL g/\e=0/\n=g.N/\∃nn,tC g nn/\bf (hp a) nn o n)):=by
 refine(J8 h i j).mono ?_
 rintro _ k (⟨a,rfl,b⟩|⟨a,l,m,nn,b,d,rfl,f⟩)
 ·exact⟨_,_,_,_,rfl,b,.inl ⟨a,rfl,rfl⟩⟩
 ·have:=Jl f.row b (by have:=(EP a).2.2.2.1;rw[d.1];exact this);rw[d.1] at this;exact⟨_,_,_,_,rfl,f.aS,.inr ⟨a,rfl,rfl,nn,d,this⟩⟩
end
theorem G3{g:B}(h:kE g):g.terms.length<=65/\g.b9.length<=64/\g.prods.length<=97/\¬g.b9[0]? =some .empty:=by
 obtain⟨d,a,e,f,j,b⟩:=EP<|.inl h;refine⟨a,h.1.2.2.2.1,b,λc=>?_⟩;have:=h.1.2.2.2.2.2.2.2.2.2 _ (gg (i:=0) (by simpa using c))
 simp_all[fo]
theorem Jm{ms:At}{a:Nat}(h:a<ms.length):(bv ms)[a]? =some (J (bt ms a)):=by simp_all[bv,Ab]
theorem ON{w:ga}{k a:Nat}{ms:At}(r:aj (hp w) ⟨k,0,none⟩ (bv ms))(h:a<ms.length):w.cell? ((⟨k,0,none⟩:vP).add a)=some (J (bt ms a)):=r.cell sZ (j:=a) (Jm h)
theorem Am(ms:At)(a:Nat)(b:Bool):(bv ms).set a (J b)=bv (ms.set a b):=by simp[bv]
theorem J_(n:Nat):List.replicate n (J false)=bv (List.replicate n false):=by simp[bv]
def qi(a p:Nat):ah:=T (some ⟨p,0,none⟩) a a
def cU(ps:A0)(vs:A5):List aG:=List.zipWith (λp v=>ax p (bv v)) ps vs
theorem JF{L:List aG}{h:Hp}{ps:A0}{vs:A5}{k p:Nat}{v:At}(i:Nat)(b:aL L h)(hp:ps[k]? =some p)(g:vs[k]? =some v)(e:tX L i=aT (cU ps vs):=by rfl)(hi:Nat.blt i (B3 L)=true:=by rfl):aj h ⟨p,0,none⟩ (bv v):=by
 obtain⟨j,c,a⟩:=dN i (by simp_all[iY]) b;rw[e] at a;obtain⟨l,d,f⟩:=iL (A:=ax p<|bv v) (gg (i:=k) (by simp_all[cU,lE])) a;exact(j6 f).mono (d.trans c)
theorem Z2{L:List aG}{h:Hp}{a:E}{sz l c:Nat}{vs:Ay}(i:Nat)(b:aL L h)(e:tX L i=own sz a l c vs:=by rfl)(hi:Nat.blt i (B3 L)=true:=by rfl):dX a vs h:=by
 obtain⟨f,g,d⟩:=dN i (by simp_all[iY]) b;rw[e] at d
 grind[dX.mono,bD]
def JK(g:B)(e:Int)(nn:At):Prop:=(¬bL g/\e=1/\nn=[])\/(bL g/\e=0/\tC g nn)
section
variable{w:ga}{L:List aG}{g:B}{x:GA}{a a2:E}{l l2 c c2:Nat}{bs:At}{row:Az}
theorem Rf(i:gR (hp w) g x)(j:jq g)(k:ec (hp w)):ρ 179 [.agg ⟨x.cells⟩] w λa b=>∃(o:E)(n c:Nat)(e:Int)(nn:At),a=.tuple #[T o n c,O e]/\nn.length=n/\JK g e nn/\W b (own 1 o n c (bv nn)::all w):=by
 refine(J8 i j k).mono ?_
 rintro _ m (⟨b,rfl,f⟩|⟨b,p,d,nn,f,a,rfl,h⟩)
 ·exact⟨_,_,_,_,[],rfl,rfl,.inl ⟨b,rfl,rfl⟩,aH 1<|bM f⟩
 ·refine⟨_,_,_,_,nn,rfl,a.1,.inr ⟨b,rfl,a⟩,?_⟩;have e:bv (d++nn)=bv d++(bv nn++([]++[])):=by simp[bv]
  rw[e] at h;have:=fJ (pre:=bv d) (vs:=bv nn) (cs:=[]) (post:=[]) (l:=g.N) (c:=g.N) (sz:=1) h (by rw[m_,a.1,kA]) (by rw[jK,m_,a.1,kA]) (gP _)
  simp_all[m_]
end
def OO(g:B)(ss:List SQ)(m:List (aJ×ah))(i:Nat):Prop:=∀t:aJ,iV t m=if t∈(b_ g ss).take i then some (O (((b_ g ss).idxOf t:Int)+1)) else none
def W4(ss:List SQ)(m:List (aJ×ah))(i:Nat)(es:List aN):Prop:=∀k:aJ,iV k m=
 if k.st<0 then none else if k.st.toNat<i then(dt ss k.st.toNat k.sym).map (λj=>O (j+1)) else if k.st.toNat=i then(es.find? λe=>decide (e.sym=k.sym)).map (λe=>O (e.to+1)) else none
section
variable{g:B}{ss:List SQ}{m:List (aJ×ah)}{i:Nat}
theorem OO.start:OO g ss [] 0:=λt=>by rfl
theorem OO.step(c:bG g ss)(h:OO g ss m i){t:aJ}(a:(b_ g ss)[i]? =some t):OO g ss (c_ t (O ((i:Int)+1)) m) (i+1):=λb=>by
 rw[fN,h b,iw,a]
 by_cases d:b=t
 ·subst d
  rw[gD rfl,gD V,Z0 (ZZ c) a]
 simp_all
theorem OO.all(h:OO g ss m (b_ g ss).length)(t:aJ):(iV t m).getD (O 0)=O (CM g ss t):=by
 rw[h t,jl]
 grind[CM]
theorem W4.start:W4 ss [] 0 []:=λk=>by simp[iV]
theorem W4.step{es:List aN}(h:W4 ss m i es){e:aN}(b:e.sym∉es.map (·.sym)):W4 ss (c_ ⟨(i:Int),e.sym⟩ (O (e.to+1)) m) i (es++[e]):=λk=>by
 rw[fN,h k,MO b]
 by_cases a:k=⟨(i:Int),e.sym⟩
 ·simp_all
 ·rw[gv a]
  split
  ·rfl
  ·split
   ·rfl
   ·split
    ·have:k.sym≠e.sym:=λh=>a (by cases k;grind)
     simp_all
    rfl
theorem W4.next{q:SQ}(c:ss[i]? =some q)(h:W4 ss m i q.2.2):W4 ss m (i+1) []:=λa=>by
 rw[h a]
 split
 ·rfl
 ·by_cases d:a.st.toNat<i
  ·grind
  ·rw[gv d]
   by_cases b:a.st.toNat=i
   ·rw[gD b,gD U,b,uZ c,Option.map_map];rfl
   grind
theorem W4.all(h:W4 ss m ss.length [])(k:aJ):(iV k m).getD (O 0)=O (qg ss k):=by
 rw[h k];unfold qg
 by_cases a:k.st<0
 ·simp_all
 ·rw[gv a,gv a]
  grind[dt,List.getElem?_eq_none]
end
abbrev sY(x:GA)(o:E)(n c:Nat)(a int:Int)(ol:E)(nl cl ka kt:Nat)(on:E)(nn cn kp:Nat):Ay:=x.cells++[T o n c,O a,O int,T ol nl cl,.map (some ka),.map (some kt),T on nn cn,.map (some kp)]
structure Z3(h:Hp)(g:B)(ss:List SQ)(nn:At)(k:Nat):Prop where
 ex:∃(x:GA)(o:E)(c:Nat)(a int:Int)(ol:E)(cl ka kt:Nat)(on:E)(cn kp:Nat)(ma mt:List (aJ×ah))(mp:List (Int×ah)),
  aj h (Z k) (sY x o ss.length c a int ol (b_ g ss).length cl ka kt on g.N cn kp)/\gR h g x/\Q1 h ss o/\bf h (b_ g ss) ol (b_ g ss).length/\hZ ka ma h/\OO g ss ma (b_ g ss).length/\hZ kt mt h/\W4 ss mt ss.length []/\bf h nn on g.N/\hZ kp mp h/\
  ∀s:Int,∃(a:E)(c:Nat),(iV s mp).getD (D)=.slice a (K6 g g.prods.length s).length c/\bf h ((K6 g g.prods.length s).map Int.ofNat) a (K6 g g.prods.length s).length
theorem Z3.mono{h h':Hp}{g:B}{ss:List SQ}{nn:At}{k:Nat}(s:sub h h')(r:Z3 h g ss nn k):Z3 h' g ss nn k:=by
 obtain⟨a,b,c,d,int,e,f,i,j,l,m,n,o,p,q,t,v,w,x,y,z,A,C,F,I,L⟩:=r.ex;exact⟨a,b,c,d,int,e,f,i,j,l,m,n,o,p,q,t.mono s,v.mono s,w.mono s,x.mono s,fT s y,z,fT s A,C,F.mono s,fT s I,λN=>by obtain⟨P,Q,R,r⟩:=L N;exact⟨P,Q,R,r.mono s⟩⟩
section
variable{w:ga}{L:List aG}{g:B}{x:GA}
theorem TI(bo:gR (hp w) g x)(Q:jq g)(bs:ec (hp w)):ρ 195 [.agg ⟨x.cells⟩] w λb a=>∃(ss:List SQ)(c int f:Int)(p:E),b=.tuple #[.pointer p,O f]/\G2 g ss c int f/\Gr w a/\(f=0->∃(k:Nat)(nn:At),p=some (Z k)/\tC g nn/\Z3 (hp a) g ss nn k)/\(f≠0->p=none):=by
 refine LS<|dZ bo λbu bz a2 R a3=>?_;refine⟨_,_,_,_,_,_,_,_,_,_,_,_,_,a3.row sZ,(zp R Q).mono ?_⟩;rintro _ a4⟨y,z,ss,n,int,f,rfl,S,a5⟩;have az:Gr bz a4:=aE 3 a5.l;have bE:=Iq a5.l;clear a5
 refine⟨_,_,_,_,_,_,rfl,ag (W.all a4) λbN d4 A=>aQ A rfl (by simp[aO]) λa A=>ae (λbO=>?_) λbO=>?_⟩
 ·have b:f≠0:=η
  exact⟨ss,n,int,f,none,rfl,S,a2.trans<|az.trans A.aS,λc=>absurd c b,λ_=>rfl⟩
 have bP:f=0:=η
 subst bP;obtain⟨a6,I⟩:=S.Sn rfl;have aB:=I.LQ a6;have d5:=I.dn.2.1;have bT:=D4 (g:=g) (λb c=>(aB b c).2) ss.length;have aK:Gr a4 a:=A.aS;have aR:aj (hp a) (Z bN) [T y ss.length z,O n,O int]:=af 0 A.l;clear A;have C:=az.trans aK;have a7:=R.mono C;have c0:ec (hp a):=dX.mono (a2.trans C) bs;have aS:=bE.mono aK;have a8:∀{b:ga},sub (hp a) (hp b)->iA b ⟨bu,0,none⟩ 0 5=some x.cells:=λb=>a3.row<|sub.trans C b;have c1:=R.p.1;have c2:=R;obtain⟨_,_,_,d6,_,_,_⟩:=id Q;refine⟨_,_,_,_,_,_,_,_,_,_,_,_,_,a8 sZ,_,_,_,_,_,aR.at sZ rfl,?_⟩;refine oW (W.all a) λe d7 c3=>?_;have c4:=eJ (κ:=aJ) c3;refine oW c4 λh d8 c5=>?_;have c6:=eJ (κ:=aJ) c5;refine oW c6 λb d9 c7=>?_;have c8:=eJ (κ:=Int) c7;refine ag (vs:=sY x y ss.length z n int none 0 0 e h none 0 0 b) c8 λd c9 aV=>?_;have b0:Gr a c9:=aE 4 aV.l;refine⟨_,_,_,_,_,_,_,_,_,_,_,_,_,a8 b0,(ZN (a7.mono b0) Q).mono ?_⟩;rintro _ b1⟨dc,df,dk,dl,i,m,rfl,ca,a9⟩;obtain⟨_,cb,_,_,rfl,_⟩:=S.one ca;rw[<-zu cb] at a9 ⊢;have b2:=W.fy a9 aV.l;clear a9;have dn:bf (hp b1) (b_ g ss) i (b_ g ss).length:=Ir rfl (dT 0 b2.l);have cc:W b1 (ax d (sY x y ss.length z n int none 0 0 e h none 0 0 b)::own 2 i (b_ g ss).length m (MM<|b_ g ss)::hZ b ([]:List (Int×ah))::hZ h ([]:List (aJ×ah))::hZ e ([]:List (aJ×ah))::all a):=b2.pick 2 [1,0];refine⟨_,_,_,_,rfl,aX cc (show 8<13 by simp) λb3 b4=>?_⟩;have b5:W b3 (ax d (sY x y ss.length z n int i (b_ g ss).length m e h none 0 0 b)::own 2 i (b_ g ss).length m (MM<|b_ g ss)::hZ b ([]:List (Int×ah))::hZ h ([]:List (aJ×ah))::hZ e ([]:List (aJ×ah))::all a):=b4;clear b4;have aa:Gr a b3:=aE 5 b5.l;refine⟨_,_,_,_,_,_,_,_,_,_,_,_,_,a8 aa,(Rf (a7.mono aa) Q<|dX.mono aa c0).mono ?_⟩;rintro _ ds⟨q,cd,r,dv,nn,rfl,b6,ce,b7⟩;have cg:=W.fy b7 b5.l;clear b7
 have b9:tC g nn:=by
  rcases ce with⟨c,_⟩|⟨_,_,c⟩
  ·exact absurd (.inr a6) c
  omega
 have ch:cd=g.N:=by rw[<-b6];exact b9.1
 subst ch;refine⟨_,_,_,_,rfl,aX (cg.pick 2 [1,0]) (show 11<13 by simp) λci ba=>?_⟩;obtain⟨l,F⟩:∃c,c=sY x y ss.length z n int i (b_ g ss).length m e h q g.N r b:=⟨_,rfl⟩;have ab:W ci (ax d l::own 1 q g.N r (bv nn)::own 2 i (b_ g ss).length m (MM<|b_ g ss)::hZ b ([]:List (Int×ah))::hZ h ([]:List (aJ×ah))::hZ e ([]:List (aJ×ah))::all a):=by rw[F];exact ba
 clear ba;have ck:l[8]? =some (.slice i (b_ g ss).length m):=by rw[F];rfl
 have cl:l[9]? =some (.map<|some e):=by rw[F];rfl
 have cm:l[10]? =some (.map<|some h):=by rw[F];rfl
 have cn:l[12]? =some (.map<|some b):=by rw[F];rfl
 have dx:(b_ g ss).length<=ss.length*130:=bT
 refine⟨_,_,_,(af 0 ab.l).cell sZ (j:=8) ck,λs t=>∃(c:Nat)(o:List (aJ×ah)),s=c/\c<=(b_ g ss).length/\OO g ss o c/\W t (hZ e o::ax d l::own 1 q g.N r (bv nn)::own 2 i (b_ g ss).length m (MM<|b_ g ss)::hZ b ([]:List (Int×ah))::hZ h ([]:List (aJ×ah))::all a),λc _=>(b_ g ss).length-c.toNat,
  ⟨0,[],rfl,gu _,.start,ab.pick 6 [5,0,1,2,3,4]⟩,?_⟩
 clear ab;rintro _ _ bb⟨ac,X,rfl,dy,bc,L⟩
 refine ae (λco=>?_) λco=>?_
 ·have c:ac<(b_ g ss).length:=η
  have N:bf (hp bb) (b_ g ss) i (b_ g ss).length:=Ir rfl (dT 3 L.l);obtain⟨o,ao,P,Y,a0⟩:=zq N c;refine aI Y c ⟨_,_,a0.at sZ rfl,ag L λa1 ap s=>aQ s rfl (by simp[aO]) λav s=>?_⟩;intro t ad;have v:=s.eq<|aW ad;have al:aj (hp t) (Z a1) [O o.st,O o.sym]:=af 0 v.l;have am:aj (hp t) (Z d) l:=af 2 v.l;refine⟨λan=>Gr t an,Gr.refl _,_,λbd an=>am.cell an (j:=9) cl,_,_,λbd an=>al.at an rfl,ξ,(sg (κ:=aJ) aY (rfl:ai Ty _=.map _ _) gV (v.pick 2 [1]) o _).mono ?_⟩;rintro _ bd an;exact⟨ξ,⟨ac+1,_,V,c,bc.step I P,an⟩,bS c⟩
 have cp:ac=(b_ g ss).length:=G
 subst cp;have bd:sub (hp a) (hp bb):=aE 6 L.l
 refine⟨_,_,_,aR.cell0 bd,λs t=>∃(c:Nat)(o:List (aJ×ah)),s=c/\c<=ss.length/\W4 ss o c []/\W t (hZ h o::hZ e X::ax d l::own 1 q g.N r (bv nn)::own 2 i (b_ g ss).length m (MM<|b_ g ss)::hZ b ([]:List (Int×ah))::all a),λc _=>ss.length-c.toNat,
  ⟨0,[],rfl,gu _,.start,L.pick 6 [5,0,1,2,3,4]⟩,?_⟩
 clear L bd;rintro _ _ cq⟨s,ad,rfl,dA,al,am⟩;have be:sub (hp a) (hp cq):=aE 6 am.l
 refine ae (λcs=>?_) λcs=>?_
 ·have N:s<ss.length:=η
  obtain⟨c,t⟩:∃o,ss[s]? =some o:=⟨_,gn N⟩;obtain⟨dC,bi,bl,_,ct⟩:=aS s c t;have dF:=(aB c<|gg t).2;have dG:=FW I t;refine aI bi N ⟨_,_,_,_,_,_,bl.at be rfl,ag am λcu dW v=>aQ v rfl (by simp[aO]) λcv v=>?_⟩;have cx:aj (hp cv) (Z cu) (WX c):=af 0 v.l
  refine⟨_,_,_,cx.cell sZ (j:=1) rfl,λP Y=>∃(k:Nat)(o:List (aJ×ah)),P=k/\k<=c.2.2.length/\W4 ss o s (c.2.2.take k)/\W Y (hZ h o::hZ e X::ax d l::own 1 q g.N r (bv nn)::own 2 i (b_ g ss).length m (MM<|b_ g ss)::hZ b ([]:List (Int×ah))::all a),λo _=>c.2.2.length-o.toNat,
   ⟨0,ad,rfl,gu _,al,v.pick 7 [1,2,3,4,5,6]⟩,?_⟩
  clear v al;rintro _ _ cy⟨k,cz,rfl,e0,Y,a0⟩;have cA:sub (hp a) (hp cy):=aE 6 a0.l;refine ae (λcB=>?_) λcB=>?_
  rotate_left
  ·have o:k=c.2.2.length:=G
   subst o;rw[jl] at Y;exact⟨ξ,⟨s+1,cz,V,N,Y.next t,a0⟩,bS N⟩
  have P:k<c.2.2.length:=η
  obtain⟨o,e1,cC,cF,cI⟩:=qy ct P;obtain⟨_,_,j,e2,e3,e4,cR,_⟩:=dj a6 I t cC;have e5:=(gJ.1 cR).1;refine aI cF P ⟨_,_,cI.at cA rfl,ag a0 λbQ e6 a1=>aQ a1 rfl (by simp[aO]) λe7 a1=>?_⟩;intro an cT;have ao:=a1.eq<|aW cT;have ap:aj (hp an) (Z bQ) [O o.sym,O o.to]:=af 0 ao.l;have d0:aj (hp an) (Z d) l:=af 3 ao.l;refine⟨λav=>Gr an av,Gr.refl _,_,λd1 av=>d0.cell av (j:=10) cm,_,λd1 av=>ap.cell0 av,_,λd1 av=>ap.cell av (j:=1) rfl,ξ,(sg (κ:=aJ) aY (rfl:ai Ty _=.map _ _) gV (ao.pick 2 [1]) ⟨(s:Int),o.sym⟩ _).mono ?_⟩;rintro _ e8 d1;have d2:c.2.2.take (k+1)=c.2.2.take k++[o]:=by simp_all[iw]
  have d3:o.sym∉(c.2.2.take k).map (·.sym):=λav=>by
   have e9:c.2.2.map (·.sym)=(c.2.2.take k).map (·.sym)++o.sym::(c.2.2.drop (k+1)).map (·.sym):=by
    rw[<-kn,<-jI];congr 1;have:=l9 (k+1) c.2.2
    simp_all
   grind
  have av:=Y.step d3;rw[<-d2] at av;exact⟨ξ,⟨k+1,_,V,P,av,d1⟩,bS P⟩
 have ct:s=ss.length:=G
 subst ct;have bi:=am.pick 6 [5,0,1,2,3,4]
 refine⟨_,_,_,a3.c4<|sub.trans C be,λt v=>∃(j:Nat)(c:List (Int×Lq Int)),t=j/\j<=x.pl/\(∀o,kQ o c=(K6 g j o).map Int.ofNat)/\W v (ax d l::hZ b (mV c)::aT (mO 1 iv c)::hZ h ad::hZ e X::own 1 q g.N r (bv nn)::own 2 i (b_ g ss).length m (MM<|b_ g ss)::all a),λc _=>x.pl-c.toNat,
  ⟨0,[],rfl,gu _,λc=>rfl,?_⟩,?_⟩
 ·have c:=(W.flat (M:=[])).2 bi;exact c.pick 7 [4,1,0,2,3,5,6]
 clear bi;rintro _ _ cu⟨j,N,rfl,d2,bl,c⟩;have Y:sub (hp a) (hp cu):=aE 7 c.l;refine ae (λcv=>?_) λcv=>?_
 rotate_left
 ·have a0:j=x.pl:=G
  subst a0;rw[<-c1] at bl
  refine⟨ss,n,int,0,some<|Z d,rfl,S,a2.trans<|C.trans Y,λ_=>⟨d,nn,rfl,b9,x,y,z,n,int,i,m,e,h,q,r,b,X,ad,mV N,by rw[<-F];exact af 0 c.l,a7.mono Y,aS.mono Y,Ir rfl (dT 6 c.l),?_,bc,?_,al,BY b6<|dT 5 c.l,?_,λo=>?_⟩,λt=>absurd rfl t⟩
  ·obtain⟨P,t,v⟩:=B7 4 c.l;exact fT t v
  ·obtain⟨P,t,v⟩:=B7 3 c.l;exact fT t v
  ·obtain⟨P,t,v⟩:=B7 1 c.l;exact fT t v
  have t:=bl o;cases P:gf o N with
  |none=>
   have v:kQ o N=[]:=by simp_all[kQ]
   rw[v] at t;have a1:K6 g g.prods.length o=[]:=List.map_eq_nil_iff.1 t.symm;rw[jW,P,a1];exact⟨none,0,rfl,bf.nil⟩
  |some v=>
   have a1:kQ o N=v.2:=by simp_all[kQ]
   rw[a1] at t;obtain⟨av,an,ao⟩:=U7 (ay<|ay c.l) P;have ap:v.2.length=(K6 g g.prods.length o).length:=η
   refine⟨v.1.1,v.1.2,by simp_all[jW,cf],?_⟩;rw[<-t,<-ap];exact(bA rfl (bD ao)).mono an
 have o:j<x.pl:=η
 obtain⟨p,d3,vs,cx,cy,cz,cA,cB,cC,rfl,dC,dF⟩:=c2.p.get o;refine aI cy o ⟨_,_,_,_,_,cz.at (sub.trans C Y) rfl,ag c λan dG a0=>aQ a0 rfl (by simp[aO]) λdW a0=>ae (λcF=>?_) λcF=>?_⟩
 rotate_left
 ·have t:¬0<j:=η
  exact⟨ξ,⟨j+1,N,V,o,λP=>by rw[J9 cx,gv (λv=>t v.2),jK];simp_all,a0.pick 8 [1,2,3,4,5,6,7]⟩,bS o⟩
 have e0:0<j:=η
 intro e1 cI;have P:=a0.eq<|aW cI;have t:∀{v:ga}{a1:List aG},W v (ax d l::a1)->v.cell? ((Z d).add 12)=some (.map<|some b):=λv=>(af 0 v.l).cell sZ (j:=12) cn;have v:∀{a1:ga}{ao:List aG},W a1 (ax an [O p.left,T cA cB cC,O p.level]::ao)->a1.cell? (Z an)=some (O p.left):=λa1=>(af 0 a1.l).cell0 sZ
 refine⟨λa1=>a1.cell? ((Z d).add 12)=some (.map<|some b)/\a1.cell? (Z an)=some (O p.left),⟨t<|P.pick 2 [1],v P⟩,_,λao a1=>a1.1,_,λao a1=>a1.2,_,λao a1=>a1.1,_,λao a1=>a1.2,?_,?_⟩
 ·refine(cM (κ:=Int) aY (rfl:ai Ty _=.map _ _) bX rfl rfl (P.pick 3 [2]) p.left).mono ?_;rintro _ _⟨rfl,rfl⟩;obtain⟨a1,M,cR,e2,ao,cT⟩:=we rfl (P.pick 4 [3,0,1,2]) p.left;have e3:a1.2.length<=j:=by simp_all[It]
  refine⟨_,_,_,cR,⟨t<|ao.pick 4 [3],v<|ao.pick 3 [2]⟩,ag ao λe4 e5 ap=>⟨⟨t<|ap.pick 5 [4],v<|ap.pick 4 [3]⟩,?_⟩⟩;refine(aU (us:=iv a1.2) aY (rfl:ai Ty _=.slice _) (rfl:ai Ty _=.slice _) rfl rfl rfl ap rfl (by simp[aO]) G U).mono ?_;rintro _ e6⟨e7,e8,rfl,av⟩;refine⟨_,_,_,rfl,⟨t<|av.pick 5 [4],v<|av.pick 4 [3]⟩,(dz (κ:=Int) aY (rfl:ai Ty _=.map _ _) bX (av.pick 6 [5,0,2,4]) p.left _).mono ?_⟩;rintro _ e9 d0;have d1:=CA cT (a1.2++[(j:Int)]) V (by simp[iv]) d0;exact⟨ξ,⟨j+1,_,V,o,λea=>by grind[nX,J9],d1.pick 3 [2,0,1]⟩,bS o⟩
 ·refine ag P λe2 e3 a1=>⟨⟨t<|a1.pick 3 [2],v<|a1.pick 2 [1]⟩,(cM (κ:=Int) aY (rfl:ai Ty _=.map _ _) bX rfl rfl (a1.pick 4 [3]) p.left).mono ?_⟩;rintro _ _⟨rfl,rfl⟩;obtain⟨ao,M,cR,e4,ap,cT⟩:=we rfl (a1.pick 5 [4,0,1,2,3]) p.left;have e5:ao.2.length<=j:=by simp_all[It]
  refine⟨_,_,_,cR,⟨t<|ap.pick 5 [4],v<|ap.pick 4 [3]⟩,?_⟩;refine(aU (us:=iv ao.2) aY (rfl:ai Ty _=.slice _) (rfl:ai Ty _=.slice _) rfl rfl rfl (ap.pick 3 [2,0,1]) rfl (by simp[aO]) G U).mono ?_;rintro _ e6⟨e7,e8,rfl,av⟩;refine⟨_,_,_,rfl,⟨t<|av.pick 5 [4],v<|av.pick 4 [3]⟩,(dz (κ:=Int) aY (rfl:ai Ty _=.map _ _) bX (av.pick 6 [5,0,2,4]) p.left _).mono ?_⟩;rintro _ e9 d0;have d1:=CA cT (ao.2++[(j:Int)]) V (by simp[iv]) d0;exact⟨ξ,⟨j+1,_,V,o,λea=>by grind[nX,J9],d1.pick 3 [2,0,1]⟩,bS o⟩
end
def dp(n:Nat)(P:Nat->Int->Prop)(B k:Nat)(L:List aG)(w:ga):Prop:=∃(o:E)(c:Nat)(es:List (Lq Int)),es.length=n/\(∀i q,es[i]? =some q->(∀z,z∈q.2↔P i z)/\q.2.length<=B)/\W w (ax k [T o n c]::own 1 o n c (es.map cf)::aT (es.map (bU 1 iv))::L)
theorem dp.iff{n B k:Nat}{P Q:Nat->Int->Prop}{L:List aG}{w:ga}(h:dp n P B k L w)(l:∀i z,i<n->(P i z↔Q i z)):dp n Q B k L w:=by
 obtain⟨a,b,c,d,e,f⟩:=h;refine⟨a,b,c,d,λi g j=>⟨λz=>?_,(e i g j).2⟩,f⟩
 grind
theorem dp.gr{n B k:Nat}{P:Nat->Int->Prop}{L:List aG}{w w':ga}(h:dp n P B k L w)(g:Gr w w'):dp n P B k L w':=by
 obtain⟨a,b,c,d,e,f⟩:=h;exact⟨a,b,c,d,e,f.gr g⟩
theorem dp.gw{n B k:Nat}{P:Nat->Int->Prop}{a w:ga}(h:dp n P B k (all a) w):Gr a w:=by
 obtain⟨c,d,e,f,g,b⟩:=h;exact aE 3 b.l
def Z4(n:Nat)(P:Nat->Int->Prop)(ds:List (Lq Int)):Prop:=ds.length=n/\∀i q,ds[i]? =some q->qE q.2/\∀z,z∈q.2↔P i z
section
variable{w:ga}{L:List aG}{g:B}{x:GA}
theorem Z5{n a B k:Nat}{b:Int}{P:Nat->Int->Prop}(h:dp n P B k L w)(j:a<n)(A:(B+1)*8<=140737488355328):ρ bY [O (a:Int),O b,u (some (Z k))] w λc e=>c=.tuple (Array.mk [])/\dp n (λc d=>P c d\/c=a/\d=b) (B+1) k L e:=by
 refine tE ?_;intro p q;have h:=h.gr<|Gr.drawn q;obtain⟨l,g,d,C,r,h⟩:=h;obtain⟨c,s⟩:∃e,d[a]? =some e:=⟨_,gn U⟩;have F:=(r a c s).2;have m:(d.map<|bU 1 iv)[a]? =some (bU 1 iv c):=η
 have t:(d.map cf)[a]? =some (cf c):=η
 have h:=W.out (h.pick 3 [2,0,1]) m;have h:W p (own 1 c.1.1 c.2.length c.1.2 (iv c.2)::aT ((d.map<|bU 1 iv).eraseIdx a)::ax k [T l n g]::own 1 l n g (d.map cf)::L):=h;obtain⟨i,rfl,v⟩:=cV (h.pick 4 [3]) t;refine⟨λe=>e.cell? (Z k)=some (T (some i) n g)/\e.cell? (i.add a)=some (cf c),⟨(af 2 h.l).cell0 sZ,v⟩,_,_,_,λf e=>e.1,_,_,_,λf e=>e.1,au rfl j ⟨_,_,_,λf e=>e.2,ag h λI N h=>?_⟩⟩;have o:∀{e:ga}{f:List aG},W e (own 1 (some i) n g (d.map cf)::f)->e.cell? (i.add a)=some (cf c):=λh=>by grind[cV]
 refine⟨⟨(af 3 h.l).cell0 sZ,o<|h.pick 5 [4]⟩,?_⟩;refine(aU (us:=iv c.2) aY (rfl:ai Ty _=.slice _) (rfl:ai Ty _=.slice _) rfl rfl rfl h rfl (by simp[aO]) G U).mono ?_;rintro _ Q⟨e,f,rfl,h⟩;refine⟨_,_,_,rfl,⟨(af 3 h.l).cell0 sZ,o<|h.pick 5 [4]⟩,au rfl j (ib (h.pick 5 [4,0,2,3]) rfl η λx h=>?_)⟩
 refine⟨rfl,some i,g,d.set a ((e,f),c.2++[b]),η,λR S X=>?_,?_⟩
 ·grind
 ·have y:(T e (c.2.length+1) f:ah)=cf (((e,f),c.2++[b]):Lq Int):=by simp[cf]
  have z:own 1 e (c.2.length+1) f (iv c.2++[O b])=bU 1 iv (((e,f),c.2++[b]):Lq Int):=by simp[bU,iv]
  have h:W x (own 1 (some i) n g ((d.map cf).set a (T e (c.2.length+1) f))::own 1 e (c.2.length+1) f (iv c.2++[O b])::aT ((d.map<|bU 1 iv).eraseIdx a)::ax k [T (some i) n g]::L):=h;rw[y,<-kf] at h;have h:=W.back (B:=own 1 e (c.2.length+1) f<|iv c.2++[O b]) (h.pick 4 [1,2,0,3]) m;rw[z,<-kf] at h;exact h.pick 3 [2,1,0]
theorem Vi{n k:Nat}{ss:List SQ}{nn:At}{fg:aM}{fc:Ay}{P:Nat->Int->Prop}(hw:Z3 (hp w) g ss nn k)(hn:(b_ g ss).length=n)(hn2:n<=33280)(hF:Fn fg=true)
  (hE:∀(k4:Nat)(w0:ga),dp n (λ_ _=>False) 0 k4 (all w) w0->ρ fg (.func (.func bY) (Array.mk []) (Array.mk [u (some (Z k4))])::fc) w0 λv w'=>v=.tuple (Array.mk [])/\∃B,B<=4611686018427387/\dp n P B k4 (all w) w'):
  ρ 340 [u (some (Z k)),.func (.func fg) (Array.mk []) (Array.mk fc)] w λv w'=>∃(o:E)(c:Nat)(ds:List (Lq Int)),v=T o n c/\Z4 n P ds/\W w' (own 1 o n c (ds.map cf)::aT (ds.map (bU 1 iv))::all w):=by
 obtain⟨x,o,c,a,int,ol,cl,ka,kt,on,cn,kp,ma,mt,mp,rk,hg,hs,rT,_,_,_,_,_,_,_⟩:=hw.ex;rw[hn] at rk;refine xL ⟨_,_,_,rk.cell sZ (j:=8) rfl,⟨U,rfl,U⟩,?_⟩;rw[je];have e0:ir n [(D:ah)]=(List.replicate n (((none,0),[]):Lq Int)).map cf:=by simp[de,cf]
 rw[e0];refine ag (W.all w) λk3 w1 h=>ag h λk4 w2 h=>aX h V λY h=>bn.2 ⟨hF,?_⟩;have h:W Y (ax k4 [T (some<|Z k3) n n]::ax k3 ((List.replicate n (((none,0),[]):Lq Int)).map cf)::all w):=h;have h:W Y (own 1 (some<|Z k3) n n ((List.replicate n (((none,0),[]):Lq Int)).map cf)::ax k4 [T (some<|Z k3) n n]::all w):=bq (cs:=[]) (show W Y (ax k3 ((List.replicate n (((none,0),[]):Lq Int)).map cf++[])::ax k4 [T (some<|Z k3) n n]::all w) by rw[jK];exact h.pick 2 [1,0]) V V<|gP _;have h:=DA (A:=bU 1 iv ((none,0),[])) (λw L h=>aH 1 h) n h;rw[<-List.map_replicate] at h
 have a0:dp n (λ_ _=>False) 0 k4 (all w) Y:=by
  refine⟨_,_,List.replicate n (((none,0),[]):Lq Int),V,λi q X=>?_,h.pick 3 [2,1,0]⟩
  grind
 clear h;refine(hE k4 Y a0).mono ?_;rintro _ w4⟨rfl,B,hB,f,c4,es,O,J,h⟩
 refine⟨rfl,_,_,_,(af 0 h.l).cell0 sZ,λz w'=>∃(i:Nat)(es:List (Lq Int)),z=i/\i<=n/\es.length=n/\(∀j q,es[j]? =some q->(∀z,z∈q.2↔P j z)/\q.2.length<=B/\(j<i->qE q.2))/\W w' (ax k4 [T f n c4]::own 1 f n c4 (es.map cf)::aT (es.map<|bU 1 iv)::all w),λz _=>n-z.toNat,
  ⟨0,es,rfl,gu _,O,λj q X=>⟨(J j q X).1,(J j q X).2,λh=>absurd h U⟩,h⟩,?_⟩
 clear h J O;rintro _ _ w5⟨i,es,rfl,hi,O,J,h⟩;refine ae (λd=>?_) λd=>?_
 rotate_left
 ·have d:i=n:=G
  refine⟨_,_,_,(af 0 h.l).cell0 sZ,f,c4,es,rfl,⟨O,λj q X=>?_⟩,h.pick 3 [1,2]⟩
  grind
 have d:i<n:=η
 obtain⟨q,X⟩:∃q,es[i]? =some q:=⟨_,gn U⟩;obtain⟨av,am,_⟩:=J i q X;have hA:(es.map<|bU 1 iv)[i]? =some (bU 1 iv q):=η
 have hV:(es.map cf)[i]? =some (cf q):=η
 have h:=W.out (h.pick 3 [2,0,1]) hA;have h:W w5 (own 1 q.1.1 q.2.length q.1.2 (iv q.2)::aT ((es.map<|bU 1 iv).eraseIdx i)::ax k4 [T f n c4]::own 1 f n c4 (es.map cf)::all w):=h;obtain⟨e,rfl,a5⟩:=cV (h.pick 4 [3]) hV;have cc:∀{m:ga}{L':List aG},W m (own 1 (some e) n c4 (es.map cf)::L')->m.cell? (e.add i)=some (cf q):=λh=>by grind[cV]
 refine⟨_,_,_,(af 2 h.l).cell0 sZ,au rfl d ⟨_,_,_,a5,(U1 h U).mono ?_⟩⟩;rintro _ w6⟨rfl,h⟩;refine⟨rfl,?_⟩;intro w7 hd;have h:=h.eq<|aW hd;generalize hso:(q.2.mergeSort λx y=>decide (x<=y))=so at h;have aa:∀z,z∈so↔z∈q.2:=λz=>by grind[List.mem_mergeSort]
 have a6:so.Pairwise (·<=·):=by
  have:=List.pairwise_mergeSort (le:=λx y:Int=>decide (x<=y)) (λa b c d h2=>G) (λa b=>G) q.2
  simp_all
 have a9:so.length=q.2.length:=by grind[List.length_mergeSort]
 refine⟨λm=>m.cell? (Z k4)=some (T (some e) n c4)/\m.cell? (e.add i)=some (cf q),⟨(af 2 h.l).cell0 sZ,cc<|h.pick 4 [3]⟩,_,_,_,λm hu=>hu.1,_,_,_,λm hu=>hu.1,au rfl d ⟨_,_,_,λm hu=>hu.2,(TG h U).mono ?_⟩⟩;rintro _ a7⟨l,c',rfl,h⟩;refine⟨_,_,_,rfl,⟨(af 2 h.l).cell0 sZ,cc<|h.pick 4 [3]⟩,bw<|bZ (bJ h) ?_⟩;have h:=cK h;refine⟨_,_,_,rfl,⟨(af 2 h.l).cell0 sZ,cc<|h.pick 4 [3]⟩,au rfl d (ib (h.pick 4 [3,0,1,2]) rfl η λa4 h=>?_)⟩;have a8:=TE so
 refine⟨ξ,⟨i+1,es.set i ((f_ l 0 (dd so).length 1,(dd so).length),dd so),V,d,η,λj r hr=>?_,?_⟩,bS d⟩
 ·grind[List.getElem?_set_self,dd,OL,OJ,List.getElem?_set_ne]
 ·have e1:(.slice (f_ l 0 (dd so).length 1) (dd so).length (dd so).length:ah)=cf (((f_ l 0 (dd so).length 1,(dd so).length),dd so):Lq Int):=rfl;have h:W a4 (own 1 (some e) n c4 ((es.map cf).set i (.slice (f_ l 0 (dd so).length 1) (dd so).length (dd so).length))::own 1 (f_ l 0 (dd so).length 1) (dd so).length (dd so).length (iv<|dd so)::aT ((es.map<|bU 1 iv).eraseIdx i)::ax k4 [T (some e) n c4]::all w):=h;rw[e1,<-kf] at h;have h:=W.back (B:=own 1 (f_ l 0 (dd so).length 1) (dd so).length (dd so).length (iv<|dd so)) (h.pick 4 [1,2,0,3]) hA;rw[show own 1 (f_ l 0 (dd so).length 1) (dd so).length (dd so).length (iv<|dd so)=bU 1 iv (((f_ l 0 (dd so).length 1,(dd so).length),dd so):Lq Int) from rfl,<-kf] at h;exact h.pick 3 [2,1,0]
end
section
variable{g:B}{ss:List SQ}{nn:At}
theorem OP{s:Int}(h:Ba g nn s=true):(g.T:Int)<=s:=by simp_all[Ba,gZ]
def X0(g:B)(nn:At)(ss:List SQ)(j0:Nat)(es:List aN)(z:Int):Prop:=∃e∈es,Ba g nn e.sym=true/\CM g ss ⟨(j0:Int),e.sym⟩=z+1
theorem X0.snoc{a:Nat}{es:List aN}{e:aN}{z:Int}:X0 g nn ss a (es++[e]) z↔X0 g nn ss a es z\/(Ba g nn e.sym=true/\CM g ss ⟨(a:Int),e.sym⟩=z+1):=by
 unfold X0;simp
theorem X0.all(o:aw g)(p:bG g ss){i a:Nat}{t:aJ}{r:SQ}(j:(b_ g ss)[i]? =some t)(q:dt ss t.st.toNat t.sym=some (a:Int))(c:ss[a]? =some r)(z:Int):X0 g nn ss a r.2.2 z↔z∈dK (b_ g ss).length (mf g nn ss i):=by
 rw[gL]
 constructor
 ·rintro⟨b,d,e,h⟩
  have k:0<CM g ss ⟨(a:Int),b.sym⟩:=by
   obtain⟨l,f⟩:=jR d;have:=Tz c f (OP e)
   grind[Iu]
  grind[Ea,List.getElem?_eq_some_iff,mf]
 ·rintro⟨d,rfl,e,b⟩;unfold mf at b;rw[j,gn e] at b;simp only[jn,jV] at b;obtain⟨s,v⟩:=b;have k:(b_ g ss)[d]? =some (b_ g ss)[d]:=gn e;obtain⟨f,w,x,l,y,h,m,A,C⟩:=me<|gg k;have F:(f:Int)=a:=η
  have n:f=a:=U
  subst n;rw[c] at h;cases h;refine⟨l,gg m,η,?_⟩
  grind[Iu]
end
section
variable{w:ga}{L:List aG}{g:B}{x:GA}{ss:List SQ}{nn:At}
theorem JM{t:aJ}{a:Nat}(h0:0<=t.st)(h:dt ss t.st.toNat t.sym=some (a:Int)):qg ss t=(a:Int)+1:=by simp_all[qg,gv]
theorem W5{n a3 a4 a5 h:Nat}{P:ga}(aS:Z3 (hp w) g ss nn a3)(o:aw g)(i:bG g ss)(aV:tC g nn)(p:aj (hp w) (Z a4) [u (some (Z a3))])(B:GB (hp w) a5 x)(cu:g.T=x.tl)(a6:(b_ g ss).length=n)(cv:n<=33280)
  (Q:dp n (λ_ _=>False) 0 h (all w) P):
  ρ 341 [.func (.func bY) (Array.mk []) (Array.mk [u (some (Z h))]),u (some (Z a4)),u (some (Z a5))] P λb c=>b=.tuple (Array.mk [])/\∃B,B<=4611686018427387/\dp n (λd e=>e∈dK n (mf g nn ss d)) B h (all w) c:=by
 obtain⟨cx,cy,cz,a,int,cA,cB,cC,cF,cI,cR,cT,d0,d1,d2,k,d3,b0,a7,b1,b2,bQ,b3,b4,_,_⟩:=aS.ex;rw[a6] at k a7;have b5:=i.LQ o;obtain⟨d4,d5,d6,_,_,_⟩:=o.cR;have d7:=i.dn.2.1;have a8:Gr w P:=Q.gw
 refine Bh ⟨_,p.cell0 a8,_,_,_,k.cell a8 (j:=8) rfl,λc d=>∃(b B:Nat),c=b/\b<=n/\B<=b*130/\dp n (λj e=>j<b/\e∈dK n (mf g nn ss j)) B h (all w) d,λb _=>n-b.toNat,
  ⟨0,0,rfl,gu _,gu _,Q.iff λj c _=>⟨λb=>b.elim,λb=>absurd b.1 U⟩⟩,?_⟩
 clear Q;rintro _ _ b6⟨d,q,rfl,d8,d9,R⟩;have b7:Gr w b6:=R.gw;refine ae (λb9=>?_) λb9=>?_
 rotate_left
 ·have b:d=n:=G
  subst b;exact⟨rfl,q,U,R.iff λj f c=>⟨λe=>e.2,λe=>⟨c,e⟩⟩⟩
 have r:d<n:=η
 obtain⟨t,dc,a9,ba,bb⟩:=zq a7 r;obtain⟨df,dk,dl,S,dn,ds,dv,dx,dy⟩:=me<|gg a9;have A:dt ss t.st.toNat t.sym=some S.to:=by grind[zr]
 obtain⟨dA,bc⟩:=eZ o i A;obtain⟨e,bd⟩:∃b:Nat,S.to=b:=⟨S.to.toNat,U⟩;rw[bd] at A bc;have aa:e<ss.length:=U
 obtain⟨b,s⟩:∃c,ss[e]? =some c:=⟨_,gn aa⟩;have dC:=(b5 b<|gg s).2;have be:0<=t.st:=η
 have bi:qg ss t=(e:Int)+1:=JM be A;obtain⟨bl,bo,bs,bu,ab,bz⟩:=R;refine aI ba r ⟨_,_,bb.at b7 rfl,ag bz λbE dF X=>aQ X rfl (by simp[aO]) λdG X=>?_⟩;intro C bN;have F:=X.eq<|aW bN;have l:Gr w C:=aE 4 F.l;have bO:aj (hp C) (Z bE) [O t.st,O t.sym]:=af 0 F.l;refine⟨λc=>Gr C c,Gr.refl _,_,λf c=>p.cell0<|sub.trans l c,_,λf c=>k.cell (sub.trans l c) (j:=10) rfl,_,_,λf c=>bO.at c rfl,(fp (κ:=aJ) bQ l aY (rfl:ai Ty _=.map _ _) gV rfl rfl t).mono ?_⟩;rintro _ dW⟨rfl,bP⟩;rw[bP,b3.all,bi];obtain⟨e0,bT,c0,_,c1⟩:=b0 e b s;have c2:((e:Int)+1)-1=(e:Int):=U
 refine⟨_,rfl,Gr.refl _,ξ,_,p.cell0 l,_,_,_,k.cell l (j:=5) rfl,?_⟩;rw[c2];have ac:dp n (λj c=>j<d/\c∈dK n (mf g nn ss j)) q h (all w) C:=⟨bl,bo,bs,bu,ab,F.pick 4 [1,2,3]⟩;clear F ab
 refine aI bT aa ⟨_,_,_,c0.cell l (j:=1) rfl,λv y=>∃(c f:Nat),v=c/\c<=b.2.2.length/\f<=q+c/\dp n (λj m=>j<d/\m∈dK n (mf g nn ss j)\/j=d/\X0 g nn ss e (b.2.2.take c) m) f h (all w) y,λc _=>b.2.2.length-c.toNat,
  ⟨0,q,rfl,gu _,gP _,ac.iff λj m _=>⟨.inl,λc=>c.elim id λf=>by obtain⟨_,v,y,_⟩:=f;simp_all⟩⟩,?_⟩
 clear ac;rintro _ _ c3⟨f,I,rfl,e1,e2,L⟩;have c4:Gr w c3:=L.gw;refine ae (λc5=>?_) λc5=>?_
 rotate_left
 ·have c:f=b.2.2.length:=G
  rw[c,jl] at L;refine⟨ξ,⟨d+1,I,V,r,U,L.iff λj m _=>?_⟩,bS r⟩;rw[X0.all o i a9 A s,a6]
  grind
 have m:f<b.2.2.length:=η
 obtain⟨c,e3,ad,c6,c7⟩:=qy c1 m;have c8:b.2.2.take (f+1)=b.2.2.take f++[c]:=by simp_all[iw]
 obtain⟨e4,e5,_⟩:=dj o i s ad;obtain⟨c9,ca,cb,cc,cd,ce⟩:=L;refine aI c6 m ⟨_,_,c7.at c4 rfl,ag ce λal e6 Y=>aQ Y rfl (by simp[aO]) λe7 Y=>?_⟩;intro v cg;have N:=Y.eq<|aW cg;have y:Gr w v:=aE 4 N.l;have am:aj (hp v) (Z al) [O c.sym,O c.to]:=af 0 N.l;have an:dp n (λj z=>j<d/\z∈dK n (mf g nn ss j)\/j=d/\X0 g nn ss e (b.2.2.take f) z) I h (all w) v:=⟨c9,ca,cb,cc,cd,N.pick 4 [1,2,3]⟩
 have skip:Ba g nn c.sym≠true->K ((f:Int)+1)/\(∃(z a0:Nat),(f:Int)+1=z/\z<=b.2.2.length/\a0<=q+z/\dp n (λj a1=>j<d/\a1∈dK n (mf g nn ss j)\/j=d/\X0 g nn ss e (b.2.2.take z) a1) a0 h (all w) v)/\b.2.2.length-((f:Int)+1).toNat<b.2.2.length-(f:Int).toNat:=λe8=>by
  refine⟨ξ,⟨f+1,I,V,m,U,an.iff λj z _=>?_⟩,bS m⟩
  grind[X0.snoc]
 refine⟨λz=>Gr v z,Gr.refl _,_,λa0 z=>am.cell0 z,_,_,_,λa0 z=>B.c0<|sub.trans y z,ae (λch=>?_) λch=>skip λe9=>?_⟩
 rotate_left
 ·grind[OP,of_decide_eq_false]
 have ao:(g.T:Int)<=c.sym:=G
 obtain⟨z,ci⟩:∃a0:Nat,c.sym-(x.tl:Int)=a0:=⟨(c.sym-(x.tl:Int)).toNat,U⟩;have ap:z<g.N:=U
 have ea:Ba g nn c.sym=bt nn z:=by
  unfold Ba;rw[kG ao,oJ,show c.sym.toNat-g.T=z by omega]
 obtain⟨av,ck⟩:∃a0,nn[z]? =some a0:=⟨_,gn (by rw[aV.1];omega)⟩;have eb:bt nn z=av:=by grind[bt]
 obtain⟨ed,ef,az,cl,cm⟩:=b4.dy ap;rw[ck] at az;cases az;refine⟨_,λa1 a0=>p.cell0<|sub.trans y a0,_,_,_,λa1 a0=>k.cell (sub.trans y a0) (j:=11) rfl,_,λa1 a0=>am.cell0 a0,_,_,_,λa1 a0=>B.c0<|sub.trans y a0,ξ,?_⟩;rw[ci];refine au cl ap ⟨av,λa1 a0=>cm _<|sub.trans y a0,ae (λcn=>?_) λa0=>skip G⟩;subst cn;have eg:=Tz s ad ao;obtain⟨a0,aB,ei⟩:=Ea i (t:=⟨(e:Int),c.sym⟩) (by grind[Iu]);have ej:a0<n:=G
 intro a1 aK;have aR:=N.eq<|aW aK;have a2:Gr w a1:=aE 4 aR.l;have co:aj (hp a1) (Z al) [O c.sym,O c.to]:=af 0 aR.l;have cp:=an.gr<|Gr.drawn aK;refine⟨λcq=>Gr a1 cq,Gr.refl _,_,λcs cq=>p.cell0<|sub.trans a2 cq,_,λcs cq=>k.cell (sub.trans a2 cq) (j:=9) rfl,_,λcs cq=>co.cell0 cq,(fp (κ:=aJ) b1 a2 aY (rfl:ai Ty _=.map _ _) gV rfl rfl ⟨(e:Int),c.sym⟩).mono ?_⟩;rintro _ ek⟨rfl,cq⟩;rw[cq,b2.all,aB];have cs:((a0:Int)+1)-1=(a0:Int):=U
 refine⟨_,rfl,Gr.refl _,ξ,bn.2 ⟨rfl,?_⟩⟩;rw[cs];refine(Z5 (a:=d) cp r U).mono ?_;rintro _ el⟨rfl,ct⟩;refine⟨rfl,ξ,⟨f+1,I+1,V,m,U,ct.iff λj em _=>?_⟩,bS m⟩;rw[c8,X0.snoc,aB]
 grind
end
theorem Z4.list{n:Nat}{f:Nat->Nat->Bool}{ds:List (Lq Int)}(h:Z4 n (λa b=>b∈dK n (f a)) ds):ds.map (·.2)=(List.range n).map λa=>dK n (f a):=by
 obtain⟨i,c⟩:=h;apply kv;intro a;rw[iE,iE]
 by_cases d:a<n
 ·have b:ds[a]? =some ds[a]:=gn U;rw[b,pC d];obtain⟨e,g⟩:=c a _ b;exact congrArg some (OI e (u5 n<|f a) g)
 simp_all
theorem dp.has{n B k:Nat}{P:Nat->Int->Prop}{h0 a:Hp}{w:ga}(h:dp n P B k [Proofs.YtaoaemnefghnbaaGreatDoor.has a] w)(s:sub h0 a):dp n P B k [Proofs.YtaoaemnefghnbaaGreatDoor.has h0] w:=by
 obtain⟨b,c,d,e,f,g⟩:=h;exact⟨b,c,d,e,f,GW (L:=[_,_,_]) (M:=[Proofs.YtaoaemnefghnbaaGreatDoor.has a]) (N:=[Proofs.YtaoaemnefghnbaaGreatDoor.has h0]) (λh i=>bM<|sub.trans s<|pQ i) g⟩
theorem dp.frz{n B k:Nat}{P:Nat->Int->Prop}{L:List aG}{w:ga}(h:dp n P B k L w):∃h0,aL L h0/\sub h0 (hp w)/\dp n P B k [Proofs.YtaoaemnefghnbaaGreatDoor.has h0] w:=by
 obtain⟨e,f,g,i,j,l,m,o,p,a,q,r,s,t,v,b,x,y,c,z,A,d,C,F⟩:=h;exact⟨c,F,d.trans<|b.trans a,e,f,g,i,j,l,m,o,p,a,q,r,s,t,v,b,x,y,c,z,A,d,C,bM sZ⟩
theorem dp.sb{n B k:Nat}{P:Nat->Int->Prop}{h0:Hp}{w:ga}(h:dp n P B k [Proofs.YtaoaemnefghnbaaGreatDoor.has h0] w):sub h0 (hp w):=by
 obtain⟨b,c,d,e,f,a⟩:=h;exact aE 3 a.l
section
variable{g:B}{ss:List SQ}
theorem MT(c:aw g)(a:bG g ss){i m:Nat}{q:SQ}{p:aD}(f:ss[i]? =some q)(hp:g.prods[m]? =some p)(k:wS g q.1.2 ⟨(m:Int),0⟩):p.right.length<=256:=by
 obtain⟨b,l,_,e,h⟩:=CF c a hp p.right.length 0 U i q f U;obtain⟨_,_,_,n,_,_⟩:=c.cR;have j:=(ik (g:=g) U b).dots b _ (iO a e).1;have o:=(gJ.1 e).1;have r:=a.dn.2.1;have:=h.dot (d:=b) j (kF _)
 grind
theorem Rg(b:aw g)(c:bG g ss){i:Nat}{t:aJ}(d:(b_ g ss)[i]? =some t){m:Nat}{p:aD}(hp:g.prods[m]? =some p)(n:p.left=t.sym):∃(a:Nat)(q:SQ),t.st=a/\ss[a]? =some q/\wS g q.1.2 ⟨(m:Int),0⟩:=by
 obtain⟨e,f,o,r,s,a,h,v,w⟩:=me<|gg d;obtain⟨_,_,x,y,_,_,z,A,j⟩:=dj b c a h;obtain⟨C,k⟩:=oZ _ j;obtain⟨F,l,I,_⟩:=dh.1 k;refine⟨e,f,G,a,.step l U hp ?_⟩
 simp_all
theorem Z6(d:aw g)(e:bG g ss){q:Int}{row:Az}{k:Nat}{s:Int}(h0:0<=q)(b:q<ss.length)(f:row[k]? =some s):qg ss ⟨dI ss q (row.take k),s⟩-1=dI ss q (row.take (k+1)):=by
 have c:∀h s a,dt ss h s=some a->0<=a/\a<ss.length:=λh s i a=>eZ d e a;rw[cH f,D7 c _ _ _ h0 b];unfold qg
 rcases D6 c (row.take k) q h0 b with a|⟨h,i⟩
 ·simp_all
 ·rw[gv η,gv U,ng]
  grind[dt,dI]
end
section
variable{w:ga}{L:List aG}{g:B}{x:GA}{ss:List SQ}{nn:At}
theorem zA(b:aw g)(a:bG g ss):(b_ g ss).length<=33280:=by
 have c:∀d∈ss,d.2.2.length<=130:=λd e=>(a.LQ b d e).2;have d:=D4 (g:=g) c ss.length;have e:=a.dn.2.1
 show(Aj g ss ss.length).length<=_
 omega
theorem JS(y:gR (hp w) g x)(z:jq g)(A:ec (hp w)):ρ qG [.agg ⟨x.cells⟩] w λa b=>∃(ss:List SQ)(d int f:Int)(nn:At)(o:E)(c:Nat)(ds:List (Lq Int)),a=.tuple #[T o ds.length c,O f]/\G2 g ss d int f/\(f=0->tC g nn)/\ds.map (·.2)=zw g nn ss/\W b (own 1 o ds.length c (ds.map cf)::aT (ds.map (bU 1 iv))::all w):=by
 refine F9<|dZ y λC a1 h j b=>?_;refine⟨_,_,_,_,_,_,_,_,_,_,_,_,_,b.row sZ,(TI j z<|dX.mono h A).mono ?_⟩;rintro _ k⟨ss,l,int,f,F,rfl,e,I,L,a2⟩;refine⟨_,_,rfl,ag (W.all k) λN a3 d=>aX d V λi d=>?_⟩;have m:Gr k i:=d.aS;have n:aj (hp i) (Z N) [.pointer F]:=af 0 d.l;clear d;have a:=I.trans m
 refine ae (λQ=>?_) λQ=>?_
 ·have q:f≠0:=η
  have r:ss=[]:=by rcases e with⟨_,p,_⟩|⟨_,_,p,_⟩|⟨_,_,_,_,p⟩<;>first|omega|omega
  subst r;exact⟨[],l,int,f,[],none,0,[],rfl,e,λp=>absurd p q,rfl,aH 1<|(W.flat (M:=[])).2 (W.here<|h.trans a)⟩
 have R:f=0:=η
 subst R;obtain⟨p,q⟩:=e.Sn rfl;obtain⟨a4,nn,rfl,r,S⟩:=L rfl;have s:=S.mono m;have X:GB (hp i) C x:=⟨λt=>b.c0<|sub.trans a t,λt=>b.c1<|sub.trans a t,λt=>b.c2<|sub.trans a t,λt=>b.c3<|sub.trans a t,λt=>b.c4<|sub.trans a t,λt=>b.row<|sub.trans a t⟩;have t:=zA p q;refine⟨_,n.cell0 sZ,(Vi (P:=λv Y=>Y∈dK (b_ g ss).length (mf g nn ss v)) s rfl t rfl λY a0 v=>W5 s p q r n X j.t.1 rfl t v).mono ?_⟩;rintro _ a5⟨o,c,ds,rfl,v,Y⟩;have a0:=v.1;refine⟨_,_,_,rfl,ss,l,int,0,nn,o,c,ds,G,e,λ_=>r,v.list,?_⟩;rw[a0];exact W.Qf Y (bM<|h.trans a)
theorem JT{e f:Nat}{s:Int}(l:Z3 (hp w) g ss nn e)(z:tC g nn)(m:aw g)(b:aj (hp w) (Z f) [u (some (Z e))])(A:0<=s)(C:s<g.T+g.N):ρ iR [O s,u (some (Z f))] w λa c=>a=J (!Ba g nn s)/\Gr w c:=by
 obtain⟨c,F,I,L,int,N,P,Q,R,S,X,Y,a0,a1,a2,d,n,a3,a4,a5,a6,a7,a8,o,_,_⟩:=l.ex;obtain⟨a9,aa,ab,_,_,_⟩:=m.cR;have ac:g.T=c.tl:=n.t.1;refine oP ?_;intro h p;have a:Gr w h:=Gr.drawn p
 refine⟨λi=>Gr h i,Gr.refl _,_,λi s=>b.cell0<|sub.trans a s,_,_,_,λi s=>d.cell0<|sub.trans a s,ae (λq=>⟨?_,a⟩) λq=>?_⟩
 ·have i:¬(g.T:Int)<=s:=η
  simp_all[Ba,jM]
 have r:(g.T:Int)<=s:=η
 obtain⟨i,t⟩:∃k:Nat,s-(c.tl:Int)=k:=⟨(s-(c.tl:Int)).toNat,U⟩;have k:i<g.N:=U
 obtain⟨v,ad,al,x,y⟩:=o.dy k;refine⟨_,λam s=>b.cell0<|sub.trans a s,_,_,_,λam s=>d.cell (sub.trans a s) (j:=11) rfl,_,λam s=>b.cell0<|sub.trans a s,_,_,_,λam s=>d.cell0<|sub.trans a s,ξ,?_⟩;rw[t];refine au x k ⟨v,λam s=>y _<|sub.trans a s,?_,a⟩;unfold Ba;rw[kG r,oJ,show s.toNat-g.T=i by omega]
 simp_all[bt]
theorem TJ{f l c:Nat}{a:E}{row:Az}(r:Z3 (hp w) g ss nn f)(t:tC g nn)(v:aw g)(x:bf (hp w) row a l)(S:l<=4611686018427387904)(m:∀s∈row,0<=s/\s<g.T+g.N):ρ 344 [u (some (Z f)),T a l c] w λb d=>b=J (HX g nn row)/\Gr w d:=by
 refine rM<|ag (W.all w) λn b h=>?_;have i:Gr w b:=h.aS;have y:aj (hp b) (Z n) [u (some<|Z f)]:=af 0 h.l;clear h;have o:=x.mono i;have z:=r.mono i;refine cr ?_
 have A:ρ 90 [T a l c,.func (.func iR) #[] #[u (some<|Z n)]] b λC F=>(∃d:Int,C=O d/\(decide (0<=d)= !HX g nn row))/\Gr b F:=by
  refine bW ?_;refine⟨λe j=>∃d:Nat,e=d/\d<=l/\HX g nn (row.take d)=true/\Gr b j,λd _=>l-d.toNat,⟨0,rfl,U,rfl,Gr.refl _⟩,?_⟩;rintro _ X Y⟨j,rfl,a0,I,d⟩
  refine ae (λL=>?_) λL=>?_
  ·have k:j<l:=η
   obtain⟨e,a1,N,P,Q⟩:=o.dy k;have p:=gg N;refine au P k ⟨e,Q _ d,bn.2 ⟨rfl,(JT (z.mono d) t v (y.mono d) (m e p).1 (m e p).2).mono ?_⟩⟩;rintro _ a2⟨rfl,q⟩
   refine⟨_,rfl,ae (λR=>⟨⟨_,rfl,?_⟩,d.trans q⟩) λR=>⟨ξ,⟨j+1,V,U,?_,d.trans q⟩,bS k⟩⟩
   ·have a3:Ba g nn e=false:=η
    have:HX g nn row=false:=by
     unfold HX
     grind
    simp_all
   simp_all[HX,cH,List.all_append]
  ·have e:j=l:=G
   subst e;rw[jy (by have:=o.1;omega)] at I
   simp_all
 refine A.mono ?_;rintro _ j⟨⟨d,rfl,k⟩,e⟩;refine⟨d,rfl,_,rfl,?_,i.trans e⟩
 simp_all
theorem Vj{J:Nat->ga->Prop}{H:Hp}{f l c:Nat}{a:E}{row:Az}{q:Int}{fg:aM}{fc:Ay}(v:Z3 H g ss nn f)(h:aw g)(d:bG g ss)(i:bf H row a l)(X:l<=4611686018427387904)(h0:0<=q)(m:q<ss.length)(x:Fn fg=true)
  (y:J 0 w) (n:∀k b,J k b->sub H (hp b)) (z:∀(k:Nat)(b:ga)(s:Int),row[k]? =some s->J k b->ρ fg (O (dI ss q (row.take k))::O (k:Int)::fc) b λe o=>e=.tuple (Array.mk [])/\J (k+1) o):
  ρ 196 [u (some (Z f)),O q,T a l c,.func (.func fg) (Array.mk []) (Array.mk fc)] w λb e=>b=O (dI ss q row)/\J l e:=by
 obtain⟨Y,a0,a1,a2,int,a3,a4,a5,a6,a7,a8,a9,aa,ab,ac,A,ad,al,am,an,ao,C,F,ap,_,_⟩:=v.ex;have av:=i.1;have az:=d.dn.2.1;have I:∀b s j,dt ss b s=some j->0<=j/\j<ss.length:=λe s j b=>eZ h d b;refine wv ⟨λb e o=>∃k:Nat,e=k/\k<=l/\b=dI ss q (row.take k)/\J k o,λ_ b _=>l-b.toNat,⟨0,rfl,gu _,rfl,y⟩,?_⟩;rintro _ _ _ L⟨k,rfl,aB,rfl,o⟩;refine ae (λN=>?_) λN=>?_
 rotate_left
 ·grind
 have b:k<l:=η
 have P:=n _ _ o;obtain⟨e,aK,p,Q,R⟩:=i.dy b;refine au Q b ⟨e,R _ P,bn.2 ⟨x,(z k L e p o).mono ?_⟩⟩;rintro _ aR⟨rfl,r⟩;have t:=n _ _ r;refine⟨rfl,_,A.cell t (j:=10) rfl,(fp (κ:=aJ) C t aY (rfl:ai Ty _=.map _ _) gV rfl rfl ⟨dI ss q<|row.take k,e⟩).mono ?_⟩;rintro _ aS⟨rfl,rfl⟩;rw[F.all];have S:=Z6 h d h0 m p;have aV:=D6 I (row.take<|k+1) q h0 m;refine⟨_,rfl,ξ,ξ,⟨k+1,V,b,S,r⟩,bS b⟩
end
section
variable{g:B}{ss:List SQ}{nn:At}
def Rh(g:B)(nn:At)(ss:List SQ)(t:aJ)(p:aD)(k j:Nat):Prop:=∃(k':Nat)(s:Int),k'<k/\p.right[k']? =some s/\CM g ss ⟨dI ss t.st (p.right.take k'),s⟩=(j:Int)+1/\HX g nn (p.right.drop (k'+1))=true
def Ed(g:B)(nn:At)(ss:List SQ)(t:aJ)(ms:A0)(j:Nat):Prop:=∃m∈ms,∃p,g.prods[m]? =some p/\Rh g nn ss t p p.right.length j
theorem Rh.succ{t:aJ}{p:aD}{k j:Nat}{s:Int}(a:p.right[k]? =some s):Rh g nn ss t p (k+1) j↔Rh g nn ss t p k j\/(CM g ss ⟨dI ss t.st (p.right.take k),s⟩=(j:Int)+1/\HX g nn (p.right.drop (k+1))=true):=by grind[Rh]
theorem Ed.snoc{t:aJ}{ms:A0}{m j:Nat}{p:aD}(hp:g.prods[m]? =some p):Ed g nn ss t (ms++[m]) j↔Ed g nn ss t ms j\/Rh g nn ss t p p.right.length j:=by
 unfold Ed
 simp_all
theorem Ri(a:bG g ss){t:aJ}{j:Nat}:CM g ss t=(j:Int)+1↔(b_ g ss)[j]? =some t:=by
 constructor
 ·intro b;obtain⟨c,d,e⟩:=Ea a (t:=t) U
  grind
 grind[Iu]
theorem Ed.iff(m:bG g ss){i j:Nat}{t:aJ}(f:(b_ g ss)[i]? =some t):Ed g nn ss t (K6 g g.prods.length t.sym) j↔D_ g nn ss j i=true:=by
 unfold D_;rw[f];simp only[List.any_eq_true,jY,jn,jV]
 constructor
 ·rintro⟨b,c,d,hp,e,h,k,l,n,o⟩;obtain⟨p,q,a,r⟩:=sx.1 c;rw[hp] at a;cases a;refine⟨b,(gJ.1 hp).1,U,?_⟩;rw[hp];simp only[jn,jV,List.any_eq_true,jY]
  grind[Ri]
 ·rintro⟨d,n,o,b⟩;cases hp:g.prods[d]? with
  |none=>simp_all
  |some a=>
   rw[hp] at b;simp only[jn,jV,List.any_eq_true,jY] at b;obtain⟨h,c,e,p,k⟩:=b;have l:a.right[c]? =some a.right[c]:=gn e;refine⟨d,sx.2 ⟨U,a,hp,h⟩,a,hp,c,_,e,l,?_,k⟩
   simp_all[Ri]
def F_(g:B)(nn:At)(ss:List SQ)(i:Nat)(j:Nat)(z:Int):Prop:=∃(i':Nat)(t:aJ),i'<i/\z=i'/\(b_ g ss)[i']? =some t/\Ed g nn ss t (K6 g g.prods.length t.sym) j
theorem F_.succ{i j:Nat}{z:Int}{t:aJ}(a:(b_ g ss)[i]? =some t):F_ g nn ss (i+1) j z↔F_ g nn ss i j z\/(z=i/\Ed g nn ss t (K6 g g.prods.length t.sym) j):=by grind[F_]
theorem F_.all(d:bG g ss){j:Nat}{z:Int}:F_ g nn ss (b_ g ss).length j z↔z∈dK (b_ g ss).length (D_ g nn ss j):=by
 rw[gL]
 constructor
 ·rintro⟨a,b,c,e,f,h⟩
  grind[Ed.iff]
 ·rintro⟨a,e,b,f⟩;have c:(b_ g ss)[a]? =some (b_ g ss)[a]:=gn b;exact⟨a,_,b,e,c,(Ed.iff d c).2 f⟩
end
section
variable{w:ga}{L:List aG}{g:B}{x:GA}{ss:List SQ}{nn:At}
theorem Z7{H:Hp}{n t v x y z e i k b f B:Nat}{A:E}{row:Az}{st s:Int}{P:Nat->Int->Prop}(C:Z3 H g ss nn t)(a2:tC g nn)(a3:aw g)(a4:bG g ss)(F:aj H (Z v) [u (some (Z t))])(I:aj H (Z x) [T A b f])(a5:aj H (Z y) [.func (.func bY) (Array.mk []) (Array.mk [u (some (Z e))])])(a6:aj H (Z z) [O (i:Int)])
  (h:bf H row A b) (L:b<=f) (az:b<=4611686018427387904) (a7:∀s∈row,0<=s/\s<g.T+g.N) (a8:row[k]? =some s) (aB:(b_ g ss).length=n) (aK:n<=33280) (aR:B<=4611686018427) (N:dp n P B e [has H] w):
  ρ 343 [O st,O (k:Int),u (some (Z v)),u (some (Z x)),u (some (Z y)),u (some (Z z))] w λl o=>l=.tuple (Array.mk [])/\∃c,c<=B+1/\dp n (λj d=>P j d\/d=i/\CM g ss ⟨st,s⟩=(j:Int)+1/\HX g nn (row.drop (k+1))=true) c e [has H] o:=by
 obtain⟨aS,aV,b0,b1,int,b2,b3,b4,b5,b6,b7,b9,ba,bb,bc,a9,bd,be,bi,aa,ab,bl,bo,bs,_,_⟩:=C.ex;have Q:k<b:=by have:=h.1;grind
 have bu:=N.sb;refine rJ ?_;intro R ac;have S:=N.gr<|Gr.drawn ac;have c:=S.sb;obtain⟨bz,bE,X,ad,al⟩:=h.dy Q;rw[a8] at X;cases X;refine⟨λd=>Gr R d,Gr.refl _,_,λd g=>F.cell0<|sub.trans c g,_,λd g=>a9.cell (sub.trans c g) (j:=9) rfl,_,_,_,λd g=>I.cell0<|sub.trans c g,au ad Q ⟨s,λd g=>al _<|sub.trans c g,(fp (κ:=aJ) aa c aY (rfl:ai Ty _=.map _ _) gV rfl rfl ⟨st,s⟩).mono ?_⟩⟩;rintro _ bN⟨rfl,bO⟩;rw[ab.all];refine⟨_,rfl,by simp_all[Gr.refl],?_⟩;intro Y bP;have l:=S.gr (by simp_all[Gr.drawn]:Gr R Y);have d:=l.sb;refine⟨λo=>Gr Y o,Gr.refl _,ae (λo=>?_) λo=>?_⟩
 rotate_left
 ·refine⟨rfl,B,U,l.iff λj q _=>⟨.inl,λp=>p.elim id λp=>?_⟩⟩;have:=hY o;omega
 have am:=gZ o;obtain⟨p,bT,c0⟩:=Ea a4 am;have an:p<n:=G
 have ao:(k:Int)+1=((k+1:Nat):Int):=by rfl
 refine⟨_,λq g=>F.cell0<|sub.trans d g,_,_,_,λq g=>I.cell0<|sub.trans d g,ξ,?_⟩;rw[ao];refine dS U L<|(TJ (C.mono d) a2 a3 ((h.drop (k:=k+1) (m:=f) U L).mono d) U λs q=>a7 s<|rr q).mono ?_;rintro _ c1⟨rfl,a0⟩;have q:=l.gr a0;have a1:=q.sb;refine⟨_,rfl,a0,ae (λr=>?_) λr=>?_⟩
 rotate_left
 ·exact⟨rfl,B,U,q.iff λj c2 _=>⟨.inl,λap=>ap.elim id λav=>by rw[av.2.2] at r;cases r⟩⟩
 have ap:CM g ss ⟨st,s⟩-1=(p:Int):=U
 refine⟨_,_,a5.cell0 a1,ξ,_,a6.cell0 a1,bn.2 ⟨rfl,?_⟩⟩;rw[ap];refine(Z5 (a:=p) q an U).mono ?_;rintro _ c2⟨rfl,av⟩;refine⟨rfl,rfl,B+1,U,av.iff λj c3 _=>?_⟩
 grind
theorem JU{n a9 aa ab c:Nat}{ac:ga}(F:Z3 (hp w) g ss nn a9)(f:aw g)(i:bG g ss)(bz:tC g nn)(s:aj (hp w) (Z aa) [u (some (Z a9))])(B:GB (hp w) ab x)(ad:gR (hp w) g x)(al:(b_ g ss).length=n)(bE:n<=33280)
  (bN:dp n (λ_ _=>False) 0 c (all w) ac):
  ρ 342 [.func (.func bY) (Array.mk []) (Array.mk [u (some (Z c))]),u (some (Z aa)),u (some (Z ab))] ac λa b=>a=.tuple (Array.mk [])/\∃B,B<=4611686018427387/\dp n (λj d=>d∈dK n (D_ g nn ss j)) B c (all w) b:=by
 obtain⟨d0,d1,d2,d3,int,d4,d5,d6,d7,d8,d9,dc,df,dk,dl,I,dn,ds,am,dv,dx,dy,dA,dC,bO,bP⟩:=F.ex;rw[al] at I am;have dF:=i.LQ f;obtain⟨dG,dW,e0,_,_,_⟩:=f.cR;have e1:=i.dn.2.1;have e2:=ad.p.1;refine wA ?_;obtain⟨bT,c0,c1,an,ao,c2⟩:=bN;refine ag c2 λap c3 av=>?_;have c4:dp n (λ_ _=>False) 0 c (ax ap [.func (.func bY) (Array.mk []) (Array.mk [u (some<|Z c)])]::all w) c3:=⟨bT,c0,c1,an,ao,av.pick 4 [1,2,3,0]⟩;clear av an ao;obtain⟨k,az,_,L⟩:=c4.frz;have rE:aj k (Z ap) [.func (.func bY) (Array.mk []) (Array.mk [u (some<|Z c)])]:=af 0 az;have l:sub (hp w) k:=aE 1 az;have N:=sub.trans l L.sb
 refine⟨_,s.cell0 N,_,_,_,I.cell N (j:=8) rfl,λb d=>∃(a B:Nat),b=a/\a<=n/\B<=a*30000/\dp n (F_ g nn ss a) B c [has k] d,λa _=>n-a.toNat,
  ⟨0,0,rfl,gu _,gu _,L.iff λj b _=>⟨λa=>a.elim,λa=>by obtain⟨_,_,d,_⟩:=a;omega⟩⟩,?_⟩
 clear L N;rintro _ _ e3⟨b,t,rfl,e4,e5,P⟩;have c5:=sub.trans l P.sb;refine ae (λc6=>?_) λc6=>?_
 rotate_left
 ·have a:b=n:=G
  subst a;refine⟨rfl,t,U,(P.has l).iff λj d _=>?_⟩
  grind[F_.all]
 have v:b<n:=η
 obtain⟨a,e6,aB,c7,c8⟩:=zq am v;obtain⟨e7,e8,e9,ea,eb,ed,ef,eg,ei⟩:=me<|gg aB;have c9:0<=a.st:=η
 have ca:a.st<ss.length:=η
 obtain⟨Q,R,S,aK,aR,cb⟩:=P;refine aI c7 v ⟨_,_,c8.at c5 rfl,ag cb λX ej h=>ag h λY ek h=>aX (h.pick 2 [1,0]) V λel h=>aQ (h.pick 2 [1,0]) rfl (by simp[aO]) λaS h=>?_⟩;have aV:W aS (ax Y [O a.st,O a.sym]::ax X [O (b:Int)]::ax c [T Q n R]::own 1 Q n R (S.map cf)::aT (S.map<|bU 1 iv)::[has k]):=h;have cc:dp n (F_ g nn ss b) t c (ax Y [O a.st,O a.sym]::ax X [O (b:Int)]::[has k]) aS:=⟨Q,R,S,aK,aR,aV.pick 5 [2,3,4,0,1]⟩;clear aV aK aR;intro cd b0;have ce:=cc.gr<|Gr.drawn b0;obtain⟨m,a0,_,a1⟩:=ce.frz;have b1:aj m (Z Y) [O a.st,O a.sym]:=af 0 a0;have cg:aj m (Z X) [O (b:Int)]:=af 1 a0;have p:sub k m:=aE 2 a0;have a2:=a1.sb;have y:=sub.trans l<|sub.trans p a2;refine⟨λd=>Gr cd d,Gr.refl _,_,λd g=>s.cell0<|sub.trans y g,_,λd g=>I.cell (sub.trans y g) (j:=12) rfl,_,λd g=>b1.cell (sub.trans a2 g) (j:=1) rfl,(fp (κ:=Int) bO y aY (rfl:ai Ty _=.map _ _) (yx.Js bX) rfl rfl a.sym).mono ?_⟩;rintro _ em⟨rfl,b2⟩;obtain⟨en,eo,ch,ci⟩:=bP a.sym;rw[ch];generalize ck:K6 g g.prods.length a.sym=d at*;have ep:d.length<=97:=by grind[Nat.le_trans,It]
 refine⟨_,_,_,rfl,by simp_all[Gr.refl],λq r=>∃(e B:Nat),q=e/\e<=d.length/\B<=t+e*300/\dp n (λj o=>F_ g nn ss b j o\/o=b/\Ed g nn ss a (d.take e) j) B c [has m] r,λe _=>d.length-e.toNat,
  ⟨0,t,rfl,gu _,U,by rw[b2];exact a1.iff λj q _=>⟨.inl,λe=>e.elim id λo=>by obtain⟨_,r,z,_⟩:=o;simp_all⟩⟩,?_⟩
 clear a1 b2 b0 a2 y;rintro _ _ er⟨e,z,rfl,es,et,A⟩;have cl:=A.sb;have a3:=sub.trans l<|sub.trans p cl;refine ae (λcm=>?_) λcm=>?_
 rotate_left
 ·have o:e=d.length:=G
  rw[o,jl] at A;refine⟨ξ,⟨b+1,z,V,v,U,(A.has p).iff λj q _=>?_⟩,bS v⟩
  simp_all[F_.succ]
 have q:e<d.length:=η
 obtain⟨b3,b4⟩:∃o,d[e]? =some o:=⟨_,gn q⟩;obtain⟨_,a4,hp,cn⟩:=sx.1<|ck▸gg b4;have b5:b3<x.pl:=G
 have co:=gg hp;obtain⟨eu,ey,ez,cp,cq⟩:=Rg f i aB hp cn;have eA:=MT f i cp hp cq;obtain⟨bv,eB,b6,cs,ct⟩:=ci.dy q;rw[iE,b4] at b6;cases b6;obtain⟨eC,eD,eG,b7,bQ,cu,b9,ba,bb,rfl,cv,a5⟩:=ad.p.get b5;rw[hp] at b7;cases b7;have eI:=a5.1;refine au cs q ⟨_,ct _ a3,_,_,_,B.c4 a3,aI bQ b5 ⟨_,_,_,cu.cell a3 (j:=1) rfl,?_⟩⟩;obtain⟨cx,cy,cz,bc,bd,cA⟩:=A;refine ag cA λbe eK C=>aX C V λcB C=>?_;have cC:dp n (λj o=>F_ g nn ss b j o\/o=b/\Ed g nn ss a (d.take e) j) z c (ax be [T b9 ba bb]::[has m]) cB:=⟨cx,cy,cz,bc,bd,C.pick 4 [1,2,3,0]⟩;clear C bc bd;obtain⟨a6,bi,_,bl⟩:=cC.frz;have bo:aj a6 (Z be) [T b9 ba bb]:=af 0 bi;have r:sub m a6:=aE 1 bi;have a7:=bl.sb;have o:=sub.trans l<|sub.trans p r;have cF:=sub.trans o a7;have cI:∀a8∈a4.right,0<=a8/\a8<g.T+g.N:=λbs a8=>by have:=f.sym co a8;omega
 refine⟨_,s.cell0 cF,_,b1.cell0<|sub.trans r a7,_,_,_,bo.cell0 a7,(Vj (J:=λbs cR=>∃bu,bu<=z+bs/\dp n (λj a8=>(F_ g nn ss b j a8\/a8=b/\Ed g nn ss a (d.take e) j)\/a8=b/\Rh g nn ss a a4 bs j) bu c [has a6] cR) (F.mono o) f i (a5.mono o) U c9 ca rfl
  ⟨z,U,bl.iff λj bu _=>⟨.inl,λa8=>a8.elim id λbs=>by obtain⟨_,_,_,cR,_⟩:=bs;omega⟩⟩ (λbs bu ⟨_,_,a8⟩=>a8.sb) λbs eL eM a8 ⟨eN,eO,bu⟩=>?_).mono ?_⟩
 ·have eP:bs<a4.right.length:=(gJ.1 a8).1;refine(Z7 (F.mono o) bz f i (s.mono o) bo (rE.mono<|sub.trans p r) (cg.mono r) (a5.mono o) cv U cI a8 al bE U bu).mono ?_;rintro _ eR⟨rfl,cR,eS,cT⟩;refine⟨rfl,cR,U,cT.iff λj eT _=>?_⟩
  grind[Rh.succ]
 rintro _ eP⟨rfl,cR,eR,cT⟩;have eS:d.take (e+1)=d.take e++[b3]:=by simp_all[iw]
 refine⟨_,rfl,ξ,⟨e+1,cR,V,q,U,(cT.has r).iff λj eT _=>?_⟩,bS q⟩
 grind[Ed.snoc]
end
section
variable{κ α:Type}[DecidableEq κ]{sz:Nat}{f:List α->Ay}{s t:κ}
theorem Z8{q:Lq α}:∀{ps:List (κ×Lq α)},(ps.map Prod.fst).Nodup->gf s ps=some q->(mO sz f ps).Perm (bU sz f q::mO sz f (ps.filter λe=>decide (e.1≠s)))
 |[],_,h=>by cases h
 |(a,u)::m,hn,h=>by
  rw[kn,kN] at hn
  unfold gf at h
  by_cases e:s=a
  ·subst e
   rw[gD rfl] at h
   cases h
   have e2:((s,q)::m).filter (λe=>decide (e.1≠s))=m:=by
    rw[List.filter_cons,gv V]
    refine List.filter_eq_self.2 λx hx=>?_
    grind
   rw[e2];rfl
  ·rw[gv e] at h
   have e2:((a,u)::m).filter (λe=>decide (e.1≠s))=(a,u)::m.filter λe=>decide (e.1≠s):=G
   rw[e2]
   exact(List.Perm.cons _ (Z8 hn.2 h)).trans (.swap _ _ _)
theorem Rj(h:t≠s)(ps:List (κ×Lq α)):gf t (ps.filter λa=>decide (a.1≠s))=gf t ps:=by
 induction ps with
 |nil=>rfl
 |cons a c d=>
  obtain⟨b,e⟩:=a;rw[List.filter_cons]
  by_cases f:b=s
  ·simp_all[gf]
  ·rw[gD η]
   simp_all[gf,decide]
end
section
variable{g:B}{ss:List SQ}
theorem W6(i:Nat)(f:Nat->Bool):dK (i+1) f=dK i f++if f i=true then[(i:Int)] else[]:=by grind[dK,List.range_succ]
theorem An{q m i:Nat}{t:aJ}(a:(b_ g ss)[i]? =some t):fA g ss q m i=true↔m∈K6 g g.prods.length t.sym/\∃p,g.prods[m]? =some p/\dI ss t.st p.right=q:=by
 rw[sx];unfold fA
 grind
def zg(g:B)(ss:List SQ)(ps:List (aJ×Lq Int))(i:Nat)(t:aJ)(ms:A0):Prop:=(ps.map Prod.fst).Nodup/\(∀k,(kQ k ps).length<=i+1)/\∀q m:Nat,kQ ⟨(q:Int),(m:Int)⟩ ps=dK i (fA g ss q m)++if m∈ms/\(∃p,g.prods[m]? =some p/\dI ss t.st p.right=q) then[(i:Int)] else[]
abbrev qH:=(Int×Int)×Lq Int
def qk(b:qH):Ay:=[O b.1.1,O b.1.2,cf b.2]
def gY(bs:List qH):Ay:=bs.flatMap qk
def C4(bs:List qH):List aG:=bs.map λb=>bU 1 iv b.2
def TK(b:qH):nY:=⟨b.1.1,b.1.2,b.2.2⟩
theorem Vk(bs:List qH):(gY bs).length=bs.length*3:=qu (f:=qk) (n:=3) (λ_=>rfl) bs
theorem Vl(xs a:List qH):gY (xs++a)=gY xs++gY a:=kr
theorem Ga(g:B)(ss:List SQ)(q:Nat):∀j,(gM g ss q j).length<=j
 |0=>by simp[gM]
 |j+1=>by
  have:=Ga g ss q j
  grind[CO,List.length_append,zx]
def Ka(g:B)(ss:List SQ)(q:Nat):List nY:=(List.range q).flatMap λq=>gM g ss q g.prods.length
theorem Gb(g:B)(ss:List SQ)(q:Nat):Ka g ss (q+1)=Ka g ss q++gM g ss q g.prods.length:=by simp[Ka,k8]
theorem Ee(g:B)(ss:List SQ):∀q,(Ka g ss q).length<=q*g.prods.length
 |0=>by simp[Ka]
 |q+1=>by
  have:=Ee g ss q
  grind[Ga,Gb,List.length_append,Nat.succ_mul]
end
section
variable{w:ga}{L:List aG}{g:B}{x:GA}{ss:List SQ}{nn:At}
theorem TL(y:gR (hp w) g x)(z:jq g)(A:ec (hp w)):ρ mg [.agg ⟨x.cells⟩] w λa b=>∃(ss:List SQ)(d int f:Int)(nn:At)(o:E)(c:Nat)(ds:List (Lq Int)),a=.tuple #[T o ds.length c,O f]/\G2 g ss d int f/\(f=0->tC g nn)/\ds.map (·.2)=CN g nn ss/\W b (own 1 o ds.length c (ds.map cf)::aT (ds.map (bU 1 iv))::all w):=by
 refine Be<|dZ y λC a1 h j b=>?_;refine⟨_,_,_,_,_,_,_,_,_,_,_,_,_,b.row sZ,(TI j z<|dX.mono h A).mono ?_⟩;rintro _ k⟨ss,l,int,f,F,rfl,e,I,L,a2⟩;refine⟨_,_,rfl,ag (W.all k) λN a3 d=>aX d V λi d=>?_⟩;have m:Gr k i:=d.aS;have n:aj (hp i) (Z N) [.pointer F]:=af 0 d.l;clear d;have a:=I.trans m
 refine ae (λQ=>?_) λQ=>?_
 ·have q:f≠0:=η
  have r:ss=[]:=by rcases e with⟨_,p,_⟩|⟨_,_,p,_⟩|⟨_,_,_,_,p⟩<;>first|omega|omega
  subst r;exact⟨[],l,int,f,[],none,0,[],rfl,e,λp=>absurd p q,rfl,aH 1<|(W.flat (M:=[])).2 (W.here<|h.trans a)⟩
 have R:f=0:=η
 subst R;obtain⟨p,q⟩:=e.Sn rfl;obtain⟨a4,nn,rfl,r,S⟩:=L rfl;have s:=S.mono m;have X:GB (hp i) C x:=⟨λt=>b.c0<|sub.trans a t,λt=>b.c1<|sub.trans a t,λt=>b.c2<|sub.trans a t,λt=>b.c3<|sub.trans a t,λt=>b.c4<|sub.trans a t,λt=>b.row<|sub.trans a t⟩;have t:=zA p q;refine⟨_,n.cell0 sZ,(Vi (P:=λv Y=>Y∈dK (b_ g ss).length (D_ g nn ss v)) s rfl t rfl λY a0 v=>JU s p q r n X (j.mono a) rfl t v).mono ?_⟩;rintro _ a5⟨o,c,ds,rfl,v,Y⟩;have a0:=v.1;refine⟨_,_,_,rfl,ss,l,int,0,nn,o,c,ds,G,e,λ_=>r,v.list,?_⟩;rw[a0];exact W.Qf Y (bM<|h.trans a)
theorem TM(b3:gR (hp w) g x)(b4:jq g)(b5:ec (hp w)):ρ 101 [.agg ⟨x.cells⟩] w λa b=>∃(ss:List SQ)(d int f:Int)(o:E)(c:Nat)(ds:List qH),a=.tuple #[T o ds.length c,O f]/\G2 g ss d int f/\ds.map TK=wq g ss/\W b (own 3 o ds.length c (gY ds)::aT (C4 ds)::all w):=by
 refine Bc<|dZ b3 λcx cy R S X=>?_;refine⟨_,_,_,_,_,_,_,_,_,_,_,_,_,X.row sZ,(TI S b4<|dX.mono R b5).mono ?_⟩;rintro _ h⟨ss,aa,int,f,cz,rfl,C,v,b6,cA⟩
 refine⟨_,_,rfl,ae (λb7=>?_) λb7=>?_⟩
 ·have d:f≠0:=η
  have b:ss=[]:=by rcases C with⟨_,a,_⟩|⟨_,_,a,_⟩|⟨_,_,_,_,a⟩<;>first|omega|omega
  subst b;exact⟨[],aa,int,f,none,0,[],rfl,C,rfl,aH 3<|(W.flat (M:=[])).2 (W.here<|R.trans v)⟩
 have b9:f=0:=η
 subst b9;obtain⟨m,n⟩:=C.Sn rfl;obtain⟨cB,nn,rfl,cC,ab⟩:=b6 rfl;have cF:=zA m n;obtain⟨cI,o,c,cR,cT,d0,d1,d2,d3,d4,d5,d6,d7,d8,d9,Y,dc,df,ba,dk,dl,dn,dv,dx,bb,bc⟩:=ab.ex;have dy:=n.LQ m;obtain⟨dA,dC,bd,_,_,_⟩:=m.cR;have dF:=n.dn.2.1;have dG:=S.p.1;have be:=S.mono v;refine oW (W.all h) λp bi bl=>?_;have a0:=eJ (κ:=aJ) bl;have bo:Gr h bi:=aE 1 a0.l
 refine⟨_,_,_,Y.cell bo (j:=8) rfl,λd e=>∃(a:Nat)(b:List (aJ×Lq Int)),d=a/\a<=(b_ g ss).length/\zg g ss b a ⟨0,0⟩ []/\W e (hZ p (mV b)::aT (mO 1 iv b)::all h),λa _=>(b_ g ss).length-a.toNat,
  ⟨0,[],rfl,gu _,⟨V,λa=>gu _,λa b=>by rfl⟩,?_⟩,?_⟩
 ·exact((W.flat (M:=[])).2 a0).swap
 clear a0;rintro _ _ bs⟨i,k,rfl,dW,q,F⟩;have a1:sub (hp h) (hp bs):=aE 2 F.l
 refine ae (λbu=>?_) λbu=>?_
 ·have I:i<(b_ g ss).length:=η
  obtain⟨a,e0,a2,bz,bE⟩:=zq ba I;obtain⟨e1,e2,e3,e4,e5,e6,e7,e8,e9⟩:=me<|gg a2;have bN:0<=a.st:=η
  have bO:a.st<ss.length:=η
  refine aI bz I ⟨_,_,bE.at a1 rfl,ag F λa3 ea a4=>aQ a4 rfl (by simp[aO]) λeb a4=>?_⟩;intro a5 ac;have L:=a4.eq<|aW ac;have a6:sub (hp h) (hp a5):=aE 3 L.l;have ad:aj (hp a5) (Z a3) [O a.st,O a.sym]:=af 0 L.l;refine⟨λb=>Gr a5 b,Gr.refl _,_,λb g=>Y.cell (sub.trans a6 g) (j:=12) rfl,_,λb g=>ad.cell g (j:=1) rfl,(fp (κ:=Int) bb a6 aY (rfl:ai Ty _=.map _ _) (yx.Js bX) rfl rfl a.sym).mono ?_⟩;rintro _ ed⟨rfl,bQ⟩;obtain⟨ef,eg,bP,bT⟩:=bc a.sym;rw[bP]
  have ei:(K6 g g.prods.length a.sym).Nodup:=by
   unfold K6 n4;exact(List.nodup_range.filter _).filter _
  have c0:∀b,b∈K6 g g.prods.length a.sym↔0<b/\∃d,g.prods[b]? =some d/\d.left=a.sym:=λb=>sx;have ej:∀d b:Nat,fA g ss d b i=true↔b∈K6 g g.prods.length a.sym/\∃e,g.prods[b]? =some e/\dI ss a.st e.right=d:=λb d=>An a2;generalize ek:K6 g g.prods.length a.sym=b at*;have el:b.length<=97:=by grind[Nat.le_trans,It]
  refine⟨_,_,_,rfl,by simp_all[Gr.refl],λe l=>∃(M:Nat)(d:List (aJ×Lq Int)),e=M/\M<=b.length/\zg g ss d i a (b.take M)/\W l (hZ p (mV d)::aT (mO 1 iv d)::ax a3 [O a.st,O a.sym]::all h),λd _=>b.length-d.toNat,
   ⟨0,k,rfl,gu _,⟨q.1,q.2.1,λd e=>by rw[q.2.2 d e];simp⟩,by rw[bQ];exact L.pick 3 [1,2,0]⟩,?_⟩
  clear L q bQ ac ad a6;rintro _ _ c1⟨M,al,rfl,em,e,a7⟩;have c2:sub (hp h) (hp c1):=aE 3 a7.l;refine ae (λc3=>?_) λc3=>?_
  rotate_left
  ·have d:M=b.length:=G
   rw[d,jl] at e;refine⟨ξ,⟨i+1,al,V,I,⟨e.1,λl=>by have:=e.2.1 l;omega,λl r=>?_⟩,a7.pick 3 [0,1]⟩,bS I⟩;rw[e.2.2 l r,W6]
   simp_all
  have y:M<b.length:=η
  obtain⟨d,am⟩:∃l,b[M]? =some l:=⟨_,gn y⟩;obtain⟨_,l,z,c4⟩:=(c0 d).1 (gg am);have an:d<x.pl:=G
  obtain⟨c5,c6,c7,ao,c8⟩:=Rg m n a2 z c4;have en:=MT m n ao z c8;obtain⟨bv,eo,ap,c9,ca⟩:=bT.dy y;rw[iE,am] at ap;cases ap;obtain⟨ep,er,es,av,cb,cc,et,eu,ey,rfl,ez,az⟩:=be.p.get an;rw[z] at av;cases av;have eA:=az.1;obtain⟨cd,_,aB,_,_⟩:=CF m n z l.right.length 0 U c5 c6 ao U;rw[List.drop_zero,<-c7] at aB;refine au c9 y ⟨_,ca _ c2,?_⟩;intro N ce;have a8:=a7.eq<|aW ce;have aK:sub (hp h) (hp N):=aE 3 a8.l;have cg:aj (hp N) (Z a3) [O a.st,O a.sym]:=af 2 a8.l
  refine⟨λr=>Gr N r,Gr.refl _,_,λr g=>cg.cell0 g,_,_,_,λr g=>X.c4<|sub.trans v<|sub.trans aK g,aI cb an ⟨_,_,_,λr g=>cc.cell (sub.trans aK g) (j:=1) rfl,(Vj (J:=λt r=>hp r=hp N) (H:=hp h) ab m n az U bN bO rfl rfl (λr t A=>η) λeB eC s eD ch=>?_).mono ?_⟩⟩
  ·exact wy ⟨rfl,ch⟩
  rintro _ eG⟨rfl,aR⟩;have ci:=a8.eq aR;refine⟨_,rfl,Gr.of_eq aR,ag ci λeI eK P=>aQ P rfl (by simp[aO]) λeL P=>?_⟩;refine⟨_,_,(af 0 P.l).at sZ rfl,ag P λeM eN ck=>?_⟩;refine(map_take (κ:=aJ) aY (rfl:ai Ty _=.map _ _) gV rfl rfl (ck.pick 3 [2,0,1]) ⟨dI ss a.st l.right,(d:Int)⟩).mono ?_;rintro _ eO⟨eP,rfl,cl⟩;obtain⟨r,eR,cm,a9,aS,cn⟩:=we rfl (cl.pick 4 [3,0,1,2]) ⟨dI ss a.st l.right,(d:Int)⟩;have eS:r.2.length<=i+1:=by rw[a9];exact e.2.1 _
  rw[cm] at aS ⊢;refine⟨_,_,_,_,rfl,?_⟩;refine(aU (us:=iv r.2) aY (rfl:ai Ty _=.slice _) (rfl:ai Ty _=.slice _) rfl rfl rfl (aS.pick 5 [3,0,1,2,4]) rfl (by simp[aO]) G U).mono ?_;rintro _ eT⟨co,cp,rfl,cq⟩;refine⟨_,_,_,rfl,(Rb (cq.pick 5 [3,0,2]) _).mono ?_⟩;rintro _ eU aV;rw[Al] at aV;have cs:=CA cn (r.2++[(i:Int)]) V (by simp[iv]) aV;have ct:b.take (M+1)=b.take M++[d]:=by simp_all[iw]
  have b0:d∉b.take M:=λA=>by
   obtain⟨b1,t⟩:=jR A;have Q:=(gJ.1 t).1;rw[k5] at Q;rw[nN,gD U] at t
   grind[List.getElem?_inj]
  refine⟨ξ,⟨M+1,qt ⟨dI ss a.st l.right,(d:Int)⟩ ((co,cp),r.2++[(i:Int)]) al,V,y,⟨On _ e.1,λb1=>?_,λA t=>?_⟩,?_⟩,bS y⟩
  ·rw[nX]
   by_cases Q:b1=(⟨dI ss a.st l.right,(d:Int)⟩:aJ)
   ·rw[gD Q]
    show(r.2++[(i:Int)]).length<=i+1
    have cu:r.2.length<=i:=by
     rw[a9];rw[aB,e.2.2 cd d,gv (λb2=>b0 b2.1),jK];simp[qF]
    simp_all
   ·rw[gv Q];exact e.2.1 b1
  ·rw[nX,ct]
   by_cases Q:(⟨(A:Int),(t:Int)⟩:aJ)=⟨dI ss a.st l.right,(d:Int)⟩
   ·rw[gD Q];have b2:(A:Int)=dI ss a.st l.right:=congrArg aJ.st Q;have cu:t=d:=G
    subst cu
    show r.2++[(i:Int)]=_
    rw[a9,<-Q,e.2.2 A t,gv (λcv=>b0 cv.1),jK,gD ⟨V,l,z,b2.symm⟩]
   ·rw[gv Q,e.2.2 A t];congr 1
    by_cases cu:t∈b.take M/\∃b2,g.prods[t]? =some b2/\dI ss a.st b2.right=A
    ·grind
    grind
  ·exact cs
 have ac:i=(b_ g ss).length:=G
 subst ac;have ad:∀a b:Nat,kQ ⟨(a:Int),(b:Int)⟩ k=dK (b_ g ss).length (fA g ss a b):=λa b=>by rw[q.2.2 a b];simp
 have al:=q.1;clear q;have bT:∀a,a<=ss.length->a*g.prods.length<=256*97:=λa b=>Nat.mul_le_mul U bd
 refine⟨_,_,_,Y.cell a1 (j:=5) rfl,λo l c r t=>∃(a:Nat)(b:List qH)(d:List (aJ×Lq Int)),r=a/\a<=ss.length/\l=b.length/\b.map TK=Ka g ss a/\(d.map Prod.fst).Nodup/\(∀e:aJ,(a:Int)<=e.st->gf e d=gf e k)/\W t (own 3 o l c (gY b)::aT (C4 b)::hZ p (mV k)::aT (mO 1 iv d)::all h),λ_ _ _ a _=>ss.length-a.toNat,
  ⟨0,[],k,rfl,gu _,rfl,rfl,al,λ_ _=>rfl,aH 3<|(W.flat (M:=[])).2 F⟩,?_⟩
 clear F a1;rintro _ c0 _ c1 _ am⟨a,I,an,rfl,c2,rfl,Q,a2,a3,r⟩;have a4:sub (hp h) (hp am):=aE 4 r.l;have ao:I.length<=24832:=by grind[Ee,List.length_map]
 refine ae (λap=>?_) λap=>?_
 rotate_left
 ·have b:a=ss.length:=G
  subst b;refine kT<|bZ (bJ r) ⟨_,_,_,rfl,ss,aa,int,0,_,_,I,rfl,C,Q,?_⟩;have d:=cK r;exact W.Qf (d.pick 5 [0,1,4]) (bM<|R.trans v)
 have a5:a<ss.length:=η
 refine⟨_,_,_,X.c4<|sub.trans v a4,λo t c y z=>∃(d:Nat)(e:List qH)(l:List (aJ×Lq Int)),y=d/\d<=x.pl/\t=e.length/\e.map TK=Ka g ss a++gM g ss a d/\(l.map Prod.fst).Nodup/\(∀b:aJ,((a:Int)<b.st\/(b.st=a/\(d:Int)<=b.sym))->gf b l=gf b k)/\W z (own 3 o t c (gY e)::aT (C4 e)::hZ p (mV k)::aT (mO 1 iv l)::all h),λ_ _ _ b _=>x.pl-b.toNat,
  ⟨0,I,an,rfl,gu _,rfl,by simp_all[gM],a2,λb d=>a3 b U,r⟩,?_⟩
 clear r a4 Q a2 a3 ao;rintro _ a6 _ a7 _ av⟨d,e,l,rfl,c3,rfl,az,t,a8,L⟩
 have c4:e.length<=25000:=by
  have b:=Ee g ss a;have y:=Ga g ss a d;have z:=congrArg List.length az
  grind
 refine ae (λaB=>?_) λaB=>?_
 rotate_left
 ·have b:d=x.pl:=G
  subst b;refine⟨ξ,⟨a+1,e,l,V,a5,rfl,?_,t,λy z=>a8 y<|.inl U,L⟩,bS a5⟩
  simp_all[Gb]
 have y:d<x.pl:=η
 have c5:=ad a d;refine(sf (κ:=aJ) aY (rfl:ai Ty _=.map _ _) gV rfl rfl (L.pick 3 [2]) ⟨(a:Int),(d:Int)⟩).mono ?_;rintro _ N⟨rfl,c6⟩;rw[jW];have c7:gM g ss a (d+1)=gM g ss a d++zx g ss a d:=CO g ss a d
 have a9:dK (b_ g ss).length (fA g ss a d)=[]->K ((d:Int)+1)/\(∃(z:Nat)(A:List qH)(P:List (aJ×Lq Int)),(d:Int)+1=z/\z<=x.pl/\e.length=A.length/\A.map TK=Ka g ss a++gM g ss a z/\(P.map Prod.fst).Nodup/\(∀b:aJ,((a:Int)<b.st\/(b.st=a/\(z:Int)<=b.sym))->gf b P=gf b k)/\W N (own 3 a6 e.length a7 (gY A)::aT (C4 A)::hZ p (mV k)::aT (mO 1 iv P)::all h))/\x.pl-((d:Int)+1).toNat<x.pl-(d:Int).toNat:=λc8=>by
  refine⟨ξ,⟨d+1,e,l,V,y,rfl,?_,t,λb z=>a8 b<|z.elim .inl λA=>.inr ⟨A.1,U⟩,η⟩,bS y⟩
  simp_all[zx]
 cases c9:gf (⟨(a:Int),(d:Int)⟩:aJ) k with
 |none=>
  have b:dK (b_ g ss).length (fA g ss a d)=[]:=by simp_all[kQ]
  exact⟨_,_,_,rfl,bm V<|a9 b⟩
 |some b=>
  have ca:b.2=dK (b_ g ss).length (fA g ss a d):=by simp_all[kQ]
  refine⟨_,_,_,rfl,ae (λaK=>?_) λaK=>?_⟩
  rotate_left
  ·refine a9 ?_
   simp_all
  have cb:0<b.2.length:=η
  have cc:dK (b_ g ss).length (fA g ss a d)≠[]:=G
  have aR:gf (⟨(a:Int),(d:Int)⟩:aJ) l=some b:=η
  have aS:=L.eq (by grind:hp N=hp av);have z:=(W.flat.1<|aS.pick 4 [3,0,1,2]).perm ((Z8 (sz:=1) (f:=iv) t aR).append_right _);have A:W N (own 1 b.1.1 b.2.length b.1.2 (iv b.2)::aT (mO 1 iv<|l.filter λP=>decide (P.1≠(⟨(a:Int),(d:Int)⟩:aJ)))::own 3 a6 e.length a7 (gY e)::aT (C4 e)::hZ p (mV k)::all h):=(W.flat.2<|z.perm lh.symm).swap;clear z;refine bw<|bZ (bJ A) ⟨_,_,_,rfl,?_⟩;have aV:=cK A;refine ag aV λcd ce b0=>?_;have P:(e.length+1)*40<=140737488355328/\e.length<9223372036854775807:=U
  refine(aU (us:=gY e) aY (rfl:ai Ty _=.slice _) (rfl:ai Ty _=.slice _) rfl rfl rfl (b0.pick 6 [0,3,1,2,4,5]) rfl (by simp[aO]) P.1 P.2).mono ?_;rintro _ b1⟨b2,bz,rfl,bE⟩;have cg:TK (((a:Int),(d:Int)),((f_ b.1.1 0 b.2.length 1,b.2.length),b.2))=⟨(a:Int),(d:Int),dK (b_ g ss).length (fA g ss a d)⟩:=by simp_all[TK]
  refine⟨_,_,_,rfl,ξ,⟨d+1,e++[(((a:Int),(d:Int)),((f_ b.1.1 0 b.2.length 1,b.2.length),b.2))],l.filter λbN=>decide (bN.1≠(⟨(a:Int),(d:Int)⟩:aJ)),V,y,V,?_,(t.sublist<|List.Sublist.map _ List.filter_sublist),λch ci=>?_,?_⟩,bS y⟩
  ·simp_all[zx]
  ·rw[Rj (s:=(⟨(a:Int),(d:Int)⟩:aJ)) ?_]
   ·grind
   grind
  ·have bN:=W.snoc<|bE.pick 6 [2,4,0,5,3];have bO:W b1 (own 3 b2 (e.length+1) bz (gY e++[O (a:Int),O (d:Int),T (f_ b.1.1 0 b.2.length 1) b.2.length b.2.length])::aT (C4 e++[own 1 (f_ b.1.1 0 b.2.length 1) b.2.length b.2.length (iv b.2)])::hZ p (mV k)::aT (mO 1 iv<|l.filter λbP=>decide (bP.1≠(⟨(a:Int),(d:Int)⟩:aJ)))::all h):=bN.pick 2 [1,0];rw[Vl,show C4 (e++[(((a:Int),(d:Int)),((f_ b.1.1 0 b.2.length 1,b.2.length),b.2))])=C4 e++[own 1 (f_ b.1.1 0 b.2.length 1) b.2.length b.2.length (iv b.2)] by unfold C4;rw[jI];rfl];exact bO
end
instance:tV nY:={ n:=3,rd:=λh x vs=>∃(a:E)(c:Nat),vs=[O x.st,O x.prod,T a x.tr.length c]/\bf h x.tr a x.tr.length,mono:=λs ⟨a,c,e,r⟩=>⟨a,c,e,r.mono s⟩,len:=λ⟨_,_,e,_⟩=>by simp_all }
section
variable{w:ga}{L:List aG}{o:E}{c:Nat}
theorem wZ{ds:List (Lq Int)}(h:W w (own 1 o ds.length c (ds.map cf)::aT (ds.map (bU 1 iv))::L)):bf (hp w) (ds.map (·.2)) o ds.length:=by
 have i:=dT 0 h.l;refine⟨V,λd r b=>?_⟩;rw[iE] at b;cases j:ds[d]? with
 |none=>simp_all
 |some a=>
  rw[j] at b;simp only[oI,Option.some.injEq] at b;subst b;have k:(ds.map<|bU 1 iv)[d]? =some (bU 1 iv a):=η
  have e:=W.out (h.pick 2 [1]) k;have l:a.2.length<=a.1.2:=bJ e;have m:bf (hp w) a.2 a.1.1 a.2.length:=bA rfl (dT 0 e.l)
  rcases i with f|⟨n,f,p⟩
  ·simp_all
  ·refine⟨n,[cf a],f,λq s g=>?_,a.1.1,a.2.length,a.1.2,rfl,l,m⟩;cases q with
   |zero=>
    simp at g;subst g;rw[ke,bh];have:=p d (cf a) η
    simp_all[tV.n]
   |succ t=>simp_all
theorem Z9{h:Hp}{xss:A7}{i l:Nat}(r:bf h xss o l)(hi:i<l):∃x b a c,xss[i]? =some x/\o=some b/\(∀d:ga,sub h (hp d)->d.cell? (b.add i)=some (T a x.length c))/\bf h x a x.length:=by
 obtain⟨x,d,n,e,f,g,a,p,j,rfl,q,b⟩:=r.get hi;have k:=b.1;subst k;refine⟨x,d,a,j,e,f,λs m=>?_,b⟩;have:=g.cell0 m
 simp_all[bh,tV.n]
theorem JV{ds:List qH}(h:W w (own 3 o ds.length c (gY ds)::aT (C4 ds)::L)):bf (hp w) (ds.map TK) o ds.length:=by
 have i:=dT 0 h.l;refine⟨V,λd p b=>?_⟩;rw[iE] at b;cases f:ds[d]? with
 |none=>simp_all
 |some a=>
  rw[f] at b;simp only[oI,Option.some.injEq] at b;subst b;have j:(C4 ds)[d]? =some (bU 1 iv a.2):=by simp_all[C4]
  have k:=W.out (h.pick 2 [1]) j;have l:bf (hp w) a.2.2 a.2.1.1 a.2.2.length:=bA rfl (dT 0 k.l)
  rcases i with e|⟨g,e,m⟩
  ·have q:=congrArg List.length e
   grind[Vk,List.length_nil,List.getElem?_eq_some_iff]
  ·exact⟨g,qk a,e,cQ (n:=3) (λ_=>rfl) ds g m d a f,a.2.1.1,a.2.1.2,rfl,l⟩
theorem Z_{h:Hp}{xs:List nY}{l i:Nat}(r:bf h xs o l)(hi:i<l):∃x b a c,xs[i]? =some x/\o=some b/\aj h (b.add (ew i 3)) [O x.st,O x.prod,T a x.tr.length c]/\bf h x.tr a x.tr.length:=by
 obtain⟨x,b,k,d,e,f,a,g,rfl,j⟩:=r.get hi;exact⟨x,b,a,g,d,e,f,j⟩
end
section
variable{g:B}{nn:At}{ss j:List SQ}
theorem J1(h:cN ss=cN j)(i k:Nat):mf g nn ss i k=mf g nn j i k:=by grind[mf,zu,dt,J4]
theorem J5(h:cN ss=cN j)(i k:Nat):D_ g nn ss i k=D_ g nn j i k:=by
 unfold D_;rw[zu h];have c:∀a b,dI ss a b=dI j a b:=λa b=>OF h b a
 simp_all
theorem Kr(h:cN ss=cN j)(q m i:Nat):fA g ss q m i=fA g j q m i:=by grind[fA,zu,dI,OF]
theorem Vm(h:cN ss=cN j):zw g nn ss=zw g nn j:=by
 unfold zw;rw[zu h];refine qL λa _=>?_;rw[show mf g nn ss a=mf g nn j a from funext λb=>J1 h a b]
theorem Vn(h:cN ss=cN j):CN g nn ss=CN g nn j:=by
 unfold CN;rw[zu h];refine qL λa _=>?_;rw[show D_ g nn ss a=D_ g nn j a from funext λb=>J5 h a b]
theorem Ks(h:cN ss=cN j)(q m:Nat):zx g ss q m=zx g j q m:=by
 unfold zx;rw[zu h,show fA g ss q m=fA g j q m from funext λa=>Kr h q m a]
theorem Vo(h:cN ss=cN j):wq g ss=wq g j:=by
 unfold wq;rw[OE h];have c:∀a b,gM g ss a b=gM g j a b:=λa d=>by unfold gM;rw[show zx g ss a=zx g j a from funext λb=>Ks h a b]
 simp_all
end
def tF(es:A7):Bool:=!es.any λl=>l.any λx=>decide (x<0)||decide ((es.length:Int)<=x)
theorem Kb{es:A7}:tF es=true↔JJ es:=by simp[tF,JJ,List.any_eq_false]
section
variable{w:ga}{a:E}{l c:Nat}{d:aM}{e:Ay}
theorem zj{xs:Az}{p:Int->Bool}(m:Fn d=true)(f:bf (hp w) xs a l)(A:l<=4611686018427387904)
  (n:∀x∈xs,∀b,hp b=hp w->ρ d (O x::e) b λg h=>g=J (p x)/\hp h=hp w):
  ρ 126 [T a l c,.func (.func d) (Array.mk []) ⟨e⟩] w λb g=>b=J (xs.any p)/\hp g=hp w:=by
 refine cr ?_
 have o:ρ 90 [T a l c,.func (.func d) (Array.mk []) ⟨e⟩] w λq r=>∃b:Int,q=O b/\(xs.any p=decide (0<=b))/\hp r=hp w:=by
  refine bW ?_;have C:=f.1;refine⟨λg h=>∃b:Nat,g=b/\b<=l/\(∀i∈xs.take b,p i=false)/\hp h=hp w,λb _=>l-b.toNat,⟨0,rfl,gu _,λb g=>η,rfl⟩,?_⟩;rintro _ F g⟨b,rfl,I,L,h⟩;refine ae (λs=>?_) λs=>?_
  rotate_left
  ·grind
  have i:b<l:=η
  obtain⟨j,k⟩:∃t,xs[b]? =some t:=⟨xs[b]'U,gn _⟩;obtain⟨N,t,v⟩:=f.at k;refine au t i ⟨j,v g<|Gr.of_eq h,bn.2 ⟨m,(n j (gg k) g h).mono ?_⟩⟩;rintro _ P⟨rfl,y⟩
  refine⟨_,rfl,ae (λz=>?_) λz=>?_⟩
  ·grind
  ·refine⟨ξ,⟨b+1,V,U,λQ R=>?_,y⟩,bS i⟩
   grind[List.take_add_one]
 refine o.mono ?_
 simp_all
theorem KC{xs:A7}{p:Az->Bool}(m:Fn d=true)(g:bf (hp w) xs a l)(L:l<=4611686018427387904)
  (n:∀x∈xs,∀b o l c,hp b=hp w->bf (hp w) x o l->ρ d (T o l c::e) b λf h=>f=J (p x)/\hp h=hp w):
  ρ 380 [T a l c,.func (.func d) (Array.mk []) ⟨e⟩] w λb f=>b=J (xs.any p)/\hp f=hp w:=by
 refine kB ?_
 have q:ρ 394 [T a l c,.func (.func d) (Array.mk []) ⟨e⟩] w λr s=>∃b:Int,r=O b/\(xs.any p=decide (0<=b))/\hp s=hp w:=by
  refine mF ?_;have N:=g.1;refine⟨λf h=>∃b:Nat,f=b/\b<=l/\(∀i∈xs.take b,p i=false)/\hp h=hp w,λb _=>l-b.toNat,⟨0,rfl,gu _,λb f=>η,rfl⟩,?_⟩;rintro _ P t⟨b,rfl,Q,R,h⟩;refine ae (λv=>?_) λv=>?_
  rotate_left
  ·grind
  have f:b<l:=η
  obtain⟨y,S,X,z,A,i,o,j,k,rfl,Y,C⟩:=g.get f;rw[bh,show b*tV.n Az=b from kA b] at i;refine au A f ⟨o,j,k,i.cell0<|Gr.of_eq h,bn.2 ⟨m,(n y (gg z) t o j k h C).mono ?_⟩⟩;rintro _ a0⟨rfl,F⟩
  refine⟨_,rfl,ae (λI=>?_) λI=>?_⟩
  ·grind
  ·refine⟨ξ,⟨b+1,V,U,λa1 a2=>?_,F⟩,bS f⟩
   grind[List.take_add_one]
 refine q.mono ?_
 simp_all
theorem KE{es:A7}(b:bf (hp w) es a l)(n:l<=4611686018427387904)(r:∀x∈es,x.length<=4611686018427387904):
  ρ 345 [T a l c] w λf g=>f=J (tF es)/\Gr w g:=by
 refine DK ?_;have s:=b.1;refine ag (W.all w) λf o g=>?_;have h:Gr w o:=g.aS;have i:=(af 0 g.l).cell0 sZ
 refine⟨_,_,_,i,(KC (p:=λl=>l.any λx=>decide (x<0)||decide ((es.length:Int)<=x)) (d:=Cg) (e:=[u (some<|Z f)]) rfl (b.mono h) n ?_).mono ?_⟩
 ·intro x t v y z A j k
  refine yS ((zj (p:=λx=>decide (x<0)||decide ((es.length:Int)<=x)) (d:=xt) (e:=[u (some<|Z f)]) rfl (by rw[j];exact k) (by have:=k.1;grind) ?_).mono ?_)
  ·intro C F I m
   refine uC (ae (λq=>?_) λq=>?_)
   ·simp_all
   ·refine⟨_,_,_,by rw[cO (m.trans j)];exact i,G,m⟩
  simp_all
 ·rintro _ k⟨rfl,j⟩;exact⟨_,rfl,rfl,h.trans<|Gr.of_eq j⟩
end
theorem W7{P:iI}{w:ga}(d:Nat){t e:aC}{a b:vP}{q:Bool}{i:TypeInfo}(h:P.underlying t=some (.pointer e))(hi:P.info? e=some i)(c:i.size≠0)(f:(sameAddr a b).run P w=.ok q w):
  (Op.equalIn (d+1) t (.pointer (some a)) (.pointer (some b))).run P w=.ok q w:=by
 simp[Op.equalIn,bx h,sizeOf,typeInfo,hi,c,f]
theorem TN{P:iI}{w:ga}{t e:aC}{a b:vP}{q:Bool}{i:TypeInfo}(h:P.underlying t=some (.pointer e))(hi:P.info? e=some i)(c:i.size≠0)(d:(sameAddr a b).run P w=.ok q w):
  (Op.equal t (.pointer (some a)) (.pointer (some b))).run P w=.ok q w:=W7 9999 h hi c d
theorem G4{P:iI}{w:ga}{t e:aC}{xo yo:St}{a b:vP}{q:Bool}{i:TypeInfo}(h:P.underlying t=some (.pointer e))(hi:P.info? e=some i)(c:i.size≠0)(d:(sameAddr a b).run P w=.ok q w):
  (sK .neq t xo yo (.pointer (some a)) (.pointer (some b))).run P w=.ok (J (!q)) w:=by simp_all[sK,eqGuard,Go.binOp,TN]
theorem W8{P:iI}{w:ga}{L:List aG}{Ty:aC->Option dL}(c:fb P Ty){t e:aC}{i:dL}{xo yo:St}{a b:Nat}{g j:Ay}(k:ai Ty t=.ptr e)(hi:Ty e=some i)(r:i.size≠0)(h:W w (ax a g::ax b j::L)):
  (sK .neq t xo yo (.pointer (some ⟨a,0,none⟩)) (.pointer (some ⟨b,0,none⟩))).run P w=.ok (J true) w:=by
 obtain⟨s,d,l⟩:=dR c k V;rw[SF l] at d;obtain⟨v,x,f⟩:=tY c hi;obtain⟨y,m⟩:=kg.1 h;obtain⟨z,n⟩:=kg.1 h.swap
 have o:(⟨a,0,none⟩:vP)≠⟨b,0,none⟩:=by
  intro e;cases e;obtain⟨A,C,dd,F,I,⟨_,N⟩,Q,R,S,p,X,⟨_,q⟩,_⟩:=h
  rcases dd a with h|h
  ·simp_all
  ·rw[p a _ q] at h;grind
 exact G4 d f.inf (by rw[<-f.size];omega) (run_sameAddr_other w o m.get n.get)
theorem W9{P:iI}{w:ga}{Ty:aC->Option dL}(b:fb P Ty){t e:aC}{i:dL}{xo yo:St}{a:vP}(f:ai Ty t=.ptr e)(hi:Ty e=some i)(h:i.size≠0):
  (sK .neq t xo yo (.pointer (some a)) (.pointer (some a))).run P w=.ok (J false) w:=by
 obtain⟨j,c,g⟩:=dR b f V;rw[SF g] at c;obtain⟨k,l,d⟩:=tY b hi;exact G4 c d.inf (by rw[<-d.size];omega) (run_sameAddr_same w a)
def iS(es ow:A7)(v:Nat)(x:Nat):Prop:=∃u,da.Rc (En es) v u/\(x:Int)∈ow.getD u []
structure s5(es ow:A7)(v:Nat)(bs:At):Prop where
 ln:bs.length=1024
 fn:∀x,bt bs x=true↔x<1024/\iS es ow v x
theorem iS.mutual{es ow:A7}{v a x:Nat}(h:da.Rc (En es) v a)(b:iS es ow a x):iS es ow v x:=by
 obtain⟨c,d,e⟩:=b;exact⟨c,h.trans d,e⟩
theorem iS.step{es ow:A7}{g:A0}{v:Nat}(e:v∈g)(f:∀a∈g,∀b∈g,da.Rc (En es) a b){x:Nat}:
  iS es ow v x↔(∃n∈g,(x:Int)∈ow.getD n [])\/∃n∈g,∃m∈En es n,m∉g/\iS es ow m x:=by
 constructor
 ·rintro⟨l,o,p⟩
  have q:∀a b,da.Rc (En es) a b->a∈g->(x:Int)∈ow.getD b []->(∃n∈g,(x:Int)∈ow.getD n [])\/∃n∈g,∃m∈En es n,m∉g/\iS es ow m x:=by
   intro a b c
   induction c with
   |refl a=>grind
   | @step a m b d h r=>
    intro i j
    by_cases k:m∈g
    ·simp_all
    ·exact .inr ⟨a,i,m,d,k,b,h,j⟩
  grind
 ·rintro(⟨n,c,d⟩|⟨n,c,m,h,_,d⟩)
  ·exact⟨n,f v e n c,d⟩
  ·exact((f v e n c).trans (da.Rc.one h)) |> λi=>d.mutual i
def Vp(l:List (E)):Ay:=l.map λp=>Value.pointer p
theorem KK(l:List (E))(i:Nat)(p:E):(Vp l).set i (.pointer p)=Vp (l.set i p):=by simp[Vp]
theorem OQ{l:List (E)}{i:Nat}{p:E}(h:l[i]? =some p):(Vp l)[i]? =some (.pointer p):=by grind[Vp]
def CQ(p:E)(l:List (E))(g:A0):List (E):=g.foldl (λl m=>l.set m p) l
theorem Kc(p:E):∀(g:A0)(l:List (E)),(CQ p l g).length=l.length
 |[],_=>rfl
 |m::g,l=>by show(CQ p (l.set m p) g).length=_;rw[Kc p g];simp
theorem W_(p:E)(l:List (E))(g:A0)(m:Nat):CQ p l (g++[m])=(CQ p l g).set m p:=by simp[CQ]
theorem Rk(p:E):∀(g:A0)(l:List (E)),(∀m∈g,m<l.length)->∀v,(CQ p l g)[v]? =if v∈g then some p else l[v]?
 |[],l,_,v=>by rfl
 |m::g,l,h,v=>by
  have:=Rk p g (l.set m p) (λy hy=>η) v
  show(CQ p (l.set m p) g)[v]? =_
  grind
theorem KL{L:List aG}{h:Hp}{A:aG}(i:Nat)(b:aL L h)(e:tX L i=A:=by rfl)(hi:Nat.blt i (B3 L)=true:=by rfl):∃a,sub a h/\A a:=by
 have:=dN i (by simp_all[iY]) b
 simp_all
structure zk(es ow:A7)(N:Nat)(gs:A9)(sets:List (E))(ps:List Go.Proofs.YtaoaemnefghnbaaGreatDoor.Ls)(gr:List (Nat×At)):Prop where
 ls:sets.length=N
 lp:ps.length=N
 lg:gr.length=gs.length
 st:∀(i:Nat) g b B,gs[i]? =some g->gr[i]? =some (b,B)->∀v∈g,sets[v]? =some (some ⟨b,0,none⟩)/\s5 es ow v B/\∃p,ps[v]? =some p/\p.2=jC B
section
variable{w:ga}{L:List aG}{a h:E}{N c j l ks bs k r F Q:Nat}{es ow:A7}{h0:Hp}
def Gc(gr:List (Nat×At)):List aG:=gr.map λp=>cZ (some ⟨p.1,0,none⟩) p.2
def Xa(es ow:A7)(ks bs k r N:Nat)(gs:A9):aG:=Proofs.YtaoaemnefghnbaaGreatDoor.ex λy:List (E)×List Ls×List (Nat×At)=>
 aT [Proofs.YtaoaemnefghnbaaGreatDoor.pu (zk es ow N gs y.1 y.2.1 y.2.2),ax ks [T (some ⟨bs,0,none⟩) N N],ax bs (Vp y.1),ax k [T (some ⟨r,0,none⟩) N N],ax r (y.2.1.map JG),aT (y.2.1.map FB),aT (Gc y.2.2)]
theorem Ef{gs:A9}:W w (Xa es ow ks bs k r N gs::L)↔∃(a:List (E))(ps:List Ls)(b:List (Nat×At)),zk es ow N gs a ps b/\
  W w (ax ks [T (some ⟨bs,0,none⟩) N N]::ax bs (Vp a)::ax k [T (some ⟨r,0,none⟩) N N]::ax r (ps.map JG)::aT (ps.map FB)::aT (Gc b)::L):=by simp[Xa,W.ex,W.pu,W.flat]
theorem KR{a b:Nat}{e f:At}{xo yo:St}(h:W w (cZ (some ⟨a,0,none⟩) e::cZ (some ⟨b,0,none⟩) f::L)):
  (sK .neq te xo yo (.pointer (some ⟨a,0,none⟩)) (.pointer (some ⟨b,0,none⟩))).run prog w=.ok (J true) w:=by
 rcases mY h with⟨c,_⟩|⟨g,i,j,k,c,_,h⟩
 ·grind
 ·cases c
  rcases mY (h.pick 3 [2,0,1]) with⟨d,_⟩|⟨l,m,n,o,d,_,h⟩
  ·grind
  ·cases d;exact W8 aY (rfl:ai Ty te=.ptr _) rfl V (h.pick 4 [2,0,1,3])
structure zm(es ow:A7)(h0:Hp)(F Q N:Nat)(a h:E)(c j:Nat):Prop where
 ce:aj h0 ⟨F,0,none⟩ [T a N c]
 cn:aj h0 ⟨Q,0,none⟩ [T h N j]
 re:bf h0 es a N
 rn:bf h0 ow h N
 X6:ec h0
 bE:∀x∈es,x.length*8<=140737488355328
 bO:∀x∈ow,x.length*8<=140737488355328
 bN:N*24<=140737488355328
 rO:∀x∈ow,∀y∈x,0<=y/\y<1024
theorem KT(aa:JJ es)(C:zm es ow h0 F Q N a h c j):y5 Cf [u (some (Z ks)),u (some (Z Q)),u (some (Z F)),u (some (Z k))] es λb=>[Xa es ow ks bs k r N b,has h0]:=by
 intro o b w cp P R S b1 b2;have cq:es.length=N:=C.re.1;have a1:∀d∈b,d<N:=λd e=>η
 have cs:b.length<=N:=(S.len b1).2 b V |> λd=>U
 have b3:∀d∈b,∀e∈b,da.Rc (En es) d e:=(S.2 o b [] rfl).2.1;have b4:∀e∈b,∀d∈En es e,d∈b\/d∈o.flatten:=(S.2 o b [] rfl).2.2;have b5:∀d∈b,d∉o.flatten:=λe d=>(da.QC S.1 rfl d).1;have ct:=C.bN;obtain⟨f,q,g,l,b6⟩:=Ef.1<|b2.pick 3 [1,0,2];refine yQ<|(WE 1024 (xs:=[]) bf.nil V).mono ?_;rintro _ cu⟨e,rfl,b7⟩;have b9:=b7.fy b6
 --[0 set,1 ks,2 bs,3 k,4 r,5 lists,6 f,7 group,8 has]
 refine⟨_,rfl,λd m=>∃i:Nat,d=i/\i<=b.length/\W m (cZ (some ⟨e,0,none⟩) (Aa 1024 [])::ax ks [T (some ⟨bs,0,none⟩) N N]::ax bs (Vp<|CQ (some ⟨e,0,none⟩) f<|b.take i)::ax k [T (some ⟨r,0,none⟩) N N]::ax r (q.map JG)::aT (q.map FB)::aT (Gc g)::own 1 P b.length R (eh b)::has h0::w),
  λd _=>b.length-d.toNat,⟨0,rfl,gu _,b9⟩,?_⟩
 rintro _ cv cx⟨i,rfl,cy,x⟩
 refine ae (λba=>?_) λba=>?_
 ·have d:i<b.length:=η
  obtain⟨s,m⟩:∃p,b[i]? =some p:=⟨b[i],gn _⟩;have t:=a1 s<|gg m;obtain⟨z,v,y⟩:=cV (x.pick 9 [7,0,1,2,3,4,5,6,8])<|lW m;refine au v d ⟨_,y,_,_,_,(af 1 x.l).cell0 sZ,au rfl t ?_⟩;rw[ak];refine aX (x.pick 9 [2,0,1,3,4,5,6,7,8]) (by simp[Vp,Kc,l.ls];omega) λI p=>⟨ξ,⟨i+1,rfl,d,?_⟩,bS d⟩;rw[KK] at p;rw[iw,m,oB,W_];exact p.pick 9 [1,2,0,3,4,5,6,7,8]
 have bb:i=b.length:=G
 subst bb;rw[jl] at x;have bc:∀d:Nat,(Aa 1024 []).length=1024/\bt (Aa 1024 []) d=false:=λd=>⟨by unfold Aa;rw[bF,oF];rfl,by simp[Aa,fl,gE,j7]⟩;have cz:∀d,(CQ (some ⟨e,0,none⟩) f b)[d]? =if d∈b then some (some (⟨e,0,none⟩:vP)) else f[d]?:=Rk _ b f λd m=>by rw[l.ls];simp_all
 --the numbers come together
 let a2:Nat->Nat->Prop:=λi d=>(∃n∈b.take i,(d:Int)∈ow.getD n [])\/∃n∈b.take i,∃m∈En es n,m∉b/\iS es ow m d
 refine⟨λp s=>∃(i:Nat)(d:At),p=i/\i<=b.length/\d.length=1024/\(∀m,bt d m=true↔m<1024/\a2 i m)/\W s (cZ (some ⟨e,0,none⟩) d::ax ks [T (some ⟨bs,0,none⟩) N N]::ax bs (Vp<|CQ (some ⟨e,0,none⟩) f b)::ax k [T (some ⟨r,0,none⟩) N N]::ax r (q.map JG)::aT (q.map FB)::aT (Gc g)::own 1 P b.length R (eh b)::has h0::w),
  λd _=>b.length-d.toNat,⟨0,_,rfl,gu _,(bc 0).1,λcA=>?_,x⟩,?_⟩
 ·grind
 rintro _ cB cC⟨i,d,rfl,cF,ab,ac,v⟩
 refine ae (λbd=>?_) λbd=>?_
 ·have a3:i<b.length:=η
  obtain⟨n,a4⟩:∃n,b[i]? =some n:=⟨b[i],gn _⟩;have bQ:=gg a4;have X:=a1 n bQ;have ad:=aE 8 v.l;obtain⟨cI,be,bi⟩:=cV (v.pick 9 [7,0,1,2,3,4,5,6,8])<|lW a4;obtain⟨xo,cR,cT,bl,bo,al,bu,bz,bE,rfl,d0,am⟩:=C.rn.get (i:=n) X;rw[bh,show n*tV.n Az=n from kA n] at al;obtain⟨Y,d1,ev,a5,bN,an,bO,y,bP,rfl,d2,ao⟩:=C.re.get (i:=n) X;rw[bh,show n*tV.n Az=n from kA n] at an;have d3:=am.1;have d4:=ao.1;have d5:=C.bO xo<|gg bl;have d6:=C.bE Y<|gg a5;refine au be a3 ⟨_,bi,_,_,_,C.cn.cell0 ad,au bo X ⟨bu,bz,bE,al.cell0 ad,(BB (xs:=xo) v (λp m=>am.mono<|aE 7 m) U).mono ?_⟩⟩;rintro _ d7⟨rfl,ap⟩;have av:=aE 8 ap.l;refine⟨_,rfl,_,_,_,C.ce.cell0 av,au bN X ⟨bO,y,bP,an.cell0 av,?_⟩⟩;have d8:=Zw a5;have d9:ow.getD n []=xo:=η
  refine⟨λz I=>∃(p:Nat)(s:At),z=p/\p<=y/\s.length=1024/\(∀m,bt s m=true↔m<1024/\(a2 i m\/(m:Int)∈xo\/∃t∈(En es n).take p,t∉b/\iS es ow t m))/\W I (cZ (some ⟨e,0,none⟩) s::ax ks [T (some ⟨bs,0,none⟩) N N]::ax bs (Vp<|CQ (some ⟨e,0,none⟩) f b)::ax k [T (some ⟨r,0,none⟩) N N]::ax r (q.map JG)::aT (q.map FB)::aT (Gc g)::own 1 P b.length R (eh b)::has h0::w),
   λm _=>y-m.toNat,⟨0,_,rfl,gu _,by simp_all[bF],λdc=>?_,ap⟩,?_⟩
  ·rw[fl,gE,ab,kj,ac,jn,jV,List.contains_iff_mem]
   grind
  rintro _ df bT⟨p,z,rfl,dk,a6,az,s⟩;have c0:=aE 8 s.l
  refine ae (λc1=>?_) λc1=>?_
  ·have I:p<y:=η
   obtain⟨a7,aB⟩:∃m,Y[p]? =some m:=⟨Y[p]'U,gn _⟩
   obtain⟨m,a8,rfl⟩:∃t:Nat,(En es n)[p]? =some t/\a7=(t:Int):=by
    refine⟨a7.toNat,η,?_⟩;have:=aa Y (gg a5) a7<|gg aB;omega
   have aK:m<N:=by have:=yZ aa<|gg a8;omega
   have aR:∀{L:At},(∀t,bt L t=true↔bt z t=true\/(t<1024/\m∉b/\iS es ow m t))->∀t,bt L t=true↔t<1024/\(a2 i t\/(t:Int)∈xo\/∃a0∈(En es n).take (p+1),a0∉b/\iS es ow a0 t):=by
    intro a9 L aS;rw[L,az,iw,a8,oB]
    constructor
    ·rintro(⟨a0,t|t|⟨aV,b0,c2⟩⟩|⟨a0,t⟩)
     ·simp_all
     ·simp_all
     ·grind
     simp_all
    ·rintro⟨a0,t|t|⟨aV,b0,c2⟩⟩
     ·simp_all
     ·simp_all
     grind
   obtain⟨dl,c2,c3⟩:=ao.at aB;have a9:=(af 2 s.l);refine au c2 I ⟨(m:Int),c3 bT c0,_,_,_,(af 1 s.l).cell0 sZ,au rfl aK ?_⟩
   by_cases aS:m∈b
   ·have t:(CQ (some ⟨e,0,none⟩) f b)[m]? =some (some (⟨e,0,none⟩:vP)):=η
    refine⟨some ⟨e,0,none⟩,a9.cell sZ<|OQ t,⟨_,W9 aY (rfl:ai Ty te=.ptr _) rfl V,false,rfl,?_⟩⟩;refine⟨ξ,⟨p+1,z,rfl,I,a6,aR λaV=>⟨.inl,λL=>L.resolve_right λa0=>a0.2.1 aS⟩,s⟩,bS I⟩
   ·have c4:m∈o.flatten:=(b4 n bQ m<|gg a8).resolve_left aS;obtain⟨c5,c6,c7⟩:=List.mem_flatten.1 c4;obtain⟨a0,c8⟩:=jR c6;obtain⟨⟨t,L⟩,c9⟩:∃aV,g[a0]? =some aV:=⟨g[a0]'(by rw[l.lg];grind),gn _⟩;obtain⟨dn,ca,_⟩:=l.st a0 c5 t L c8 c9 m c7;have aV:(CQ (some ⟨e,0,none⟩) f b)[m]? =some (some (⟨t,0,none⟩:vP)):=G
    have b0:(Gc g)[a0]? =some (cZ (some ⟨t,0,none⟩) L):=by grind[Gc]
    have cb:=KR (xo:=Operand.tmp 52) (yo:=Operand.tmp 53)<|(W.Ta (s.pick 9 [6,0,1,2,3,4,5,7,8]) b0).pick 3 [0,2];refine⟨some ⟨t,0,none⟩,a9.cell sZ<|OQ aV,⟨_,cb,true,rfl,?_⟩⟩;refine⟨_,_,_,(af 1 s.l).cell0 sZ,au rfl aK ⟨some ⟨t,0,none⟩,a9.cell sZ<|OQ aV,ag s λcc ds cd=>?_⟩⟩;have ce:=cd.pick 10 [1,0,2,3,4,5,6,7,8,9]
    refine(UT (os:=[some ⟨t,0,none⟩]) (vss:=[L]) ce (λcg ch=>iJ rfl (.inr ⟨_,rfl,(show aj cg ⟨cc,0,none⟩ [.pointer (some ⟨t,0,none⟩)] from af 0 ch)⟩)) rfl (λdv cg ch dx dy ci ck=>?_) (λcm cl=>dX.mono (aE 8 cl) C.X6) V).mono ?_
    ·obtain⟨dA,cl,cm⟩:=KL 6 cg (A:=aT<|Gc g);obtain⟨dC,cn,co⟩:=iL (gg b0) cm;cases ch with
     |zero=>cases ci;cases ck;exact .inl ((Fk co).mono (cn.trans cl))
     |succ dF=>grind
    rintro _ cn⟨rfl,cl⟩;refine⟨_,rfl,ξ,⟨p+1,dP z [L],rfl,I,by grind[BZ],aR λcm=>?_,cl.pick 10 [0,2,3,4,5,6,7,8,9]⟩,bS I⟩
    show bt (dw z<|jC L) cm=true↔_
    rw[iK,a6,kj,jn,jV,ca.fn]
    constructor
    ·grind
    grind
  ·have m:p=y:=G
   subst m;refine⟨ξ,⟨i+1,z,rfl,a3,a6,λa8=>?_,s⟩,bS a3⟩;have t:(En es n).take p=En es n:=jy η;rw[az,t];refine and_congr_right λ_=>?_
   show _↔(∃n∈b.take (i+1),_)\/∃n∈b.take (i+1),_
   rw[iw,a4,oB]
   constructor
   ·rintro((⟨I,L,a0⟩|⟨I,L,a0⟩)|a7|a7)
    ·grind
    ·grind
    ·simp_all
    simp_all
   ·rintro(⟨I,L,a0⟩|⟨I,L,a0⟩)
    ·grind
    grind
 have a5:i=b.length:=G
 subst a5
 have bz:∀m∈b,s5 es ow m d:=λbE a6=>⟨ab,λbN=>by
  rw[ac];refine and_congr_right λ_=>?_
  show(∃n∈b.take b.length,_)\/(∃n∈b.take b.length,_)↔_
  rw[jl,iS.step a6 b3]⟩
 refine(Fl (v.fm)<|dX.mono (aE 8 v.l) C.X6).mono ?_;rintro _ bO⟨a7,a8,rfl,a9⟩;have ad:=a9.fy v;have al:(jC d).length=bK d:=Dp d;have bP:bK d<=1024:=by grind[dH]
 refine⟨_,_,_,rfl,λam an=>∃(i:Nat)(m:List Ls),am=i/\i<=b.length/\m.length=N/\(∀s∈b.take i,∃p,m[s]? =some p/\p.2=jC d)/\(∀p,p∉b->m[p]? =q[p]?)/\
   W an (own 1 a7 (bK d) a8 (iv<|jC d)::cZ (some ⟨e,0,none⟩) d::ax ks [T (some ⟨bs,0,none⟩) N N]::ax bs (Vp<|CQ (some ⟨e,0,none⟩) f b)::ax k [T (some ⟨r,0,none⟩) N N]::ax r (m.map JG)::aT (m.map FB)::aT (Gc g)::own 1 P b.length R (eh b)::has h0::w),
  λm _=>b.length-m.toNat,⟨0,q,rfl,gu _,l.lp,λm p=>η,λ_ _=>rfl,ad⟩,?_⟩
 rintro _ bT ao⟨i,p,rfl,c0,ap,av,c1,y⟩
 refine ae (λaz=>?_) λaz=>?_
 ·have z:i<b.length:=η
  obtain⟨m,I⟩:∃s,b[i]? =some s:=⟨b[i],gn _⟩;have aB:=a1 m<|gg I;obtain⟨c2,aK,aR⟩:=cV (y.pick 10 [8,0,1,2,3,4,5,6,7,9])<|lW I;refine au aK z ⟨_,aR,λX aS=>?_⟩;have L:=y.eq<|aW aS;have aV:=af 4 L.l;refine⟨λs=>Gr X s,Gr.refl _,_,_,_,λt s=>aV.cell0 s,(QH (xs:=jC d) (bA al<|dT 0 L.l) U U).mono ?_⟩;rintro _ b0⟨s,t,rfl,Y⟩;have be:Gr X b0:=Y.aS;have bi:=Y.fy L;refine⟨_,_,_,rfl,be,au rfl aB ?_⟩;rw[ak]
  refine aX (bi.pick 11 [6,0,1,2,3,4,5,7,8,9,10]) η λc3 bl=>⟨ξ,⟨i+1,p.set m ((s,t),jC d),rfl,z,η,λa0 a3=>?_,λa0 a3=>?_,?_⟩,bS z⟩
  ·by_cases a4:a0=m
   ·grind
   ·rw[iw,I,oB] at a3
    grind
  ·grind
  ·have a4:=W.Zb (A:=own 1 s (jC d).length t (iv<|jC d)) (M:=p.map FB) (bl.pick 11 [1,7,0,2,3,4,5,6,8,9,10]) (n:=m) η;have bo:(p.map JG).set m (.slice s (jC d).length t)=(p.set m ((s,t),jC d)).map JG:=by rw[kf];rfl
   have bu:(p.map FB).set m (own 1 s (jC d).length t (iv<|jC d))=(p.set m ((s,t),jC d)).map FB:=by rw[kf];rfl
   rw[bo,bu] at a4;exact a4.pick 10 [2,3,4,5,6,1,0,7,8,9]
 have L:i=b.length:=G
 subst L;rw[jl] at av;refine⟨rfl,?_⟩
 show W ao (Xa es ow ks bs k r N (o++[b])::has h0::w)
 refine Ef.2 ⟨CQ (some ⟨e,0,none⟩) f b,p,g++[(e,d)],⟨by rw[Kc];exact l.ls,ap,by simp[l.lg],λi z X Y m t s I=>?_⟩,?_⟩
 ·by_cases a0:i<o.length
  ·rw[ki a0] at m;rw[ki (by rw[l.lg];omega)] at t;have a3:s∈o.flatten:=List.mem_flatten.2 ⟨z,gg m,I⟩;have aB:s∉b:=λa4=>b5 s a4 a3;obtain⟨a4,aK,aR⟩:=l.st i z X Y m t s I
   grind
  ·have a3:=(gJ.1 m).1;simp at a3;have a4:i=o.length:=U
   subst a4;rw[kL (gP _),lH] at m;rw[kL (by rw[l.lg];omega),l.lg,lH] at t
   grind
 ·have a0:Gc (g++[(e,d)])=Gc g++[cZ (some ⟨e,0,none⟩) d]:=by simp[Gc]
  rw[a0];exact(W.snoc<|y.pick 10 [1,7,2,3,4,5,6,9]).pick 7 [1,2,3,4,5,0,6]
end
def Xb(l:Az):Bool:=!l.any λx=>decide (x<0)||decide (1024<=x)
theorem Rl{l:Az}:Xb l=true↔∀x∈l,0<=x/\x<1024:=by simp[Xb,List.any_eq_false]
def G5(es ow:A7):Bool:=tF es&&ow.length==es.length&&ow.all Xb
section
variable{w:ga}{L:List aG}{a h:E}{N M c i l:Nat}{es ow:A7}
def Vq(es ow:A7)(ps:List Ls):Prop:=ps.length=es.length/\∀v,v<es.length->∃B p,s5 es ow v B/\ps[v]? =some p/\p.2=jC B
theorem KV(r:bf (hp w) es a N)(y:bf (hp w) ow h M)(a7:ec (hp w))(z:∀l∈es,l.length*8<=140737488355328)(C:∀l∈ow,l.length*8<=140737488355328)(F:N*24<=140737488355328)(bc:M*24<=140737488355328):
  ρ 288 [T a N c,T h M i] w λv f=>(G5 es ow=false/\v=.tuple (Array.mk [D,O 1])/\Gr w f)\/
   (G5 es ow=true/\∃(g:Nat)(ps:List Ls),Vq es ow ps/\v=.tuple (Array.mk [T (some ⟨g,0,none⟩) N N,O 0])/\W f (own 1 (some ⟨g,0,none⟩) N N (ps.map JG)::aT (ps.map FB)::all w)):=by
 have a8:=r.1;have bd:=y.1;refine DI ?_;refine ag (W.all w) λI be n=>ag n λa9 P n=>?_;have j:Gr w P:=n.tail.aS
 refine⟨λb f=>b= !(tF es&&M==N)/\Gr P f,⟨_,_,_,(af 1 n.l).cell0 sZ,(KE (r.mono j) U λf g=>G).mono ?_⟩,?_⟩
 ·rintro _ m⟨rfl,f⟩;have g:=n.gr f
  refine⟨_,rfl,ae (λk=>?_) λk=>?_⟩
  ·simp_all
  ·have o:tF es=true:=η
   refine⟨_,_,_,(af 0 g.l).cell0 sZ,_,_,_,(af 1 g.l).cell0 sZ,?_,f⟩
   grind
 rintro _ bi aa⟨rfl,k⟩
 refine ae (λab=>?_) λab=>?_
 ·refine .inl ⟨?_,rfl,j.trans k⟩
  grind[tF,G5]
 have ac:(tF es&&M==N)=true:=η
 obtain⟨ad,bl⟩:=Bool.and_eq_true_iff.1 ac;have al:M=N:=η
 subst al;have R:=n.gr k;have bo:=r.mono<|j.trans k;have am:=y.mono<|j.trans k;refine⟨_,_,_,(af 0 R.l).cell0 sZ,λg m=>∃f:Nat,g=f/\f<=M/\(∀o∈ow.take f,Xb o=true)/\hp m=hp aa,λf _=>M-f.toNat,⟨0,rfl,gu _,λf g=>η,rfl⟩,?_⟩;rintro _ bs g⟨f,rfl,bu,S,m⟩
 refine ae (λan=>?_) λan=>?_
 ·have o:f<M:=η
  obtain⟨x,a4,a5,X,Y,q,a0,a1,a2,rfl,a6,s⟩:=am.get o;rw[bh,show f*tV.n Az=f from kA f] at q;have ao:=C x<|gg X;have ap:=s.1
  refine au Y o ⟨a0,a1,a2,q.cell0<|Gr.of_eq m,(zj (p:=λt=>decide (t<0)||decide (1024<=t)) (d:=Ce) (e:=[]) rfl (by rw[m];exact s) U ?_).mono ?_⟩
  ·intro a3 av az aB
   refine yO (ae (λt=>?_) λt=>?_)
   ·simp_all
   grind
  rintro _ av⟨rfl,t⟩
  refine⟨_,rfl,ae (λa3=>?_) λa3=>?_⟩
  ·refine .inl ⟨?_,rfl,(j.trans k).trans (Gr.of_eq<|t.trans m)⟩
   grind[G5,Bool.and_eq_false_iff,List.all_eq_false,List.mem_of_getElem?,Xb]
  ·refine⟨ξ,⟨f+1,rfl,o,λaz aB=>?_,t.trans m⟩,bS o⟩
   grind[List.take_add_one,Xb]
 have ao:f=M:=G
 subst ao;rw[jy U] at S;have q:=R.eq m;have ap:G5 es ow=true:=by simp_all[G5]
 refine⟨_,_,_,(af 1 q.l).cell0 sZ,⟨U,rfl,U⟩,?_⟩
 --from here on what there is stays as it is
 have av:=W.all g;refine ag av λX bz az=>ag az λY bE aB=>aX aB V λbN a0=>?_;have a1:∀{o:ga}{v:Ay}{L':List aG}{b:Nat},Gr g o->o.cell? (Z I)=some (T a f c):=λo=>(af 1 q.l).cell0 o;refine⟨_,_,_,a1 (v:=[]) (L':=[]) (b:=0) a0.tail.tail.has,⟨U,rfl,U⟩,ag a0 λs bO aK=>ag aK λa2 bP aR=>aX aR V λaS t=>?_⟩;refine⟨_,_,_,a1 (v:=[]) (L':=[]) (b:=0) t.tail.tail.tail.tail.has,?_⟩;have a3:bf (hp g) es a f:=η
 have aV:bf (hp g) ow h f:=η
 have b0:zm es ow (hp g) I a9 f a h c i:=⟨af 1 q.l,af 0 q.l,a3,aV,by rw[m];exact dX.mono (j.trans k) a7,z,C,F,λo x=>Rl.1<|S o x⟩;have a4:=Kb.1 ad
 have b1:W aS ([Xa es ow Y X a2 s f [],has<|hp g]++[]):=by
  have x:ir (Int.toNat (f:Int)) [u none]=Vp (List.replicate f none):=by simp[de,Vp]
  have a5:ir (Int.toNat (f:Int)) [D]=(List.replicate f (((none,0),[]):Ls)).map JG:=by simp[de,JG]
  rw[x,a5] at t;have o:=(W.flat (M:=Gc [])).2 (DA (A:=FB ((none,0),[])) (λw L a6=>aH 1 a6) f t);have a6:List.replicate f (FB ((none,0),[]))=(List.replicate f (((none,0),[]):Ls)).map FB:=V
  rw[a6] at o;exact Ef.2 ⟨_,_,[],⟨V,V,rfl,λb2 b3 b B b4=>V⟩,o.pick 7 [4,5,2,3,1,0,6]⟩
 refine(G0 (Q:=λo=>[Xa es ow Y X a2 s f o,has<|hp g]) (L:=[]) rfl (KT a4 b0) (λx a5 o=>a3.mono<|aE 1 o) a4 z F b1).mono ?_;rintro _ bT⟨rfl,c0,c1,b2,b3⟩;obtain⟨c2,ps,a5,o,a6⟩:=Ef.1 b3
 refine⟨rfl,_,_,_,(af 2 a6.l).cell0 sZ,.inr ⟨ap,s,ps,⟨by rw[o.lp,a8],λv c3=>?_⟩,rfl,?_⟩⟩
 ·have b4:=(b2 v).2 U;obtain⟨b5,b6,b7⟩:=List.mem_flatten.1 b4;obtain⟨x,b9⟩:=jR b6;obtain⟨⟨b,B⟩,ba⟩:∃bb,a5[x]? =some bb:=⟨a5[x]'(by rw[o.lg];grind),gn _⟩;obtain⟨_,bb,p,c4,c5⟩:=o.st x b5 b B b9 ba v b7
  grind
 ·have x:=a6.pick 7 [3,4,6];have b4:=bq (sz:=1) (l:=f) (c:=f) (cs:=[]) (by rw[jK];exact x) (by simp[o.lp]) (by simp[o.lp])<|gP _;have b5:Gr w g:=(j.trans k).trans (Gr.of_eq m);exact((b4.pick 3 [2,0,1]).head (B:=has<|hp w) λb7 b6=>sub.trans b5 b6).pick 3 [1,2,0]
end
section
variable{es ow:A7}
open Classical in
noncomputable def tG(es ow:A7)(v:Nat):Az:=dK 1024 λx=>decide (iS es ow v x)
noncomputable def Ke(es ow:A7):A7:=(List.range es.length).map (tG es ow)
theorem Kf:(Ke es ow).length=es.length:=by simp[Ke]
theorem Kg{v:Nat}(h:v<es.length):(Ke es ow)[v]? =some (tG es ow v):=by simp_all[Ke]
theorem ni{v:Nat}{z:Int}:z∈tG es ow v↔∃x:Nat,z=x/\x<1024/\iS es ow v x:=by simp[tG,gL]
theorem Rm{v:Nat}:qE (tG es ow v):=u5 _ _
theorem TO{v:Nat}:(tG es ow v).length<=1024:=qF _ _
theorem iS.iff{v x:Nat}:iS es ow v x↔(x:Int)∈ow.getD v []\/∃m∈En es v,iS es ow m x:=by
 constructor
 ·rintro⟨e,a,b⟩;cases a with
  |refl=>simp_all
  |step c d=>exact .inr ⟨_,c,_,d,b⟩
 ·rintro(a|⟨m,b,c,d,e⟩)
  ·exact⟨v,.refl v,a⟩
  ·exact⟨c,.step b d,e⟩
theorem iS.least{Q:Nat->Nat->Prop}(b:∀v x:Nat,(x:Int)∈ow.getD v []->Q v x)(c:∀v m x:Nat,m∈En es v->Q m x->Q v x){v x:Nat}(h:iS es ow v x):Q v x:=by
 obtain⟨f,h,a⟩:=h
 induction h with
 |refl d=>exact b d x a
 |step d g e=>exact c _ _ _ d (e a)
theorem Vr(B:At):jC B=dK B.length (bt B):=by rfl
theorem Kh{n:Nat}{f a:Nat->Bool}(h:∀k,k<n->f k=a k):dK n f=dK n a:=by grind[dK,List.filter_congr]
open Classical in
theorem s5.row{v:Nat}{B:At}(h:s5 es ow v B):jC B=tG es ow v:=by
 rw[Vr,h.ln];unfold tG;refine Kh λa b=>?_;have:=h.fn a
 grind
theorem Vq.rows{ps:List Ls}(h:Vq es ow ps):ps.map (·.2)=Ke es ow:=by
 apply kv;intro a
 by_cases b:a<es.length
 ·obtain⟨f,g,c,d,e⟩:=h.2 a b;rw[iE,d,Kg b];simp only[oI];rw[e,c.row]
 ·rw[lA (by rw[jO,h.1];omega),lA (by grind[Kf])]
end
section
variable{g:B}{nn nn':At}{ss i:List SQ}
def xM(g:B)(ss:List SQ):A7:=(b_ g ss).map (lz g ss)
noncomputable def Vs(g:B)(nn:At)(ss:List SQ):A7:=Ke (zw g nn ss) (xM g ss)
noncomputable def Ro(g:B)(nn:At)(ss:List SQ):A7:=Ke (CN g nn ss) (Vs g nn ss)
theorem Vt(h:cN ss=cN i):xM g ss=xM g i:=by grind[xM,zu,List.map_congr_left,ZR]
theorem zn(h:cN ss=cN i):Vs g nn ss=Vs g nn i:=by grind[Vs,Vm,Vt]
theorem Li(h:cN ss=cN i):Ro g nn ss=Ro g nn i:=by grind[Ro,Vn,zn]
theorem Ki:(zw g nn ss).length=(b_ g ss).length:=by simp[zw]
theorem Kj:(CN g nn ss).length=(b_ g ss).length:=by simp[CN]
theorem Lj:(xM g ss).length=(b_ g ss).length:=by simp[xM]
theorem Lk:(Vs g nn ss).length=(b_ g ss).length:=by simp[Vs,Kf,Ki]
theorem Ll:(Ro g nn ss).length=(b_ g ss).length:=by simp[Ro,Kf,Kj]
structure jg where
 st:Int
 prod:Int
 tm:Az
deriving DecidableEq
instance:Inhabited jg:=⟨⟨0,0,[]⟩⟩
open Classical in
noncomputable def mh(g:B)(fs:A7)(b:nY):jg:=⟨b.st,b.prod,dK g.T λx=>decide (∃t∈b.tr,(x:Int)∈fs.getD t.toNat [])⟩
noncomputable def dD(g:B)(nn:At)(ss:List SQ):List jg:=(wq g ss).map (mh g (Ro g nn ss))
theorem MU(h:cN ss=cN i):dD g nn ss=dD g nn i:=by grind[dD,Vo,Li]
end
section
variable{g:B}{nn:At}{ss:List SQ}
theorem Lt(c:aw g):∃nn,tC g nn:=by
 refine⟨(List.range g.N).map λa=>@decide (TB g ((g.T+a:Nat):Int)) (Classical.propDecidable _),V,λa=>?_⟩;unfold bt;rw[jX,iE]
 by_cases h:a<g.N
 ·simp_all
 ·rw[lA η];simp only[Option.map_none,Option.getD_none,o8,false_iff];intro b
  have:((g.T+a:Nat):Int)<g.T+g.N:=by
   cases d:((g.T+a:Nat):Int) with
   |ofNat e=>
    rw[d] at b;generalize i:(Int.ofNat e)=j at b;cases b with
    |mk f hp _=>
     have:=(EP<|.inr c).1 f hp|>.1
     omega
   |negSucc e=>omega
  omega
structure Rp(F:B->At->List SQ->A7):Prop where
 es:∀{g nn ss ss'},cN ss=cN ss'->F g nn ss=F g nn ss'
 ln:∀{g nn ss},(F g nn ss).length=(b_ g ss).length
def G6(F:B->At->List SQ->A7)(g:B)(w:ga)(v:ah)(w':ga):Prop:=∃(ss:List SQ)(ask int f:Int)(nn:At)(o:E)(c:Nat)(ds:List (Lq Int)),v=.tuple #[T o ds.length c,O f]/\G2 g ss ask int f/\(f=0->tC g nn)/\ds.map (·.2)=F g nn ss/\W w' (own 1 o ds.length c (ds.map cf)::aT (ds.map (bU 1 iv))::all w)
theorem Rp.nil{F:B->At->List SQ->A7}(h:Rp F):F g nn []=[]:=by
 have:=h.ln (g:=g) (nn:=nn) (ss:=[])
 simp_all[j2,b_,Aj]
theorem Lv:Rp λa _ b=>xM a b:=⟨λc=>Vt c,Lj⟩
theorem Lx:Rp zw:=⟨λh=>Vm h,Ki⟩
theorem Lz:Rp CN:=⟨λh=>Vn h,Kj⟩
theorem LA:Rp Vs:=⟨λh=>zn h,Lk⟩
theorem G2.nil{a i f:Int}(h:G2 g ss a i f)(c:f≠0):ss=[]:=by
 rcases h with⟨_,b,_⟩|⟨_,_,b,_⟩|⟨_,_,_,_,b⟩<;>first|omega|omega
theorem Vu(a:aw g)(b:bG g ss){l:Az}(d:l∈xM g ss):l.length<=66/\qE l/\∀z∈l,0<=z/\z<g.T:=by
 obtain⟨k,e,rfl⟩:=iz.1 d;obtain⟨m,n,_⟩:=a.cR;obtain⟨o,q,p,r,s,f,h,t,rfl⟩:=me e;obtain⟨_,_,j,i,v,w,c,x,_⟩:=dj a b f h;rw[J3 (j:=j) (q:=i) (by grind[zr]) c,I5 a b c]
 refine⟨?_,u5 _ _,λz y=>?_⟩
 ·grind
 grind
theorem MV{n:Nat}{f:Nat->Nat->Bool}:tF ((List.range n).map λa=>dK n (f a))=true:=by
 rw[Kb];intro c a d b;obtain⟨e,_,rfl⟩:=iz.1 a;obtain⟨g,rfl,h,_⟩:=gL.1 b
 simp_all
theorem Vv{es ow:A7}{l:Az}(h:l∈Ke es ow):l.length<=1024/\qE l/\∀z∈l,0<=z/\z<1024:=by
 unfold Ke at h;obtain⟨b,_,rfl⟩:=iz.1 h;refine⟨TO,Rm,λz a=>?_⟩;obtain⟨c,rfl,d,_⟩:=ni.1 a;omega
end
section
variable{w:ga}{L:List aG}{g:B}{x:GA}
theorem Kk{e f:aM}{E a:B->At->List SQ->A7}(b:Rp E)(h:Rp a)(a3:Fn e=true)(a4:Fn f=true)(a5:gR (hp w) g x)(a6:ec (hp w))
  (a7:∀c,Gr w c->ρ e [.agg ⟨x.cells⟩] c (G6 a g c)) (a8:∀c,Gr w c->ρ f [.agg ⟨x.cells⟩] c (G6 E g c))
  (a9:∀{nn ss},aw g->bG g ss->∀l∈a g nn ss,l.length<=33280/\∀z∈l,0<=z/\z<1024) (aa:∀{nn ss},aw g->bG g ss->tF (E g nn ss)=true/\∀l∈E g nn ss,l.length<=33280):
  ρ 194 [.agg #[.func (.func e) #[] #[],.func (.func f) #[] #[]],.agg ⟨x.cells⟩] w (G6 (λg nn ss=>Ke (E g nn ss) (a g nn ss)) g w):=by
 refine tj<|ag (W.all w) λab F i=>?_;have I:Gr w F:=i.aS;have L:aj (hp F) (Z ab) _:=af 0 i.l;clear i;refine dZ (a5.mono I) λb3 k m b4 N=>?_;have P:Gr w k:=I.trans m;refine⟨_,_,L.cell m (j:=0) rfl,_,_,_,_,_,_,_,_,_,_,_,_,_,N.row sZ,bn.2 ⟨a3,(a7 k P).mono ?_⟩⟩;rintro _ n⟨ss,Q,int,o,nn,b5,b6,ac,rfl,c,p,R,q⟩;have r:Gr k n:=aE 2 q.l;have s:=P.trans r
 refine⟨_,_,_,_,rfl,ae (λad=>?_) λad=>?_⟩
 ·have d:o≠0:=η
  have t:=c.nil d;subst t;refine⟨[],Q,int,o,nn,none,0,[],rfl,c,p,?_,aH 1<|(W.flat (M:=[])).2 (W.here s)⟩
  show[]=Ke (E g nn []) (a g nn [])
  rw[b.nil,h.nil];rfl
 have al:o=0:=η
 subst al;obtain⟨t,v⟩:=c.Sn rfl;have am:=p rfl;have S:=wZ q;rw[R] at S;have b7:ac.length=(b_ g ss).length:=by have:=congrArg List.length R;rw[jO,h.ln] at this;omega
 have b9:=zA t v;clear q;refine⟨_,_,L.cell (m.trans r) (j:=1) rfl,_,_,_,_,_,_,_,_,_,_,_,_,_,N.row r,bn.2 ⟨a4,(a8 n s).mono ?_⟩⟩;rintro _ an⟨ao,ba,bb,ap,d,bc,bd,y,rfl,av,az,A,C⟩;have X:Gr n an:=aE 2 C.l;have Y:=s.trans X
 obtain⟨aB,aK⟩:ap=0/\cN ss=cN ao:=by
  obtain⟨a0,a1,_⟩:=c.one av
  simp_all
 subst aB;have aR:=(az rfl).inj am;subst aR;rw[<-b.es aK] at A;have a0:=wZ C;rw[A] at a0;have aS:y.length=(b_ g ss).length:=by have:=congrArg List.length A;rw[jO,b.ln] at this;omega
 clear C;obtain⟨aV,be⟩:=aa (nn:=d) t v;have bi:=a9 (nn:=d) t v;refine⟨_,_,_,_,rfl,ae (λa1=>η) λ_=>?_⟩;refine(KV a0 (S.mono X) (dX.mono Y a6) (λl a1=>G) (λl a1=>G) U U).mono ?_
 have bl:G5 (E g d ss) (a g d ss)=true:=by
  unfold G5;rw[aV,h.ln,b.ln,oJ];simp only[beq_self_eq_true,oJ,mE]
  grind[Rl]
 rintro _ bo (⟨bs,_⟩|⟨_,b0,a1,a2,rfl,b1⟩)
 ·simp_all
 have b2:a1.length=y.length:=by rw[a2.1,b.ln,aS]
 refine⟨_,_,_,_,rfl,ss,Q,int,0,d,some ⟨b0,0,none⟩,y.length,a1,G,c,p,Vq.rows a2,?_⟩;rw[b2];exact W.Qf b1 (bM Y)
variable{w:ga}{L:List aG}{g:B}{x:GA}
theorem G8:ρ 193 [] w λa b=>∃k:Nat,a=T (some (Z k)) 2 2/\W b (ax k [.func (.func qA) #[] #[],.func (.func qG) #[] #[],.func (.func yM) #[] #[],.func (.func mg) #[] #[]]::all w):=
 Cd (ag (W.all w) λc e d=>⟨c,rfl,d⟩)
theorem LD(l:gR (hp w) g x)(m:jq g):ρ qA [.agg ⟨x.cells⟩] w (G6 (λg _ a=>xM g a) g w):=by
 refine(Tx l m).mono ?_;rintro _ o⟨c,d,int,a,e,f,h,rfl,b,i,j⟩
 by_cases k:a=0
 ·obtain⟨nn,n⟩:=Lt (b.Sn k).1;exact⟨c,d,int,a,nn,e,f,h,rfl,b,λ_=>n,i,j⟩
 ·exact⟨c,d,int,a,[],e,f,h,rfl,b,λn=>absurd n k,i,j⟩
theorem LG(a:gR (hp w) g x)(b:jq g)(c:ec (hp w)):ρ qG [.agg ⟨x.cells⟩] w (G6 zw g w):=JS a b c
theorem TP(a:gR (hp w) g x)(b:jq g)(c:ec (hp w)):ρ mg [.agg ⟨x.cells⟩] w (G6 CN g w):=TL a b c
theorem Xc(q:gR (hp w) g x)(j:jq g)(k:ec (hp w)):ρ yM [.agg ⟨x.cells⟩] w (G6 Vs g w):=by
 refine Fy<|dZ q λX l r d s=>?_;intro m t;have n:Gr l m:=Gr.of_eq<|aW t;refine⟨λa=>Gr l a,n,_,_,_,_,_,_,_,_,_,_,_,_,_,λa g=>s.row g,G8.mono ?_⟩;rintro _ b⟨v,rfl,e⟩;have y:Gr m b:=aE 1 e.l;have a:=n.trans y;have z:aj (hp b) (Z v) _:=af 0 e.l;clear e;have f:Gr w b:=sub.trans r a;refine⟨_,_,_,rfl,λc=>Gr b c,Gr.refl _,λc g=>a.trans g,aI (i:=0) rfl V ⟨_,_,_,_,λc g=>(z.part 0 2).at g rfl,?_⟩⟩
 refine(Kk Lx Lv rfl rfl (d.mono a) (dX.mono f k) (λc g=>LD (d.mono<|a.trans g) j) (λc g=>LG (d.mono<|a.trans g) j<|dX.mono (sub.trans f g) k) (λh o A c=>?_) λh o=>⟨MV,λA c=>?_⟩).mono ?_
 ·obtain⟨p,_,C⟩:=Vu h o c;obtain⟨F,_⟩:=h.cR
  grind
 ·unfold zw at c;obtain⟨p,_,rfl⟩:=iz.1 c
  grind[Nat.le_trans,qF,zA]
 ·rintro _ Y⟨C,F,int,I,nn,L,N,P,rfl,Q,R,S,p⟩;exact⟨_,_,_,_,rfl,aE 2 p.l,C,F,int,I,nn,L,N,P,rfl,Q,R,S,W.Qf p<|bM f⟩
theorem Rq(o:gR (hp w) g x)(j:jq g)(e:ec (hp w)):ρ 100 [.agg ⟨x.cells⟩] w (G6 Ro g w):=by
 refine Cb<|dZ o λX k p f q=>?_;intro l r;have m:Gr k l:=Gr.of_eq<|aW r;refine⟨λa=>Gr k a,m,_,_,_,_,_,_,_,_,_,_,_,_,_,λa g=>q.row g,G8.mono ?_⟩;rintro _ b⟨s,rfl,h⟩;have t:Gr l b:=aE 1 h.l;have a:=m.trans t;have v:aj (hp b) (Z s) _:=af 0 h.l;clear h;have c:Gr w b:=sub.trans p a;refine⟨_,_,_,rfl,λd=>Gr b d,Gr.refl _,λd g=>a.trans g,aI (i:=1) rfl V ⟨_,_,_,_,λd g=>(v.part 1 2).at g rfl,?_⟩⟩
 refine(Kk Lz LA rfl rfl (f.mono a) (dX.mono c e) (λd g=>Xc (f.mono<|a.trans g) j<|dX.mono (sub.trans c g) e) (λd g=>TP (f.mono<|a.trans g) j<|dX.mono (sub.trans c g) e) (λy z A d=>?_) λy z=>⟨MV,λA d=>?_⟩).mono ?_
 ·obtain⟨n,_,C⟩:=Vv d
  grind
 ·unfold CN at d;obtain⟨n,_,rfl⟩:=iz.1 d
  grind[Nat.le_trans,qF,zA]
 ·rintro _ Y⟨C,F,int,I,nn,L,N,P,rfl,Q,R,S,n⟩;exact⟨_,_,_,_,rfl,aE 2 n.l,C,F,int,I,nn,L,N,P,rfl,Q,R,S,W.Qf n<|bM c⟩
end
section
variable{g:B}{nn:At}{ss:List SQ}
theorem OR{b:nY}(h:b∈wq g ss):∃q m:Nat,q<ss.length/\m<g.prods.length/\b=⟨(q:Int),(m:Int),dK (b_ g ss).length (fA g ss q m)⟩/\dK (b_ g ss).length (fA g ss q m)≠[]:=by grind[wq,gM,zx,List.mem_singleton]
theorem LI{b:nY}(h:b∈wq g ss){t:Int}(a:t∈b.tr):∃j:Nat,t=j/\j<(b_ g ss).length:=by
 obtain⟨c,d,_,_,rfl,_⟩:=OR h;obtain⟨j,rfl,e,_⟩:=gL.1 a
 grind
theorem Vw(a:aw g)(c:bG g ss):(wq g ss).length<=24832/\∀b∈wq g ss,b.tr.length<=33280:=by
 refine⟨?_,λb d=>?_⟩
 ·have h:=Ee g ss ss.length;have e:=c.dn.2.1;obtain⟨i,j,f,_⟩:=a.cR;have k:ss.length*g.prods.length<=256*97:=Nat.mul_le_mul e f
  show(Ka g ss ss.length).length<=_
  omega
 ·obtain⟨e,f,_,_,rfl,_⟩:=OR d
  grind[Nat.le_trans,qF,zA]
def zB(b:qH):jg:=⟨b.1.1,b.1.2,b.2.2⟩
def oM(g:B)(fs:A7)(tr:Az)(a:At):Prop:=a.length=g.T/\∀y,bt a y=true↔y<g.T/\∃t∈tr,(y:Int)∈fs.getD t.toNat []
theorem oM.nil(a:g.T<=1024)(b:A7):oM g b [] (Aa (g.T:Int) []):=by
 have c:Mv (g.T:Int)=g.T:=D0 a;refine⟨by rw[NL,c],λd=>?_⟩;simp[Aa,fl,gE,j7]
theorem oM.snoc{a:A7}{b row:Az}{t:Int}{B:At}(h:oM g a b B)(c:a.getD t.toNat []=row):oM g a (b++[t]) (dw B row):=by
 refine⟨by rw[bF];exact h.1,λd=>?_⟩;rw[fl];unfold gE;rw[kj,jn,jV,h.2,h.1,List.contains_iff_mem]
 grind
open Classical in
theorem oM.row{a:A7}{b:nY}{B:At}(h:oM g a b.tr B):mh g a b=⟨b.st,b.prod,jC B⟩:=by
 unfold mh;rw[Vr,h.1];congr 1;refine Kh λc d=>?_;have:=h.2 c
 grind
theorem TQ:(dD g nn ss).length=(wq g ss).length:=by simp[dD]
end
section
variable{w:ga}{L:List aG}{g:B}{x:GA}
theorem zs(a1:gR (hp w) g x)(a2:jq g)(z:ec (hp w)):ρ 42 [.agg ⟨x.cells⟩] w λb d=>∃(ss:List SQ)(e int f:Int)(nn:At)(o:E)(c:Nat)(ds:List qH),b=.tuple #[T o ds.length c,O f]/\G2 g ss e int f/\(f=0->tC g nn)/\ds.map zB=dD g nn ss/\W d (own 3 o ds.length c (gY ds)::aT (C4 ds)::all w):=by
 refine Lw (dZ a1 λc2 aK n a3 A=>?_)
 have zero:∀{ss:List SQ}{e int f:Int}{d:ga},G2 g ss e int f->f≠0->Gr w d->∃(ss:List SQ)(h int b:Int)(nn:At)(o:E)(c:Nat)(ds:List qH),(.tuple #[D,O f]:ah)=.tuple #[T o ds.length c,O b]/\G2 g ss h int b/\(b=0->tC g nn)/\ds.map zB=dD g nn ss/\W d (own 3 o ds.length c (gY ds)::aT (C4 ds)::all w):=λ{ss e int f m} b d h=>by
  have i:=b.nil d;subst i;exact⟨[],e,int,f,[],none,0,[],rfl,b,λk=>absurd k d,rfl,aH 3<|(W.flat (M:=[])).2 (W.here h)⟩
 refine⟨_,_,_,_,_,_,_,_,_,_,_,_,_,A.row sZ,(Rq a3 a2<|dX.mono n z).mono ?_⟩;rintro _ a4⟨ss,aR,int,f,nn,o,c,aS,rfl,p,a5,C,F⟩;have i:Gr aK a4:=aE 2 F.l;refine⟨_,_,_,_,rfl,ae (λb=>zero p η<|n.trans i) λc3=>?_⟩;have aV:f=0:=η
 subst aV;obtain⟨I,a6⟩:=p.Sn rfl;have c4:=a5 rfl;have L:=wZ F;rw[C] at L;have b0:aS.length=(b_ g ss).length:=by have:=congrArg List.length C;grind[List.length_map,Ll]
 rw[b0] at L ⊢;have c5:=zA I a6;clear F C;refine⟨_,_,_,_,_,_,_,_,_,_,_,_,_,A.row i,(TM (a3.mono i) a2<|dX.mono (n.trans i) z).mono ?_⟩;rintro _ e⟨c6,c7,c8,c9,ca,cb,b1,rfl,b2,N,P⟩;have a7:Gr a4 e:=aE 2 P.l;obtain⟨_,b3,_,_,b4,_⟩:=p.one b2;subst b4;rw[<-Vo b3] at N;have Q:=JV P;rw[N] at Q;have b5:b1.length=(wq g ss).length:=G
 rw[b5] at Q ⊢;clear P N;obtain⟨bQ,b6⟩:=Vw I a6;obtain⟨cc,_⟩:=I.cR;have a8:=i.trans a7;have a9:Gr w e:=n.trans a8;have b7:=L.mono a7;have b9:=a1.t.1;refine⟨_,_,_,_,rfl,ae (λb=>η) λ_=>?_⟩
 refine⟨λo h c k m=>∃(d:Nat)(b:List qH),k=d/\d<=(wq g ss).length/\h=b.length/\b.map zB=((wq g ss).take d).map (mh g<|Ro g nn ss)/\W m (own 3 o h c (gY b)::aT (C4 b)::all e),λ_ _ _ b _=>(wq g ss).length-b.toNat,
  ⟨0,[],rfl,gu _,rfl,rfl,aH 3<|(W.flat (M:=[])).2 (W.all e)⟩,?_⟩
 rintro _ ba _ bb _ bc⟨q,d,rfl,cd,rfl,r,s⟩;have bd:sub (hp e) (hp bc):=aE 2 s.l;have ce:d.length=q:=by have:=congrArg List.length r;grind
 refine ae (λbe=>?_) λbe=>?_
 rotate_left
 ·have b:q=(wq g ss).length:=G
  rw[b,jl] at r;refine kM<|bZ (bJ s) ⟨_,_,_,rfl,ss,aR,int,0,nn,_,_,d,rfl,p,a5,r,?_⟩;have h:=cK s;exact W.Qf h (bM a9)
 have t:q<(wq g ss).length:=η
 obtain⟨b,cg,aa,ab,ac,rfl,bi,bl⟩:=Z_ Q t;have ad:=gg ac;have ch:=b6 b ad;refine aI rfl t ⟨_,_,_,_,_,bi.at bd rfl,ag s λR ci v=>aQ v rfl (by simp[aO]) λbo v=>?_⟩;have bs:sub (hp e) (hp bo):=aE 3 v.l;refine⟨_,_,_,A.c0<|sub.trans a8 bs,?_⟩;rw[<-b9];refine(WE (xs:=[]) (l:=0) (a:=none) (g.T:Int) bf.nil U).mono ?_;rintro _ ck⟨al,rfl,am⟩;have S:=am.fy v;clear am
 refine⟨_,rfl,_,_,_,(af 1 S.l).cell sZ (j:=2) rfl,λm y=>∃(h:Nat)(k:At),m=h/\h<=b.tr.length/\oM g (Ro g nn ss) (b.tr.take h) k/\W y (cZ (some ⟨al,0,none⟩) k::ax R [O b.st,O b.prod,T aa b.tr.length ab]::own 3 ba d.length bb (gY d)::aT (C4 d)::all e),λh _=>b.tr.length-h.toNat,
  ⟨0,_,rfl,gu _,oM.nil U _,S⟩,?_⟩
 clear S;rintro _ _ bu⟨X,h,rfl,cl,Y,a0⟩;have an:sub (hp e) (hp bu):=aE 4 a0.l
 refine ae (λbz=>?_) λbz=>?_
 ·have k:X<b.tr.length:=η
  obtain⟨bN,bO,m,ao,ap⟩:=bl.dy k;obtain⟨j,rfl,y⟩:=LI ad<|gg m;obtain⟨bP,bT,c0,c1,av,rfl,az,aB⟩:=Z9 b7 y;have cm:=(Vv (es:=CN g nn ss) (ow:=Vs g nn ss)<|gg av).1;refine au ao k ⟨_,ap _ an,au rfl y ⟨_,_,_,az _ an,(BB a0 (λcn bE=>aB.mono<|aE 3 bE) U).mono ?_⟩⟩;rintro _ cn⟨rfl,bE⟩;refine⟨_,rfl,ξ,⟨X+1,_,V,k,?_,bE⟩,bS k⟩;rw[cH m];exact Y.snoc η
 have bE:X=b.tr.length:=G
 rw[bE,jl] at Y;intro ao bN;have y:=a0.eq<|aW bN;have bO:aj (hp ao) (Z R) _:=af 1 y.l
 have bP:fm (hp ao) (some ⟨al,0,none⟩) h:=by
  obtain⟨ap,av,_,k,_,m,_⟩:=y;exact(Fk m).mono k
 refine⟨λk=>aj (hp k) (Z R) [O b.st,O b.prod,T aa b.tr.length ab],bO,_,λm k=>k.cell0 sZ,_,λm k=>k.cell sZ (j:=1) rfl,(Fl bP<|dX.mono (sub.trans a9<|aE 4 y.l) z).mono ?_⟩;rintro _ cm⟨k,m,rfl,ap⟩;have av:=ap.fy y;clear ap;refine⟨_,_,_,rfl,af 2 av.l,ag av λcn co az=>⟨af 3 az.l,?_⟩⟩;refine(aU (us:=gY d) aY (rfl:ai Ty _=.slice _) (rfl:ai Ty _=.slice _) rfl rfl rfl (az.pick 6 [0,4,1,2,3,5]) rfl (by simp[aO]) G U).mono ?_;rintro _ cp⟨cq,cs,rfl,aB⟩
 refine⟨_,_,_,rfl,af 4 aB.l,ξ,⟨q+1,d++[((b.st,b.prod),((k,m),jC h))],V,t,V,?_,?_⟩,bS t⟩
 ·rw[jI,r,iw,ac,jI]
  show _++[(⟨b.st,b.prod,jC h⟩:jg)]=_++[mh g (Ro g nn ss) b]
  rw[Y.row]
 ·have bT:gY (d++[((b.st,b.prod),((k,m),jC h))])=gY d++[O b.st,O b.prod,T k (bK h) m]:=by simp[gY,qk,cf,Dp]
  have c0:C4 (d++[((b.st,b.prod),((k,m),jC h))])=C4 d++[own 1 k (bK h) m (iv<|jC h)]:=by simp[C4,bU,Dp]
  rw[bT,c0];have c1:=W.snoc<|aB.pick 6 [2,5,0,1,3,4];exact c1.pick 6 [1,0,5]
end
section
instance:tV jg:={ n:=3,rd:=λh x vs=>∃(a:E)(c:Nat),vs=[O x.st,O x.prod,T a x.tm.length c]/\bf h x.tm a x.tm.length,mono:=λs ⟨a,c,e,r⟩=>⟨a,c,e,r.mono s⟩,len:=λ⟨_,_,e,_⟩=>by simp_all }
open Classical in
section
variable{g:B}{ss:List SQ}
theorem MW{q m:Nat}{b:nY}(h:b∈zx g ss q m):b=⟨(q:Int),(m:Int),dK (b_ g ss).length (fA g ss q m)⟩/\dK (b_ g ss).length (fA g ss q m)≠[]:=by simp_all[zx]
theorem MX{q j:Nat}{b:nY}:b∈gM g ss q j↔∃m,m<j/\dK (b_ g ss).length (fA g ss q m)≠[]/\b=⟨(q:Int),(m:Int),dK (b_ g ss).length (fA g ss q m)⟩:=by
 unfold gM;rw[lR]
 constructor
 ·grind[MW]
 ·rintro⟨m,a,c,rfl⟩;refine⟨m,jY.2 a,?_⟩
  simp_all[zx]
theorem Kl(q:Nat):∀j,qE ((gM g ss q j).map (·.prod))
 |0=>by simp[gM,qE]
 |j+1=>by
  rw[CO,jI]
  unfold qE
  rw[List.pairwise_append]
  refine⟨Kl q j,?_,λa ha b hb=>?_⟩
  ·unfold zx
   split<;>simp
  ·obtain⟨x,hx,rfl⟩:=iz.1 ha
   obtain⟨y,hy,rfl⟩:=iz.1 hb
   obtain⟨m,hm,_,rfl⟩:=MX.1 hx
   obtain⟨rfl,_⟩:=MW hy
   simp_all
end
inductive LU (g:B) (ss:List SQ):Nat->Nat->Prop
 |now (j x:Nat):x<g.T->(dt ss j (x:Int)).isSome->LU g ss j x
 |via (j k x:Nat) (s:Int):(g.T:Int)<=s->TB g s->dt ss j s=some (k:Int)->LU g ss k x->LU g ss j x
section
variable{g:B}{nn:At}{ss:List SQ}
theorem LJ{n m:Nat}{p:aD}(hp:g.prods[n]? =some p):nS g ⟨(n:Int),(m:Int)⟩=p.right.getD m (-1):=by simp_all[yC]
theorem e_{n m:Nat}{p:aD}{s:Int}(hp:g.prods[n]? =some p)(a:p.right[m]? =some s):nS g ⟨(n:Int),(m:Int)⟩=s:=by simp_all[LJ]
theorem zt(a:aw g){s:Int}(h:TB g s):(g.T:Int)<=s/\s<g.T+g.N:=by
 cases h with
 |mk b hp _=>exact(EP<|.inr a).1 b hp|>.1
theorem Eg(a:tC g nn){s:Int}(h:(g.T:Int)<=s):Ba g nn s=true↔TB g s:=by
 unfold Ba;rw[kG h,oJ,a.2,show((g.T+(s.toNat-g.T):Nat):Int)=s by omega]
theorem Rr(c:aw g)(a:tC g nn){row:Az}:HX g nn row=true↔W3 g row:=by
 unfold HX W3;rw[mE];refine forall_congr' λd=>forall_congr' λ_=>⟨λb=>(Eg a<|OP b).1 b,λb=>(Eg a (zt c b).1).2 b⟩
theorem LU.along(hc:aw g)(hA:bG g ss){n x:Nat}{p:aD}(hp:g.prods[n]? =some p):∀(d m j:Nat)(q:SQ),ss[j]? =some q->wS g q.1.2 ⟨(n:Int),(m:Int)⟩->m+d<=p.right.length->(∀y∈(p.right.drop m).take d,TB g y)->
  (∀(k:Nat)(r:SQ),ss[k]? =some r->wS g r.1.2 ⟨(n:Int),((m+d:Nat):Int)⟩->LU g ss k x)->LU g ss j x
 |0,m,j,q,hq,hy,_,_,h=>h j q hq hy
 |d+1,m,j,q,hq,hy,hm,hn,h=>by
  have hlt:m<p.right.length:=U
  have hgs:p.right[m]? =some p.right[m]:=gn hlt
  rw[vH hlt,List.take_succ_cons] at hn
  have hnu:=hn _ List.mem_cons_self
  have hge:=zt hc hnu
  obtain⟨k,r,h1,h2,h3⟩:=nF hc hA hq hy (e_ hp hgs) U
  refine .via j k x _ hge.1 hnu h1 (LU.along hc hA hp d (m+1) k r h2 (.base η) U (λy hy=>hn y (ou _ hy)) ?_)
  grind
theorem LU.afJ(a:aw g)(b:bG g ss){s:Int}{x:Nat}(h:W2 g s x):∀(n m j:Nat)(p:aD)(q:SQ),g.prods[n]? =some p->p.right[m]? =some s->ss[j]? =some q->wS g q.1.2 ⟨(n:Int),(m:Int)⟩->LU g ss j x:=by
 induction h with
 |tm c d=>
  intro n m j p q hp e f i;obtain⟨k,l,o,_⟩:=nF a b f i (e_ hp e)<|kF _;exact .now j c d η
 |pr e f s t c i v w z=>
  intro n m j p q hp A k l;obtain⟨o,d⟩:=jR c;have C:=((EP<|.inr a).1 e c).1;have F:=(gJ.1 i).1;have r:wS g q.1.2 ⟨(o:Int),((0:Nat):Int)⟩:=.step (y:=⟨(n:Int),(m:Int)⟩) l (by grind[e_]) d (by grind[e_]);refine LU.along a b d f 0 j q k r U η λI L N P=>?_
  grind
theorem LU.afK(b:aw g)(c:bG g ss){n m j x:Nat}{p:aD}{q:SQ}(hp:g.prods[n]? =some p)(e:ss[j]? =some q)(f:wS g q.1.2 ⟨(n:Int),(m:Int)⟩)(h:wo g (p.right.drop m) x):LU g ss j x:=by
 obtain⟨d,t,a,i,k⟩:=h;rw[kI] at a;have v:=(gJ.1 a).1;exact LU.along b c hp d m j q e f U i λl o r s=>LU.afJ b c k n (m+d) l p o hp a r s
def rest(g:B)(y:aq):Az:=match g.prods[y.prod.toNat]? with
 |some p=>p.right.drop y.dot.toNat
 |none=>[]
theorem zC{y:aq}(h:0<=nS g y):∃p,g.prods[y.prod.toNat]? =some p/\p.right[y.dot.toNat]? =some (nS g y)/\rest g y=nS g y::p.right.drop (y.dot.toNat+1):=by
 unfold nS at h ⊢;unfold rest;cases hp:g.prods[y.prod.toNat]? with
 |none=>simp_all
 |some p=>
  rw[hp] at h;simp only at h ⊢;have a:y.dot.toNat<p.right.length:=G
  simp_all
theorem wo.head{s:Int}{l:Az}{x:Nat}(h:W2 g s x):wo g (s::l) x:=⟨0,s,rfl,V,h⟩
theorem wo.skip{s:Int}{l:Az}{x:Nat}(h:TB g s)(a:wo g l x):wo g (s::l) x:=by
 obtain⟨b,c,d,f,e⟩:=a;refine⟨b+1,c,d,λi j=>?_,e⟩
 grind
theorem wo.left{p:aD}{x:Nat}(hp:p∈g.prods)(h:wo g p.right x):W2 g p.left x:=by
 obtain⟨a,b,c,d,e⟩:=h;exact .pr p a b x hp c d e
theorem Vx{I:List aq}{y:aq}(h:wS g I y):∀x,wo g (rest g y) x->∃z∈I,wo g (rest g z) x:=by
 induction h with
 |base a=>grind
 | @step y b c l d e f i=>
  intro x a;obtain⟨m,_,_,j⟩:=zC d;refine i x ?_;rw[j,<-f];have k:rest g ⟨(b:Int),0⟩=c.right:=by simp_all[rest]
  rw[k] at a;exact .head (a.left<|gg e)
theorem LU.item(a:aw g)(b:bG g ss){j x:Nat}(h:LU g ss j x):∀q,ss[j]? =some q->∃z∈q.1.2,wo g (rest g z) x:=by
 induction h with
 |now j x d c=>
  intro q e;obtain⟨m,n,_⟩:=a.cR;rw[u4 b e U] at c;have f:=gZ c;obtain⟨z,i⟩:=oZ _ f;obtain⟨y,k,c,_⟩:=dh.1 i;refine Vx k x ?_;obtain⟨_,_,_,l⟩:=zC (y:=y) (by rw[c];omega);rw[l,c];exact .head (.tm x d)
 |via j l x Q R m n S o=>
  intro q c;obtain⟨X,Y,a0,d,p,r,s⟩:=j8 n;rw[c] at d;cases d;obtain⟨_,_,t,v,w,_,A,C,_⟩:=dj a b c p;rw[s] at w;have F:l=t:=U
  subst F;obtain⟨z,e,f⟩:=o v A;rw[C,r] at e;obtain⟨y,i,k,rfl⟩:=dh.1 e;refine Vx i x ?_;obtain⟨I,hp,_,L⟩:=zC (y:=y) (by rw[k];omega);rw[L,k];refine .skip m ?_;unfold rest at f;rw[show g.prods[((⟨y.prod,y.dot+1⟩:aq).prod).toNat]? =some I from hp] at f;obtain⟨a1,a2,a3,a4,_,_⟩:=a.cR;have N:=(iO b c).1;have P:=i.fit<|(ik (g:=g) U j).fit _ (gg N);have a5:(y.dot+1).toNat=y.dot.toNat+1:=by have:=P.2.1;omega
  simp_all
end
section
variable{g:B}{nn:At}{ss:List SQ}
theorem LL{v:Nat}{t:aJ}(a:(b_ g ss)[v]? =some t):(xM g ss).getD v []=lz g ss t:=by simp_all[xM]
theorem zy{n:Nat}{f:Nat->Nat->Bool}{v m:Nat}:m∈En ((List.range n).map λa=>dK n (f a)) v↔v<n/\m<n/\f v m=true:=by
 unfold En;rw[jX]
 by_cases a:v<n
 ·rw[iE,pC a];simp only[oI,Option.getD_some,iz]
  constructor
  ·rintro⟨c,b,rfl⟩;obtain⟨d,rfl,e,g⟩:=gL.1 b
   simp_all
  ·rintro⟨_,b,c⟩;exact⟨(m:Int),gL.2 ⟨m,rfl,b,c⟩,rfl⟩
 grind
theorem zz{v m:Nat}:m∈En (zw g nn ss) v↔v<(b_ g ss).length/\m<(b_ g ss).length/\mf g nn ss v m=true:=zy
theorem zJ{v m:Nat}:m∈En (CN g nn ss) v↔v<(b_ g ss).length/\m<(b_ g ss).length/\D_ g nn ss v m=true:=zy
theorem CR{v:Nat}{t:aJ}(b:aw g)(c:bG g ss)(d:(b_ g ss)[v]? =some t):∃(i j:Nat)(q r:SQ),t.st=i/\ss[i]? =some q/\(g.T:Int)<=t.sym/\dt ss i t.sym=some (j:Int)/\1<=j/\ss[j]? =some r/\r.1.2=bI g q.1.2 t.sym:=by
 obtain⟨i,q,m,n,o,a,e,f,rfl⟩:=me<|gg d;obtain⟨_,_,j,r,p,h,k,l,_⟩:=dj b c a e;exact⟨i,j,q,r,rfl,a,f,by grind[zr],h,k,l⟩
theorem zL{i:Nat}{s j:Int}(h:dt ss i s=some j)(a:(g.T:Int)<=s):∃v:Nat,(b_ g ss)[v]? =some ⟨(i:Int),s⟩:=by
 obtain⟨d,e,f,b,c,rfl,_⟩:=j8 h;exact⟨_,Tz b c a⟩
theorem OS(c:aw g)(a:bG g ss){v i j x:Nat}{t:aJ}(d:(b_ g ss)[v]? =some t)(hi:t.st=i)(e:dt ss i t.sym=some (j:Int)):(x:Int)∈(xM g ss).getD v []↔(t=⟨0,g.start⟩/\x=0)\/(x<g.T/\(dt ss j (x:Int)).isSome):=by
 have n:=c.cR;obtain⟨f,h,q,k,o,p,r,l,s,b,_⟩:=CR c a d;have:f=i:=U
 subst this;rw[e] at l;have:j=h:=G
 subst this;rw[LL d,J3 (j:=j) (q:=k) η b,iU,ZV a b,iz]
 refine or_congr ?_ ?_
 ·simp[pH]
 ·constructor
  ·grind[u4]
  ·rintro⟨w,m⟩;rw[u4 a b U] at m
   grind
theorem LU.has(k:aw g)(l:bG g ss)(m:tC g nn){j x:Nat}(h:LU g ss j x):∀(v i:Nat) t,(b_ g ss)[v]? =some t->t.st=i->dt ss i t.sym=some (j:Int)->iS (zw g nn ss) (xM g ss) v x:=by
 induction h with
 |now j x a b=>grind[iS.iff,OS]
 |via j n x o d p a q e=>
  intro v i t f r s;obtain⟨b,c⟩:=zL (g:=g) a d;refine iS.iff.2 (.inr ⟨b,zz.2 ⟨(gJ.1 f).1,(gJ.1 c).1,?_⟩,e b j _ c rfl a⟩)
  simp_all[mf,Eg]
theorem LM{v b:Nat}{t:aJ}(c:(b_ g ss)[v]? =some t)(h:b∈En (zw g nn ss) v):∃a,(b_ g ss)[b]? =some a/\dt ss t.st.toNat t.sym=some a.st/\Ba g nn a.sym=true:=by
 obtain⟨_,a,d⟩:=zz.1 h
 simp_all[b_,mf]
theorem LP(b:aw g)(c:bG g ss)(p:tC g nn){v x:Nat}(h:iS (zw g nn ss) (xM g ss) v x):∀(i j:Nat) t,(b_ g ss)[v]? =some t->t.st=i->dt ss i t.sym=some (j:Int)->(t=⟨0,g.start⟩/\x=0)\/LU g ss j x:=by
 refine iS.least (Q:=λv x=>∀(i j:Nat) t,(b_ g ss)[v]? =some t->t.st=i->dt ss i t.sym=some (j:Int)->(t=⟨0,g.start⟩/\x=0)\/LU g ss j x) (λv x q i j t a d e=>?_) (λv I x r s i j t a d e=>?_) h
 ·rcases(OS b c a d e).1 q with h|⟨f,k⟩
  ·simp_all
  ·exact .inr (.now j x f k)
 ·obtain⟨k,l,w,y⟩:=LM a r;obtain⟨f,m,_,_,z,_,n,o,_⟩:=CR b c l;rw[d,je,e] at w;have A:f=j:=G
  subst A
  rcases s f m k l z o with⟨rfl,_⟩|C
  ·obtain⟨F,L,_,_,N,_,_,P,R,_⟩:=CR b c a;have:F=i:=U
   grind
  ·exact .inr (.via f m x k.sym n ((Eg p n).1 y) o C)
theorem TR{v:Nat}(a:v<(b_ g ss).length):(Vs g nn ss).getD v []=tG (zw g nn ss) (xM g ss) v:=by simp_all[Vs,Kg,Ki]
theorem zN{v:Nat}(a:v<(b_ g ss).length):(Ro g nn ss).getD v []=tG (CN g nn ss) (Vs g nn ss) v:=by simp_all[Ro,Kg,Kj]
end
section
variable{g:B}{nn:At}{ss:List SQ}{w w':ga}{v:ah}{a i f:Int}
theorem LR(c:aw g)(d:bG g ss){v x:Nat}(h:iS (zw g nn ss) (xM g ss) v x):x<g.T:=by
 refine iS.least (Q:=λ_ x=>x<g.T) (λv x a=>?_) (λ_ _ _ _ h=>h) h
 by_cases b:v<(xM g ss).length
 ·rw[jX,gn b] at a;have:=(Vu c d<|pL b).2.2 _ a;omega
 simp_all
theorem Rs{a:A7}{b:nY}{z:Int}:z∈(mh g a b).tm↔∃x:Nat,z=x/\x<g.T/\∃t∈b.tr,(x:Int)∈a.getD t.toNat []:=by simp[mh,gL]
theorem Xd{a:A7}{b:nY}:qE (mh g a b).tm:=u5 _ _
theorem LV{a:A7}{b:nY}:(mh g a b).tm.length<=g.T:=qF _ _
end
section
variable{n k i j:Nat}{f f0:Nat->Az}{L:List aG}{A:aG}{w w' w0:ga}
theorem LX{l:Az}(h:qE l):l.Nodup:=ot.2 (h.imp λh e=>U)
theorem TS{l:Az}{B:Nat}(h:qE l)(a:∀z∈l,0<=z/\z<B):l.length<=B:=by
 have d:l=dK B λb=>decide ((b:Int)∈l):=by
  refine OI h (u5 _ _) λz=>?_;rw[gL]
  constructor
  ·intro c;have:=a z c;exact⟨z.toNat,U,U,G⟩
  simp_all
 grind[qF]
end
section
variable{α:Type}{k:α->Int}{l m:List α}
abbrev oD(k:α->Int)(l:List α):Prop:=l.Pairwise λx y=>k x<=k y
theorem mi:oD k (l++m)↔oD k l/\oD k m/\∀x∈l,∀y∈m,k x<=k y:=List.pairwise_append
theorem L1(h:oD k l){z:α}(a:l.getLast? =some z):∀x∈l,k x<=k z:=λx c=>by
 obtain⟨d,b⟩:=jR c
 rw[sw] at a
 have e:=(gJ.1 b).1
 by_cases f:d=l.length-1
 ·simp_all
 ·obtain⟨g,rfl⟩:=gJ.1 b
  obtain⟨i,rfl⟩:=gJ.1 a
  grind[List.pairwise_iff_getElem]
theorem L2(h:oD k l){z:α}(a:l.head? =some z):∀x∈l,k z<=k x:=λx b=>by
 cases l with
 |nil=>grind
 |cons c l=>
  cases a
  rcases jb.1 b with rfl|d
  ·omega
  simp_all
theorem Ao(c:oD k l)(d:oD k m)(h:∀x y,l.getLast? =some x->m.head? =some y->k x<=k y):∀x∈l,∀y∈m,k x<=k y:=λx a y b=>by
 obtain⟨i,e⟩:∃f,l.getLast? =some f:=⟨_,List.getLast?_eq_some_getLast<|List.ne_nil_of_mem a⟩
 obtain⟨j,f⟩:∃g,m.head? =some g:=⟨_,List.head?_eq_some_head<|List.ne_nil_of_mem b⟩
 have g:=L1 c e x a
 have n:=L2 d f y b
 grind
theorem TT{a b c d S1 S2:List α}(e:oD k (a++b))(f:oD k (c++d))(g:∀x y,a.getLast? =some x->d.head? =some y->k x<=k y)(h:∀x y,c.getLast? =some x->b.head? =some y->k x<=k y)
  (i:S1.Perm (a++c)) (j:oD k S1) (l:S2.Perm (b++d)) (m:oD k S2):oD k (S1++S2)/\(S1++S2).Perm ((a++b)++(c++d)):=by
 obtain⟨n,o,r⟩:=mi.1 e;obtain⟨p,q,s⟩:=mi.1 f;have t:=Ao n q g;have v:=Ao p o h
 refine⟨mi.2 ⟨j,m,λx w y z=>?_⟩,?_⟩
 ·grind
 ·refine(i.append l).trans ?_
  grind[List.append_assoc,List.Perm.append_left,List.Perm.append_right,List.perm_append_comm]
theorem OT{a b:List α}{x:α}(g:oD k (a++b))(i:∀y,a.getLast? =some y->k y<=k x)(j:∀y,b.head? =some y->k x<=k y):oD k (a++x::b):=by
 obtain⟨d,e,n⟩:=mi.1 g
 refine mi.2 ⟨d,my.2 ⟨λy c=>?_,e⟩,λy c f h=>?_⟩
 ·exact Ao (l:=[x]) (List.pairwise_singleton _ _) e (λo p q r=>η) x V y c
 ·rcases jb.1 h with rfl|o
  ·exact Ao d (m:=[f]) (List.pairwise_singleton _ _) (λp q r s=>η) y c f V
  simp_all
theorem Eh{P M Q:List α}{x y:α}{i j:Nat}(hi:i=P.length)(a:j=P.length+1+M.length):((P++x::(M++y::Q)).set i y).set j x=P++y::(M++x::Q):=by
 subst hi a
 grind
theorem wB{P Q:List α}{x:α}{i:Nat}(hi:i=P.length):(P++x::Q)[i]? =some x:=η
end
structure aF where
 kind:Int
 to:Int
deriving DecidableEq
instance:Inhabited aF:=⟨⟨0,0⟩⟩
structure jv where
 st:Int
 tm:Int
deriving DecidableEq
structure cW where
 st:Int
 tm:Int
 acts:List aF
deriving DecidableEq
instance:Inhabited cW:=⟨⟨0,0,[]⟩⟩
section
variable{g:B}{nn:At}{ss ss':List SQ}{α:Type}
def Vy(ss:List SQ)(q t:Nat):List aF:=match dt ss q (t:Int) with
 |some j=>[⟨1,j⟩]
 |none=>[]
def Xe(ss:List SQ)(q t:Nat):List aF:=match ss[q]? with
 |some r=>if t=0/\(⟨0,1⟩:aq)∈r.1.2 then[⟨3,0⟩] else[]
 |none=>[]
def Ps(ls:List jg)(q t:Nat):List aF:=(ls.filter λl=>decide (l.st=(q:Int))&&decide ((t:Int)∈l.tm)).map λl=>⟨2,l.prod⟩
noncomputable def fe(g:B)(nn:At)(ss:List SQ)(q t:Nat):List aF:=Vy ss q t++Xe ss q t++Ps (dD g nn ss) q t
noncomputable def oO(g:B)(nn:At)(ss:List SQ)(least q t:Nat):List cW:=if least<=(fe g nn ss q t).length then[⟨(q:Int),(t:Int),fe g nn ss q t⟩] else[]
noncomputable def sA(g:B)(nn:At)(ss:List SQ)(least q n:Nat):List cW:=(List.range n).flatMap (oO g nn ss least q)
noncomputable def nZ(g:B)(nn:At)(ss:List SQ)(least n:Nat):List cW:=(List.range n).flatMap λq=>sA g nn ss least q g.T
noncomputable def n_(g:B)(nn:At)(ss:List SQ)(least:Nat):List cW:=nZ g nn ss least ss.length
theorem wC{least q n:Nat}:sA g nn ss least q (n+1)=sA g nn ss least q n++oO g nn ss least q n:=by simp[sA,k8]
theorem CS{least n:Nat}:nZ g nn ss least (n+1)=nZ g nn ss least n++sA g nn ss least n g.T:=by simp[nZ,k8]
abbrev Gd:=List (jv×aF)
def sB(g:B)(q:Nat)(es:List aN):Gd:=(es.filter λe=>decide (e.sym<(g.T:Int))).map λe=>(⟨(q:Int),e.sym⟩,⟨1,e.to⟩)
def zD(q:Nat)(K:List aq):Gd:=if(⟨0,1⟩:aq)∈K then[(⟨(q:Int),0⟩,⟨3,0⟩)] else[]
def G9(g:B)(ss:List SQ)(q:Nat):Gd:=match ss[q]? with
 |some r=>sB g q r.2.2++zD q r.1.2
 |none=>[]
def qI(g:B)(ss:List SQ)(n:Nat):Gd:=(List.range n).flatMap (G9 g ss)
def zE(l:jg)(n:Nat):Gd:=(l.tm.take n).map λt=>(⟨l.st,t⟩,⟨2,l.prod⟩)
def u9(ls:List jg)(n:Nat):Gd:=(ls.take n).flatMap λl=>zE l l.tm.length
theorem Km{n:Nat}:qI g ss (n+1)=qI g ss n++G9 g ss n:=by simp[qI,k8]
theorem Kn{q:Nat}{es:List aN}{e:aN}:sB g q (es++[e])=if e.sym<(g.T:Int) then sB g q es++[(⟨(q:Int),e.sym⟩,⟨1,e.to⟩)] else sB g q es:=by grind[sB]
theorem TU{l:jg}{n:Nat}{t:Int}(h:l.tm[n]? =some t):zE l (n+1)=zE l n++[(⟨l.st,t⟩,⟨2,l.prod⟩)]:=by simp_all[zE,iw]
theorem Ko{ls:List jg}{n:Nat}{l:jg}(h:ls[n]? =some l):u9 ls (n+1)=u9 ls n++zE l l.tm.length:=by simp_all[u9,iw]
def K7(ps:Gd)(p:jv):List aF:=(ps.filter λx=>decide (x.1=p)).map (·.2)
theorem Iw{ps a:Gd}{p:jv}:K7 (ps++a) p=K7 ps p++K7 a p:=by simp[K7]
theorem Kp{ps:Gd}{p:jv}(h:∀x∈ps,x.1≠p):K7 ps p=[]:=by grind[K7,List.filter_eq_nil_iff]
theorem Rt{β:Type}{l:List β}{f:β->Gd}{p:jv}:K7 (l.flatMap f) p=l.flatMap λa=>K7 (f a) p:=by
 induction l with
 |nil=>rfl
 |cons b l c=>simp_all[Iw]
theorem Ru{f:Nat->List α}{q:Nat}(h:∀i,i≠q->f i=[]):∀n,q<n->(List.range n).flatMap f=f q
 |0,hq=>U
 |n+1,hq=>by
  rw[k8,kr]
  by_cases e:q=n
  ·grind[List.range,List.flatMap_eq_nil_iff]
  ·rw[Ru h n U]
   grind
theorem Mr{q:Nat}{r:SQ}{s:Int}(a:ss[q]? =some r):dt ss q s=(r.2.2.find? λb=>decide (b.sym=s)).map (·.to):=uZ a s
theorem MY:∀{es:List aN}{s:Int},(es.map (·.sym)).Nodup->(es.filter λe=>decide (e.sym=s))=(es.find? λe=>decide (e.sym=s)).toList
 |[],s,_=>rfl
 |e::es,s,h=>by
  rw[kn,kN] at h
  by_cases he:e.sym=s
  ·simp_all
  ·rw[List.filter_cons_of_neg η,List.find?_cons_of_neg η]
   exact MY h.2
theorem NG(hA:bG g ss){q t:Nat}{r:SQ}(hr:ss[q]? =some r)(ht:t<g.T):K7 (sB g q r.2.2) ⟨(q:Int),(t:Int)⟩=Vy ss q t:=by
 unfold Vy;rw[Mr hr];have u:=FW hA hr;unfold K7 sB;rw[List.filter_map,List.filter_filter,nQ];have e:(r.2.2.filter λe=>(((λx:jv×aF=>decide (x.1=⟨(q:Int),(t:Int)⟩))∘λe:aN=>((⟨(q:Int),e.sym⟩:jv),(⟨1,e.to⟩:aF))) e)&&decide (e.sym<(g.T:Int)))=r.2.2.filter λe=>decide (e.sym=(t:Int)):=G
 rw[e,MY u];cases r.2.2.find? λe=>decide (e.sym=(t:Int)) with
 |none=>rfl
 |some e=>rfl
theorem N4(d:bG g ss){q t:Nat}{r:SQ}(b:ss[q]? =some r)(e:t<g.T):K7 (G9 g ss q) ⟨(q:Int),(t:Int)⟩=Vy ss q t++Xe ss q t:=by
 unfold G9 Xe;rw[b]
 show K7 (sB g q r.2.2++zD q r.1.2) _=_
 rw[Iw,NG d b e];congr 1
 show _=if t=0/\(⟨0,1⟩:aq)∈r.1.2 then[(⟨3,0⟩:aF)] else[]
 unfold zD
 by_cases a:(⟨0,1⟩:aq)∈r.1.2
 ·rw[gD a]
  by_cases c:t=0
  ·subst c;rw[gD ⟨rfl,a⟩];simp[K7]
  ·rw[gv (λf=>c f.1)];grind[Kp]
 ·rw[gv a,gv (λc=>a c.2)];rfl
theorem N_{q:Nat}{x:jv×aF}(h:x∈G9 g ss q):x.1.st=(q:Int):=by
 unfold G9 at h
 split at h
 ·rcases iU.1 h with h|h
  ·unfold sB at h
   grind
  simp_all[zD]
 simp_all
theorem Ob(d:bG g ss){q t:Nat}(a:q<ss.length)(e:t<g.T):K7 (qI g ss ss.length) ⟨(q:Int),(t:Int)⟩=Vy ss q t++Xe ss q t:=by
 unfold qI;rw[Rt,Ru (q:=q) (λf b=>Kp λh c i=>b (by have:=N_ c;grind)) _ a]
 simp_all[N4]
theorem Od{l:jg}{q t:Nat}(d:qE l.tm):K7 (zE l l.tm.length) ⟨(q:Int),(t:Int)⟩=if l.st=(q:Int)/\(t:Int)∈l.tm then[⟨2,l.prod⟩] else[]:=by
 unfold K7 zE;rw[jl,List.filter_map,nQ]
 by_cases a:l.st=(q:Int)/\(t:Int)∈l.tm
 ·rw[gD a]
  have e:(l.tm.filter<|(λb:jv×aF=>decide (b.1=⟨(q:Int),(t:Int)⟩))∘λt=>((⟨l.st,t⟩:jv),(⟨2,l.prod⟩:aF)))=[(t:Int)]:=by
   have f:∀{l:Az},l.Nodup->(t:Int)∈l->(l.filter λb=>decide (b=(t:Int)))=[(t:Int)]:=by
    intro l
    induction l with
    |nil=>simp
    |cons b l g=>
     intro c h;obtain⟨i,j⟩:=kN.1 c
     by_cases k:b=(t:Int)
     ·grind[List.filter_cons_of_pos,List.filter_eq_nil_iff]
     grind
   grind[LX,List.filter_congr,decide]
  simp_all
 ·rw[gv a,tJ.2 λb c=>?_];rfl
  grind
theorem Oe{ls:List jg}{q t:Nat}(a:∀l∈ls,qE l.tm):K7 (u9 ls ls.length) ⟨(q:Int),(t:Int)⟩=Ps ls q t:=by
 unfold u9 Ps;rw[jl,Rt]
 induction ls with
 |nil=>rfl
 |cons l ls b=>
  rw[lC,Od<|a l V,b λl c=>a l G]
  grind
theorem Rv{k:α->Int}:∀{l m:List α},l.Perm m->(l.Pairwise λx y=>k x<k y)->(m.Pairwise λx y=>k x<k y)->l=m
 |[],m,p,_,_=>(p.symm.eq_nil).symm
 |a::l,[],p,_,_=>absurd p.eq_nil V
 |a::l,b::m,p,hl,hm=>by
  obtain⟨h1,h2⟩:=my.1 hl
  obtain⟨h3,h4⟩:=my.1 hm
  have e:a=b:=G
  subst e
  rw[Rv ((List.perm_cons a).1 p) h2 h4]
theorem MZ(q:Nat):((dD g nn ss).filter λa=>decide (a.st=(q:Int))).Pairwise λb c=>b.prod<c.prod:=by
 have d:∀a,((Ka g ss a).filter λe=>decide (e.st=(q:Int)))=if q<a then gM g ss q g.prods.length else[]:=by
  intro e
  induction e with
  |zero=>rfl
  |succ a f=>
   rw[Gb,lX,f];have i:∀h∈gM g ss a g.prods.length,h.st=(a:Int):=λj h=>by obtain⟨k,_,_,rfl⟩:=MX.1 h;rfl
   by_cases j:q=a
   ·simp_all
   ·have:((gM g ss a g.prods.length).filter λh=>decide (h.st=(q:Int)))=[]:=tJ.2 λh k=>G
    grind
 have e:=d ss.length
 have f:((dD g nn ss).filter λa=>decide (a.st=(q:Int)))=(((wq g ss).filter λa=>decide (a.st=(q:Int)))).map (mh g<|Ro g nn ss):=by
  unfold dD;rw[List.filter_map];rfl
 rw[f,lF]
 show List.Pairwise _ ((Ka g ss ss.length).filter _)
 rw[e]
 by_cases h:q<ss.length
 ·rw[gD h];have a:=Kl (g:=g) (ss:=ss) q g.prods.length;unfold qE at a;rw[lF] at a;exact a
 simp_all[gv]
theorem Oh{ls:List jg}(p:ls.Perm (dD g nn ss))(h:oD (·.prod) ls)(q t:Nat):Ps ls q t=Ps (dD g nn ss) q t:=by
 have a:∀b:List jg,Ps b q t=((b.filter λc=>decide (c.st=(q:Int))).filter λc=>decide ((t:Int)∈c.tm)).map λc=>⟨2,c.prod⟩:=λd=>by simp[Ps,List.filter_filter,Bool.and_comm]
 rw[a,a];congr 2;have hp:=p.filter λb=>decide (b.st=(q:Int));have c:=MZ (g:=g) (nn:=nn) (ss:=ss) q;refine Rv (k:=(·.prod)) hp ?_ c;have d:(ls.filter λb=>decide (b.st=(q:Int))).Pairwise λb e=>b.prod<=e.prod:=List.Pairwise.filter _ h;have b:((ls.filter λe=>decide (e.st=(q:Int))).map (·.prod)).Nodup:=G
 rw[ot,lF] at b;exact d.imp₂ (λ_ _ e f=>U) b
theorem Oz(a:bG g ss){ls:List jg}(p:ls.Perm (dD g nn ss))(h:oD (·.prod) ls){q t:Nat}(b:q<ss.length)(c:t<g.T):K7 (qI g ss ss.length++u9 ls ls.length) ⟨(q:Int),(t:Int)⟩=fe g nn ss q t:=by
 rw[Iw,Ob a b c,Oe,Oh p h]
 ·rfl
 ·intro e d;obtain⟨f,_,rfl⟩:=iz.1<|p.mem_iff.1 d;exact Xd
end
structure dO where
 df:Az
 ac:gk
 tg:Az
 gt:gk
abbrev Ix:=E×Nat×Nat
abbrev gN(x:Ix):ah:=T x.1 x.2.1 x.2.2
structure PA where
 d:Ix
 a1:Ix
 a2:Ix
 a3:Ix
 t:Ix
 g1:Ix
 g2:Ix
 g3:Ix
def PA.cells(x:PA):Ay:=[gN x.d,gN x.a1,gN x.a2,gN x.a3,gN x.t,gN x.g1,gN x.g2,gN x.g3]
structure Xf(h:Hp)(p:dO)(x:PA):Prop where
 d:bf h p.df x.d.1 x.d.2.1
 a:rI h p.ac x.a1.1 x.a1.2.1 x.a2.1 x.a2.2.1 x.a3.1 x.a3.2.1
 t:bf h p.tg x.t.1 x.t.2.1
 g:rI h p.gt x.g1.1 x.g1.2.1 x.g2.1 x.g2.2.1 x.g3.1 x.g3.2.1
theorem Xf.mono{h h':Hp}{p:dO}{x:PA}(s:sub h h')(r:Xf h p x):Xf h' p x:=⟨r.d.mono s,r.a.mono s,r.t.mono s,r.g.mono s⟩
def OU(v:Int):aF:=if 0<v then⟨1,v-1⟩ else if v< -1 then⟨2,-1-v⟩ else if v<0 then⟨3,0⟩ else⟨4,0⟩
def bB(p:dO)(q t:Int):aF:=match atR p.ac q t with
 |some v=>OU v
 |none=>if 0<=q/\q<p.df.length/\0<p.df.getD q.toNat 0 then⟨2,p.df.getD q.toNat 0⟩ else⟨0,0⟩
def cD(p:dO)(q n:Int):Int:=match atR p.gt n q with
 |some v=>v
 |none=>if 0<=n/\n<p.tg.length then p.tg.getD n.toNat 0 else-1
theorem OB{r:gk}{B:Int}(b:∀x∈r.vs,-B<=x/\x<=B)(h0:0<=B){row a v:Int}(h:atR r row a=some v):-B<=v/\v<=B:=by
 unfold atR at h
 split at h
 ·cases h
 ·cases h;rw[jX];cases c:r.vs[(FN r row+a).toNat]? with
  |none=>exact⟨by show-B<=0;omega,h0⟩
  |some x=>exact b x (gg c)
end
section
variable{w:ga}{p:dO}{x:PA}
theorem OC(r:Xf (hp w) p x)(q t:Int):ρ 423 [.agg ⟨x.cells⟩,O q,O t] w λa b=>a=.agg ⟨[O (bB p q t).kind,O (bB p q t).to]⟩/\Gr w b:=by
 refine HQ<|ag (W.all w) λm R A=>ag A λn e f=>?_;have o:Gr w e:=f.tail.aS
 have C:aj (hp e) (Z m) x.cells:=by
  obtain⟨c,a,b⟩:=f.tail.first;exact(j6 b).mono a
 have F:aj (hp e) ((Z m).add 1) [gN x.a1,gN x.a2,gN x.a3]:=(aj.drop (us:=[gN x.d]) C).take (vs:=[gN x.t,gN x.g1,gN x.g2,gN x.g3]);refine⟨_,_,_,_,_,_,_,_,_,F.at sZ rfl,(y6 (r.a.mono o) q t).mono ?_⟩;rintro _ b⟨rfl,s⟩;have d:=f.gr s;have v:Gr w b:=o.trans s
 have a:∀(c to:Int),bB p q t=⟨c,to⟩->bC b (Z n) [O c,O to] λy=>∃g h,iA y (Z n) 0 2=some [O g,O h]/\(λj k=>j=.agg ⟨[O (bB p q t).kind,O (bB p q t).to]⟩/\Gr w k) (vG [O g,O h]) y:=λI to L=>by
  refine aQ d rfl (by intro h g;simp at g;rcases g with rfl|rfl<;>rfl) λk g=>⟨I,to,?_,by rw[L],g.tail.aS⟩;obtain⟨l,h,j⟩:=g.first;exact((j6 j).mono h).at sZ rfl
 cases g:atR p.ac q t with
 |some c=>
  have hp:bB p q t=OU c:=by unfold bB;rw[g]
  obtain⟨Q,S⟩:=OB r.a.bd (by decide) g;refine⟨c,true,rfl,λ_=>False,⟨λh j=>h=decide (0<c)/\j=b,gd rfl ⟨rfl,rfl⟩,?_⟩,λ_ _ h=>h.elim⟩;rintro _ _ N⟨rfl,rfl⟩
  refine ae (λh=>⟨ξ,a _ _ ?_⟩) λh=>⟨λj k=>j=decide (c< -1)/\k=N,gd rfl ⟨rfl,rfl⟩,?_⟩
  ·rw[hp];unfold OU;rw[gD (gZ h)]
  have j:=hY h;rintro _ _ P⟨rfl,rfl⟩
  refine ae (λk=>⟨ξ,a _ _ ?_⟩) λk=>⟨λl z=>l=decide (c<0)/\z=P,gd rfl ⟨rfl,rfl⟩,?_⟩
  ·rw[hp];unfold OU;rw[gv j,gD<|gZ k]
  have z:=hY k;rintro _ _ X⟨rfl,rfl⟩
  refine ae (λl=>a _ _ ?_) λl=>gd rfl (a _ _ ?_)
  ·rw[hp];unfold OU;rw[gv j,gv z,gD<|gZ l]
  ·rw[hp];unfold OU;rw[gv j,gv z,gv<|hY l]
 |none=>
  have hp:bB p q t=if 0<=q/\q<p.df.length/\0<p.df.getD q.toNat 0 then⟨2,p.df.getD q.toNat 0⟩ else⟨0,0⟩:=by unfold bB;rw[g]
  have S:=r.d.1;refine⟨0,false,rfl,λc=>c=b/\bB p q t=⟨0,0⟩,⟨λc h=>c=false/\h=b,bm rfl ⟨rfl,rfl⟩,?_⟩,λ_ h c=>by rw[c.1];exact a _ _ c.2⟩;rintro _ _ z⟨rfl,rfl⟩;refine bm rfl ⟨λc h=>c=false/\h=z,bm rfl ⟨rfl,rfl⟩,?_⟩;rintro _ _ N⟨rfl,rfl⟩;refine bm rfl ⟨λc h=>c=false/\h=N,bm rfl ⟨rfl,rfl⟩,?_⟩;rintro _ _ X⟨rfl,rfl⟩
  refine bm rfl (bm rfl (ae (λc=>?_) λc=>⟨rfl,?_⟩))
  ·have Y:=gZ c
   refine⟨_,_,_,d.tail.cell 0,ae (λh=>?_) λh=>⟨rfl,?_⟩⟩
   ·have a0:=gZ h;obtain⟨P,rfl⟩:∃j:Nat,q=j:=⟨q.toNat,U⟩;obtain⟨a1,k,l⟩:=qq r.d (i:=P) U
    refine⟨_,_,_,d.tail.cell 0,au k U ⟨_,l _ v,ae (λj=>?_) λj=>⟨rfl,?_⟩⟩⟩
    ·refine⟨_,_,_,d.tail.cell 0,au k U ⟨_,l _ v,a _ _ ?_⟩⟩;rw[hp,gD ⟨U,U,gZ j⟩];rfl
    ·rw[hp,gv (λQ=>hY j Q.2.2)]
   ·have j:=hY h;rw[hp,gv (λk=>j U)]
  ·have h:=hY c;rw[hp,gv (λj=>h j.1)]
theorem OG(r:Xf (hp w) p x)(q n:Int):ρ 424 [.agg ⟨x.cells⟩,O q,O n] w λa b=>a=O (cD p q n)/\Gr w b:=by
 refine LN<|ag (W.all w) λf b c=>?_;have g:Gr w b:=c.aS
 have l:aj (hp b) (Z f) x.cells:=by
  obtain⟨e,a,d⟩:=c.first;exact(j6 d).mono a
 have m:aj (hp b) ((Z f).add 5) [gN x.g1,gN x.g2,gN x.g3]:=aj.drop (us:=[gN x.d,gN x.a1,gN x.a2,gN x.a3,gN x.t]) l;refine⟨_,_,_,_,_,_,_,_,_,m.at sZ rfl,(y6 (r.g.mono g) n q).mono ?_⟩;rintro _ o⟨rfl,h⟩;have j:=c.gr h;have a:Gr w o:=g.trans h;cases k:atR p.gt n q with
 |some d=>
  have hp:cD p q n=d:=by unfold cD;rw[k]
  exact⟨d,true,rfl,gd rfl ⟨by rw[hp],a⟩⟩
 |none=>
  have hp:cD p q n=if 0<=n/\n<p.tg.length then p.tg.getD n.toNat 0 else-1:=by unfold cD;rw[k]
  have y:=r.t.1
  refine⟨0,false,rfl,bm rfl (ae (λd=>?_) λd=>⟨?_,a⟩)⟩
  ·have z:=gZ d
   refine⟨_,_,_,by rw[ak];exact j.cell 4,ae (λe=>?_) λe=>⟨?_,a⟩⟩
   ·have A:=gZ e;obtain⟨s,rfl⟩:∃t:Nat,n=t:=⟨n.toNat,U⟩;obtain⟨C,t,v⟩:=qq r.t (i:=s) U;refine⟨_,_,_,by rw[ak];exact j.cell 4,au t U ⟨_,v _ a,?_,a⟩⟩;rw[hp,gD ξ];rfl
   ·have s:=hY e;rw[hp,gv (λt=>s U)]
  ·have e:=hY d;rw[hp,gv (λs=>e s.1)]
end
section
variable{g:B}{nn:At}{ss:List SQ}{least:Nat}
theorem Kq{q t:Nat}{c:cW}:c∈oO g nn ss least q t↔least<=(fe g nn ss q t).length/\c=⟨(q:Int),(t:Int),fe g nn ss q t⟩:=by simp[oO]
theorem Ge{q n:Nat}{c:cW}:c∈sA g nn ss least q n↔∃t,t<n/\least<=(fe g nn ss q t).length/\c=⟨(q:Int),(t:Int),fe g nn ss q t⟩:=by simp[sA,Kq]
theorem pW{n:Nat}{c:cW}:c∈nZ g nn ss least n↔∃q t,q<n/\t<g.T/\least<=(fe g nn ss q t).length/\c=⟨(q:Int),(t:Int),fe g nn ss q t⟩:=by simp[nZ,Ge]
def cW.lt(a b:cW):Prop:=a.st<b.st\/a.st=b.st/\a.tm<b.tm
theorem M0{q:Nat}:∀n,(sA g nn ss least q n).Pairwise cW.lt
 |0=>by simp[sA]
 |n+1=>by
  rw[wC,List.pairwise_append]
  refine⟨M0 n,?_,λa ha b hb=>?_⟩
  ·unfold oO;split<;>simp
  ·obtain⟨t,h1,_,rfl⟩:=Ge.1 ha
   obtain⟨_,rfl⟩:=Kq.1 hb
   exact .inr ⟨rfl,η⟩
theorem Gf:∀n,(nZ g nn ss least n).Pairwise cW.lt
 |0=>by simp[nZ]
 |n+1=>by
  rw[CS,List.pairwise_append]
  refine⟨Gf n,M0 _,λa ha b hb=>?_⟩
  obtain⟨q,t,h1,_,_,rfl⟩:=pW.1 ha
  obtain⟨t',_,_,rfl⟩:=Ge.1 hb
  exact .inl η
theorem M3{q n:Nat}:(sA g nn ss least q n).length<=n:=by
 induction n with
 |zero=>simp[sA]
 |succ n a=>
  grind[wC,List.length_append,oO]
theorem M4{n:Nat}:(nZ g nn ss least n).length<=n*g.T:=by
 induction n with
 |zero=>simp[nZ]
 |succ n a=>
  grind[CS,List.length_append,Nat.succ_mul,M3]
theorem O0{n i j:Nat}{a b:cW}(c:(nZ g nn ss least n)[i]? =some a)(d:(nZ g nn ss least n)[j]? =some b)(e:a.st=b.st)(f:a.tm=b.tm):i=j:=by
 have h:=sd.1<|Gf (g:=g) (nn:=nn) (ss:=ss) (least:=least) n;obtain⟨k,rfl⟩:=gJ.1 c;obtain⟨l,rfl⟩:=gJ.1 d
 grind[Nat.lt_trichotomy,cW.lt]
theorem Vz(q t:Nat):(Vy ss q t).length<=1:=by grind[Vy]
theorem VA(q t:Nat):(Xe ss q t).length<=1:=by grind[Xe]
theorem VB{q t:Nat}:(Ps (dD g nn ss) q t).Pairwise λx y=>x.to<y.to:=by
 have e:Ps (dD g nn ss) q t=(((dD g nn ss).filter λl=>decide (l.st=(q:Int))).filter λl=>decide ((t:Int)∈l.tm)).map λl=>⟨2,l.prod⟩:=by simp[Ps,List.filter_filter,Bool.and_comm]
 rw[e,lF];exact List.Pairwise.filter _ (MZ q)
theorem Ei{l:jg}(h:l∈dD g nn ss):∃q m:Nat,q<ss.length/\m<g.prods.length/\m≠0/\l=mh g (Ro g nn ss) ⟨(q:Int),(m:Int),dK (b_ g ss).length (fA g ss q m)⟩:=by
 obtain⟨i,a,rfl⟩:=iz.1 h;obtain⟨q,m,b,c,rfl,d⟩:=OR a;refine⟨q,m,b,c,λe=>?_,rfl⟩;subst e;obtain⟨j,f⟩:=oZ _ d;obtain⟨k,_,n,o⟩:=gL.1 f
 simp_all[b_,An,sx]
theorem O1{q t:Nat}:(Ps (dD g nn ss) q t).length<=g.prods.length:=by
 have f:=VB (g:=g) (nn:=nn) (ss:=ss) (q:=q) (t:=t);have b:qE ((Ps (dD g nn ss) q t).map (·.to)):=by simp_all[qE,lF]
 have h:=TS (B:=g.prods.length) b λi c=>by
  obtain⟨j,a,rfl⟩:=iz.1 c;unfold Ps at a;obtain⟨k,d,rfl⟩:=iz.1 a;obtain⟨_,e,_,l,_,rfl⟩:=Ei (kh.1 d).1;exact⟨kF _,by show(e:Int)<_;omega⟩
 simp_all
theorem O8{q t:Nat}:(fe g nn ss q t).length<=g.prods.length+2:=by grind[fe,Vz,VA,O1,List.length_append]
theorem Rw{q t:Nat}{x:aF}(h:x∈Vy ss q t):x.kind=1/\dt ss q (t:Int)=some x.to:=by
 unfold Vy at h
 grind
theorem Rx{q t:Nat}{x:aF}(h:x∈Xe ss q t):x=⟨3,0⟩/\t=0/\∃r,ss[q]? =some r/\(⟨0,1⟩:aq)∈r.1.2:=by grind[Xe]
theorem Ry{ls:List jg}{q t:Nat}{x:aF}(h:x∈Ps ls q t):x.kind=2/\∃l∈ls,l.st=(q:Int)/\l.prod=x.to/\(t:Int)∈l.tm:=by
 unfold Ps at h
 grind
theorem VC(d:aw g){p:aD}(hp:p∈g.prods){s:Int}(b:s∈p.right):s≠g.T:=by
 obtain⟨_,l,c,m,e,n,f,_⟩:=d;obtain⟨h,a⟩:=jR hp;cases h with
 |zero=>
  rw[e] at a;cases a;rw[f,jA] at b;have:=c.2.2.2.2.1;omega
 |succ j=>
  have k:p∈g.prods.drop 1:=by
   refine gg (i:=j) ?_;rw[kI,Nat.add_comm];exact a
  have:=(c.2.2.1 p k).2 s b;unfold gI at this;omega
theorem Pg(a:aw g)(b:bG g ss):∃j:Nat,dt ss 0 g.start=some (j:Int)/\j<ss.length/\∀(q:Nat)(r:SQ),ss[q]? =some r->((⟨0,1⟩:aq)∈r.1.2↔q=j):=by
 have F:=a;obtain⟨_,_,ao,I,d,L,N,_⟩:=F;have P:=b.pos
 have zero:∀r,ss[0]? =some r->r.1.2=[⟨0,0⟩]:=λr Q=>by
  have c:=(iO b Q).1;have:(gb g 0).1[0]? =some [⟨0,0⟩]:=rfl;rw[this] at c;exact(Option.some.inj c).symm
 obtain⟨k,l⟩:∃r,ss[0]? =some r:=⟨_,gn P⟩;have R:wS g k.1.2 ⟨((0:Nat):Int),((0:Nat):Int)⟩:=.base (by rw[zero k l];simp);have h:I.right[0]? =some g.start:=by rw[N];rfl
 have ap:=a.sym (gg d)<|gg h;obtain⟨j,av,o,p,S⟩:=nF a b l R (e_ d h) U;have X:=(gJ.1 p).1
 refine⟨j,o,X,λq r c=>⟨λe=>?_,λY=>?_⟩⟩
 ·by_cases s:q=0
  ·subst s;rw[zero r c] at e;simp at e
  obtain⟨i,az,aB,a0,aK,f,t,aR⟩:=JY a b (mB s) (gJ.1 c).1;obtain⟨_,_,a1,aS,aV,_,v,a2,_⟩:=dj a b f t;have a3:a1=q:=U
  subst a3;rw[c] at v;cases v;rw[a2] at e;obtain⟨w,a4,a5,x⟩:=dh.1 e
  have a6:w=⟨0,0⟩:=by
   have y:=congrArg aq.prod x;have z:=congrArg aq.dot x;cases w;simp at*;omega
  subst a6
  --it is of state 0
  have a7:i=0:=by
   cases a4 with
   |base y=>
    by_cases z:i=0
    ·exact z
    ·obtain⟨a8,b0,b1,b2,_,A,a9,b3⟩:=JY a b (mB z) (gJ.1 f).1;obtain⟨_,_,aa,b4,b5,_,C,ab,_⟩:=dj a b A a9;have:aa=i:=U
     subst this;rw[f] at C;cases C;rw[ab] at y;obtain⟨b6,ac,b7,ad⟩:=dh.1 y;have al:=(iO b A).1;obtain⟨_,_,_,b9,_,_⟩:=a.cR;have am:=ac.fit<|(ik (g:=g) U a8).fit _ (gg al);have an:=congrArg aq.dot ad;have:=am.2.1;simp at an;omega
   | @step aa n z ab A C a8=>
    have y:g.prods[0]? =some z:=C;rw[d] at y;cases y;obtain⟨ac,C,a9,_⟩:=zC A;exact absurd (by rw[<-a8,L]) (VC a (gg C)<|gg a9)
  subst a7
  have z:a0.sym=g.start:=by
   rw[<-a5];exact e_ (n:=0) (m:=0) d h
  have y:=zr b f t;rw[z,o] at y;have:=Option.some.inj y;omega
 ·subst Y;rw[p] at c;cases c;simpa using S
end
end Go.Proofs.YtaoaemnefghnbaaGreatDoor
