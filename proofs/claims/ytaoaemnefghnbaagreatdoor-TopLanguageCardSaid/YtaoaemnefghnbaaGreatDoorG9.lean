/- A part of the claim. -/
import Derived.Test.YtaoaemnefghnbaaGreatDoorG6
import Derived.Test.YtaoaemnefghnbaaGreatDoorG8
import Derived.Test.YtaoaemnefghnbaaGreatDoorG7
import Derived.Test.YtaoaemnefghnbaaGreatDoorG5
import Derived.Test.YtaoaemnefghnbaaGreatDoorG2
import Derived.Test.YtaoaemnefghnbaaGreatDoorCards
import Derived.Test.YtaoaemnefghnbaaGreatDoorTie
import Derived.WalkKit
import Derived.ProofKit
import Derived.OpenShut
import Derived.Carry
import Derived.OpenVars
import Derived.Deep.DeepHandedRow
import Derived.Lib.LaidTab
set_option linter.unusedVariables false
set_option linter.unusedSectionVars false
set_option maxRecDepth 100000
set_option maxHeartbeats 16000000
namespace Go.Proofs.YtaoaemnefghnbaaGreatDoor
open _root_.Go.Proofs.Tryz
section
variable{g:B}{ss:List SQ}{n:Nat}{p:aD}
def XE(g:B)(ss:List SQ)(n q d:Nat):Prop:=∃r,ss[q]? =some r/\wS g r.1.2 ⟨(n:Int),(d:Int)⟩
theorem KZ(hc:aw g)(hA:bG g ss)(hp:g.prods[n]? =some p)(h0:∀s∈p.right,0<=s){es:List xO}(hw:lK ss es)(h:XE g ss n (bV es) 0):∀d,d<=p.right.length->∃es',lK ss es'/\XE g ss n (bV es') d
 |0,_=>⟨es,hw,h⟩
 |d+1,hd=>by
  obtain⟨es',hw',r,hr,hcl⟩:=KZ hc hA hp h0 hw h d U
  have hs:p.right[d]? =some p.right[d]:=gn U
  obtain⟨j,r',h1,h2,h3⟩:=nF hc hA hr hcl (e_ hp hs) (h0 _ (gg hs))
  exact⟨(p.right[d],j,.lf 0 0)::es',⟨h1,hw'⟩,r',h2,.base h3⟩
theorem Se(hc:aw g)(hA:bG g ss)(hp:g.prods[n]? =some p){d:Nat}:∀{es:List xO},lK ss es->XE g ss n (bV es) (d+1)->∃e l,es=e::l/\lK ss l/\XE g ss n (bV l) d:=by
 intro es hw ⟨r,u,Z⟩
 have a:(⟨(n:Int),((d+1:Nat):Int)⟩:aq)∈r.1.2:=by
  generalize hz:(⟨(n:Int),((d+1:Nat):Int)⟩:aq)=z at Z;cases Z with
  |base h=>subst hz;exact h
  |step _ _ _ _=>have:=congrArg aq.dot hz;simp at this;omega
 cases es with
 |nil=>
  have u:ss[0]? =some r:=u;rw[zF hA u,jA] at a;have:=congrArg aq.dot a;simp at this;omega
 |cons e l=>
  obtain⟨q0,k,ed,O,he,Y,a0⟩:=j8 hw.1;obtain⟨_,_,j,r2,hj,_,J,V,_⟩:=dj hc hA O he;have u:ss[e.2.1]? =some r:=u;have:j=e.2.1:=U
  subst this;rw[u] at J;cases J;rw[V,Y] at a;obtain⟨y,W,a4,X⟩:=dh.1 a
  have e4:y=⟨(n:Int),(d:Int)⟩:=by
   cases y;simp only[aq.mk.injEq] at X ⊢;omega
  subst e4;exact⟨e,l,rfl,hw.2,q0,O,W⟩
theorem abu(b:aw g)(c:bG g ss)(hp:g.prods[n]? =some p){d:Nat}(v:1<=d):∀(es:List xO)(e:Nat),lK ss es->XE g ss n (bV es) e->d<=e->∃q,XE g ss n q d/\∀a,d<a->¬XE g ss n q a:=by
 intro es
 induction es with
 |nil=>
  intro e a f i;obtain⟨e,rfl⟩:∃h,e=h+1:=⟨e-1,U⟩;obtain⟨_,_,h,_⟩:=Se b c hp a f;cases h
 |cons i j k=>
  intro e l f w
  by_cases a:∃h,d<h/\XE g ss n (bV<|i::j) h
  ·obtain⟨h,x,m⟩:=a;obtain⟨o,rfl⟩:∃r,h=r+1:=⟨h-1,U⟩;obtain⟨y,z,r,s,t⟩:=Se b c hp l m;cases r;exact k o s t U
  ·have:e=d:=by
    refine mw λh=>a ⟨e,U,f⟩
   subst this;exact⟨_,f,λh m o=>a ⟨h,m,o⟩⟩
theorem aeh(a:aw g)(c:bG g ss){s:Int}(h:Us g s):(g.T:Int)<=s->∃es,lK ss es/\∀m p,g.prods[m]? =some p->p.left=s->XE g ss m (bV es) 0:=by
 obtain⟨t,_⟩:=EP (.inr a:bL g);obtain⟨_,_,j,R,v,S,w,_⟩:=id a;obtain⟨b,x⟩:=Gn c a (l:=[]) trivial;have d:ss[0]? =some b:=x;have k:(⟨((0:Nat):Int),((0:Nat):Int)⟩:aq)∈b.1.2:=by rw[zF c d];simp
 induction h with
 |start _=>
  intro _;refine⟨[],trivial,λm p f o=>⟨b,d,?_⟩⟩;have e:=e_ (g:=g) (n:=0) (m:=0) v (s:=g.start) (by rw[w];rfl);have:=j.2.2.2.2.1;exact .step (.base k) (by rw[e];omega) f (by rw[e,o])
 |zero _ _=>
  intro _;refine⟨[],trivial,λm p e o=>⟨b,d,?_⟩⟩
  have:m=0:=by
   cases m with
   |zero=>rfl
   |succ m=>
    have f:p∈g.prods.drop 1:=by
     refine gg (i:=m) ?_;rw[kI,Nat.add_comm];exact e
    have:=((j.2.2.1 p f).1).1;omega
  subst this;exact .base k
 |pr p s hp _ _ o y=>
  intro _;have e:=t p hp;obtain⟨es,z,A⟩:=y e.1.1;obtain⟨n,f⟩:=jR hp;obtain⟨i,q⟩:=jR o;obtain⟨C,F,I,L,N⟩:=KZ a c f (λs r=>(e.2 s r).1) z (A n p f rfl) i (by have:=(gJ.1 q).1;omega);have r:=e_ f q;exact⟨C,F,λm X P Q=>⟨I,L,.step N (by rw[r];exact(e.2 s o).1) P (by rw[r,Q])⟩⟩
theorem abv(d:aw g)(e:bG g ss)(n:∀i,1<=i->i<g.N->Us g ((g.T+i:Nat):Int)):∀p∈g.prods,p.right.length<=ss.length:=by
 intro p hp;obtain⟨o,_⟩:=EP (.inr d:bL g);obtain⟨a,b⟩:=jR hp;have q:=o p hp;obtain⟨_,_,r,R,s,S,t,_⟩:=id d
 by_cases v:a=0
 ·subst v;rw[s] at b;cases b;have:=e.pos;rw[t];simp;omega
 have w:p∈g.prods.drop 1:=by
  refine gg (i:=a-1) ?_;rw[kI,show 1+(a-1)=a by omega];exact b
 have X:=((r.2.2.1 p w).1).1;obtain⟨i,x⟩:∃i:Nat,p.left=((g.T+i:Nat):Int):=⟨(p.left-g.T).toNat,U⟩;obtain⟨Y,y,z⟩:=aeh d e (n i U U) U;obtain⟨A,C,F⟩:=KZ d e b (λc f=>(q.2 c f).1) y (z a p b x) p.right.length<|gP _;have j:∀c,1<=c->c<=p.right.length->∃f,XE g ss a f c/\∀h,c<h->¬XE g ss a f h:=λh c f=>abu d e b c A _ C F f
 obtain⟨f,h⟩:∃k:Nat->Nat,∀c,1<=c->c<=p.right.length->XE g ss a (k c) c/\∀l,c<l->¬XE g ss a (k c) l:=by
  refine⟨λc=>@dite _ (1<=c/\c<=p.right.length) (Classical.propDecidable _) (λk=>(j c k.1 k.2).choose) (λ_=>0),λl c k=>?_⟩;dsimp only;rw[dif_pos ⟨c,k⟩];exact(j l c k).choose_spec
 have I:((List.range p.right.length).map λc=>(f (c+1):Int)).Nodup:=by
  rw[ot,sd];intro k c L N a0 P;simp at L N P;have Q:f (k+1)=f (c+1):=U
  have l:=(h (k+1) U U).2 (c+1) U;rw[Q] at l;exact l (h (c+1) U U).1
 have:=ux I (m:=(List.range ss.length).map λ(c:Nat)=>(c:Int)) λN c=>by
  obtain⟨k,l,rfl⟩:=iz.1 c;have:=jY.1 l;obtain⟨⟨P,L,_⟩,_⟩:=h (k+1) U U;exact iz.2 ⟨_,jY.2 (gJ.1 L).1,rfl⟩
 simpa using this
end
structure cj where
 prod:Nat
 dot:Nat
 frm:Nat
def sG(s:cj):Ay:=[O (s.prod:Int),O (s.dot:Int),O (s.frm:Int)]
def Bz(l:List cj):Ay:=l.flatMap sG
theorem XF(l:List cj)(s:cj):Bz l++sG s=Bz (l++[s]):=by simp[Bz]
theorem K1:∀{l:List cj}{k:Nat}{s:cj},l[k]? =some s->∀j v,(sG s)[j]? =some v->(Bz l)[k*3+j]? =some v
 |[],k,s,h,j,v,hv=>by simp at h
 |x::l,0,s,h,j,v,hv=>by
  simp at h;subst h
  show(sG x++Bz l)[0*3+j]? =_
  rw[ki (by have:=(gJ.1 hv).1;omega)]
  simpa using hv
 |x::l,k+1,s,h,j,v,hv=>by
  show(sG x++Bz l)[(k+1)*3+j]? =_
  rw[kL (by simp[sG];omega),show(k+1)*3+j-(sG x).length=k*3+j from by simp[sG];omega]
  exact K1 (by simpa using h) j v hv
theorem zU{h:Hp}{a:E}{l:List cj}{k:Nat}{s:cj}(r:dX a (Bz l) h)(c:l[k]? =some s):∃b,a=some b/\aj h (b.add (ew k 3)) (sG s):=by
 rcases r with b|⟨d,b,e⟩
 ·have:=K1 c 0 _ rfl;rw[b] at this;simp at this
 ·refine⟨d,b,λf g i=>?_⟩;rw[ke,bh];exact e _ _ (K1 c f g i)
theorem K2{α β γ:Type}(f:α->β->γ):∀(xs:List α)(bs:List β)(i:Nat)(a:α)(b:β),(List.zipWith f xs bs).set i (f a b)=List.zipWith f (xs.set i a) (bs.set i b)
 |[],bs,i,a,b=>V
 |x::xs,[],i,a,b=>by cases i<;>simp
 |x::xs,y::bs,0,a,b=>V
 |x::xs,y::bs,i+1,a,b=>by simp[K2 f xs bs i a b]
theorem bf.atw{α:Type}[kC α]{w:ga}{xs:List α}{a:E}{l i:Nat}{x:α}{b:vP}(r:bf (hp w) xs a l)(d:a=some b)(e:xs[i]? =some x):w.cell? (b.add i)=some (kC.val x):=by
 obtain⟨g,c,f⟩:=r.at e;rw[d] at c;cases c;exact f w sZ
def zV(ps:List aD)(i:Nat):Nat:=((ps.take i).map λp=>p.right.length+1).sum
def sI(ps:List aD)(m:Nat):Az:=(List.range m).map λi=>(zV ps i:Int)
theorem vn{ps:List aD}{i:Nat}{p:aD}(h:ps[i]? =some p):zV ps (i+1)=zV ps i+(p.right.length+1):=by
 unfold zV;rw[iw,h];simp
theorem EM{ps:List aD}{i:Nat}:∀{j:Nat},i<=j->zV ps i<=zV ps j
 |0,h=>by rw[show i=0 from U];exact gP _
 |j+1,h=>by
  by_cases e:i=j+1
  ·rw[e];exact gP _
  ·refine j3 (EM (j:=j) U) ?_
   cases hp:ps[j]? with
   |none=>unfold zV;rw[iw,hp];simp
   |some p=>rw[vn hp];omega
theorem XG{ps:List aD}{m i:Nat}(h:i<m):(sI ps m)[i]? =some (zV ps i:Int):=by
 unfold sI;rw[iE,pC h];rfl
structure Ch where
 kc:Nat
 x:GA
 ps:List aD
 had:vP
 hcp:Nat
 kat:Nat
 n:Nat
 ba:E
 bc:Nat
 kbs:A0
def Ch.al(c:Ch):Nat:=zV c.ps c.ps.length
def Ch.M(c:Ch):Nat:=c.al*c.n
def Ch.code(c:Ch)(s:cj):Nat:=(zV c.ps s.prod+s.dot)*c.n+s.frm
def Ch.cells(c:Ch):Ay:=[T c.x.ta c.x.tl c.x.tc,T c.x.na c.x.nl c.x.nc,T c.x.la c.x.ll c.x.lc,O c.x.s,T c.x.pa c.ps.length c.x.pc,T (some c.had) c.n c.hcp,T (some ⟨c.kat,0,none⟩) c.n c.n,T c.ba c.ps.length c.bc,O (c.al:Int)]
structure nJ(h:Hp)(c:Ch):Prop where
 row:aj h ⟨c.kc,0,none⟩ c.cells
 p:bf h c.ps c.x.pa c.ps.length
 b:bf h (sI c.ps c.ps.length) c.ba c.ps.length
 hs:aj h c.had (c.kbs.map (qi c.M))
theorem nJ.mono{h h':Hp}{c:Ch}(s:sub h h')(r:nJ h c):nJ h' c:=⟨r.row.mono s,r.p.mono s,r.b.mono s,r.hs.mono s⟩
structure od(c:Ch)(s:cj):Prop where
 p:∃p,c.ps[s.prod]? =some p/\s.dot<=p.right.length
 f:s.frm<c.n
theorem od.lt{c:Ch}{s:cj}(r:od c s):c.code s<c.M:=by
 obtain⟨⟨b,hp,d⟩,e⟩:=r;have f:=vn hp;have g:zV c.ps (s.prod+1)<=c.al:=EM (by have:=(gJ.1 hp).1;omega);unfold Ch.code Ch.M;have a:(zV c.ps s.prod+s.dot+1)*c.n<=c.al*c.n:=nO _ U;rw[Nat.add_mul] at a;omega
theorem od.inj{c:Ch}{s t:cj}(r:od c s)(q:od c t)(e:c.code s=c.code t):s=t:=by
 obtain⟨⟨k,hp,l⟩,b⟩:=r;obtain⟨⟨m,i,n⟩,d⟩:=q;unfold Ch.code at e;have j:0<c.n:=U
 have f:=congrArg (·/c.n) e;have g:=congrArg (·%c.n) e;simp only[Nat.mul_comm _ c.n,Nat.mul_add_div j,Nat.div_eq_of_lt b,Nat.div_eq_of_lt d,Nat.mul_add_mod,Nat.mod_eq_of_lt b,Nat.mod_eq_of_lt d] at f g;have o:=vn hp;have p:=vn i
 have h:s.prod=t.prod:=by
  rcases sF s.prod t.prod with a|a|a
  ·have:=EM (ps:=c.ps) (show s.prod+1<=t.prod from a);omega
  ·exact a
  ·have:=EM (ps:=c.ps) (show t.prod+1<=s.prod from a);omega
 cases s;cases t;simp only at h f g ⊢;subst h;simp only[cj.mk.injEq,true_and];omega
def nG(os:List (E×Nat))(ats:List (List cj)):Ay:=List.zipWith (λo l=>T o.1 l.length o.2) os ats
def cG(os:List (E×Nat))(ats:List (List cj)):List aG:=List.zipWith (λo l=>own 3 o.1 l.length o.2 (Bz l)) os ats
structure XH(c:Ch)(os:List (E×Nat))(ats:List (List cj))(vss:A5):Prop where
 la:ats.length=c.n
 lo:os.length=c.n
 lv:vss.length=c.n
 lk:c.kbs.length=c.n
 M:c.M<=1099511627776
 len:∀(k:Nat) l v,ats[k]? =some l->vss[k]? =some v->v.length=c.M/\l.length=bK v
 rg:∀(k:Nat) l,ats[k]? =some l->∀s∈l,od c s
 bit:∀(k:Nat) l v,ats[k]? =some l->vss[k]? =some v->∀s,od c s->(bt v (c.code s)=true↔s∈l)
theorem aei{os:List (E×Nat)}{ats:List (List cj)}{k:Nat}{o:E×Nat}{l:List cj}:(nG os ats).set k (T o.1 l.length o.2)=nG (os.set k o) (ats.set k l):=K2 _ _ _ _ _ _
theorem XI{os:List (E×Nat)}{ats:List (List cj)}{k:Nat}{o:E×Nat}{l:List cj}:(cG os ats).set k (own 3 o.1 l.length o.2 (Bz l))=cG (os.set k o) (ats.set k l):=K2 (λ(o:E×Nat)(l:List cj)=>own 3 o.1 l.length o.2<|Bz l) _ _ _ _ _
theorem abw{v:At}{k:Nat}(b:k<v.length)(c:bt v k=false):bK (v.set k true)=bK v+1:=by
 have a:=Is b c;have e:=dH v;have d:=dH<|v.set k true;unfold EO at a;rw[ky] at a d;omega
theorem XH.add{c:Ch}{os:List (E×Nat)}{ats:List (List cj)}{vss:A5}(I:XH c os ats vss){k:Nat}{l:List cj}{v:At}{s:cj}{o:E×Nat}(hl:ats[k]? =some l)(hv:vss[k]? =some v)(hs:od c s)(hf:bt v (c.code s)=false):
  XH c (os.set k o) (ats.set k (l++[s])) (vss.set k (v.set (c.code s) true)):=by
 have V:=(gJ.1 hl).1;have W:=(gJ.1 hv).1;obtain⟨e1,Y⟩:=I.len k l v hl hv;have Z:=hs.lt
 have a:∀{j:Nat}{l'},(ats.set k<|l++[s])[j]? =some l'->(j=k/\l'=l++[s])\/(j≠k/\ats[j]? =some l'):=λ{j l'} h=>by
  rw[q8] at h
  split at h
  ·rename_i e;subst e;first|rw[gD V] at h|skip
   exact .inl ⟨rfl,(Option.some.inj h).symm⟩
  ·rename_i e;exact .inr ⟨λh=>e h.symm,h⟩
 have X:∀{j:Nat}{J},(vss.set k<|v.set (c.code s) true)[j]? =some J->(j=k/\J=v.set (c.code s) true)\/(j≠k/\vss[j]? =some J):=λ{j J} h=>by
  rw[q8] at h
  split at h
  ·rename_i e;subst e;first|rw[gD W] at h|skip
   exact .inl ⟨rfl,(Option.some.inj h).symm⟩
  ·rename_i e;exact .inr ⟨λh=>e h.symm,h⟩
 refine⟨by rw[ky];exact I.la,by rw[ky];exact I.lo,by rw[ky];exact I.lv,I.lk,I.M,λj l' J u O=>?_,λj l' u t ht=>?_,λj l' J u O t ht=>?_⟩
 ·rcases a u with⟨rfl,rfl⟩|⟨n1,u⟩<;>rcases X O with⟨e,rfl⟩|⟨n2,O⟩
  ·exact⟨by rw[ky];exact e1,by rw[abw U hf,jw,Y];rfl⟩
  ·exact absurd rfl n2
  ·exact absurd e n1
  ·exact I.len j l' J u O
 ·rcases a u with⟨rfl,rfl⟩|⟨n1,u⟩
  ·rcases iU.1 ht with ht|ht
   ·exact I.rg _ l hl t ht
   ·simp at ht;subst ht;exact hs
  ·exact I.rg j l' u t ht
 ·rcases a u with⟨rfl,rfl⟩|⟨n1,u⟩<;>rcases X O with⟨e,rfl⟩|⟨n2,O⟩
  ·rw[qC U,kj,beq_iff_eq,I.bit _ l v hl hv t ht,iU,jA];exact or_congr_right ⟨λh=>ht.inj hs h,λh=>by rw[h]⟩
  ·exact absurd rfl n2
  ·exact absurd e n1
  ·exact I.bit j l' J u O t ht
section
variable{w:ga}{L:List aG}{c:Ch}{os:List (E×Nat)}{ats:List (List cj)}{vss:A5}{k:Nat}{s:cj}
theorem ahS(h:W w (ax c.kat (nG os ats)::aT (cG os ats)::aT (cU c.kbs vss)::L))(n:∀h,aL L h->nJ h c)(I:XH c os ats vss)(a:k<c.n)(p:od c s):
  ρ 119 [.pointer (some ⟨c.kc,0,none⟩),O (k:Int),.agg ⟨sG s⟩] w λv f=>∃(b:Bool)(e:List (E×Nat))(ats':List (List cj))(d:A5),v=J b/\XH c e ats' d/\W f (ax c.kat (nG e ats')::aT (cG e ats')::aT (cU c.kbs d)::L)/\
   ∃l v,ats[k]? =some l/\vss[k]? =some v/\(b=false->ats'=ats/\d=vss/\s∈l)/\(b=true->s∉l/\ats'=ats.set k (l++[s])/\d=vss.set k (v.set (c.code s) true)/\bt v (c.code s)=false):=by
 refine qx ?_;refine ag h λt ab h=>λa1 x=>?_;have h:=h.drawn x;have i:=n _ (h.pick 4 []).l;obtain⟨⟨ac,a2,ad⟩,al⟩:=id p;have F:=(gJ.1 a2).1;have y:=p.lt;have am:=I.M;obtain⟨d,e⟩:∃f,f=c.code s:=⟨_,rfl⟩;rw[<-e] at y;have a3:((zV c.ps s.prod:Int)+s.dot)*(c.n:Int)+s.frm=(d:Int):=by rw[e];unfold Ch.code;simp
 have N:=XG (ps:=c.ps) F;obtain⟨an,P,_⟩:=i.b.at N
 have ao:zV c.ps s.prod+s.dot<=d:=by
  rw[e];unfold Ch.code;have:(zV c.ps s.prod+s.dot)*1<=(zV c.ps s.prod+s.dot)*c.n:=Nat.mul_le_mul_left _ U;omega
 have ap:0<=((zV c.ps s.prod:Int)+s.dot)*(c.n:Int):=Int.mul_nonneg U U;obtain⟨l,f⟩:∃l,ats[k]? =some l:=⟨ats[k]'(by rw[I.la];exact a),gn _⟩;obtain⟨v,g⟩:∃v,vss[k]? =some v:=⟨vss[k]'(by rw[I.lv];exact a),gn _⟩;obtain⟨q,r⟩:∃m,c.kbs[k]? =some m:=⟨c.kbs[k]'(by rw[I.lk];exact a),gn _⟩;obtain⟨o,Q⟩:∃o,os[k]? =some o:=⟨os[k]'(by rw[I.lo];exact a),gn _⟩;obtain⟨av,az⟩:=I.len k l v f g;have z:=I.bit k l v f g s p;rw[<-e] at z;have R:∀{w:ga},nJ (hp w) c->w.cell? (c.had.add k)=some (qi c.M q):=λm=>m.hs.cell sZ (j:=k) (by rw[iE,r];rfl);refine⟨λw=>aj (hp w) ⟨t,0,none⟩ (sG s)/\nJ (hp w) c,⟨af 0 h.l,i⟩,_,_,_,λw m=>m.2.row.cell sZ (j:=7) rfl,_,λw m=>m.1.cell0 sZ,au P F ⟨_,λw m=>m.2.b.atw P N,_,λw m=>m.1.cell sZ (j:=1) rfl,ξ,_,_,_,λw m=>m.2.row.cell sZ (j:=6) rfl,ξ,_,λw m=>m.1.cell sZ (j:=2) rfl,ξ,_,_,_,i.row.cell sZ (j:=5) rfl,au rfl a ⟨_,_,_,R i,?_⟩⟩⟩;rw[a3];have a4:a1.cell? ((⟨q,0,none⟩:vP).add d)=some (J<|bt v d):=ON (JF 3 h.l r g) U
 refine au rfl y ⟨_,a4,ae (λm=>?_) λm=>?_⟩
 ·exact⟨false,os,ats,vss,rfl,I,h.pick 4 [1,2,3],l,v,f,g,λ_=>⟨rfl,rfl,z.1 m⟩,λh=>by cases h⟩
 refine⟨_,_,_,i.row.cell sZ (j:=5) rfl,au rfl a ⟨_,_,_,R i,au rfl y ?_⟩⟩;rw[ak];have S:(cU c.kbs vss)[k]? =some (ax q<|bv v):=by unfold cU;rw[lE,r,g]
 have X:(cG os ats)[k]? =some (own 3 o.1 l.length o.2<|Bz l):=by unfold cG;rw[lE,Q,f]
 have a5:(nG os ats)[k]? =some (T o.1 l.length o.2):=by unfold nG;rw[lE,Q,f]
 refine aX (W.out (h.pick 4 [3,0,1,2]) S) (by rw[m_];omega) λaB h=>λaK x=>?_;rw[Am] at h;have h:=(W.back h S).drawn x;have a6:(cU c.kbs vss).set k (ax q<|bv<|v.set d true)=cU c.kbs (vss.set k<|v.set d true):=NQ (λA v=>ax A<|bv v) r;rw[a6] at h;have a7:=n _ (h.pick 4 []).l;refine⟨λw=>aj (hp w) ⟨t,0,none⟩ (sG s)/\aj (hp w) ⟨c.kat,0,none⟩ (nG os ats)/\nJ (hp w) c,⟨af 1 h.l,af 2 h.l,a7⟩,_,_,_,λw A=>A.2.2.row.cell sZ (j:=6) rfl,_,_,_,λw A=>A.2.2.row.cell sZ (j:=6) rfl,au rfl a ⟨_,_,_,λw A=>A.2.1.cell sZ (j:=k) a5,_,_,_,λw A=>A.1.at sZ rfl,ag h λa8 aR h=>⟨⟨af 2 h.l,af 3 h.l,n _ (h.pick 5 []).l⟩,?_⟩⟩⟩;refine(aU aY (rfl:ai Ty _=.slice _) (rfl:ai Ty _=.slice _) rfl rfl rfl ((W.out (h.pick 5 [4,0,1,2,3]) X).pick 3 [2,0,1]) rfl (by simp[aO]) (by show(l.length+1)*24<=_;have:=dH v;omega) (by have:=dH v;omega)).mono ?_;rintro _ a9⟨A,C,rfl,h⟩;have h:W a9 (aT ((cG os ats).set k (own 3 A (l.length+1) C<|Bz l++sG s))::ax a8 (sG s)::aT (cU c.kbs<|vss.set k<|v.set d true)::ax t (sG s)::ax c.kat (nG os ats)::L):=W.back (h.pick 3 [0,2,1]) X;rw[XF,show l.length+1=(l++[s]).length from V] at h;have Y:=XI (os:=os) (ats:=ats) (k:=k) (o:=(A,C)) (l:=l++[s]);dsimp only at Y;rw[Y] at h;refine⟨_,_,_,rfl,⟨af 3 h.l,af 4 h.l,n _ (h.pick 5 []).l⟩,au rfl a ?_⟩;rw[ak];refine aX (h.pick 5 [4,0,2]) (by unfold nG;rw[List.length_zipWith,I.la,I.lo];omega) λaS h=>?_;have a0:=aei (os:=os) (ats:=ats) (k:=k) (o:=(A,C)) (l:=l++[s]);dsimp only at a0;rw[show l.length+1=(l++[s]).length from V,a0] at h;refine⟨true,_,_,_,rfl,I.add f g p<|e▸m,e▸h,l,v,f,g,λh=>(by cases h),λ_=>⟨λaa=>?_,rfl,rfl,e▸m⟩⟩;rw[z.2 aa] at m;cases m
end
def pY(ats:List (List cj))(k:Nat)(s:cj):Prop:=∃l,ats[k]? =some l/\s∈l
def iq(vss:A5)(k:Nat):Nat:=EO (vss.getD k [])
structure FS(c:Ch)(k:Nat)(T:Nat->cj->Prop)(ats0:List (List cj))(os:List (E×Nat))(ats:List (List cj))(vss:A5):Prop where
 I:XH c os ats vss
 t:∀(j:Nat) s,pY ats j s->T j s
 o:∀j:Nat,j≠k->ats[j]? =ats0[j]?
 s:∀x,pY ats0 k x->pY ats k x
def vu(c:Ch)(k:Nat)(ats:List (List cj))(s:cj):Prop:=∀p,c.ps[s.prod]? =some p->(∀(q:aD)(j:Nat),p.right[s.dot]? =some q.left->c.ps[j]? =some q->pY ats k ⟨j,0,k⟩)/\
 (s.dot=p.right.length->∀t r,pY ats s.frm t->c.ps[t.prod]? =some r->r.right[t.dot]? =some p.left->pY ats k ⟨t.prod,t.dot+1,t.frm⟩)
def oo(c:Ch)(k:Nat)(ats:List (List cj)):Prop:=∀s,pY ats k s->vu c k ats s
structure xy(c:Ch)(k:Nat)(T:Nat->cj->Prop):Prop where
 pr:∀s p q(j:Nat),T k s->c.ps[s.prod]? =some p->p.right[s.dot]? =some q.left->c.ps[j]? =some q->T k ⟨j,0,k⟩
 co:∀s p t r,T k s->c.ps[s.prod]? =some p->s.dot=p.right.length->T s.frm t->c.ps[t.prod]? =some r->r.right[t.dot]? =some p.left->T k ⟨t.prod,t.dot+1,t.frm⟩
section
variable{w:ga}{L:List aG}{H:Hp}{c:Ch}{os:List (E×Nat)}{ats ats0:List (List cj)}{vss:A5}{k:Nat}{s:cj}{N:Nat->cj->Prop}
theorem Pp(h:W w (ax c.kat (nG os ats)::aT (cG os ats)::aT (cU c.kbs vss)::L))(x:∀h,aL L h->sub H h)(y:nJ H c)(F:FS c k N ats0 os ats vss)(z:k<c.n)(j:od c s)(A:N k s):
  ρ 119 [.pointer (some ⟨c.kc,0,none⟩),O (k:Int),.agg ⟨sG s⟩] w λC I=>∃(b:Bool)(a:List (E×Nat))(ats':List (List cj))(d:A5),C=J b/\FS c k N ats0 a ats' d/\W I (ax c.kat (nG a ats')::aT (cG a ats')::aT (cU c.kbs d)::L)/\
   pY ats' k s/\(b=false->ats'=ats)/\iq d k+(if b then 1 else 0)=iq vss k:=by
 refine(ahS h (λh a=>y.mono<|x h a) F.I z j).mono ?_;rintro _ a1⟨b,l,ats',a2,rfl,m,n,a,o,d,f,P,Q⟩;have R:=(gJ.1 d).1;have S:=(gJ.1 f).1;cases b with
 |false=>
  obtain⟨rfl,rfl,e⟩:=P rfl;exact⟨false,l,_,_,rfl,⟨m,F.t,F.o,F.s⟩,n,⟨a,d,e⟩,λ_=>rfl,V⟩
 |true=>
  obtain⟨a3,rfl,rfl,X⟩:=Q rfl;have g:(ats.set k<|a++[s])[k]? =some (a++[s]):=by rw[sq R]
  have i:∀{e},pY (ats.set k<|a++[s]) k e↔pY ats k e\/e=s:=λ{r}=>by
   constructor
   ·rintro⟨t,p,q⟩;rw[g] at p;cases p
    rcases iU.1 q with e|e
    ·exact .inl ⟨a,d,e⟩
    ·exact .inr (jA.1 e)
   ·rintro(⟨q,e,p⟩|rfl)
    ·rw[d] at e;cases e;exact⟨_,g,List.mem_append_left _ p⟩
    ·exact⟨_,g,V⟩
  refine⟨true,l,_,_,rfl,⟨m,λe p q=>?_,λe r=>?_,λt v=>i.2<|.inl<|F.s t v⟩,n,i.2<|.inr rfl,λh=>(by cases h),?_⟩
  ·by_cases t:e=k
   ·subst t
    rcases i.1 q with v|rfl
    ·exact F.t _ p v
    ·exact A
   ·obtain⟨Y,v,a0⟩:=q;rw[qV (λh=>t h.symm)] at v;exact F.t e p ⟨Y,v,a0⟩
  ·rw[qV (λh=>r h.symm)];exact F.o e r
  ·have t:=j.lt;have:=Is (nl:=o) (k:=c.code s) (by rw[(F.I.len k a o d f).1];exact t) X;unfold iq;rw[F7 S,gD rfl,jX,f];simpa using this
theorem Bq(h:W w (ax c.kat (nG os ats)::aT (cG os ats)::aT (cU c.kbs vss)::L))(hH:∀h,aL L h->sub H h)(hC:nJ H c)(I:XH c os ats vss)(ht:∀(j:Nat) s,pY ats j s->N j s)(hT:xy c k N)(hk:k<c.n)(hps:c.ps.length<=1048576)(hrl:∀p∈c.ps,p.right.length<=1099511627776):
  ρ 120 [.pointer (some ⟨c.kc,0,none⟩),O (k:Int)] w λv w'=>v=.tuple ⟨[]⟩/\∃(os':List (E×Nat))(ats':List (List cj))(vss':A5),FS c k N ats os' ats' vss'/\oo c k ats'/\W w' (ax c.kat (nG os' ats')::aT (cG os' ats')::aT (cU c.kbs vss')::L):=by
 refine pD ?_;have F0:FS c k N ats os ats vss:=⟨I,ht,λ_ _=>rfl,λ_ h=>h⟩;obtain⟨Q,hQ⟩:=su (λ(b:Bool)(w:ga)(m:Nat)=>∃(os':List (E×Nat))(ats':List (List cj))(vss':A5),FS c k N ats os' ats' vss'/\m=iq vss' k+(if b then 1 else 0)/\(b=false->oo c k ats')/\W w (ax c.kat (nG os' ats')::aT (cG os' ats')::aT (cU c.kbs vss')::L));obtain⟨μ,er,e8⟩:=zv (λ(y:Bool×ga) m=>Q y.1 y.2 m)
 refine⟨λb w'=>∃m,Q b w' m,λb w=>μ (b,w),⟨iq vss k+1,?_⟩,?_⟩
 ·rw[hQ];exact⟨os,ats,vss,F0,rfl,λh=>absurd h (by decide),h⟩
 clear h F0 I ht;intro _ b1 w1 hP;have hP:=e8 (b1,w1) hP;dsimp only at hP;generalize hμ:μ (b1,w1)=μ0 at*;rw[hQ] at hP;obtain⟨cT,ats0,d,F,ek,dc,h⟩:=hP;refine ae (λca=>?_) λca=>⟨rfl,cT,ats0,d,F,dc ca,h⟩;subst ca;rw[gD rfl] at ek;refine⟨λb n w'=>∃(i:Nat)(os':List (E×Nat))(ats':List (List cj))(vss':A5),n=i/\i<=c.M/\FS c k N ats os' ats' vss'/\iq vss' k+(if b then 1 else 0)<=iq d k/\(b=false->∀l,ats'[k]? =some l->∀s∈l.take i,vu c k ats' s)/\W w' (ax c.kat (nG os' ats')::aT (cG os' ats')::aT (cU c.kbs vss')::L),λ_ n _=>c.M+1-n.toNat,⟨0,cT,ats0,d,rfl,gu _,F,V,V,h⟩,?_⟩;clear h F dc;rintro _ b2 n1 w2⟨i,g,J,z,rfl,eU,F,cz,d9,h⟩;have M1:=F.I.M;have a5:∀{w:ga},sub H (hp w)->aj (hp w) ⟨c.kc,0,none⟩ c.cells:=λs=>hC.row.mono s;obtain⟨l,hl⟩:∃l,J[k]? =some l:=⟨J[k]'(by rw[F.I.la];exact hk),gn _⟩;obtain⟨v,hv⟩:∃v,z[k]? =some v:=⟨z[k]'(by rw[F.I.lv];exact hk),gn _⟩;obtain⟨o,ho⟩:∃o,g[k]? =some o:=⟨g[k]'(by rw[F.I.lo];exact hk),gn _⟩;obtain⟨vl,ll⟩:=F.I.len k l v hl hv;have f5:l.length<=c.M:=by rw[ll,<-vl];exact dH v
 have gA:(nG g J)[k]? =some (T o.1 l.length o.2):=by unfold nG;rw[lE,ho,hl]
 have rA:=af 0 h.l;have sH:sub H (hp w2):=hH _ (h.pick 3 []).l;refine⟨_,_,_,(a5 sH).cell sZ (j:=6) rfl,au rfl hk ⟨_,_,_,rA.cell sZ (j:=k) gA,ae (λu=>?_) λu=>?_⟩⟩
 rotate_left
 ·have u:l.length<=i:=by have:=hY u;omega
  have key:Q b2 w2 (iq z k+(if b2 then 1 else 0)):=by
   rw[hQ];exact⟨g,J,z,F,rfl,λhb s hs=>by
    obtain⟨l',e,hm⟩:=hs;rw[hl] at e;cases e;exact d9 hb l hl s (by rw[jy u];exact hm),h⟩
  refine⟨⟨_,key⟩,?_⟩;have:=er (b2,w2) _ key;dsimp only;rw[hμ];omega
 have u:i<l.length:=by have:=gZ u;omega
 obtain⟨s,hs⟩:∃s,l[i]? =some s:=⟨l[i],gn u⟩;have c9:=gg hs;have gO:cG g J=cG g J:=rfl
 have c7:∀{w:ga}{L':List aG}{os' ats'}{k':Nat}{o l},W w (aT (cG os' ats')::L')->os'[k']? =some o->ats'[k']? =some l->dX o.1 (Bz l) (hp w):=λ{w L' os' ats' k' o l} h h1 h2=>by
  obtain⟨g1,s1,ha⟩:=NP h (A:=own 3 o.1 l.length o.2<|Bz l)<|gg (i:=k') (by unfold cG;rw[lE,h1,h2]);exact dX.mono s1 (bD ha)
 obtain⟨f8,ei,e0⟩:=zU (c7 (h.pick 2 [1]) ho hl) hs;refine⟨_,_,_,(a5 sH).cell sZ (j:=6) rfl,au rfl hk ⟨_,_,_,rA.cell sZ (j:=k) gA,aI ei u ⟨_,_,_,e0.at sZ rfl,ag h λk9 w3 h=>aQ h rfl (by simp[aO]) λw4 h=>λw5 hd=>?_⟩⟩⟩;have h:W w5 (ax k9 (sG s)::ax c.kat (nG g J)::aT (cG g J)::aT (cU c.kbs z)::L):=h.drawn hd;have sH:sub H (hp w5):=hH _ (h.pick 4 []).l;have r9:aj (hp w5) ⟨k9,0,none⟩ (sG s):=af 0 h.l;have e4:=F.I.rg k l hl s c9;obtain⟨⟨p0,a0,fs⟩,aV⟩:=id e4;have c5:=(gJ.1 a0).1;obtain⟨p,ad,eM,d6,d0,cm,ra,rl,rc,rfl,f7,cA⟩:=hC.p.get (i:=s.prod) c5;rw[a0] at d6;cases d6;have eX:=cA.1;have eI:=hrl p0 (gg a0)
 --what goes on behind a spot
 have nx:∀{w':ga}{b':Bool}{os':List (E×Nat)}{ats':List (List cj)}{vss':A5},FS c k N ats os' ats' vss'->iq vss' k+(if b' then 1 else 0)<=iq d k->(b'=false->b2=false/\ats'=J/\vu c k ats' s)->W w' (ax c.kat (nG os' ats')::aT (cG os' ats')::aT (cU c.kbs vss')::L)->
   K ((i:Int)+1)/\(∃(i':Nat)(os':List (E×Nat))(ats':List (List cj))(vss':A5),(i:Int)+1=i'/\i'<=c.M/\FS c k N ats os' ats' vss'/\iq vss' k+(if b' then 1 else 0)<=iq d k/\(b'=false->∀l,ats'[k]? =some l->∀s∈l.take i',vu c k ats' s)/\W w' (ax c.kat (nG os' ats')::aT (cG os' ats')::aT (cU c.kbs vss')::L))/\c.M+1-((i:Int)+1).toNat<c.M+1-(i:Int).toNat:=λ{w' b' os' ats' vss'} F' m' c' h'=>by
  refine⟨ξ,⟨i+1,os',ats',vss',V,U,F',m',λhb l' aK x hx=>?_,h'⟩,U⟩;obtain⟨e1,e2,e3⟩:=c' hb;subst e2;rw[hl] at aK;cases aK;rw[iw,hs] at hx
  rcases iU.1 hx with hx|hx
  ·exact d9 e1 l hl x hx
  ·simp at hx;subst hx;exact e3
 refine⟨λw=>aj (hp w) ⟨k9,0,none⟩ (sG s)/\sub H (hp w),⟨r9,sH⟩,_,_,_,λw q=>(a5 q.2).cell sZ (j:=4) rfl,_,λw q=>q.1.cell0 sZ,aI d0 c5 ⟨_,_,_,λw q=>cm.cell q.2 (j:=1) rfl,_,r9.cell sZ (j:=1) rfl,ae (λY=>?_) λY=>?_⟩⟩
 ·--a symbol stands behind the dot
  have Y:s.dot<rl:=by have:=gZ Y;omega
  refine⟨λb n w'=>∃(j:Nat)(os':List (E×Nat))(ats':List (List cj))(vss':A5),n=j/\j<=c.ps.length/\FS c k N ats os' ats' vss'/\iq vss' k+(if b then 1 else 0)<=iq d k/\(b=false->b2=false/\ats'=J/\∀(j':Nat) q,j'<j->p0.right[s.dot]? =some q.left->c.ps[j']? =some q->pY ats' k ⟨j',0,k⟩)/\W w' (ax c.kat (nG os' ats')::aT (cG os' ats')::aT (cU c.kbs vss')::ax k9 (sG s)::L),λ_ n _=>c.ps.length-n.toNat,⟨0,g,J,z,rfl,gu _,F,cz,λhb=>⟨hb,rfl,λ_ _ h=>absurd h<|Nat.not_lt_zero _⟩,h.pick 4 [1,2,3,0]⟩,?_⟩;clear h r9 sH hd;rintro _ b3 n7 w9⟨j,a4,f,a9,rfl,hj,F2,a6,b7,h⟩;have sH:sub H (hp w9):=hH _ (h.pick 4 []).l;refine⟨_,_,_,(a5 sH).cell sZ (j:=4) rfl,ae (λu=>?_) λu=>?_⟩
  rotate_left
  ·have u:j=c.ps.length:=by have:=hY u;omega
   refine nx F2 a6 (λhb=>?_)<|h.pick 4 [0,1,2];obtain⟨e1,e2,e3⟩:=b7 hb
   refine⟨e1,e2,λp' Z=>⟨λq j' hr hq=>?_,λhd=>?_⟩⟩
   ·rw[a0] at Z;cases Z;exact e3 j' q (by rw[u];exact(gJ.1 hq).1) hr hq
   ·rw[a0] at Z;cases Z;omega
  have u:j<c.ps.length:=by have:=gZ u;omega
  obtain⟨q,eY,f9,cd,e5,ej,rb,ql,qc,rfl,f2,eO⟩:=hC.p.get u;intro cx hd;have h:=h.drawn hd;have sH:sub H (hp cx):=hH _ (h.pick 4 []).l;have r9:aj (hp cx) ⟨k9,0,none⟩ (sG s):=af 3 h.l;obtain⟨y,el,az,bQ,cg⟩:=cA.dy Y
  have nj:∀{w':ga}{b':Bool}{os':List (E×Nat)}{ats':List (List cj)}{vss':A5},FS c k N ats os' ats' vss'->iq vss' k+(if b' then 1 else 0)<=iq d k->(b'=false->b3=false/\ats'=f/\(q.left=y->pY ats' k ⟨j,0,k⟩))->W w' (ax c.kat (nG os' ats')::aT (cG os' ats')::aT (cU c.kbs vss')::ax k9 (sG s)::L)->
    K ((j:Int)+1)/\(∃(j':Nat)(os':List (E×Nat))(ats':List (List cj))(vss':A5),(j:Int)+1=j'/\j'<=c.ps.length/\FS c k N ats os' ats' vss'/\iq vss' k+(if b' then 1 else 0)<=iq d k/\(b'=false->b2=false/\ats'=J/\∀(aa:Nat) q,aa<j'->p0.right[s.dot]? =some q.left->c.ps[aa]? =some q->pY ats' k ⟨aa,0,k⟩)/\W w' (ax c.kat (nG os' ats')::aT (cG os' ats')::aT (cU c.kbs vss')::ax k9 (sG s)::L))/\c.ps.length-((j:Int)+1).toNat<c.ps.length-(j:Int).toNat:=λ{w' b' os' ats' vss'} F' m' c' h'=>by
   refine⟨ξ,⟨j+1,os',ats',vss',V,U,F',m',λhb=>?_,h'⟩,bS u⟩;obtain⟨e1,e2,e3⟩:=c' hb;obtain⟨d1,d2,d3⟩:=b7 e1;subst e2;refine⟨d1,d2,λaa q' eA hr hq=>?_⟩
   by_cases e:aa=j
   ·subst e;rw[cd] at hq;cases hq;rw[az] at hr;exact e3 (Option.some.inj hr).symm
   ·exact d3 aa q' U hr hq
  refine⟨λw=>aj (hp w) ⟨k9,0,none⟩ (sG s)/\sub H (hp w),⟨r9,sH⟩,_,_,_,λw q=>(a5 q.2).cell sZ (j:=4) rfl,aI e5 u ⟨_,λw q=>ej.cell0 q.2,_,λw q=>q.1.cell sZ (j:=1) rfl,au bQ Y ⟨_,λw q=>cg _ q.2,ae (λhe=>?_) λhe=>?_⟩⟩⟩
  rotate_left
  ·refine nj F2 a6 (λhb=>⟨hb,rfl,λe=>?_⟩) h;rw[e] at he;simp at he
  have he:q.left=y:=by simpa using he
  have ck:N k s:=F.t k s ⟨l,hl,c9⟩;refine(Pp (s:=⟨j,0,k⟩) (ats0:=ats) h (λh hh=>hH h<|ay hh) hC F2 hk ⟨⟨q,cd,gu _⟩,hk⟩<|hT.pr s p0 q j ck a0 (by rw[az,he]) cd).mono ?_;rintro _ f6⟨b4,et,dW,cF,rfl,F3,h,bl,c6,aR⟩
  refine⟨_,rfl,⟨af 3 h.l,hH _ (h.pick 4 []).l⟩,ae (λbT=>?_) λbT=>?_⟩
  ·subst bT;refine nj F3 ?_ (λhb=>by cases hb) h;rw[gD rfl] at aR ⊢
   split at a6<;>omega
  ·subst bT;refine nj F3 ?_ (λhb=>⟨hb,c6 rfl,λ_=>bl⟩) h;simp only[o8,if_false,Nat.add_zero] at aR;omega
 ·--the dot stands at the end
  have Y:s.dot=p0.right.length:=by have:=hY Y;omega
  intro eL bb;have h:=h.drawn bb;refine⟨λw=>aj (hp w) ⟨k9,0,none⟩ (sG s)/\sub H (hp w),⟨af 0 h.l,hH _ (h.pick 4 []).l⟩,_,_,_,λw q=>(a5 q.2).cell sZ (j:=4) rfl,_,λw q=>q.1.cell0 sZ,aI d0 c5 ⟨_,λw q=>cm.cell0 q.2,?_⟩⟩;refine⟨λb n w'=>∃(m:Nat)(os':List (E×Nat))(ats':List (List cj))(vss':A5),n=m/\m<=c.M/\FS c k N ats os' ats' vss'/\iq vss' k+(if b then 1 else 0)<=iq d k/\(b=false->b2=false/\ats'=J/\∀l',J[s.frm]? =some l'->∀t∈l'.take m,∀r,c.ps[t.prod]? =some r->r.right[t.dot]? =some p0.left->pY ats' k ⟨t.prod,t.dot+1,t.frm⟩)/\W w' (ax c.kat (nG os' ats')::aT (cG os' ats')::aT (cU c.kbs vss')::ax k9 (sG s)::L),λ_ n _=>c.M+1-n.toNat,⟨0,g,J,z,rfl,gu _,F,cz,λhb=>⟨hb,rfl,λ_ _ t ht=>by simp at ht⟩,h.pick 4 [1,2,3,0]⟩,?_⟩;clear h r9 sH hd bb;rintro _ b5 fd eK⟨m,a4,f,a9,rfl,eN,F2,a6,b7,h⟩;intro em dF;have h:=h.drawn dF;obtain⟨lf,X⟩:∃lf,f[s.frm]? =some lf:=⟨f[s.frm]'(by rw[F2.I.la];exact aV),gn _⟩;obtain⟨vf,eg⟩:∃vf,a9[s.frm]? =some vf:=⟨a9[s.frm]'(by rw[F2.I.lv];exact aV),gn _⟩;obtain⟨of,ch⟩:∃of,a4[s.frm]? =some of:=⟨a4[s.frm]'(by rw[F2.I.lo];exact aV),gn _⟩;obtain⟨ef,eu⟩:=F2.I.len _ lf vf X eg;have eB:lf.length<=c.M:=by rw[eu,<-ef];exact dH vf
  have cC:(nG a4 f)[s.frm]? =some (T of.1 lf.length of.2):=by unfold nG;rw[lE,ch,X]
  refine⟨λw=>aj (hp w) ⟨k9,0,none⟩ (sG s)/\aj (hp w) ⟨c.kat,0,none⟩ (nG a4 f)/\sub H (hp w),⟨af 3 h.l,af 0 h.l,hH _ (h.pick 4 []).l⟩,_,_,_,λw q=>(a5 q.2.2).cell sZ (j:=6) rfl,_,λw q=>q.1.cell sZ (j:=2) rfl,au rfl aV ⟨_,_,_,λw q=>q.2.1.cell sZ (j:=s.frm) cC,ae (λu=>?_) λu=>?_⟩⟩
  rotate_left
  ·have u:lf.length<=m:=by have:=hY u;omega
   refine nx F2 a6 (λhb=>?_)<|h.pick 4 [0,1,2];obtain⟨e1,e2,e3⟩:=b7 hb;subst e2
   refine⟨e1,rfl,λp' Z=>⟨λq j' hr hq=>?_,λhd t r ht hr hrl=>?_⟩⟩
   ·rw[a0] at Z;cases Z;rw[Y] at hr;simp at hr
   ·rw[a0] at Z;cases Z;obtain⟨l',e,hm⟩:=ht;rw[X] at e;cases e;exact e3 lf X t (by rw[jy u];exact hm) r hr hrl
  have u:m<lf.length:=by have:=gZ u;omega
  obtain⟨t,ht⟩:∃t,lf[m]? =some t:=⟨lf[m],gn u⟩;have dk:=gg ht;have eo:=F2.I.rg _ lf X t dk;obtain⟨⟨r,av,fc⟩,eb⟩:=id eo;have be:=(gJ.1 av).1;obtain⟨r',f3,eR,d5,e7,e6,eP,cp,fg,rfl,ez,d8⟩:=hC.p.get (i:=t.prod) be;rw[av] at d5;cases d5;have eG:=d8.1;have eD:=hrl r (gg av)
  have nm:∀{w':ga}{b':Bool}{os':List (E×Nat)}{ats':List (List cj)}{vss':A5},FS c k N ats os' ats' vss'->iq vss' k+(if b' then 1 else 0)<=iq d k->(b'=false->b5=false/\ats'=f/\(r.right[t.dot]? =some p0.left->pY ats' k ⟨t.prod,t.dot+1,t.frm⟩))->W w' (ax c.kat (nG os' ats')::aT (cG os' ats')::aT (cU c.kbs vss')::ax k9 (sG s)::L)->
    K ((m:Int)+1)/\(∃(m':Nat)(os':List (E×Nat))(ats':List (List cj))(vss':A5),(m:Int)+1=m'/\m'<=c.M/\FS c k N ats os' ats' vss'/\iq vss' k+(if b' then 1 else 0)<=iq d k/\(b'=false->b2=false/\ats'=J/\∀l',J[s.frm]? =some l'->∀t∈l'.take m',∀r,c.ps[t.prod]? =some r->r.right[t.dot]? =some p0.left->pY ats' k ⟨t.prod,t.dot+1,t.frm⟩)/\W w' (ax c.kat (nG os' ats')::aT (cG os' ats')::aT (cU c.kbs vss')::ax k9 (sG s)::L))/\c.M+1-((m:Int)+1).toNat<c.M+1-(m:Int).toNat:=λ{w' b' os' ats' vss'} F' m' c' h'=>by
   refine⟨ξ,⟨m+1,os',ats',vss',V,U,F',m',λhb=>?_,h'⟩,U⟩;obtain⟨e1,e2,e3⟩:=c' hb;obtain⟨d1,d2,d3⟩:=b7 e1;subst e2;refine⟨d1,d2,λl' aK t' a7 r' c8 dl=>?_⟩;rw[<-d2,X] at aK;cases aK;rw[iw,ht] at a7
   rcases iU.1 a7 with a7|a7
   ·exact d3 lf (by rw[<-d2];exact X) t' a7 r' c8 dl
   ·simp at a7;subst a7;rw[av] at c8;cases c8;exact e3 dl
  obtain⟨cu,cI,d4⟩:=zU (c7 (h.pick 2 [1]) ch X) ht;intro ea bi;have ey:hp ea=hp em:=fM bi;have h:=h.drawn bi;rw[<-ey] at d4
  have ep:∀{w:ga}{L'},W w (aT (cG a4 f)::L')->aj (hp w) (cu.add<|ew m 3) (sG t):=λ{w L'} h=>by
   obtain⟨eC,e,r⟩:=zU (c7 h ch X) ht;rw[cI] at e;cases e;exact r
  refine⟨λw=>aj (hp w) ⟨k9,0,none⟩ (sG s)/\aj (hp w) ⟨c.kat,0,none⟩ (nG a4 f)/\aj (hp w) (cu.add<|ew m 3) (sG t)/\sub H (hp w),⟨af 3 h.l,af 0 h.l,d4,hH _ (h.pick 4 []).l⟩,_,_,_,λw q=>(a5 q.2.2.2).cell sZ (j:=6) rfl,_,λw q=>q.1.cell sZ (j:=2) rfl,au rfl aV ⟨_,_,_,λw q=>q.2.1.cell sZ (j:=s.frm) cC,aI cI u ⟨_,_,_,λw q=>q.2.2.1.at sZ rfl,ag h λbz f4 h=>⟨⟨af 4 h.l,af 1 h.l,ep<|h.pick 3 [2],hH _ (h.pick 5 []).l⟩,aQ h rfl (by simp[aO]) λeS h=>λbP d7=>?_⟩⟩⟩⟩;have h:W bP (ax bz (sG t)::ax c.kat (nG a4 f)::aT (cG a4 f)::aT (cU c.kbs a9)::ax k9 (sG s)::L):=h.drawn d7;have am:aj (hp bP) ⟨bz,0,none⟩ (sG t):=af 0 h.l;have sH:sub H (hp bP):=hH _ (h.pick 5 []).l;refine⟨λw=>aj (hp w) ⟨bz,0,none⟩ (sG t)/\sub H (hp w),⟨am,sH⟩,_,_,_,λw q=>(a5 q.2).cell sZ (j:=4) rfl,_,λw q=>q.1.cell0 sZ,aI e7 be ⟨_,_,_,λw q=>e6.cell q.2 (j:=1) rfl,_,am.cell sZ (j:=1) rfl,ae (λa8=>?_) λa8=>?_⟩⟩
  rotate_left
  ·have a8:¬t.dot<cp:=by have:=hY a8;omega
   refine nm F2 a6 (λhb=>⟨hb,rfl,λe=>?_⟩)<|h.pick 5 [1,2,3,4];have:=(gJ.1 e).1;omega
  have a8:t.dot<cp:=by have:=gZ a8;omega
  obtain⟨y,el,az,bQ,cg⟩:=d8.dy a8;refine⟨_,am.cell sZ (j:=1) rfl,au bQ a8 ⟨_,cg _ sH,ae (λhe=>?_) λhe=>?_⟩⟩
  rotate_left
  ·refine nm F2 a6 (λhb=>⟨hb,rfl,λe=>?_⟩)<|h.pick 5 [1,2,3,4];rw[az] at e;cases e;simp at he
  have he:y=p0.left:=by simpa using he
  refine⟨_,am.cell0 sZ,_,am.cell sZ (j:=1) rfl,ξ,_,am.cell sZ (j:=2) rfl,?_⟩;have ck:N k s:=F.t k s ⟨l,hl,c9⟩;have e9:N s.frm t:=F2.t _ t ⟨lf,X,dk⟩;refine(Pp (s:=⟨t.prod,t.dot+1,t.frm⟩) (ats0:=ats) (h.pick 5 [1,2,3,4]) (λh hh=>hH h<|ay hh) hC F2 hk ⟨⟨r,av,by show t.dot+1<=_;omega⟩,eb⟩<|hT.co s p0 t r ck a0 Y e9 av (by rw[az,he])).mono ?_;rintro _ eT⟨b6,et,dW,cF,rfl,F3,h,bl,c6,aR⟩
  refine⟨_,rfl,ae (λci=>?_) λci=>?_⟩
  ·subst ci;refine nm F3 ?_ (λhb=>by cases hb) h;rw[gD rfl] at aR ⊢
   split at a6<;>omega
  ·subst ci;refine nm F3 ?_ (λhb=>⟨hb,c6 rfl,λ_=>bl⟩) h;simp only[o8,if_false,Nat.add_zero] at aR;omega
end
def nL(ps:List aD)(st:Int)(row:Az)(k:Nat)(s:cj):Prop:=∃p,ps[s.prod]? =some p/\Ia ps st row k p s.dot s.frm
section
variable{c:Ch}{st:Int}{row:Az}{ats ats':List (List cj)}{k:Nat}
theorem nL.ail(k:Nat):xy c k (nL c.ps st row) where
 pr:=by
  rintro h e a i⟨j,b,f⟩ hp g d;rw[hp] at b;cases b;exact⟨a,d,.pred k e _ _ a f g<|gg d⟩
 co:=by
  rintro l g m a⟨n,b,d⟩ hp h⟨o,e,i⟩ f j;rw[hp] at b;cases b;rw[f] at e;cases e;rw[h] at d;exact⟨a,f,.comp k g _ a _ _ d i j⟩
theorem oo.mono(h:oo c k ats)(d:∀s,pY ats k s->nL c.ps st row k s)(e:∀j,j<=k->ats'[j]? =ats[j]?):oo c k ats':=by
 have a:∀{j s},j<=k->(pY ats' j s↔pY ats j s):=λ{j s} b=>by unfold pY;rw[e j b]
 intro s b f hp;rw[a (gP _)] at b;obtain⟨g,i⟩:=h s b f hp;obtain⟨v,_,l⟩:=d s b;have m:=l.dot.2;exact⟨λn j o p=>(a<|gP _).2 (g n j o p),λn o p q r t=>(a<|gP _).2 (i n o p ((a m).1 q) r t)⟩
def sc(c:Ch)(row:Az)(i:Nat)(ats:List (List cj)):Prop:=∀s p,pY ats i s->c.ps[s.prod]? =some p->∀a,p.right[s.dot]? =some a->row[i]? =some a->pY ats (i+1) ⟨s.prod,s.dot+1,s.frm⟩
def tB(c:Ch)(st:Int)(ats:List (List cj)):Prop:=∀(j:Nat) p,c.ps[j]? =some p->p.left=st->pY ats 0 ⟨j,0,0⟩
theorem Bs(h0:tB c st ats)(a:∀j,j<=k->oo c j ats)(o:∀i,i<k->sc c row i ats){j:Nat}{p:aD}{d f:Nat}(h:Ia c.ps st row j p d f):j<=k->∀i:Nat,c.ps[i]? =some p->pY ats j ⟨i,d,f⟩:=by
 have b:∀{j p d f},Ia c.ps st row j p d f->∃i:Nat,c.ps[i]? =some p:=λh=>jR h.mem
 induction h with
 |init p hp e=>intro _ i g;exact h0 i p g e
 |pred m p d f n q r v s=>
  intro e i t;obtain⟨g,l⟩:=b q;exact(a m e ⟨g,d,f⟩ (s e g l) p l).1 n i r t
 |scan g p d f l r m n q=>
  intro s i e;exact o g U ⟨i,d,f⟩ p (q U i e) e l m n
 |comp q p f r d s e x t v w=>
  intro g i l;obtain⟨m,n⟩:=b e;have y:=e.dot.2;exact(a q g ⟨m,_,f⟩ (v g m n) p n).2 rfl ⟨i,d,s⟩ r (w U i l) l t
def vv(c:Ch)(st:Int)(row:Az)(ats:List (List cj))(m:Nat):Prop:=
 (m=row.length/\∀s,pY ats m s↔nL c.ps st row m s)\/(m<row.length/\∀s,¬nL c.ps st row row.length s)
theorem aby(h0:tB c st ats)(h:∀j,j<=k->oo c j ats)(b:∀i,i<k+1->sc c row i ats)(l:k<row.length)(m:∀s,¬pY ats (k+1) s):vv c st row ats k:=by
 refine .inr ⟨l,λs n=>?_⟩;obtain⟨A,hp,o⟩:=n
 --the first of place k+1 comes of a scan
 have p:∀{j d e f},Ia c.ps st row j d e f->j≠k+1:=by
  intro j C F I q;have r:∀{j d e f},Ia c.ps st row j d e f->∃i:Nat,c.ps[i]? =some d:=λd=>jR d.mem
  induction q with
  |init d hp e=>omega
  |pred e f g t v w x y d=>exact d
  |scan d t v w a e x y L=>
   intro N;have z:d=k:=U
   subst z;obtain⟨f,g⟩:=r e;exact m _ (b d U ⟨f,v,w⟩ t (Bs h0 h (λi P=>b i U) e (gP _) f g) g a x y)
  |comp e f g t v w x y z d L=>exact d
 obtain⟨e,f,g,d⟩:=o.prev (k+1) U;exact p d rfl
theorem aej(h0:tB c st ats)(a:∀j,j<=row.length->oo c j ats)(b:∀i,i<row.length->sc c row i ats)(d:∀(j:Nat) s,pY ats j s->nL c.ps st row j s):vv c st row ats row.length:=
 .inl ⟨rfl,λs=>⟨d _ s,λ⟨f,hp,e⟩=>Bs h0 a b e (gP _) _ hp⟩⟩
end
theorem Nk{α:Type}{f:α->Ay}:∀{K:List α}(hK:∀x∈K,(f x).length=3){i:Nat}{x:α},K[i]? =some x->∀j v,(f x)[j]? =some v->(K.flatMap f)[i*3+j]? =some v
 |[],_,i,x,h,j,v,hv=>by simp at h
 |y::K,hK,0,x,h,j,v,hv=>by
  simp at h;subst h
  show(f y++K.flatMap f)[0*3+j]? =_
  rw[ki (by have:=(gJ.1 hv).1;omega)]
  simpa using hv
 |y::K,hK,i+1,x,h,j,v,hv=>by
  show(f y++K.flatMap f)[(i+1)*3+j]? =_
  have hy:=hK y V
  rw[kL U,show(i+1)*3+j-(f y).length=i*3+j from U]
  exact Nk (λx hx=>hK x (by simp[hx])) (by simpa using h) j v hv
theorem agO{h H:Hp}{K:List (aD×Ay)}{o:E}(i:sub H h)(d:∀y∈K,rd H y.1 y.2)(r:dX o (K.flatMap Prod.snd) h):bf h (K.map Prod.fst) o K.length:=by
 refine⟨V,λj s a=>?_⟩;rw[iE] at a;cases b:K[j]? with
 |none=>rw[b] at a;cases a
 |some y=>
  rw[b] at a;cases a;have k:=d y<|gg b;have e:∀c∈K,(Prod.snd c).length=3:=λc g=>tV.len<|d c g;have g:=Nk (f:=Prod.snd) e b
  rcases r with c|⟨l,c,m⟩
  ·have:=g 0 (y.2[0]'(by rw[e y (gg b)];omega))<|gn _;rw[c] at this;simp at this
  ·refine⟨l,y.2,c,λn p q=>?_,tV.mono i k⟩;rw[ke,bh];exact m _ _ (g n p q)
def Hi(g:B)(pds:At)(p:aD):Bool:=p.right.all λs=>decide (s<(g.T:Int))||bt pds (s.toNat-g.T)
theorem XJ{g:B}{pds:At}{p:aD}:Hi g pds p=true↔Kx g pds p.right:=by
 unfold Hi Kx;rw[mE];simp only[kj,jV]
structure Ui(c:Ch)(st:Int)(row:Az)(i:Nat)(ats:List (List cj)):Prop where
 h0:tB c st ats
 hc:∀j,j<=i->oo c j ats
 hs:∀j,j<i->sc c row j ats
theorem Ui.mono{c:Ch}{st:Int}{row:Az}{i:Nat}{ats ats':List (List cj)}(a:Ui c st row i ats)(e:∀(j:Nat) s,pY ats j s->nL c.ps st row j s)(d:∀j,j<=i->ats'[j]? =ats[j]?):Ui c st row i ats':=by
 have b:∀{j s},j<=i->(pY ats' j s↔pY ats j s):=λ{j s} f=>by unfold pY;rw[d j f]
 exact⟨λj f g h=>(b<|gu _).2 (a.h0 j f g h),λj f=>(a.hc j f).mono (e j) λg h=>d g U,λj f s g h k l m n=>(b U).2 (a.hs j f s g ((b U).1 h) k l m n)⟩
theorem Ui.next{c:Ch}{st:Int}{row:Az}{i:Nat}{ats:List (List cj)}(a:Ui c st row i ats)(d:sc c row i ats)(e:oo c (i+1) ats):Ui c st row (i+1) ats:=
 ⟨a.h0,λb g=>by
  by_cases f:b=i+1
  ·rw[f];exact e
  ·exact a.hc b U,λb g=>by
  by_cases f:b=i
  ·rw[f];exact d
  ·exact a.hs b U⟩
theorem Nl{w:ga}{L:List aG}(h:W w L):∀n:Nat,W w (aT (cG (List.replicate n (none,0)) (List.replicate n []))::L)
 |0=>W.flat.2 h
 |n+1=>by
  have h1:=Nl h n
  have h2:=W.snoc (aH 3 h1)
  have e:cG (List.replicate n (none,0)) (List.replicate n [])++[own 3 none 0 0 []]=cG (List.replicate (n+1) (none,0)) (List.replicate (n+1) []):=by
   unfold cG;rw[pE,pE,List.zipWith_append V];rfl
  rw[e] at h2;exact h2
theorem aek(n:Nat):List.replicate n (D)=nG (List.replicate n (none,0)) (List.replicate n []):=by
 unfold nG;simp
theorem Uj(ps:List aD)(j:Nat):sI ps (j+1)=sI ps j++[(zV ps j:Int)]:=by simp[sI,k8]
theorem XK(ps:List aD)(j:Nat):(sI ps j).length=j:=by simp[sI]
theorem Bu{ps:List aD}{N:Nat}(h:∀p∈ps,p.right.length<=N):∀j:Nat,zV ps j<=j*(N+1)
 |0=>by simp[zV]
 |j+1=>by
  have:=Bu h j
  rw[Nat.add_mul]
  cases hp:ps[j]? with
  |none=>unfold zV at this ⊢;rw[iw,hp];simp at this ⊢;omega
  |some p=>rw[vn hp];have:=h p (gg hp);omega
def C9(x:GA)(o:E)(m co:Nat)(hs at_ ba:ah)(al:Nat):Ay:=[T x.ta x.tl x.tc,T x.na x.nl x.nc,D,O x.s,T o m co,hs,at_,ba,O (al:Int)]
theorem XL{bs:At}(h:∀k,bt bs k=false):bK bs=0:=by
 unfold bK du;rw[tJ.2 (λk _=>by rw[h k];simp)];rfl
theorem vo{α:Type}{n k:Nat}{a b:α}(h:(List.replicate n a)[k]? =some b):k<n/\b=a:=by
 rw[xC] at h
 split at h
 ·rename_i e;exact⟨e,(Option.some.inj h).symm⟩
 ·cases h
theorem XH.init{c:Ch}(g:c.kbs.length=c.n)(h:c.M<=1099511627776):XH c (List.replicate c.n (none,0)) (List.replicate c.n []) (List.replicate c.n (List.replicate c.M false)):=by
 refine⟨V,V,V,g,h,λd e i a b=>?_,λd e a j f=>?_,λd e i a b j f=>?_⟩
 ·obtain⟨_,rfl⟩:=vo a;obtain⟨_,rfl⟩:=vo b;exact⟨V,by rw[XL λk=>j7 _ k];rfl⟩
 ·obtain⟨_,rfl⟩:=vo a;simp at f
 ·obtain⟨_,rfl⟩:=vo a;obtain⟨_,rfl⟩:=vo b;rw[j7];simp
theorem FS.self{c:Ch}{k:Nat}{a:Nat->cj->Prop}{ats:List (List cj)}{os:List (E×Nat)}{vss:A5}(I:XH c os ats vss)(t:∀(j:Nat) s,pY ats j s->a j s):FS c k a ats os ats vss:=⟨I,t,λ_ _=>rfl,λ_ b=>b⟩
theorem FS.trans{c:Ch}{k:Nat}{b:Nat->cj->Prop}{d ats e:List (List cj)}{os f:List (E×Nat)}{vss g:A5}(F:FS c k b d os ats vss)(a:FS c k b ats f e g):FS c k b d f e g:=
 ⟨a.I,a.t,λh i=>(a.o h i).trans (F.o h i),λh i=>a.s h<|F.s h i⟩
theorem Bw{w:ga}{L:List aG}{os:List (E×Nat)}{ats:List (List cj)}{k:Nat}{o:E×Nat}{l:List cj}(h:W w (aT (cG os ats)::L))(a:os[k]? =some o)(b:ats[k]? =some l):dX o.1 (Bz l) (hp w):=by
 obtain⟨e,c,d⟩:=NP h (A:=own 3 o.1 l.length o.2<|Bz l)<|gg (i:=k) (by unfold cG;rw[lE,a,b]);exact dX.mono c (bD d)
section
variable{w:ga}{L:List aG}{g:B}{x:GA}{a:E}{l cc:Nat}{row:Az}
theorem agP(hg:gR (hp w) g x)(hb:jq g)(he:bL g)(hr:bf (hp w) row a l)(hl64:l<=64)(hsm:∀p∈g.prods,p.right.length<=1048576):
    ρ 50 [.agg ⟨x.cells⟩,T a l cc] w λv w'=>∃(c:Ch)(os:List (E×Nat))(ats:List (List cj))(vss:A5)(m:Nat)(pds:At)(H2:Hp),v=.tuple #[.pointer (some ⟨c.kc,0,none⟩),O (m:Int)]/\
      Pu g pds/\c.ps=GH g pds/\c.n=l+1/\m<=l/\XH c os ats vss/\nJ H2 c/\vv c g.start row ats m/\sub (hp w) H2/\W w' [ax c.kat (nG os ats),aT (cG os ats),aT (cU c.kbs vss),has H2]:=by
  refine xH ?_
  refine dZ hg λk1 w1 gw hg B=>?_
  obtain⟨iG,bT,bN,pN,pT,bP⟩:=EP he
  have tl:g.T=x.tl:=hg.t.1
  have nl:g.N=x.nl:=hg.n.1
  have pl:=hg.p.1
  have hsx:=hg.s
  have gs:sub (hp w) (hp w1):=gw
  have rlen:=hr.1
  refine⟨_,_,_,_,_,_,_,_,_,_,_,_,_,B.row sZ,(QK (x:=x) hg hb he).mono ?_⟩
  rintro _ w2⟨km,pds,rfl,hpd,h2⟩
  have sHH:sub (hp w1) (hp w2):=h2.aS
  have rkm0:aj (hp w2) ⟨km,0,none⟩ (bv pds):=h2.row
  have B:GB (hp w2) k1 x:=⟨λs=>B.c0<|sub.trans sHH s,λs=>B.c1<|sub.trans sHH s,λs=>B.c2<|sub.trans sHH s,λs=>B.c3<|sub.trans sHH s,λs=>B.c4<|sub.trans sHH s,λs=>B.row<|sub.trans sHH s⟩
  have hg:=hg.mono sHH
  have gs:sub (hp w) (hp w2):=sub.trans gs sHH
  have hr:=hr.mono gs
  have h:=W.all w2
  unfold Proofs.YtaoaemnefghnbaaGreatDoor.all at h
  clear h2 sHH
  generalize hH:hp w2=H at*
  have hpdl:=hpd.1
  refine⟨_,_,_,rfl,_,_,_,B.c0<|aE 0 h.l,_,_,_,B.c1<|aE 0 h.l,_,B.c3<|aE 0 h.l,ag h λk16 w3 h=>aQ h rfl (by simp[aO]) λw4 h=>?_⟩
  --the productions that count
  refine⟨λn w'=>∃(i:Nat)(o:E)(c:Nat)(f:List (aD×Ay)),n=i/\i<=g.prods.length/\f.length<=i/\f.map Prod.fst=(g.prods.take i).filter (Hi g pds)/\(∀y∈f,rd H y.1 y.2)/\W w' [ax k16 [T x.ta x.tl x.tc,T x.na x.nl x.nc,D,O x.s,T o f.length c],own 3 o f.length c<|f.flatMap Prod.snd,has H],λn _=>g.prods.length-n.toNat,⟨0,none,0,[],rfl,gu _,gu _,rfl,V,(aH 3 h).swap⟩,?_⟩
  clear h
  rintro _ n3 w5⟨i,o,co,f,rfl,hi,hKi,hK,hKr,h⟩
  refine⟨_,_,_,B.c4<|aE 2 h.l,ae (λhlt=>?_) λhlt=>?_⟩
  · have hlt:i<g.prods.length:=by have:=gZ hlt;omega
    obtain⟨p,ad,pvs,hp1,hpa,hp2,hp3'⟩:=hg.p.get (i:=i) U
    obtain⟨ra,rl,rc,rfl,hrc,hp3⟩:=id hp3'
    have hpm:=gg hp1
    obtain⟨hpl,hpr⟩:=iG p hpm
    have rl1:=hp3.1
    have hrl:=hsm p hpm
    have et:g.prods.take (i+1)=g.prods.take i++[p]:=by rw[iw,hp1];rfl
    have nx:∀{w':ga}{o':E}{c':Nat}{K':List (aD×Ay)},K'.length<=i+1->K'.map Prod.fst=(g.prods.take<|i+1).filter (Hi g pds)->(∀y∈K',rd H y.1 y.2)->W w' [ax k16 [T x.ta x.tl x.tc,T x.na x.nl x.nc,D,O x.s,T o' K'.length c'],own 3 o' K'.length c'<|K'.flatMap Prod.snd,has H]->
        K ((i:Int)+1)/\(∃(i':Nat)(o:E)(c:Nat)(f:List (aD×Ay)),(i:Int)+1=i'/\i'<=g.prods.length/\f.length<=i'/\f.map Prod.fst=(g.prods.take i').filter (Hi g pds)/\(∀y∈f,rd H y.1 y.2)/\W w' [ax k16 [T x.ta x.tl x.tc,T x.na x.nl x.nc,D,O x.s,T o f.length c],own 3 o f.length c<|f.flatMap Prod.snd,has H])/\g.prods.length-((i:Int)+1).toNat<g.prods.length-(i:Int).toNat:=
      λ{w' o' c' K'} e1 e2 e3 e4=>⟨ξ,⟨i+1,o',c',K',V,U,e1,e2,e3,e4⟩,bS hlt⟩
    intro w6 hd
    have h:=h.drawn hd
    have rn:bf (hp w6) pds (some ⟨km,0,none⟩) g.N:=BY hpdl (.inr ⟨_,rfl,rkm0.mono<|aE 2 h.l⟩)
    refine⟨λw=>sub H<|hp w,aE 2 h.l,_,_,_,_,_,_,_,_,_,_,_,_,_,λw s=>B.row s,_,_,_,λw s=>B.c4 s,aI hpa U ⟨_,_,_,λw s=>hp2.cell s (j:=1) rfl,(AD (x:=x) (hg.mono<|aE 2 h.l) rn hpdl (hp3.mono<|aE 2 h.l) (λs hs=>⟨(hpr s hs).1,(hpr s hs).2⟩) U bT bN).mono ?_⟩⟩
    rintro _ w10⟨⟨r,rfl,hrf⟩,g10⟩
    have h:=h.gr g10
    rw[<-XJ] at hrf
    refine⟨_,rfl,ae (λhbr=>?_) λhbr=>?_⟩
    rotate_left
    · have hk:Hi g pds p=false:=by
        cases e:Hi g pds p
        · rfl
        · rw[hrf.2 e] at hbr;cases hbr
      refine nx U ?_ hKr h
      rw[et,lX,List.filter_cons_of_neg (by simp[hk]),hK];simp
    have hk:Hi g pds p=true:=hrf.1 hbr
    intro w11 hd11
    have h:=h.drawn hd11
    refine⟨λw=>aj (hp w) ⟨k16,0,none⟩ [T x.ta x.tl x.tc,T x.na x.nl x.nc,D,O x.s,T o f.length co]/\sub H (hp w),⟨af 0 h.l,aE 2 h.l⟩,_,_,_,λw q=>q.1.cell sZ (j:=4) rfl,_,_,_,λw q=>B.c4 q.2,aI hpa U ⟨_,_,_,_,_,λw q=>hp2.at q.2 rfl,ag h λk37 w15 h=>⟨⟨af 1 h.l,aE 3 h.l⟩,?_⟩⟩⟩
    refine(aU aY (rfl:ai Ty _=.slice _) (rfl:ai Ty _=.slice _) rfl rfl rfl (h.pick 4 [0,2,1,3]) rfl (by simp[aO]) (by show(f.length+1)*40<=_;omega) U).mono ?_
    rintro _ w16⟨o',c',rfl,h⟩
    refine⟨_,_,_,rfl,⟨af 2 h.l,aE 3 h.l⟩,?_⟩
    rw[ak]
    refine aX (h.pick 4 [2,0,3]) V λw17 h=>?_
    refine nx (K':=f++[(p,[O p.left,T ra rl rc,O p.level])]) (o':=o') (c':=c') (by simp;omega) ?_ (λy hy=>?_) ?_
    · rw[et,lX,List.filter_cons_of_pos hk,jI,hK];simp
    · rcases iU.1 hy with hy|hy
      · exact hKr y hy
      · rw[jA.1 hy];exact hp3'
    · have e1:(f++[(p,[O p.left,T ra rl rc,O p.level])]).length=f.length+1:=V
      have e2:(f++[(p,[O p.left,T ra rl rc,O p.level])]).flatMap Prod.snd=f.flatMap Prod.snd++[O p.left,T ra rl rc,O p.level]:=V
      rw[e1,e2];exact h
  have hlt:i=g.prods.length:=by have:=hY hlt;omega
  subst hlt
  rw[jl] at hK
  obtain⟨ps,hps⟩:∃ps,ps=GH g pds:=⟨_,rfl⟩
  have hKu:f.map Prod.fst=ps:=by rw[hK,hps];rfl
  have hKl:f.length=ps.length:=by rw[<-hKu];simp
  have r16:aj (hp w5) ⟨k16,0,none⟩ [T x.ta x.tl x.tc,T x.na x.nl x.nc,D,O x.s,T o f.length co]:=af 0 h.l
  have rP:bf (hp w5) (f.map Prod.fst) o f.length:=agO (aE 2 h.l) hKr (Z2 1 h.l)
  rw[hKl] at r16
  rw[hKu,hKl] at rP
  have s01:sub H (hp w5):=aE 2 h.l
  refine⟨_,_,_,_,_,_,_,_,_,_,_,_,_,r16.at sZ rfl,?_⟩
  have hsmu:∀p∈ps,p.right.length<=1048576:=λp hp=>hsm p (by rw[hps] at hp;exact(kh.1 hp).1)
  have hpsl:ps.length<=97:=U
  clear h
  have h:=W.all w5
  unfold Proofs.YtaoaemnefghnbaaGreatDoor.all at h
  generalize hH1:hp w5=H1 at*
  refine ag h λk48 w18 h=>?_
  have h:W w18 [ax k48 (C9 x o ps.length co (D) (D) (D)<|zV ps 0),has H1]:=h
  --where the spots begin
  refine⟨λn w'=>∃(j:Nat)(ob:E)(cb:Nat),n=j/\j<=ps.length/\W w' [ax k48 (C9 x o ps.length co (D) (D) (T ob j cb)<|zV ps j),own 1 ob j cb<|iv<|sI ps j,has H1],λn _=>ps.length-n.toNat,⟨0,none,0,rfl,gu _,(aH 1 h).swap⟩,?_⟩
  clear h
  rintro _ n8 w19⟨j,ob,cb,rfl,hj,h⟩
  have hbl:=Bu hsmu j
  have hbl2:j*(1048576+1)<=97*(1048576+1):=nO _ U
  refine⟨_,_,_,r16.cell (aE 2 h.l) (j:=4) rfl,ae (λhlt=>?_) λhlt=>?_⟩
  · have hlt:j<ps.length:=by have:=gZ hlt;omega
    obtain⟨p,ad,pvs,hp1,hpa,hp2,ra,rl,rc,rfl,hrc,hp3⟩:=rP.get hlt
    have rl1:=hp3.1
    have hrl:=hsmu p (gg hp1)
    intro w20 hd
    have h:=h.drawn hd
    refine⟨λw=>aj (hp w) ⟨k48,0,none⟩ (C9 x o ps.length co (D) (D) (T ob j cb)<|zV ps j)/\sub H1 (hp w),⟨af 0 h.l,aE 2 h.l⟩,_,_,_,λw q=>q.1.cell sZ (j:=7) rfl,_,λw q=>q.1.cell sZ (j:=8) rfl,ag h λk53 w23 h=>⟨⟨af 1 h.l,aE 3 h.l⟩,?_⟩⟩
    refine(aU aY (rfl:ai Ty _=.slice _) (rfl:ai Ty _=.slice _) rfl rfl rfl (h.pick 4 [0,2,1,3]) rfl (by simp[aO]) (by show(j+1)*8<=_;omega) U).mono ?_
    rintro _ w24⟨o',c',rfl,h⟩
    refine⟨_,_,_,rfl,⟨af 2 h.l,aE 3 h.l⟩,?_⟩
    rw[ak]
    refine aX (h.pick 4 [2,0,3]) (by simp[C9]) λw25 h=>λw26 hd=>?_
    have h:W w26 [ax k48 (C9 x o ps.length co (D) (D) (T o' (j+1) c')<|zV ps j),own 1 o' (j+1) c'<|iv (sI ps j)++[O (zV ps j)],has H1]:=h.drawn hd
    refine⟨λw=>aj (hp w) ⟨k48,0,none⟩ (C9 x o ps.length co (D) (D) (T o' (j+1) c')<|zV ps j)/\sub H1 (hp w),⟨af 0 h.l,aE 2 h.l⟩,_,λw q=>q.1.cell sZ (j:=8) rfl,_,_,_,λw q=>r16.cell q.2 (j:=4) rfl,aI hpa hlt ⟨_,_,_,λw q=>hp2.cell q.2 (j:=1) rfl,ξ,ξ,?_⟩⟩
    rw[ak]
    have e1:(zV ps j:Int)+(rl:Int)+1=((zV ps (j+1):Nat):Int):=by rw[vn hp1];omega
    rw[e1]
    refine aX h (by simp[C9]) λw30 h=>?_
    refine⟨ξ,⟨j+1,o',c',V,U,?_⟩,bS hlt⟩
    have e2:iv (sI ps j)++[O (zV ps j:Int)]=iv (sI ps<|j+1):=by rw[Uj];simp[iv]
    rw[e2] at h;exact h
  have hlt:j=ps.length:=by have:=hY hlt;omega
  subst hlt
  have en:(l:Int)+1=((l+1:Nat):Int):=V
  rw[en]
  obtain⟨n,hn⟩:∃n,n=l+1:=⟨_,rfl⟩
  rw[<-hn]
  refine⟨ξ,⟨U,rfl,U⟩,?_⟩
  rw[je,de,aek]
  refine ag h λk60 w31 h=>?_
  rw[ak]
  refine aX (h.pick 4 [1,0,2,3]) (by simp[C9]) λw32 h=>?_
  obtain⟨M,hM⟩:∃M,M=zV ps ps.length*n:=⟨_,rfl⟩
  have hMb:M<=1099511627776:=by
    rw[hM]
    refine j3 (Nat.mul_le_mul (j3 hbl hbl2) (show n<=65 by omega)) U
  have h:W w32 [ax k48 (C9 x o ps.length co (D) (T (some ⟨k60,0,none⟩) n n) (T ob ps.length cb)<|zV ps ps.length),ax k60<|nG (List.replicate n (none,0))<|List.replicate n [],own 1 ob ps.length cb<|iv<|sI ps ps.length,has H1]:=h
  refine⟨λz w'=>∃(i:Nat)(oh:E)(ch:Nat)(kbs:A0),z=i/\i<=n/\kbs.length=i/\W w' [ax k48 (C9 x o ps.length co (T oh i ch) (T (some ⟨k60,0,none⟩) n n) (T ob ps.length cb)<|zV ps ps.length),own 1 oh i ch<|kbs.map<|qi M,aT<|cU kbs<|List.replicate i<|List.replicate M false,ax k60<|nG (List.replicate n (none,0))<|List.replicate n [],own 1 ob ps.length cb<|iv<|sI ps ps.length,has H1],λz _=>n-z.toNat,⟨0,none,0,[],rfl,gu _,rfl,?_⟩,?_⟩
  · have h1:W w32 (aT (cU []<|List.replicate 0<|List.replicate M false)::_):=W.flat.2 (show W w32 ([]++_) from aH 1 h)
    exact h1.pick 6 [2,1,0,3,4,5]
  clear h
  rintro _ n11 w33⟨i,oh,ch,kbs,rfl,hi,hkb,h⟩
  refine ae (λhlt=>?_) λhlt=>?_
  · have hlt:i<n:=by have:=gZ hlt;omega
    intro w34 hd
    have h:=h.drawn hd
    refine⟨λw=>aj (hp w) ⟨k48,0,none⟩<|C9 x o ps.length co (T oh i ch) (T (some ⟨k60,0,none⟩) n n) (T ob ps.length cb)<|zV ps ps.length,af 0 h.l,_,_,_,λw q=>q.cell sZ (j:=5) rfl,_,λw q=>q.cell sZ (j:=8) rfl,ξ,?_⟩
    have eM:((zV ps ps.length:Nat):Int)*(n:Int)=(M:Int):=by rw[hM];simp
    rw[eM]
    refine⟨ξ,⟨U,rfl,U⟩,?_⟩
    rw[je,de,J_]
    refine ag h λk63 w37 h=>⟨af 1 h.l,ag h λk64 w38 h=>⟨af 2 h.l,?_⟩⟩
    refine(aU aY (rfl:ai Ty _=.slice _) (rfl:ai Ty _=.slice _) rfl rfl rfl (h.pick 8 [0,3,2,1,4,5,6,7]) rfl (by simp[aO]) (by show(i+1)*24<=_;omega) U).mono ?_
    rintro _ w39⟨o',c',rfl,h⟩
    refine⟨_,_,_,rfl,af 2 h.l,?_⟩
    rw[ak]
    refine aX (h.pick 8 [2,0,3,4,5,6,7]) (by simp[C9]) λw40 h=>?_
    have h:=W.snoc (A:=ax k63<|bv<|List.replicate M false) (M:=cU kbs<|List.replicate i<|List.replicate M false) (h.pick 7 [2,3,0,1,4,5,6])
    refine⟨ξ,⟨i+1,o',c',kbs++[k63],V,U,by simp[hkb],?_⟩,bS hlt⟩
    have e1:cU kbs (List.replicate i<|List.replicate M false)++[ax k63 (bv<|List.replicate M false)]=cU (kbs++[k63]) (List.replicate (i+1)<|List.replicate M false):=by
      unfold cU;rw[pE,List.zipWith_append (by simp[hkb])];rfl
    have e2:kbs.map (qi M)++[qi M k63]=(kbs++[k63]).map (qi M):=V
    rw[e1] at h
    rw[<-e2]
    exact h.pick 6 [1,2,0,3,4,5]
  have hlt:i=n:=by have:=hY hlt;omega
  subst hlt
  obtain⟨H2,hl2,h⟩:=W.mn [_,_] (M:=[_,_,_,_]) (h.pick 6 [3,2,0,1,4,5])
  have h:=Nl h i
  have s12:sub H1 H2:=aE 3 hl2
  obtain⟨had,rfl,hhs⟩:∃had,oh=some had/\aj H2 had (kbs.map<|qi M):=by
    rcases Z2 1 hl2 with e|⟨ad,e,hc⟩
    · have:=congrArg List.length e
      rw[jO,tH] at this;omega
    · exact⟨ad,e,hc⟩
  obtain⟨c,c1,c2,c3,c4,c5,c6,c7,c8⟩:∃c:Ch,c.kc=k48/\c.ps=ps/\c.n=i/\c.kat=k60/\c.kbs=kbs/\c.M=M/\nJ H2 c/\c.x.pa=o:=
    ⟨Ch.mk k48 ⟨x.ta,x.tl,x.tc,x.na,x.nl,x.nc,none,0,0,x.s,o,ps.length,co⟩ ps had ch k60 i ob cb kbs,rfl,rfl,rfl,rfl,rfl,hM.symm,⟨af 0 hl2,rP.mono s12,bA (XK _ _)<|Z2 2 hl2,by
      have e:(Ch.mk k48 ⟨x.ta,x.tl,x.tc,x.na,x.nl,x.nc,none,0,0,x.s,o,ps.length,co⟩ ps had ch k60 i ob cb kbs).M=M:=hM.symm
      rw[e];exact hhs⟩,rfl⟩
  subst c1 c2 c3 c4 c5 c6
  have hnl:0<c.n:=U
  obtain⟨b,hTd⟩:∃b,b=nL c.ps g.start row:=⟨_,rfl⟩
  have hRu:∀k,xy c k b:=λk=>hTd▸nL.ail k
  obtain⟨a0,ha0⟩:∃a0:List (List cj),a0=List.replicate c.n []:=⟨_,rfl⟩
  have I0:=XH.init (c:=c) hkb hMb
  have F0:FS c 0 b a0 (List.replicate c.n (none,0)) (List.replicate c.n []) (List.replicate c.n<|List.replicate c.M false):=
    ⟨I0,λj s hs=>by
      obtain⟨l',e,hm⟩:=hs
      obtain⟨_,rfl⟩:=vo e
      simp at hm,λj _=>by rw[ha0],λy hy=>ha0▸hy⟩
  --the start's productions
  refine⟨λz w'=>∃(j:Nat)(os:List (E×Nat))(ats:List (List cj))(vss:A5),z=j/\j<=c.ps.length/\FS c 0 b a0 os ats vss/\(∀(j':Nat) p,j'<j->c.ps[j']? =some p->p.left=g.start->pY ats 0 ⟨j',0,0⟩)/\W w' [ax c.kat (nG os ats),aT<|cG os ats,aT<|cU c.kbs vss,has H2],λz _=>c.ps.length-z.toNat,⟨0,_,_,_,rfl,gu _,F0,λ_ _ h=>absurd h<|Nat.not_lt_zero _,h.pick 4 [1,0,2,3]⟩,?_⟩
  clear h F0 I0
  rintro _ n13 w41⟨j,os,ats,vss,rfl,hj,F,hj0,h⟩
  refine⟨_,_,_,r16.cell (sub.trans s12<|aE 3 h.l) (j:=4) rfl,ae (λhlt=>?_) λhlt=>?_⟩
  · have hlt:j<c.ps.length:=by have:=gZ hlt;omega
    obtain⟨p,ad,pvs,hp1,hpa,hp2,ra,rl,rc,rfl,hrc,hp3⟩:=rP.get hlt
    have nx:∀{w':ga}{os':List (E×Nat)}{ats':List (List cj)}{vss':A5},FS c 0 b a0 os' ats' vss'->(∀y,pY ats 0 y->pY ats' 0 y)->(p.left=g.start->pY ats' 0 ⟨j,0,0⟩)->W w' [ax c.kat (nG os' ats'),aT<|cG os' ats',aT<|cU c.kbs vss',has H2]->
        K ((j:Int)+1)/\(∃(j':Nat)(os:List (E×Nat))(ats:List (List cj))(vss:A5),(j:Int)+1=j'/\j'<=c.ps.length/\FS c 0 b a0 os ats vss/\(∀(j'':Nat) p,j''<j'->c.ps[j'']? =some p->p.left=g.start->pY ats 0 ⟨j'',0,0⟩)/\W w' [ax c.kat (nG os ats),aT<|cG os ats,aT<|cU c.kbs vss,has H2])/\c.ps.length-((j:Int)+1).toNat<c.ps.length-(j:Int).toNat:=λ{w' os' ats' vss'} F' hs hp' h'=>by
      refine⟨ξ,⟨j+1,os',ats',vss',V,U,F',λj'' q hj'' hq hl=>?_,h'⟩,bS hlt⟩
      by_cases e:j''=j
      · subst e;rw[hp1] at hq;cases hq;exact hp' hl
      · exact hs _ (hj0 j'' q U hq hl)
    intro w42 hd
    have h:=h.drawn hd
    refine⟨λw=>sub H2<|hp w,aE 3 h.l,_,_,_,λw s=>r16.cell (sub.trans s12 s) (j:=4) rfl,aI hpa hlt ⟨_,λw s=>hp2.cell0<|sub.trans s12 s,_,λw s=>B.c3<|sub.trans s01<|sub.trans s12 s,ae (λhe=>?_) λhe=>?_⟩⟩
    rotate_left
    · refine nx F (λ_ h=>h) (λe=>?_) h
      rw[e,<-hsx] at he;simp at he
    have he:p.left=g.start:=by rw[<-hsx];simpa using he
    refine(Pp (L:=[has H2]) (s:=⟨j,0,0⟩) (k:=0) (ats0:=ats) h (λh hh=>aE 0 hh) c7 (FS.self F.I F.t) hnl ⟨⟨p,hp1,gu _⟩,hnl⟩ (by rw[hTd];exact⟨p,hp1,.init p (gg hp1) he⟩)).mono ?_
    rintro _ w46⟨b2,os2,ats2,vss2,rfl,F2,h2,hin,hbf,hms⟩
    exact⟨_,rfl,nx (F.trans F2) F2.s (λ_=>hin) h2⟩
  have hlt:j=c.ps.length:=by have:=hY hlt;omega
  have hIn:tB c g.start ats:=λj' p hp hl=>hj0 j' p (by rw[hlt];exact(gJ.1 hp).1) hp hl
  have hrlB:∀p∈c.ps,p.right.length<=1099511627776:=λp hp=>by have:=hsmu p hp;omega
  refine(Bq (L:=[has H2]) (k:=0) h (λh hh=>aE 0 hh) c7 F.I F.t (hRu 0) hnl U hrlB).mono ?_
  rintro _ w47⟨rfl,os1,ats1,vss1,F1,C1,h1⟩
  refine⟨rfl,?_⟩
  have hT:∀{ats:List (List cj)},(∀(j:Nat) s,pY ats j s->b j s)->∀(j:Nat) s,pY ats j s->nL c.ps g.start row j s:=λh=>hTd▸h
  --place by place
  refine⟨λz w'=>∃(i:Nat)(os:List (E×Nat))(ats:List (List cj))(vss:A5),z=i/\i<=l/\XH c os ats vss/\(∀(j:Nat) s,pY ats j s->b j s)/\Ui c g.start row i ats/\(∀j,i<j->j<c.n->ats[j]? =some [])/\W w' [ax c.kat (nG os ats),aT<|cG os ats,aT<|cU c.kbs vss,has H2],λz _=>l-z.toNat,⟨0,os1,ats1,vss1,rfl,gu _,F1.I,F1.t,⟨λj' p hp hl=>F1.s _<|hIn j' p hp hl,λj' hj'=>?_,λj' hj'=>absurd hj'<|Nat.not_lt_zero _⟩,λj' hj' hjn=>?_,h1⟩,?_⟩
  · rw[show j'=0 from U];exact C1
  · rw[F1.o j' U,F.o j' U,ha0,xC,gD hjn]
  clear h h1 C1 F1 F hj0 hIn
  rintro _ n16 w48⟨i,os,ats,vss,rfl,hi,I,ht,d,hem,h⟩
  refine ae (λhlt=>?_) λhlt=>?_
  rotate_left
  · have hlt:i=l:=by have:=hY hlt;omega
    subst hlt
    have hP:=aej d.h0 (λj hj=>d.hc j U) (λj hj=>d.hs j U) (hT ht)
    rw[rlen] at hP
    exact⟨c,os,ats,vss,i,pds,H2,rfl,hpd,hps,rfl,gP _,I,c7,hP,sub.trans gs<|sub.trans s01 s12,h⟩
  have hlt:i<l:=by have:=gZ hlt;omega
  obtain⟨y,yad,hy1,hya,hy2⟩:=hr.dy hlt
  have hin:i<c.n:=U
  have hin1:i+1<c.n:=U
  obtain⟨li,hli⟩:∃li,ats[i]? =some li:=⟨ats[i]'(by rw[I.la];exact hin),gn _⟩
  refine⟨λz w'=>∃(m:Nat)(os':List (E×Nat))(ats':List (List cj))(vss':A5),z=m/\m<=li.length/\FS c (i+1) b ats os' ats' vss'/\(∀s∈li.take m,∀p,c.ps[s.prod]? =some p->p.right[s.dot]? =some y->pY ats' (i+1) ⟨s.prod,s.dot+1,s.frm⟩)/\W w' [ax c.kat (nG os' ats'),aT<|cG os' ats',aT<|cU c.kbs vss',has H2],λz _=>li.length-z.toNat,⟨0,os,ats,vss,rfl,gu _,FS.self I ht,λs hs=>by simp at hs,h⟩,?_⟩
  clear h
  rintro _ n17 w49⟨m,os',ats',vss',rfl,hm,F,hsc,h⟩
  have rC:∀{w:ga},sub H2 (hp w)->aj (hp w) ⟨c.kc,0,none⟩ c.cells:=λs=>c7.row.mono s
  have hli':ats'[i]? =some li:=by rw[F.o i U];exact hli
  obtain⟨o1,ho1⟩:∃o,os'[i]? =some o:=⟨os'[i]'(by rw[F.I.lo];exact hin),gn _⟩
  have gA:(nG os' ats')[i]? =some (T o1.1 li.length o1.2):=by unfold nG;rw[lE,ho1,hli']
  have rA:=af 0 h.l
  refine⟨_,_,_,(rC<|aE 3 h.l).cell sZ (j:=6) rfl,au rfl hin ⟨_,_,_,rA.cell sZ (j:=i) gA,ae (λhlm=>?_) λhlm=>?_⟩⟩
  rotate_left
  ·--behind the last of a place
    have hlm:m=li.length:=by have:=hY hlm;omega
    subst hlm
    rw[jl] at hsc
    have U':=d.mono (ats':=ats') (hT ht) λj hj=>F.o j U
    have hS:sc c row i ats':=λs p hs hp a' ha hra=>by
      obtain⟨l',e,hm⟩:=hs
      rw[hli'] at e;cases e
      rw[hy1] at hra;cases hra
      exact hsc s hm p hp ha
    obtain⟨l1,hl1⟩:∃l1,ats'[i+1]? =some l1:=⟨ats'[i+1]'(by rw[F.I.la];exact hin1),gn _⟩
    obtain⟨o2,ho2⟩:∃o,os'[i+1]? =some o:=⟨os'[i+1]'(by rw[F.I.lo];exact hin1),gn _⟩
    have gA1:(nG os' ats')[i+1]? =some (T o2.1 l1.length o2.2):=by unfold nG;rw[lE,ho2,hl1]
    have ei:(i:Int)+1=((i+1:Nat):Int):=V
    rw[ei]
    refine⟨_,_,_,(rC<|aE 3 h.l).cell sZ (j:=6) rfl,ξ,au rfl hin1 ⟨_,_,_,rA.cell sZ (j:=i+1) gA1,ae (λhe=>?_) λhe=>?_⟩⟩
    · have he : l1 = [] := j2 (by have:(l1.length:Int)=0:=by simpa using he
                                  omega)
      subst he
      have hP:=aby U'.h0 (λj hj=>U'.hc j hj) (λj hj=>by
        by_cases e:j=i
        · rw[e];exact hS
        · exact U'.hs j U) (by rw[rlen];exact hlt) (λs hs=>by
        obtain⟨l',e,hm⟩:=hs
        rw[hl1] at e;cases e;simp at hm)
      exact⟨c,os',ats',vss',i,pds,H2,rfl,hpd,hps,rfl,U,F.I,c7,hP,sub.trans gs<|sub.trans s01 s12,h⟩
    · refine⟨ξ,(Bq (L:=[has H2]) (k:=i+1) h (λh hh=>aE 0 hh) c7 F.I F.t (hRu _) hin1 U hrlB).mono ?_⟩
      rintro _ w58⟨rfl,os3,ats3,vss3,F3,C3,h⟩
      have U3:=U'.mono (ats':=ats3) (hT F.t) λj hj=>F3.o j U
      refine⟨rfl,ξ,⟨i+1,os3,ats3,vss3,rfl,U,F3.I,F3.t,U3.next (λs p hs hp a' ha hra=>?_) C3,λj hj hjn=>?_,h⟩,by show l-((i+1:Nat):Int).toNat<l-(i:Int).toNat;omega⟩
      · have hs':pY ats' i s:=by unfold pY at hs ⊢;rw[<-F3.o i U];exact hs
        exact F3.s _ (hS s p hs' hp a' ha hra)
      · rw[F3.o j U,F.o j U];exact hem j U hjn
  have hlm:m<li.length:=by have:=gZ hlm;omega
  obtain⟨s,hs⟩:∃s,li[m]? =some s:=⟨li[m],gn hlm⟩
  have hsm':=gg hs
  have hRs:=F.I.rg i li hli' s hsm'
  obtain⟨⟨p,hq0,hdt⟩,hfr⟩:=id hRs
  have hpl:=(gJ.1 hq0).1
  obtain⟨p',ad,pvs,hp1,hpa,hp2,ra,rl,rc,rfl,hrc,hp3⟩:=rP.get hpl
  rw[hq0] at hp1;cases hp1
  have rl1:=hp3.1
  have hrlp:=hrlB p (gg hq0)
  obtain⟨sad,hsa,hsr⟩:=zU (Bw (h.pick 2 [1]) ho1 hli') hs
  have nx:∀{w':ga}{os2:List (E×Nat)}{ats2:List (List cj)}{vss2:A5},FS c (i+1) b ats os2 ats2 vss2->(∀y,pY ats' (i+1) y->pY ats2 (i+1) y)->(p.right[s.dot]? =some y->pY ats2 (i+1) ⟨s.prod,s.dot+1,s.frm⟩)->W w' [ax c.kat (nG os2 ats2),aT<|cG os2 ats2,aT<|cU c.kbs vss2,has H2]->
      K ((m:Int)+1)/\(∃(m':Nat)(os':List (E×Nat))(ats':List (List cj))(vss':A5),(m:Int)+1=m'/\m'<=li.length/\FS c (i+1) b ats os' ats' vss'/\(∀s∈li.take m',∀p,c.ps[s.prod]? =some p->p.right[s.dot]? =some y->pY ats' (i+1) ⟨s.prod,s.dot+1,s.frm⟩)/\W w' [ax c.kat (nG os' ats'),aT<|cG os' ats',aT<|cU c.kbs vss',has H2])/\li.length-((m:Int)+1).toNat<li.length-(m:Int).toNat:=λ{w' os2 ats2 vss2} F' hsu hp' h'=>by
    have hlM:li.length<=c.M:=by
      obtain⟨v,hv⟩:∃v,vss'[i]? =some v:=⟨vss'[i]'(by rw[F.I.lv];exact hin),gn _⟩
      obtain⟨e1,e2⟩:=F.I.len i li v hli' hv
      rw[e2,<-e1];exact dH v
    refine⟨ξ,⟨m+1,os2,ats2,vss2,V,U,F',λt ht q hq hr=>?_,h'⟩,bS hlm⟩
    rw[iw,hs] at ht
    rcases iU.1 ht with ht|ht
    · exact hsu _ (hsc t ht q hq hr)
    · simp at ht;subst ht
      rw[hq0] at hq;cases hq;exact hp' hr
  refine⟨_,_,_,(rC<|aE 3 h.l).cell sZ (j:=6) rfl,au rfl hin ⟨_,_,_,rA.cell sZ (j:=i) gA,aI hsa hlm ⟨_,_,_,hsr.at sZ rfl,ag h λk79 w50 h=>aQ h rfl (by simp[aO]) λw51 h=>?_⟩⟩⟩
  have h:W w51 [ax k79 (sG s),ax c.kat<|nG os' ats',aT<|cG os' ats',aT<|cU c.kbs vss',has H2]:=h
  have s4:sub H1 (hp w51):=sub.trans s12 (aE 4 h.l)
  refine⟨_,_,_,r16.cell s4 (j:=4) rfl,_,(af 0 h.l).cell0 sZ,aI hpa hpl ⟨_,_,_,hp2.cell s4 (j:=1) rfl,λw52 hd=>?_⟩⟩
  have h:=h.drawn hd
  have r79:aj (hp w52) ⟨k79,0,none⟩ (sG s):=af 0 h.l
  refine⟨λw=>aj (hp w) ⟨k79,0,none⟩ (sG s)/\sub H2 (hp w),⟨r79,aE 4 h.l⟩,_,λw q=>q.1.cell sZ (j:=1) rfl,ae (λhdr=>?_) λhdr=>?_⟩
  rotate_left
  · have hdr:¬s.dot<rl:=by have:=hY hdr;omega
    refine nx F (λ_ h=>h) (λe=>?_) (h.pick 5 [1,2,3,4])
    have:=(gJ.1 e).1;omega
  have hdr:s.dot<rl:=by have:=gZ hdr;omega
  obtain⟨z,zad,hz1,hza,hz2⟩:=hp3.dy hdr
  refine⟨_,λw q=>q.1.cell sZ (j:=1) rfl,au hza hdr ⟨_,λw q=>hz2 _<|sub.trans s12 q.2,au hya hlt ⟨_,λw q=>hy2 _<|sub.trans s01<|sub.trans s12 q.2,ae (λhe=>?_) λhe=>?_⟩⟩⟩
  rotate_left
  · refine nx F (λ_ h=>h) (λe=>?_) (h.pick 5 [1,2,3,4])
    rw[hz1] at e;cases e;simp at he
  have he:z=y:=by simpa using he
  subst he
  have ei:(i:Int)+1=((i+1:Nat):Int):=V
  rw[ei]
  refine⟨ξ,_,r79.cell0 sZ,_,r79.cell sZ (j:=1) rfl,ξ,_,r79.cell sZ (j:=2) rfl,?_⟩
  have hsT:=hT F.t i s ⟨li,hli',hsm'⟩
  refine(Pp (L:=[ax k79 (sG s),has H2]) (s:=⟨s.prod,s.dot+1,s.frm⟩) (k:=i+1) (ats0:=ats') (h.pick 5 [1,2,3,0,4]) (λh hh=>aE 1 hh) c7 (FS.self F.I F.t) hin1 ⟨⟨p,hq0,by show s.dot+1<=_;omega⟩,hfr⟩ (by
    rw[hTd]
    obtain⟨p',e,hI⟩:=hsT
    rw[hq0] at e;cases e
    exact⟨p,hq0,.scan i p _ _ z hI hz1 hy1⟩)).mono ?_
  rintro _ w57⟨b3,os2,ats2,vss2,rfl,F2,h2,hin2,hbf,hms⟩
  exact⟨_,rfl,nx (F.trans F2) F2.s (λ_=>hin2)<|h2.pick 5 [0,1,2,4]⟩
end
theorem K3{ps:List aD}{st:Int}{row:Az}:xu ps st row↔∃s p,nL ps st row row.length s/\ps[s.prod]? =some p/\s.frm=0/\s.dot=p.right.length/\p.left=st:=by
 constructor
 ·rintro⟨p,c,a⟩;obtain⟨d,b⟩:=jR a.mem;exact⟨⟨d,_,0⟩,p,⟨p,b,a⟩,b,rfl,rfl,c⟩
 ·rintro⟨s,p,⟨f,a,b⟩,hp,c,d,e⟩;rw[hp] at a;cases a;rw[c,d] at b;exact⟨p,e,b⟩
section
variable{w:ga}{L:List aG}{g:B}{x:GA}{a:E}{l cc:Nat}{row:Az}
theorem Uk(hg:gR (hp w) g x)(hb:jq g)(he:bL g)(hr:bf (hp w) row a l)(hl64:l<=64)(hsm:∀p∈g.prods,p.right.length<=1048576):
    ρ 13 [.agg ⟨x.cells⟩,T a l cc] w λv w'=>(∃(r:Bool)(pds:At),v=J r/\Pu g pds/\(r=true↔xu (GH g pds) g.start row))/\Gr w w':=by
  refine rq ?_
  refine dZ hg λk1 w1 gw hg B=>⟨_,_,_,_,_,_,_,_,_,_,_,_,_,B.row sZ,(agP (cc:=cc) (x:=x) hg hb he (hr.mono gw) hl64 hsm).mono ?_⟩
  rintro _ w2⟨c,os,ats,vss,m,pds,H2,rfl,hpd,hps,hn,hm,I,hC,hP,s2,h⟩
  have rl:=hr.1
  have gH:sub (hp w) H2:=sub.trans gw s2
  have B:GB H2 k1 x:=⟨λs=>B.c0<|sub.trans s2 s,λs=>B.c1<|sub.trans s2 s,λs=>B.c2<|sub.trans s2 s,λs=>B.c3<|sub.trans s2 s,λs=>B.c4<|sub.trans s2 s,λs=>B.row<|sub.trans s2 s⟩
  have hsx:=hg.s
  rw[vv,hps,rl] at hP
  refine⟨_,_,rfl,ae (λhe=>?_) λhe=>?_⟩
  · have he:m<l:=by have:=gZ he;omega
    refine⟨⟨false,pds,rfl,hpd,?_⟩,sub.trans gH<|aE 3 h.l⟩
    rcases hP with⟨h1,_⟩|⟨_,h2⟩
    · omega
    · rw[K3,rl]
      exact⟨λh=>(by cases h),λ⟨s,p,hs,_⟩=>absurd hs<|h2 s⟩
  have he:m=l:=by have:=hY he;omega
  subst he
  have hP:=hP.resolve_right (λh=>absurd h.1<|Nat.lt_irrefl _)
  obtain⟨lm,hlm⟩:∃lm,ats[m]? =some lm:=⟨ats[m]'(by rw[I.la];omega),gn _⟩
  obtain⟨o,ho⟩:∃o,os[m]? =some o:=⟨os[m]'(by rw[I.lo];omega),gn _⟩
  have gA:(nG os ats)[m]? =some (T o.1 lm.length o.2):=by unfold nG;rw[lE,ho,hlm]
  obtain⟨vm,hvm⟩:∃v,vss[m]? =some v:=⟨vss[m]'(by rw[I.lv];omega),gn _⟩
  have hlM:lm.length<=1099511627776:=by
    obtain⟨e1,e2⟩:=I.len m lm vm hlm hvm
    have:=I.M
    have:=dH vm
    omega
  refine⟨λn w'=>∃i:Nat,n=i/\i<=lm.length/\(∀s∈lm.take i,∀p,c.ps[s.prod]? =some p->¬(s.frm=0/\s.dot=p.right.length/\p.left=g.start))/\W w' [ax c.kat (nG os ats),aT<|cG os ats,aT<|cU c.kbs vss,has H2],λn _=>lm.length-n.toNat,⟨0,rfl,gu _,λs hs=>by simp at hs,h⟩,?_⟩
  clear h
  rintro _ n w3⟨i,rfl,hi,hno,h⟩
  have rC:∀{w:ga},sub H2 (hp w)->aj (hp w) ⟨c.kc,0,none⟩ c.cells:=λs=>hC.row.mono s
  refine⟨_,_,_,(rC<|aE 3 h.l).cell sZ (j:=6) rfl,au rfl U ⟨_,_,_,(af 0 h.l).cell sZ (j:=m) gA,ae (λhlt=>?_) λhlt=>?_⟩⟩
  rotate_left
  · have hlt:lm.length<=i:=by have:=hY hlt;omega
    rw[jy hlt] at hno
    refine⟨⟨false,pds,rfl,hpd,?_⟩,sub.trans gH<|aE 3 h.l⟩
    rw[K3,rl]
    refine⟨λh=>(by cases h),λ⟨s,p,hs,hp,h1,h2,h3⟩=>?_⟩
    obtain⟨l',e,hm'⟩:=(hP.2 s).2 hs
    rw[hlm] at e;cases e
    exact absurd ⟨h1,h2,h3⟩ (hno s hm' p (by rw[hps];exact hp))
  have hlt:i<lm.length:=by have:=gZ hlt;omega
  obtain⟨s,hs⟩:∃s,lm[i]? =some s:=⟨lm[i],gn hlt⟩
  have hsm':=gg hs
  obtain⟨⟨p,hq0,hdt⟩,hfr⟩:=I.rg m lm hlm s hsm'
  have hpl:=(gJ.1 hq0).1
  obtain⟨p',ad,pvs,hp1,hpa,hp2,ra,rl',rc,rfl,hrc,hp3⟩:=hC.p.get hpl
  rw[hq0] at hp1;cases hp1
  have rl1:=hp3.1
  obtain⟨sad,hsa,hsr⟩:=zU (Bw (h.pick 2 [1]) ho hlm) hs
  refine⟨_,_,_,(rC<|aE 3 h.l).cell sZ (j:=6) rfl,au rfl U ⟨_,_,_,(af 0 h.l).cell sZ (j:=m) gA,aI hsa hlt ⟨_,_,_,hsr.at sZ rfl,ag h λk18 w4 h=>aQ h rfl (by simp[aO]) λw5 h=>λw6 hd=>?_⟩⟩⟩
  have h:W w6 [ax k18 (sG s),ax c.kat<|nG os ats,aT<|cG os ats,aT<|cU c.kbs vss,has H2]:=h.drawn hd
  refine⟨λw=>aj (hp w) ⟨k18,0,none⟩ (sG s)/\sub H2 (hp w),⟨af 0 h.l,aE 4 h.l⟩,_,_,_,λw q=>(rC q.2).cell sZ (j:=4) rfl,_,λw q=>q.1.cell0 sZ,aI hpa hpl ⟨_,_,_,_,_,λw q=>hp2.at q.2 rfl,ag h λk23 w10 h=>⟨⟨af 1 h.l,aE 5 h.l⟩,aQ h rfl (by simp[aO]) λw11 h=>?_⟩⟩⟩
  have h:W w11 [ax k23 [O p.left,T ra rl' rc,O p.level],ax k18<|sG s,ax c.kat<|nG os ats,aT<|cG os ats,aT<|cU c.kbs vss,has H2]:=h
  have r23:=af 0 h.l
  have r18:=af 1 h.l
  have nx:¬(s.frm=0/\s.dot=p.right.length/\p.left=g.start)->K ((i:Int)+1)/\(∃i':Nat,(i:Int)+1=i'/\i'<=lm.length/\(∀s∈lm.take i',∀p,c.ps[s.prod]? =some p->¬(s.frm=0/\s.dot=p.right.length/\p.left=g.start))/\W w11 [ax c.kat (nG os ats),aT<|cG os ats,aT<|cU c.kbs vss,has H2])/\lm.length-((i:Int)+1).toNat<lm.length-(i:Int).toNat:=λhn=>by
    refine⟨ξ,⟨i+1,V,U,λt ht q hq=>?_,h.pick 6 [2,3,4,5]⟩,bS hlt⟩
    rw[iw,hs] at ht
    rcases iU.1 ht with ht|ht
    · exact hno t ht q hq
    · simp at ht;subst ht
      rw[hq0] at hq;cases hq;exact hn
  refine⟨_,r18.cell sZ (j:=2) rfl,ae (λh1=>?_) λh1=>nx (λhh=>by rw[hh.1] at h1;simp at h1)⟩
  have h1 : s.frm = 0 := by have:(s.frm:Int)=0:=by simpa using h1
                            omega
  refine⟨_,r18.cell sZ (j:=1) rfl,_,_,_,r23.cell sZ (j:=1) rfl,ae (λh2=>?_) λh2=>nx (λhh=>YQ h2 (by rw[hh.2.1,rl1]))⟩
  have h2:s.dot=rl':=yK h2
  refine⟨_,r23.cell0 sZ,_,B.c3<|aE 5 h.l,ae (λh3=>?_) λh3=>nx (λhh=>by rw[hh.2.2,hsx] at h3;simp at h3)⟩
  have h3:p.left=g.start:=by rw[<-hsx];simpa using h3
  refine⟨⟨true,pds,rfl,hpd,?_⟩,sub.trans gH<|aE 5 h.l⟩
  rw[K3,rl]
  exact⟨λ_=>⟨s,p,(hP.2 s).1 ⟨lm,hlm,hsm'⟩,by rw[<-hps];exact hq0,h1,U,h3⟩,λ_=>rfl⟩
end
def Ul(g:B)(ss:List SQ)(A':Int->Int->aF)(G':Int->Int->Int)(G:Nat->Int->Nat)(ns:A0)(v:ah)(HF:Hp):Prop:=
 ∃(vd at_ rt e:Int)(oe:E)(le ce:Nat)(os:E)(ls cs:Nat)(on:E)(ln cn:Nat)(om:E)(lm cm:Nat),v=.tuple #[.agg #[O vd,O at_,T oe le ce,T os ls cs,T on ln cn,O rt,T om lm cm],O e]/\
  (e=15\/(e=0/\((vd=2/\∃i y,GF g A' G' G 0 (ns++[0]) cY.new=some (false,i,y))\/
   (vd=1/\∃i y,GF g A' G' G 0 (ns++[0]) cY.new=some (true,i,y)/\np g ss y/\Sa y/\y.mv.length<=1000000/\bf HF y.nd on ln/\rt=(y.nd.length:Int)-1))))
section
variable{w:ga}{L M:List aG}{k r s a b:Nat}{y:cY}{g:B}{ss:List SQ}{A:Nat->Int->aF}{h:Nat->Int->Nat}{H:Hp}{x:GA}{oA oG:Ix}{xp:PA}{F:L5}{Q:List (List aF)}{X:A7}{Cs:List cW}{p:dO}{t:Nat}
abbrev zO:Ay:=[O 0,O 0,D,D,D,O 0,D]
section
variable{a b c d:E}{i j k l m n o p q:Nat}{A B C D:Int}{w:ga}{R:ah->WP}
theorem EN{us:Ay}(h:W w (ax i us::M))(S:us.length=7)
  (X:∀e,W e (ax i [O A,O B,T a j n,T b k o,T c l p,O C,T d m q]::M)->R (vT (Array.mk [vA (Array.mk [O A,O B,T a j n,T b k o,T c l p,O C,T d m q]),O D])) e):
  bC w (Z i) [O A,O B,T a j n,T b k o,T c l p,O C,T d m q] λe=>∃f g r s t v x y z F I L N P Q,iA e (Z i) 0 7=some [O f,O g,T r s t,T v x y,T z F I,O L,T N P Q]/\R (vT (Array.mk [vA (Array.mk [O f,O g,T r s t,T v x y,T z F I,O L,T N P Q]),O D])) e:=
 aQ h (by rw[S];rfl) (by simp[aO]) λe h=>⟨_,_,_,_,_,_,_,_,_,_,_,_,_,_,_,(af 0 h.l:aj (hp e) (Z i) [O A,O B,T a j n,T b k o,T c l p,O C,T d m q]).at sZ rfl,X e h⟩
end
theorem ahT{ns:A0}{o:E}{n c:Nat}(bo:Bt (hp w) k F g Q X Cs p)(f:KP g ss A h X p)(bs:g.terms.length*24<=140737488355328)(bu:g.b9.length*16<=140737488355328)(bz:g.prods.length≠0)(a7:bf (hp w) (oE ns) o n)(ao:∀t∈ns,1<=t/\t<g.T)(cI:n<=100):
  ρ 49 [u (some (Z k)),J true,T o n c] w λbE bN=>∃HF,Ul g ss (bB p) (cD p) h ns bE HF/\W bN (has HF::all w):=by
 have ap:ns.length=n:=by have:=a7.1;simpa using this
 have cR:=f.hc.cR;refine Ly<|ag (W.all w) λs cT av=>(ad7 (bo.mono av.aS) f.hb bs bu bz).mono ?_;rintro _ Y⟨i,l,e,a,d0,d1,d2,d3,v,rfl,a8,bO,bP,bT,az,aB,aK,aR⟩;have a0:=W.on (N:=[_,_,_,_,_,_,_,_,_,_]) aR av.l;have c0:sub v (hp Y):=aE 9 a0.l;have c1:sub (hp w) (hp Y):=aE 11 a0.l;have aS:aj (hp Y) (Z i) (VX l e a cY.new az aB):=af 0 a0.l;have aV:oV i l e a cY.new (has v::ax s zO::all w) Y:=⟨bO,bP,bT,az,aB,aK,a0⟩
 refine⟨_,rfl,λb d=>b=false/\oV i l e a cY.new (has v::ax s zO::all w) d,bm rfl ((ahN aS (a8.mono c0) (a7.mono c1) (λt c2=>?_) U).mono ?_),?_⟩
 ·obtain⟨b,d,rfl⟩:=iz.1 c2;have:=ao b d;omega
 ·rintro _ d⟨rfl,b⟩;exact⟨_,rfl,rfl,ad8 aV b⟩
 clear aR aS aK aV;rintro _ _ d4⟨rfl,c3,c4,c5,c6,c7,b0,b1⟩;refine bm rfl ((RI (xs:=oE ns) (a7.mono<|aE 11 b1.l) U b1 (I:=λ_=>True) (λ_ _=>trivial) (K:=λd b m r=>b=n/\W r (own 1 d b m (iv<|oE ns)::_)) (λ_ _ _ b=>⟨rfl,b⟩)).mono ?_);rintro _ d5⟨d6,d,d7,rfl,-,c8,a9⟩;subst c8;refine⟨_,_,_,rfl,ag a9 λbQ d8 a9=>(aU (us:=iv<|oE ns) (vs:=[O 0]) aY (rfl:ai Ty _=.slice _) (rfl:ai Ty _=.slice _) rfl rfl rfl a9 rfl (by simp[aO]) (by show(d+1)*8<=_;omega) U).mono ?_⟩;rintro _ c9⟨x,a1,rfl,b2⟩;have ca:iv (oE ns)++[O 0]=iv (oE<|ns++[0]):=by simp[iv,oE]
 rw[ca] at b2;have cb:(oE<|ns++[0]).length=d+1:=by simp[oE,ap]
 have b3:oV i l e a cY.new (own 1 x (d+1) a1 (iv<|oE<|ns++[0])::has v::ax s zO::all w) c9:=⟨c3,c4,c5,c6,c7,b0,b2.pick 11 [2,3,4,5,6,7,8,9,10,0]⟩;have b4:∀b,aL (own 1 x (d+1) a1 (iv<|oE<|ns++[0])::has v::ax s zO::all w) b->sub v b:=λm b=>aE 1 b
 have aa:∀{b:ga}{y:cY}{R:Prop},oV i l e a y (own 1 x (d+1) a1 (iv<|oE<|ns++[0])::has v::ax s zO::all w) b->∃m,W b (ax s zO::m)/\∀r us,W r (ax s us::m)->∃HF,W r (has HF::all w):=by
  rintro r y R⟨z,C,L,P,S,a2,b⟩;exact⟨_,b.pick 12 [11,0,1,2,3,4,5,6,7,8,9,10],λa3 us m=>⟨_,m.pick 13 [11,12]⟩⟩
 refine⟨_,_,_,rfl,λm r=>∃(j:Nat)(b:cY),m=j/\j<=d+1/\np g ss b/\b.mv.length<=1025*j/\b.du<=j/\Sa b/\GF g (bB p) (cD p) h 0 (ns++[0]) cY.new=GF g (bB p) (cD p) h j ((ns++[0]).drop j) b/\oV i l e a b (own 1 x (d+1) a1 (iv<|oE<|ns++[0])::has v::ax s zO::all w) r,λb _=>d+1-b.toNat,⟨0,_,rfl,gu _,np.new,gu _,gP _,.inl rfl,rfl,b3⟩,?_⟩;clear b3 b0;rintro _ _ b5⟨j,m,rfl,d9,y,dc,df,b6,a2,b7⟩;have dk:(ns++[0]).length=d+1:=by simp[ap]
 refine ae (λab=>?_) λab=>?_
 ·have ac:j<d+1:=by have:=gZ ab;omega
  obtain⟨t,a3⟩:∃t,(ns++[0])[j]? =some t:=⟨_,gn U⟩
  have cc:t<g.T:=by
   rcases iU.1 (gg a3) with b|b
   ·exact(ao t b).2
   ·have:=jA.1 b;omega
  have cd:(ns++[0]).drop j=t::(ns++[0]).drop (j+1):=by
   rw[vH U];rw[gn U] at a3;rw[Option.some.inj a3]
  have ce:(oE<|ns++[0])[j]? =some (t:Int):=by unfold oE;rw[iE,a3];rfl
  obtain⟨cg,ch,ci,ck,cl,b9,ad⟩:=b7;have ba:bf (hp b5) (oE<|ns++[0]) x (d+1):=bA cb<|dT 9 ad.l;obtain⟨dl,bb,bc⟩:=ba.at ce;refine au bb ac ⟨_,bc b5 sZ,(agx (t:=t) f a8 b4 cc y U U ⟨cg,ch,ci,ck,cl,b9,ad⟩).mono ?_⟩;clear ad b9 ba bc bb;rw[cd] at a2
  rintro _ dn (⟨r,rfl,a4⟩|⟨cm,b,r,rfl,z,ds,a4⟩)
  ·obtain⟨a5,C,L⟩:=aa (R:=True) a4;exact⟨_,_,rfl,gd rfl (EN (R:=λP S=>∃HF,Ul g ss (bB p) (cD p) h ns P HF/\W S (has HF::all w)) C rfl λP S=>let⟨HF,q⟩:=L P _ S;⟨HF,⟨0,0,0,15,none,0,0,none,0,0,none,0,0,none,0,0,rfl,.inl rfl⟩,q⟩)⟩
  cases cm with
  |true=>
   refine⟨_,_,rfl,bm rfl (gd rfl ⟨ξ,⟨j+1,b,V,ac,z,U,?_,Uf r b6,?_,a4⟩,bS ac⟩)⟩
   ·unfold j4 at r
    split at r
    ·cases r
    ·cases r
    ·cases r;unfold Gp
     split
     ·show(List.foldl (Bm g h t) m _).du+1<=_
      rw[Ni];omega
     ·rw[Ni];omega
   ·rw[a2]
    show(match j4 g (bB p) (cD p) h t m with|none=>none|some (false,b)=>some (false,j,b)|some (true,b)=>GF g (bB p) (cD p) h (j+1) ((ns++[0]).drop (j+1)) b)=_
    rw[r]
  |false=>
   have cn:GF g (bB p) (cD p) h 0 (ns++[0]) cY.new=some (false,j,b):=by
    rw[a2]
    show(match j4 g (bB p) (cD p) h t m with|none=>none|some (false,b)=>some (false,j,b)|some (true,b)=>GF g (bB p) (cD p) h (j+1) ((ns++[0]).drop (j+1)) b)=_
    rw[r]
   refine⟨_,_,rfl,bm rfl (bm rfl λco al=>?_)⟩;obtain⟨C,bd,be,L,P,a5,cp⟩:=a4;have bi:=cp.drawn al;have am:(zG b.es).length<=64:=by rw[gC];exact z.hl
   have cq:aj (hp co) (Z i) (VX l e a b L P):=af 0 bi.l;refine⟨λS=>aj (hp S) (Z i)<|VX l e a b L P,cq,_,λS q=>q.cell sZ (j:=2) rfl,_,λS q=>q.cell0 sZ,(adR a8 f.hb (λt S=>AI f.hc f.hA f.hb f.hS f.hN S λq a6=>by have:=Pf f.hc q a6;omega) ⟨b.es,z.RB,rfl⟩ am U (λa6 S=>⟨Ue S am,b4 _<|ay<|ay<|ay<|ay<|ay<|ay<|ay<|ay<|ay S⟩) bi).mono ?_⟩;rintro _ dv⟨⟨dx,dy,dA,dC,rfl,cs⟩,an⟩;refine⟨_,_,_,_,rfl,af 0 an.l,?_⟩
   rcases cs with rfl|rfl
   ·refine bm rfl λdF al=>?_;have bl:=an.drawn al;refine⟨λS=>aj (hp S) (Z i)<|VX l e a b L P,af 0 bl.l,_,λS q=>q.cell0 sZ,_,λS q=>q.cell sZ (j:=1) rfl,_,_,_,λS q=>q.cell sZ (j:=4) rfl,(RZ (bl.pick 9 [2,3,4,0,1,5,6,7,8]) am).mono ?_⟩;rintro _ ct⟨dG,dW,rfl,cu⟩;have S:=cu.pick 10 [4,5,1,2,3,6,7,8,9];have cv:C.length<=1000000:=by have:=z.nl;have:=congrArg List.length a5;rw[jO] at this;omega
    have cx:∀a6∈C,bf (hp ct) a6.2.2 a6.2.1.1 a6.2.2.length:=λa6 cy=>by
     obtain⟨cF,cz,cA⟩:=B7 (A:=aT<|oQ C) 7 S.l;obtain⟨e0,cB,cC⟩:=iL (A:=bU 1 iv a6.2) (iz.2 ⟨a6,cy,rfl⟩) cA;exact(bA rfl (bD cC)).mono (cB.trans cz)
    refine⟨_,_,_,rfl,af 0 S.l,(ad6 (af 5 S.l) (dT 6 S.l) cx cv (λa cy=>?_)).mono ?_⟩
    ·refine j3 ?_ (show 64<=1000000 by decide);have:zP a∈b.nd:=by rw[<-a5];exact iz.2 ⟨a,cy,rfl⟩
     exact z.kl (zP a) this
    rintro _ e0⟨e1,e2,rfl,e3,cz⟩;have a6:=W.gr S cz;refine⟨_,_,_,rfl,af 0 a6.l,(Bk<|a6.pick 2 [1,0]).mono ?_⟩;rintro _ e4⟨e5,e6,e7,rfl,rfl⟩;refine⟨_,_,_,rfl,af 0 a6.l,?_⟩;obtain⟨e8,cA,cB⟩:=aa (R:=True) ⟨C,bd,be,L,P,a5,a6⟩;exact EN (R:=λcC cF=>∃HF,Ul g ss (bB p) (cD p) h ns cC HF/\W cF (has HF::all w)) cA rfl λcC cF=>let⟨HF,q⟩:=cB cC _ cF;⟨HF,⟨_,_,_,_,_,_,_,_,_,_,_,_,_,_,_,_,rfl,.inr ⟨rfl,.inl ⟨rfl,_,_,cn⟩⟩⟩,q⟩
   ·obtain⟨cu,S,a6⟩:=aa (R:=True) ⟨C,bd,be,L,P,a5,an⟩;exact gd rfl (EN (R:=λbl ct=>∃HF,Ul g ss (bB p) (cD p) h ns bl HF/\W ct (has HF::all w)) S rfl λbl ct=>let⟨HF,q⟩:=a6 bl _ ct;⟨HF,⟨0,0,0,15,none,0,0,none,0,0,none,0,0,none,0,0,rfl,.inl rfl⟩,q⟩)
 ·have a4:j=d+1:=by have:=hY ab;omega
  subst a4
  have a5:GF g (bB p) (cD p) h 0 (ns++[0]) cY.new=some (true,d+1,m):=by
   rw[a2,List.drop_eq_nil_of_le U];rfl
  intro cd a6;obtain⟨b,ce,C,ac,ad,L,al⟩:=b7;have am:(zG m.es).length<=64:=by rw[gC];exact y.hl
  have S:=al.drawn a6;refine⟨λr=>aj (hp r) (Z i)<|VX l e a m ac ad,af 0 S.l,_,λr q=>q.cell0 sZ,_,λr q=>q.cell sZ (j:=1) rfl,_,λr q=>q.cell sZ (j:=1) rfl,_,_,_,λr q=>q.cell sZ (j:=4) rfl,(RZ (S.pick 9 [2,3,4,0,1,5,6,7,8]) am).mono ?_⟩;rintro _ an⟨cg,ch,rfl,b9⟩;have z:=b9.pick 10 [4,5,1,2,3,6,7,8,9];have ba:b.length<=1000000:=by have:=y.nl;have:=congrArg List.length L;rw[jO] at this;omega
  have bb:∀r∈b,bf (hp an) r.2.2 r.2.1.1 r.2.2.length:=λr P=>by
   obtain⟨bi,a3,bc⟩:=B7 (A:=aT<|oQ b) 7 z.l;obtain⟨bl,bd,be⟩:=iL (A:=bU 1 iv r.2) (iz.2 ⟨r,P,rfl⟩) bc;exact(bA rfl (bD be)).mono (bd.trans a3)
  refine⟨_,_,_,rfl,af 0 z.l,(R_ (af 5 z.l) (dT 6 z.l) bb ba (λa bc=>?_)).mono ?_⟩
  ·refine j3 ?_ (show 64<=1000000 by decide);have:zP a∈m.nd:=by rw[<-L];exact iz.2 ⟨a,bc,rfl⟩
   exact y.kl (zP a) this
  rintro _ P⟨ci,ck,HF,rfl,a3,bd⟩;have r:=(W.on (N:=[_]) bd z.l).pick 10 [1,2,3,4,5,6,7,8,9,0];have be:aj (hp P) (Z e) [T C.n b.length C.cn,T C.t m.tk.length C.ct]:=af 5 r.l;refine⟨_,_,_,rfl,af 0 r.l,(@Co (some<|Z e) P (λbi bl=>bi=O (b.length:Int)/\bl=P)<|bm rfl ⟨_,_,_,be.cell0 sZ,rfl,rfl⟩).mono ?_⟩;rintro _ cl⟨rfl,rfl⟩;refine⟨_,rfl,af 0 r.l,ξ,(Bk<|r.pick 2 [1,0]).mono ?_⟩;rintro _ cm⟨cn,co,cp,rfl,rfl⟩;refine⟨_,_,_,rfl,af 0 r.l,?_⟩;have bi:b.length=m.nd.length:=by rw[<-L,jO]
  rw[L] at a3;exact EN (R:=λbl cc=>∃HF,Ul g ss (bB p) (cD p) h ns bl HF/\W cc (has HF::all w)) (r.pick 13 [12,0,1,2,3,4,5,6,7,8,9,10,11]) rfl λcc bl=>⟨HF,⟨_,_,_,_,_,_,_,_,_,_,_,_,_,_,_,_,rfl,.inr ⟨rfl,.inr ⟨rfl,_,_,a5,y,b6,U,a3,by rw[bi]⟩⟩⟩,bl.pick 14 [10,13]⟩
theorem XM{ns:A0}{o:E}{n c:Nat}(d:Bt (hp w) k F g Q X Cs p)(e:KP g ss A h X p)(f:g.terms.length*24<=140737488355328)(i:g.b9.length*16<=140737488355328)(j:g.prods.length≠0)(l:bf (hp w) (oE ns) o n)(m:∀t∈ns,1<=t/\t<g.T)(q:n<=100):
  ρ 12 [u (some (Z k)),T o n c] w λr s=>∃a,Ul g ss (bB p) (cD p) h ns r a/\W s (has a::all w):=by
 refine FE<|ag (W.all w) λac ad a=>(ahT (d.mono a.aS) e f i j (l.mono a.aS) m q).mono ?_;rintro _ al⟨v,⟨x,y,z,C,I,L,P,S,Y,a0,a1,a2,a3,a4,a5,a6,rfl,a7⟩,a8⟩;have a9:=W.on (N:=[_]) a8 a.l;exact⟨_,_,_,_,_,_,_,_,_,_,_,_,_,_,_,_,rfl,EN (R:=λaa ab=>∃b,Ul g ss (bB p) (cD p) h ns aa b/\W ab (has b::all w)) (a9.pick 2 [1,0]) rfl λaa b=>⟨v,⟨x,y,z,C,I,L,P,S,Y,a0,a1,a2,a3,a4,a5,a6,rfl,a7⟩,b.tail⟩⟩
end
def By(c:B):Prop:=∀pdc,Pu c pdc->GH c pdc=c.prods
structure Sf(c:B):Prop where
 hc:aw c
 hb:jq c
 ha:By c
 hu:∀i,1<=i->i<c.N->Us c ((c.T+i:Nat):Int)
theorem agQ{g:B}{uns:At}(a:VE g uns)(h:false∉uns){i:Nat}(hi:i<g.N):Us g ((g.T+i:Nat):Int):=by
 refine(a.2 i).1 ?_;have b:i<uns.length:=by rw[a.1];exact hi
 unfold bt;rw[jX,gn b];cases c:uns[i] with
 |true=>rfl
 |false=>exact absurd (c▸pL b) h
theorem Um{g:B}{uns:At}(d:aw g)(e:VE g uns)(h:false∉uns):By g:=λj k=>by
 obtain⟨f,q,r,s,t,v⟩:=EP (.inr d)
 unfold GH
 rw[List.filter_eq_self]
 intro c l
 have w:n9 g c.right:=λa m=>by
  have x:=(f c l).2 a m
  by_cases y:a<(g.T:Int)
  ·obtain⟨b,rfl⟩:∃i:Nat,a=i:=⟨a.toNat,U⟩
   exact .tm b U
  ·obtain⟨b,rfl⟩:∃i:Nat,a=((g.T+i:Nat):Int):=⟨(a-g.T).toNat,U⟩
   have n:bt uns b=true:=by
    have i:b<uns.length:=by rw[e.1];omega
    grind[bt,List.getElem?_eq_none_iff,absurd,List.mem_of_getElem?]
   have i:=(e.2 b).1 n
   generalize ((g.T+b:Nat):Int)=z at i
   cases i with
   |start h=>omega
   |zero A h=>
    obtain⟨_,_,_,o,p,C,F,_⟩:=d
    have:=Pd.mk o (gg p) (λI L=>η)
    simp_all
   |pr A C hp _ o p=>exact o _ p
 have a:c∈GH g j↔_:=V_ f k
 simp_all[GH]
structure aim(c:B)(ss:List SQ)(nn:At)(As:List (List aF))(Gs:A7)(Cs:List cW)(p:dO)(clr:Bool):Prop where
 s:Sf c
 A:bG c ss
 n:tC c nn
 dA:As=Eu c nn ss
 dG:Gs=Gt c ss
 dC:Cs=T8 c nn ss
 P:He As Gs c.N p
 cl:clr=true↔n_ c nn ss 2=[]
 cy:qJ (px c) c.N []
section
variable{w:ga}{L:List aG}{g:B}{x:GA}
theorem ael{bs:At}{o:E}{n c:Nat}(d:bf (hp w) bs o n)(l:n<=1000000):ρ 84 [T o n c,J false] w λf g=>(∃b,f=J b/\(b=false->false∉bs))/\g=w:=by
 have m:=d.1
 refine mT ((@ph _ _ _ _ w (λe h=>∃a:Int,e=O a/\(a<0->false∉bs)/\h=w) ⟨λe h=>∃a:Nat,e=a/\a<=n/\false∉bs.take a/\h=w,λa _=>n-a.toNat,⟨0,rfl,gu _,V,rfl⟩,?_⟩).mono ?_)
 ·rintro _ _ h⟨e,rfl,p,q,rfl⟩
  refine ae (λi=>?_) λi=>?_
  ·have a:e<n:=η
   obtain⟨b,r,s,j,k⟩:=d.dy a;refine au j a ⟨_,k h sZ,ae (λt=>⟨_,rfl,λv=>U,rfl⟩) λt=>⟨ξ,⟨e+1,V,a,λv=>?_,rfl⟩,bS a⟩⟩
   simp_all[iw]
  grind
 simp
theorem agR(X:gR (hp w) g x)(f:jq g)(q:ec (hp w)):ρ 39 [.agg ⟨x.cells⟩] w λY a0=>∃(x':GA)(c:B)(os:List (E×Nat))(e:Int),Y=.tuple #[.agg ⟨x'.cells⟩,O e]/\Fq c x'/\os.length=c.prods.length/\(e=0->Sf c)/\W a0 (AF c x' os++all w):=by
 refine KD<|dZ X λa6 b m j k=>ag (W.all b) λd a1 r=>?_;have s:Gr b a1:=r.aS;refine⟨_,_,_,_,_,_,_,_,_,_,_,_,_,k.row s,(uy (j.mono s) f).mono ?_⟩;rintro _ a2⟨⟨a7,rfl,a3⟩,a4⟩;have n:=r.gr a4;have h:Gr b a2:=n.aS
 --a grammar is handed out
 have o:∀{p:ga}{x':GA}{c:B}{os:List (E×Nat)}{e:Int},Fq c x'->os.length=c.prods.length->(e=0->Sf c)->W p (AF c x' os++(ax d z5::all b))->bC p (Z d) [T x'.ta x'.tl x'.tc,T x'.na x'.nl x'.nc,T x'.la x'.ll x'.lc,O x'.s,T x'.pa x'.pl x'.pc] λi=>∃l t v y z A C F I L P Q R,iA i (Z d) 0 5=some [T l t v,T y z A,T C F I,O L,T P Q R]/\
   ∃(x':GA)(c:B)(os:List (E×Nat))(S:Int),(.tuple #[.agg #[T l t v,T y z A,T C F I,O L,T P Q R],O e]:ah)=.tuple #[.agg ⟨x'.cells⟩,O S]/\Fq c x'/\os.length=c.prods.length/\(S=0->Sf c)/\W i (AF c x' os++all w):=λ{t x' c os e} v y z l=>by
  refine aQ (W.pick (show W t (_::_::_::_::_::_::all b) from l) 6 [5,0,1,2,3,4]) rfl (by simp[aO]) λi l=>?_;have A:aj (hp i) (Z d) [T x'.ta x'.tl x'.tc,T x'.na x'.nl x'.nc,T x'.la x'.ll x'.lc,O x'.s,T x'.pa x'.pl x'.pc]:=af 0 l.l;exact⟨_,_,_,_,_,_,_,_,_,_,_,_,_,A.at sZ rfl,x',c,os,e,rfl,v,y,z,W.on (N:=[_,_,_,_,_]) l.tail<|bM m⟩
 have none:∀{i:ga}{e:Int},e≠0->W i (ax d z5::all b)->bC i (Z d) z5 λl=>∃p t v y z A C F I L P Q R,iA l (Z d) 0 5=some [T p t v,T y z A,T C F I,O L,T P Q R]/\
   ∃(x':GA)(c:B)(os:List (E×Nat))(S:Int),(.tuple #[.agg #[T p t v,T y z A,T C F I,O L,T P Q R],O e]:ah)=.tuple #[.agg ⟨x'.cells⟩,O S]/\Fq c x'/\os.length=c.prods.length/\(S=0->Sf c)/\W l (AF c x' os++all w):=λp t=>o (x':=uV) (c:=Gm) (os:=[]) ⟨rfl,rfl,rfl,rfl,rfl⟩ rfl (λv=>absurd v p) (VJ t)
 refine⟨_,rfl,ae (λz=>?_) λz=>?_⟩
 ·refine⟨_,_,_,_,_,_,_,_,_,_,_,_,_,k.row h,(Y1 (j.mono h) f<|dX.mono (m.trans h) q).mono ?_⟩;rintro _ P⟨x',Q,os,e,rfl,v,y,A,C⟩;refine⟨_,_,_,_,_,_,_,_,_,_,_,_,_,_,rfl,o v y (λR=>?_)<|W.on (N:=[_,_,_,_,_]) C n.l⟩
  rcases A with⟨_,F,_⟩|⟨_,_,F,_⟩|⟨i,t,_,S,a5,l,p,rfl⟩
  ·omega
  ·omega
  ·exact⟨KX i t l p,agF i f,λL I=>aeb i t l p I,λa8 I L=>(aea i l p (EP<|.inl i).1 I L).1⟩
 have i:aw g:=a3.1 G;refine⟨_,_,_,_,_,_,_,_,_,_,_,_,_,k.row h,(XC (j.mono h) f<|dX.mono (m.trans h) q).mono ?_⟩;rintro _ A⟨a8,C,a9,e,nn,rfl,F,I,L⟩
 rcases I with⟨P,_⟩|⟨_,rfl,p⟩
 ·exact absurd (.inr i) P
 have l:=W.fy L n.l;have t:Gr b A:=aE 2 l.l;have aa:=i.cR;have ab:C=g.N:=by rw[<-F];exact p.1
 refine⟨_,_,_,_,rfl,bm rfl ((ael (UU l) U).mono ?_)⟩;rintro _ ac⟨⟨ad,rfl,v⟩,rfl⟩;refine⟨_,rfl,ae (λy=>none V l.tail) λy=>?_⟩;refine⟨_,_,_,_,_,_,_,_,_,_,_,_,_,k.row t,(AO (j.mono t) f (by have:g.T=g.terms.length:=rfl;omega) (by have:g.N=g.b9.length:=rfl;omega)).mono ?_⟩;rintro _ al⟨x',os,rfl,Q,R,S⟩;exact⟨_,_,_,_,_,_,_,_,_,_,_,_,_,rfl,o Q R (λ_=>⟨i,f,Um i p<|v y,λam _ a5=>agQ p (v y) a5⟩)<|W.on (N:=[_,_,_,_,_]) S l.tail.l⟩
end
theorem XN{a:List Hc}{o:E}{n c:Nat}{h i j:Hp}(m:sub i h)(p:own 3 o n c (Hd a) i)(q:sub j h)(r:aT (ER a) j):bf h (a.map pO) o n:=by
 have w:a.length=n:=by grind[KO,O4]
 refine⟨η,λk x b=>?_⟩;rw[iE] at b;cases d:a[k]? with
 |none=>simp_all
 |some e=>
  rw[d] at b;cases b;obtain⟨y,s,t⟩:=iL (A:=bU 2 dE e.2) (iz.2 ⟨e,gg d,rfl⟩) r
  rcases bD p with g|⟨l,g,v⟩
  ·have:=congrArg List.length g
   grind[O4,List.length_nil,List.getElem?_eq_some_iff]
  ·exact⟨l,_,g,(cQ (f:=th) (n:=3) (λ_=>rfl) a l v k e d).mono m,_,_,rfl,(Er rfl (bD t)).mono (s.trans q)⟩
theorem pkH{p:dO}{x:PA}{L:List aG}{h:Hp}{j:List (List aF)}{k:A7}{N:Nat}(a:aL (vi p x L) h)(d:He j k N p)(c:A3 p):Xf h p x:=by
 have r:=d.ac.c.lv;have s:=d.gt.c.lv;have t:=c.a1;have v:=c.g1;have b:∀{i:Nat}{l:E}{e m:Nat}{f:Az},(∃g,sub g h/\own 1 l e m (iv f) g)->f.length=e:=λ⟨_,_,e⟩=>by grind[KO,dq]
 have e:=b (i:=0)<|B7 (A:=own 1 x.d.1 x.d.2.1 x.d.2.2<|iv p.df) 0 a;have f:=b (i:=0)<|B7 (A:=own 1 x.a1.1 x.a1.2.1 x.a1.2.2<|iv p.ac.bs) 1 a;have g:=b (i:=0)<|B7 (A:=own 1 x.a2.1 x.a2.2.1 x.a2.2.2<|iv p.ac.vs) 2 a;have l:=b (i:=0)<|B7 (A:=own 1 x.a3.1 x.a3.2.1 x.a3.2.2<|iv p.ac.os) 3 a;have m:=b (i:=0)<|B7 (A:=own 1 x.t.1 x.t.2.1 x.t.2.2<|iv p.tg) 4 a;have n:=b (i:=0)<|B7 (A:=own 1 x.g1.1 x.g1.2.1 x.g1.2.2<|iv p.gt.bs) 5 a;have o:=b (i:=0)<|B7 (A:=own 1 x.g2.1 x.g2.2.1 x.g2.2.2<|iv p.gt.vs) 6 a;have q:=b (i:=0)<|B7 (A:=own 1 x.g3.1 x.g3.2.1 x.g3.2.2<|iv p.gt.os) 7 a;exact⟨bA e<|dT 0 a,⟨bA f<|dT 1 a,bA g<|dT 2 a,bA l<|dT 3 a,U,U,c.a2⟩,bA m<|dT 4 a,⟨bA n<|dT 5 a,bA o<|dT 6 a,bA q<|dT 7 a,U,U,c.g2⟩⟩
theorem agS{c:B}{nn:At}{ss:List SQ}{a i f:Int}(b:aw c)(g:G2 c ss a i f):(T8 c nn ss).length<=16640/\∀x∈T8 c nn ss,x.acts.length<=100000:=by
 have h:=b.cR
 constructor
 ·grind[Xo,Ey,n_,VP,T8]
 ·intro x d;obtain⟨j,e,k⟩:=lR.1 d;obtain⟨l,m,_,_,_,rfl⟩:=pW.1 e
  grind[Xo,List.mem_singleton,Xn,fe,O8,gl]
def BH(w:ga)(v:ah)(w':ga):Prop:=
 (∃(n a:Int)(o:E)(k c:Nat),n≠0/\v=.tuple #[u none,.agg #[O n,O a,T o k c]]/\Gr w w')\/
 ∃(k4:Nat)(y:L5)(c:B)(ss:List SQ)(nn:At)(As:List (List aF))(Gs:A7)(Cs:List cW)(p:dO),v=.tuple #[u (some (Z k4)),.agg #[O 0,O 0,D]]/\Bt (hp w') k4 y c As Gs Cs p/\aim c ss nn As Gs Cs p y.clr/\Gr w w'
section
variable{w:ga}{L:List aG}{g:B}{x:GA}{j r y:Nat}{M:List aG}
theorem Pq{ms:Ay}{n a:Int}{o:E}{k c:Nat}{R:ah->WP}(s:ms.length=3)(h:W w (ax r ms::ax j [u (some (Z y))]::M))
  (e:∀b,W b (ax r [O n,O a,T o k c]::ax j [.pointer (if n=0 then some (Z y) else none)]::M)->R (vT (Array.mk [u (if n=0 then some (Z y) else none),vA (Array.mk [O n,O a,T o k c])])) b):
  bC w (Z r) [O n,O a,T o k c] λd=>Lh Tryz.prog Ev LW [u (some (Z r)),u (some (Z j))] d λb=>∃f,World.cell? b (Z j)=some (u f)/\∃g l m p q,iA b (Z r) 0 3=some [O g,O l,T m p q]/\R (vT (Array.mk [u f,vA (Array.mk [O g,O l,T m p q])])) b:=by
 refine aQ h U (by simp[aO]) λd h=>H9 _ _ d _ ⟨_,h.cell 0,ae (λf=>?_) λf=>?_⟩
 ·have g:n≠0:=η
  rw[gv g] at e;refine aX (i:=0) h.swap V λb h=>?_;have l:aj (hp b) (Z r) [O n,O a,T o k c]:=af 1 h.l;exact⟨_,h.cell 0,_,_,_,_,_,l.at sZ rfl,e b h.swap⟩
 ·have g:n=0:=η
  rw[gD g] at e;have l:aj (hp d) (Z r) [O n,O a,T o k c]:=af 0 h.l;exact⟨_,h.tail.cell 0,_,_,_,_,_,l.at sZ rfl,e d h⟩
abbrev zM:Ay:=[O 0,O 0,D]
theorem ain(ce:gR (hp w) g x)(cg:jq g)(bo:ec (hp w)):ρ 8 [.agg ⟨x.cells⟩] w (BH w):=by
 refine OZ _ _ _ _ _ _ _ _ _ _ _ _ _ w _<|dZ ce λea ac aK ch ci=>ag (W.all ac) λk eb v=>ag v λm ed v=>ag v λd ef v=>aX (i:=0) (v.pick 3 [2,0,1]) V λck v=>?_;have b6:Gr ac ck:=aE 3 v.l;refine⟨_,_,_,_,_,_,_,_,_,_,_,_,_,ci.row b6,(agR (ch.mono b6) cg<|dX.mono (aK.trans b6) bo).mono ?_⟩;rintro _ eg⟨c,e,ei,bs,rfl,cl,cm,cn,co⟩;have ad:=W.on (N:=[_,_,_,_,_]) co v.l;refine⟨_,_,_,_,_,_,_,_,_,_,_,_,_,_,rfl,ag ad λcp ej ad=>aQ (vs:=c.cells) ad rfl (by simp[aO,GA.cells]) λbu ad=>?_⟩
 --what stands still
 obtain⟨l,aR,cq⟩:=W.mn [_,_,_]<|W.pick ad 10 [7,6,8,0,1,2,3,4,5,9];have y:aj l (Z cp) c.cells:=af 0 aR;have r:gR l e c:=NY (L:=[has (hp ac)]) cl cm<|ay aR;have al:sub (hp ac) l:=aE 6 aR;have aS:ec l:=dX.mono (sub.trans aK al) bo;clear aR;have X:W bu (ax d (L5.cells ⟨uV,(none,0,0),0,0,(none,0,0),(none,0,0),(none,0,0),(none,0,0),⟨(none,0,0),(none,0,0),(none,0,0),(none,0,0),(none,0,0),(none,0,0),(none,0,0),(none,0,0)⟩,false⟩)::ax k [u (some<|Z d)]::ax m zM::[has l]):=cq
 have b7:∀{h:ga}{s ms:Ay}{f a:Int}{n:E}{o p:Nat}{q:Hp},f≠0->sub (hp ac) q->W h (ax m [O f,O a,T n o p]::ax k [.pointer (if f=0 then some (Z d) else none)]::[ax d s,has q])->BH w (vT<|Array.mk [u (if f=0 then some (Z d) else none),vA<|Array.mk [O f,O a,T n o p]]) h:=λ{t z ms h a n o p C} f q s=>by
  rw[gv f];exact .inl ⟨h,a,n,o,p,f,rfl,sub.trans aK<|sub.trans q<|aE 3 s.l⟩
 refine ae (λcs=>?_) λcs=>?_
 ·have f:bs≠0:=η
  exact⟨_,X.tail.cell 0,aX (i:=0) X.swap V λo h=>Pq rfl (h.pick 4 [2,0,1,3]) λp n=>b7 (ms:=[]) f al n⟩
 have ct:bs=0:=η
 obtain⟨aV,a6,cu,cv⟩:=cn ct;have ek:=aV.cR;refine⟨_,X.tail.cell 0,_,_,_,_,_,_,_,_,_,_,_,_,_,y.at (aE 3 X.l) rfl,?_⟩
 show bC bu ((Z d).add 0) c.cells _
 refine Av X (by simp[GA.cells]) (by simp[aO,GA.cells]) λcx X=>?_;have b0:W cx (ax d (L5.cells ⟨c,(none,0,0),0,0,(none,0,0),(none,0,0),(none,0,0),(none,0,0),⟨(none,0,0),(none,0,0),(none,0,0),(none,0,0),(none,0,0),(none,0,0),(none,0,0),(none,0,0)⟩,false⟩)::ax k [u (some<|Z d)]::ax m zM::[has l]):=X;refine⟨_,_,_,_,_,_,_,_,_,_,_,_,_,y.at (aE 3 b0.l) rfl,(adZ (r.mono<|aE 3 b0.l) a6<|dX.mono (aE 3 b0.l) aS).mono ?_⟩
 rintro _ el (⟨em,_⟩|⟨_,en,eo,b9,z,rfl,cy,cz,bz,ep,_,cA,bE,cB⟩)
 ·simp_all
 have bN:=W.on (N:=[_]) cB b0.l
 refine⟨_,_,_,_,rfl,ae (λbO=>?_) λbO=>?_⟩
 ·--a circle
  have am:0<z.length:=η
  have Q:∀f∈z,f<e.N:=by
   cases f:b9[0]? with
   |none=>
    simp_all
   |some h=>exact(bz h f).2.lt
  obtain⟨o,C,p⟩:=W.mn [_,_,_]<|W.pick bN 5 [1,2,3,0,4];have R:sub cA o:=aE 0 C;have q:sub l o:=aE 1 C;clear C;have an:e.N=e.b9.length:=rfl;have ao:e.T=e.terms.length:=rfl;have ap:=r.t.1;have av:=r.n.1;refine aX (i:=0) (p.pick 4 [2,0,1,3]) V λaz p=>?_;refine⟨λn s=>∃(j f:Nat)(h:E)(us:List vS),n=j/\j<=z.length/\W s (ax m [O 13,O 0,T h j f]::own 1 h j f (T0 us)::ax d (L5.cells ⟨c,(none,0,0),0,0,(none,0,0),(none,0,0),(none,0,0),(none,0,0),⟨(none,0,0),(none,0,0),(none,0,0),(none,0,0),(none,0,0),(none,0,0),(none,0,0),(none,0,0)⟩,false⟩)::ax k [u (some<|Z d)]::[has o]),λf _=>z.length-f.toNat,⟨0,0,none,[],rfl,gu _,(aH 1 p).pick 5 [1,0,2,3,4]⟩,?_⟩;clear p;rintro _ _ S⟨j,I,P,us,rfl,aB,F⟩
  refine ae (λY=>?_) λY=>?_
  ·have s:j<z.length:=η
   obtain⟨h,a0⟩:∃f,z[j]? =some f:=⟨_,gn s⟩;have b1:=Q h<|gg a0;have a1:(GD e.T<|Pj z)[j]? =some ((h:Int)+(e.T:Int)):=by simp_all[GD,R6]
   obtain⟨b2,a2,a3⟩:=bE.at a1;obtain⟨t,b3,b4,a4,a5⟩:=r.n.dy (i:=h) U;refine au a2 s ⟨_,a3 S<|R.trans<|aE 4 F.l,λb5 a7=>?_⟩;have f:=F.drawn a7;have a8:(h:Int)+(e.T:Int)-(c.tl:Int)=(h:Int):=U
   refine⟨λn=>aj (hp n) (Z m) [O 13,O 0,T P j I]/\sub o (hp n),⟨af 0 f.l,aE 4 f.l⟩,_,_,_,λa9 n=>n.1.cell sZ (j:=2) rfl,_,_,_,λa9 n=>y.cell (q.trans n.2) (j:=1) rfl,_,_,_,λa9 n=>y.cell0<|q.trans n.2,ξ,?_⟩;rw[a8];refine au a4 U ⟨_,λn a9=>a5 n<|q.trans a9.2,ag f λba bb f=>⟨⟨af 1 f.l,aE 5 f.l⟩,?_⟩⟩;refine(aU (us:=T0 us) (vs:=[.string t]) aY (rfl:ai Ty _=.slice _) (rfl:ai Ty _=.slice _) rfl rfl rfl (f.pick 5 [0,2,1,3,4]) rfl (by simp[aO]) G U).mono ?_;rintro _ bc⟨a9,aa,rfl,n⟩;refine⟨_,_,_,rfl,⟨af 2 n.l,aE 5 n.l⟩,?_⟩;rw[ak];refine aX (i:=2) (n.pick 5 [2,0,3,4]) V λbd n=>⟨ξ,⟨j+1,aa,a9,us++[t],V,s,?_⟩,bS s⟩;have ab:T0 (us++[t])=T0 us++[.string t]:=V
   rw[ab];exact n
  ·intro t n;have f:=F.drawn n;refine⟨λh=>aj (hp h) (Z k) [u (some<|Z d)]/\aj (hp h) (Z m) [O 13,O 0,T P j I],⟨af 3 f.l,af 0 f.l⟩,_,λs h=>h.1.cell0 sZ,_,_,_,_,_,λs h=>h.2.at sZ rfl,aX (i:=0) (f.pick 5 [3,0,2,4]) V λa0 h=>⟨⟨af 0 h.l,af 1 h.l⟩,Pq rfl h.swap λa1 s=>b7 (ms:=[]) V (al.trans q) s⟩⟩
 --none
 have er:z=[]:=j2 η
 have cC:b9=[]:=by
  cases f:b9[0]? with
  |none=>simp_all
  |some h=>
   simp_all
 subst cC;clear bE bz cz bO;have cF:=bN.tail;intro es cI;have b1:=cF.drawn cI;refine⟨λf=>aj (hp f) (Z k) [u (some<|Z d)]/\sub l (hp f),⟨af 1 b1.l,aE 3 b1.l⟩,_,λh f=>f.1.cell0 sZ,_,_,_,_,_,_,_,_,_,_,_,_,_,λh f=>y.at f.2 rfl,(zp (r.mono<|aE 3 b1.l) a6).mono ?_⟩;rintro _ et⟨C,F,I,P,int,bP,rfl,bT,cR⟩;have cT:=W.on (N:=[_,_,_]) cR b1.l;obtain⟨c0,c1,Y⟩:=W.mn [_,_,_]<|W.pick cT 7 [3,4,5,0,1,2,6];have a0:sub l c0:=aE 3 c1;clear c1;refine⟨_,_,_,_,_,_,rfl,⟨af 1 Y.l,sub.trans a0<|aE 3 Y.l⟩,Av (i:=5) Y V (by simp[aO]) λd0 Y=>⟨⟨af 1 Y.l,sub.trans a0<|aE 3 Y.l⟩,?_⟩⟩;have ba:W d0 (ax d (L5.cells ⟨c,(C,I.length,F),P,int,(none,0,0),(none,0,0),(none,0,0),(none,0,0),⟨(none,0,0),(none,0,0),(none,0,0),(none,0,0),(none,0,0),(none,0,0),(none,0,0),(none,0,0)⟩,false⟩)::ax k [u (some<|Z d)]::ax m zM::[has c0]):=Y
 refine ae (λd1=>?_) λd1=>?_
 ·have f:bP≠0:=η
  exact⟨_,ba.tail.cell 0,aX (i:=0) ba.swap V λo h=>Pq rfl (h.pick 4 [2,0,1,3]) λp n=>b7 (ms:=[]) f (al.trans a0) n⟩
 have d2:bP=0:=η
 obtain⟨_,eu⟩:=bT.Sn d2;intro ey am;have an:=ba.drawn am;refine⟨λf=>aj (hp f) (Z k) [u (some<|Z d)]/\sub l (hp f),⟨af 1 an.l,sub.trans a0<|aE 3 an.l⟩,_,λh f=>f.1.cell0 sZ,_,_,_,_,_,_,_,_,_,_,_,_,_,λh f=>y.at f.2 rfl,(zs (r.mono<|sub.trans a0<|aE 3 an.l) a6<|dX.mono (sub.trans a0<|aE 3 an.l) aS).mono ?_⟩;rintro _ d3⟨ez,eA,eB,eC,eD,a1,cL,a2,rfl,eG,eI,_,d4⟩;have d5:=W.on (N:=[_,_]) d4 an.l;obtain⟨c2,c3,a3⟩:=W.mn [_,_,_]<|W.pick d5 6 [2,3,4,0,1,5];have a7:sub l c2:=sub.trans a0<|aE 2 c3;clear c3;refine⟨_,_,_,_,rfl,⟨af 1 a3.l,sub.trans a7<|aE 3 a3.l⟩,?_⟩
 show gh d3 (((Z d).add 5).add 3) _ _
 rw[ke,ak];refine aX (i:=8) a3 V λeK a3=>⟨⟨af 1 a3.l,sub.trans a7<|aE 3 a3.l⟩,λd6 am=>?_⟩;have d7:=a3.drawn am;have ao:W d6 (ax d (L5.cells ⟨c,(C,I.length,F),P,int,(a1,a2.length,cL),(none,0,0),(none,0,0),(none,0,0),⟨(none,0,0),(none,0,0),(none,0,0),(none,0,0),(none,0,0),(none,0,0),(none,0,0),(none,0,0)⟩,false⟩)::ax k [u (some<|Z d)]::ax m zM::[has c2]):=d7;refine⟨λf=>aj (hp f) (Z k) [u (some<|Z d)]/\sub l (hp f),⟨af 1 ao.l,sub.trans a7<|aE 3 ao.l⟩,_,λh f=>f.1.cell0 sZ,_,_,_,_,_,_,_,_,_,_,_,_,_,λh f=>y.at f.2 rfl,(abk (r.mono<|sub.trans a7<|aE 3 ao.l) a6<|dX.mono (sub.trans a7<|aE 3 ao.l) aS).mono ?_⟩;rintro _ eL⟨Q,eM,eN,d8,nn,n,p,o,q,ap,b2,f,h,s,rfl,b3,d9,c4,c5,dc,df⟩;have dk:=W.on (N:=[_,_,_,_,_,_]) df ao.l;obtain⟨a4,R,a5⟩:=W.mn [_,_,_]<|W.pick dk 10 [6,7,8,0,1,2,3,4,5,9];have bb:sub l a4:=sub.trans a7 (aE 6 R)
 have rA:bf a4 (f.map (·.2)) n f.length:=by
  obtain⟨ab,t,S⟩:=B7 (A:=own 1 n f.length p<|f.map cf) 0 R;obtain⟨av,a8,a9⟩:=B7 (A:=aT<|f.map<|bU 2 dE) 1 R;exact Ez (λaa=>Er rfl aa) t S a8 a9
 have bc:bf a4 (h.map (·.2)) o h.length:=by
  obtain⟨ab,t,S⟩:=B7 (A:=own 1 o h.length q<|h.map cf) 2 R;obtain⟨av,a8,a9⟩:=B7 (A:=aT<|h.map<|bU 1 iv) 3 R;exact Ez (λaa=>bA rfl aa) t S a8 a9
 have c6:bf a4 (s.map pO) ap s.length:=by
  obtain⟨t,S,a8⟩:=B7 (A:=own 3 ap s.length b2<|Hd s) 4 R;obtain⟨a9,aa,ab⟩:=B7 (A:=aT<|ER s) 5 R
  grind[XN]
 clear R
 --the same automaton
 obtain⟨eO,eP,_,_,eR,eS⟩:=bT.one b3;have bQ:d8=0:=U
 obtain⟨_,bd⟩:=b3.Sn bQ;have be:=d9 bQ;rw[c4] at rA;rw[c5] at bc;rw[dc] at c6;have bi:=Bn aV bd be;have eT:f.length=Q.length:=by have:=congrArg List.length c4;grind[Eu]
 have eU:h.length=Q.length:=by have:=congrArg List.length c5;grind[Gt]
 have eX:=bd.dn.2.1;refine⟨_,_,_,_,_,_,_,_,_,_,rfl,⟨af 1 a5.l,sub.trans bb<|aE 3 a5.l⟩,Av (i:=9) a5 V (by simp[aO]) λeY a5=>⟨⟨af 1 a5.l,sub.trans bb<|aE 3 a5.l⟩,λc7 am=>?_⟩⟩;have dl:=a5.drawn am;have av:W c7 (ax d (L5.cells ⟨c,(C,I.length,F),P,int,(a1,a2.length,cL),(n,f.length,p),(o,h.length,q),(ap,s.length,b2),⟨(none,0,0),(none,0,0),(none,0,0),(none,0,0),(none,0,0),(none,0,0),(none,0,0),(none,0,0)⟩,false⟩)::ax k [u (some<|Z d)]::ax m zM::[has a4]):=dl;have dn:=af 0 av.l;have ds:aj (hp c7) ((Z d).add 9) [T n f.length p,T o h.length q]:=(aj.drop (us:=T c.ta c.tl c.tc::T c.na c.nl c.nc::T c.la c.ll c.lc::O c.s::T c.pa c.pl c.pc::gN (C,I.length,F)::O P::O int::[gN (a1,a2.length,cL)]) dn).take (us:=[T n f.length p,T o h.length q]);refine⟨λt=>aj (hp t) (Z k) [u (some<|Z d)]/\aj (hp t) ((Z d).add 9) [T n f.length p,T o h.length q],⟨af 1 av.l,ds⟩,_,λS t=>t.1.cell0 sZ,_,λS t=>t.1.cell0 sZ,_,_,_,_,_,_,λS t=>t.2.at sZ rfl,(agk (rA.mono<|aE 3 av.l) (bc.mono<|aE 3 av.l) bi).mono ?_⟩;rintro _ c8⟨c9,S,rfl,a8,dv,dx⟩;have ca:=W.on (N:=[_,_,_,_,_,_,_,_]) dx av.l
 have f0:aj (hp c8) ((Z d).add 9) [T n f.length p,T o h.length q]:=by
  have t:=af (b:=d) 8 ca.l;exact(aj.drop (us:=T c.ta c.tl c.tc::T c.na c.nl c.nc::T c.la c.ll c.lc::O c.s::T c.pa c.pl c.pc::gN (C,I.length,F)::O P::O int::[gN (a1,a2.length,cL)]) t).take (us:=[T n f.length p,T o h.length q])
 obtain⟨a9,bl,b4⟩:=W.mn [_,_,_]<|W.pick ca 12 [8,9,10,0,1,2,3,4,5,6,7,11];have b5:sub a4 a9:=aE 8 bl;have az:sub l a9:=bb.trans b5;have aB:Xf a9 c9 S:=pkH (L:=[has a4]) bl a8 dv
 have dy:S.d.2.1<=1000000/\S.a1.2.1<=1000000/\S.t.2.1<=1000000/\S.g1.2.1<=1000000:=by
  have t:=aB.d.1;have aa:=aB.a.rb.1;have ab:=aB.t.1;have cb:=aB.g.rb.1;have cc:=a8.d1;have cd:=a8.ac.c.lb;have dA:=a8.t1;have dC:=a8.gt.c.lb
  grind
 clear bl
 refine⟨_,_,_,_,_,_,_,_,_,_,_,_,_,_,_,_,_,_,_,_,_,_,_,_,_,rfl,⟨af 1 b4.l,?_⟩,?_⟩
 ·omega
 show bC c8 (((Z d).add 9).add 3) _ _
 rw[ke];refine Av (i:=12) (vs:=S.cells) b4 (by simp[PA.cells]) (by simp[aO,PA.cells]) λdA b4=>?_;have aa:W dA (ax d (L5.cells ⟨c,(C,I.length,F),P,int,(a1,a2.length,cL),(n,f.length,p),(o,h.length,q),(ap,s.length,b2),S,false⟩)::ax k [u (some<|Z d)]::ax m zM::[has a9]):=b4
 refine⟨⟨af 1 aa.l,?_⟩,_,_,_,_,_,_,_,_,_,_,_,_,_,y.at (sub.trans az<|aE 3 aa.l) rfl,(Xk (r.mono<|sub.trans az<|aE 3 aa.l) a6<|dX.mono (sub.trans az<|aE 3 aa.l) aS).mono ?_⟩
 ·exact(aj.drop (us:=T c.ta c.tl c.tc::T c.na c.nl c.nc::T c.la c.ll c.lc::O c.s::T c.pa c.pl c.pc::gN (C,I.length,F)::O P::O int::[gN (a1,a2.length,cL)])<|af 0 aa.l).take (us:=[T n f.length p,T o h.length q])
 rintro _ dC⟨dF,f1,f2,f3,cb,f4,f5,dG,rfl,dW,e0,e1,e2⟩;have t:=(W.on (N:=[_,_]) e2 aa.l).tail.tail;obtain⟨e3,e4,_,_,f6,f7⟩:=b3.one dW;have e5:cb=nn:=(e0 U).inj be;have e6:n_ e cb dF 2=n_ e nn Q 2:=by rw[e5];exact(aaV e4 e3).symm
 refine⟨_,_,_,_,rfl,_,t.tail.cell 0,?_⟩
 show gh dC (((Z d).add 9).add 11) _ _
 rw[ke,ak];refine aX (i:=20) t V λf8 t=>⟨_,t.tail.cell 0,aX (i:=0) t.swap V λf9 t=>Pq rfl (t.pick 4 [2,0,1,3]) λcc t=>?_⟩;have cd:W cc (ax m zM::ax k [u (some<|Z d)]::ax d (L5.cells ⟨c,(C,I.length,F),P,int,(a1,a2.length,cL),(n,f.length,p),(o,h.length,q),(ap,s.length,b2),S,((dG.length:Int)==0)⟩)::[has a9]):=t;have ab:sub a9 (hp cc):=aE 3 cd.l;have e7:=agS (nn:=nn) aV b3;have fa:s.length=(T8 e nn Q).length:=G
 refine .inr ⟨d,_,e,Q,nn,Eu e nn Q,Gt e Q,T8 e nn Q,c9,rfl,⟨af 2 cd.l,r.mono<|az.trans ab,rA.mono<|b5.trans ab,bc.mono<|b5.trans ab,c6.mono<|b5.trans ab,aB.mono ab,⟨G,λe8 e9=>by have:=(bi.a e8 e9).1;omega⟩,⟨G,λe8 e9=>by have:=(bi.t e8 e9).1;omega⟩,⟨G,e7.2⟩,dy⟩,⟨⟨aV,a6,cu,cv⟩,bd,be,rfl,rfl,rfl,a8,?_,cy⟩,sub.trans aK<|sub.trans al<|sub.trans az ab⟩;rw[<-e6,<-e1];simp
end
section
variable{w:ga}{L:List aG}{g:B}{x:GA}{nn:At}
theorem L6{a7:Az}{o:E}{n aS:Nat}(aV:gR (hp w) g x)(b0:jq g)(b1:bf (hp w) a7 o n)(hi:∀t∈a7,-9223372036854775808<=t/\t<=9223372036854775807)(b2:ec (hp w)):
  ρ 3 [.agg ⟨x.cells⟩,T o n aS] w λb3 b4=>b3=J true/\Gr w b4:=by
 refine qS (dZ aV λct cu N a8 a9=>⟨_,_,_,_,_,_,_,_,_,_,_,_,_,a9.row<|Gr.refl _,(ain a8 b0<|dX.mono N b2).mono ?_⟩)
 rintro _ P (⟨b5,b6,b7,b9,ba,bb,rfl,Q⟩|⟨cv,aa,c,bc,nn,cx,cy,Cs,ab,rfl,ac,a,Q⟩)
 ·refine⟨_,_,_,_,_,_,rfl,ag (W.all P) λd h e=>aQ e rfl (by simp[aO]) λf b=>gd rfl ⟨_,(af 0 b.l:aj (hp f) (Z d) [O b5,O b6,T b7 b9 ba]).cell0 sZ,by simp[bb],N.trans<|Q.trans<|aE 1 b.l⟩⟩
 clear a9 a8;have e:=a.s.hc;have z:=a.s.hb;have cz:=e.cR;have cA:c.T=c.terms.length:=rfl;have cB:c.N=c.b9.length:=rfl;refine⟨_,_,_,_,_,_,rfl,ag (W.all P) λcC cF b=>aQ b rfl (by simp[aO]) λad b=>bm rfl ?_⟩;have R:Gr P ad:=aE 1 b.l;clear b;refine(Ng (ac.mono R) z U U).mono ?_;rintro _ cI⟨A,cR,rfl,bd,be,al⟩;refine⟨_,_,_,_,_,_,_,_,_,_,_,_,_,rfl,ag al λam cT b=>aQ b rfl (by simp[aO]) λf b=>?_⟩;have C:GB (hp f) am A:=Y6 b.row;have m:gR (hp f) c A:=NY bd be b.tail;have an:sub (hp ad) (hp f):=aE 6 b.l;clear b al;have ao:=ac.mono<|sub.trans R an;have S:Gr w f:=N.trans<|Q.trans<|R.trans an;have d0:c.prods.length=A.pl:=m.p.1;have d1:c.N=A.nl:=m.n.1;have ap:∀{d:ga},sub (hp f) (hp d)->∃i h k,World.cell? d (Addr.add (Z am) 4)=some (T i h k)/\(J (decide (0<(h:Int)))=J true/\Gr w d):=λs=>⟨_,_,_,C.c4 s,by simp;omega,S.trans s⟩;refine⟨_,_,_,_,_,_,_,_,_,_,_,_,_,C.row sZ,(ad9 (s:=40) m U (b1.mono S) hi U).mono ?_⟩
 rintro _ h (⟨rfl,bi⟩|⟨X,bl,d2,rfl,d3,F,Y⟩)
 ·refine⟨_,_,_,_,rfl,λd i=>d=true/\sub (hp f) (hp i),gd rfl ⟨rfl,bi⟩,?_⟩;rintro _ _ i⟨rfl,d⟩;exact gd rfl (ap d)
 have d:sub (hp f) (hp h):=Y.aS
 refine⟨_,_,_,_,rfl,λi k=>i= !aa.clr/\h=k,bm rfl ((adO<|ao.mono d).mono ?_),?_⟩
 ·rintro _ _⟨rfl,rfl⟩;exact⟨_,rfl,rfl,rfl⟩
 rintro _ _ _⟨rfl,rfl⟩;refine ae (λi=>ap d) λi=>?_;have bo:aa.clr=true:=by simpa using i
 obtain⟨ns,rfl⟩:∃ns:A0,X=oE ns:=⟨X.map Int.toNat,by
  apply kv;intro k;simp only[oE,nQ,iE];cases hi:X[k]? with
  |none=>rfl
  |some t=>
   have:=F t<|gg hi;simp only[oI,Function.comp,Option.some.injEq];omega⟩
 have I:∀t∈ns,1<=t/\t<c.T:=λt k=>by
  have:=F (t:Int)<|iz.2 ⟨t,k,rfl⟩;omega
 have av:(oE ns).length=ns.length:=V
 have p:=agK e a.A a.n (by have:=a.P;rwa [a.dA,a.dG] at this) z;rw[<-a.dG] at p;have bs:nr c nn bc (pA ab) (pG c ab):=agL e a.A a.n (by have:=a.P;rwa [a.dA,a.dG] at this)<|a.cl.1 bo;have a0:bf (hp h) (oE ns) bl (oE ns).length:=bA rfl (dT 0 Y.l);clear Y;refine(XM (ao.mono d) p U U U a0 I U).mono ?_;rintro _ d4⟨bu,⟨bz,bE,bN,d5,bO,bP,bT,c0,c1,c2,c3,c4,c5,c6,c7,c8,rfl,c9⟩,az⟩;refine⟨_,_,_,_,_,_,_,_,_,_,_,_,_,_,_,_,rfl,ag az λbQ d6 b=>aQ b rfl (by simp[aO]) λa1 b=>?_⟩;have q:sub (hp h) (hp a1):=aE 2 b.l;have a2:∀{k:ga},sub (hp h) (hp k)->Gr w k:=λs=>S.trans (sub.trans d s)
 rcases c9 with rfl|⟨rfl,aB⟩
 ·exact gd rfl ⟨rfl,a2 q⟩
 have r:aj (hp a1) (Z bQ) [O bz,O bE,T bO bP bT,T c0 c1 c2,T c3 c4 c5,O bN,T c6 c7 c8]:=af 0 b.l;have ca:sub bu (hp a1):=aE 1 b.l;clear b az;have cb:∀k∈oE ns,0<=k/\k<(c.T:Int):=λk l=>by have:=F k l;omega
 have cc:∀k∈c.prods,k.right.length<=1048576:=λk hp=>by
  have:=abv e a.A a.s.hu k hp;have:=a.A.dn.2.1;omega
 refine bm rfl ⟨_,_,_,_,_,_,_,_,_,_,_,_,_,C.row<|sub.trans d q,(Uk (m.mono<|sub.trans d q) z (.inr e) (a0.mono q) U cc).mono ?_⟩;rintro _ cd⟨⟨ce,cg,rfl,ch,a3⟩,k⟩;rw[a.s.ha cg ch,agJ e cb,av] at a3;have v:sub (hp h) (hp cd):=sub.trans q k
 refine⟨_,rfl,ae (λi=>⟨_,r.cell0 k,?_,a2 v⟩) λi=>⟨_,r.cell0 k,?_⟩⟩
 ·rcases aB with⟨rfl,_⟩|⟨rfl,L,a4,l,_⟩
  ·rfl
  ·obtain⟨a5,t,_,y⟩:=Wh p I l;rw[a3.2 ⟨t,y⟩] at i;cases i
 ·have ci:ce=true:=by simpa using i
  obtain⟨t,ck⟩:=a3.1 ci
  rcases aB with⟨rfl,cl,l,a4⟩|⟨rfl,cl,l,a4,L,cm,d7,aK,rfl⟩
  ·exact absurd ck (aef p a.n bs I a4 t)
  ·obtain⟨d8,d9,cn,co⟩:=Wh p I a4;obtain⟨dc,a5,cp⟩:=L.fr;have y:=L.il;rw[cn] at a5 y
   have aR:l.nd.length≠0/\l.ids=[l.nd.length-1]:=by
    rcases cm with a6|⟨cq,cs,a6⟩
    ·rw[a6] at y;cases y
    ·rw[a6] at y ⊢;have:cq=[]:=j2 (by simpa using y);rw[this];exact⟨cs,rfl⟩
   rw[aR.2] at a5;have cs:=aK.1;have df:=L.nl;have a6:(l.nd.length:Int)-1=((l.nd.length-1:Nat):Int):=by have:=aR.1;omega
   rw[a6] at r;refine bm rfl ⟨_,_,_,_,_,_,_,_,_,_,_,_,_,C.row<|sub.trans d v,_,_,_,r.cell k (j:=4) rfl,_,r.cell k (j:=5) rfl,(XD (m.mono<|sub.trans d v) z e (aK.mono<|sub.trans ca k) U L.kl a5 cp (by rw[av];exact co) (a0.mono v) F U).mono ?_⟩;rintro _ dk⟨rfl,cq⟩;exact⟨_,rfl,rfl,a2<|sub.trans v cq⟩
end
section
open Go.RowKit Go.WideShapes Go.ChangeShapes
theorem Sg{w:ga}{a:vP}{v:ah}(h:w.cell? a=some v):wR (hp w) a=some v:=by
 unfold World.cell? at h;unfold wR hp;cases b:w.heap[a.block]? with
 |none=>simp_all
 |some c=>rw[b] at h;cases c<;>first|exact h|cases h
theorem Nn{α β:Type}{f:α->Option β}:∀{l:List α}{r:List β},l.mapM f=some r->r.length=l.length/\∀(i:Nat)(a:α)(b:β),l[i]? =some a->r[i]? =some b->f a=some b
 |[],r,h=>η
 |x::l,r,h=>by
  simp only[List.mapM_cons,Option.bind_eq_bind,Option.bind_eq_some_iff,Option.pure_def,Option.some.injEq] at h
  obtain⟨b,hb,r',hr',rfl⟩:=h
  obtain⟨h1,h2⟩:=Nn hr'
  grind
theorem XO{w:ga}{base n:Nat}{a:vP}{vs:Ay}(h:w.cells? base a n=some vs):aj (hp w) a vs:=by
 unfold World.cells? at h
 split at h
 ·obtain⟨b,c⟩:=Nn h;intro d e f
  grind[List.getElem?_eq_some_iff,List.length_range,Sg]
 simp_all
theorem zW{H:Type}{P:iI}{e:aC}{N:Nat}:∀{l:List (DataW H)},(DataW.weightsAll P e l).all (·<=N)=true->∀d∈l,(d.weights P e).all (·<=N)=true
 |[],_,d,hd=>η
 |x::l,h,d,hd=>by
  rw[DataW.weightsAll,List.all_append,jn] at h
  rcases jb.1 hd with rfl|hd
  ·grind
  ·exact zW h.2 d hd
theorem j9{H:Type}{P:iI}{N:Nat}:∀{ts:List aC}{l:List (DataW H)},(DataW.weightsEach P ts l).all (·<=N)=true->∀(i:Nat) t d,ts[i]? =some t->l[i]? =some d->(d.weights P t).all (·<=N)=true
 |[],l,_,i,t,d,ht,_=>η
 |_::_,[],_,i,t,d,_,hd=>η
 |t0::ts,x::l,h,i,t,d,ht,hd=>by
  rw[DataW.weightsEach,List.all_append,jn] at h
  cases i with
  |zero=>simp_all
  |succ i=>exact j9 h.2 i t d η η
def Su(P:iI)(α:Type)[tV α](bd:α->Prop)(t:aC):Prop:=
 ∀{H:Type}(enc:aC×ah->H)(W:ga)(n:Nat)(cs:Ay)(x:DataW H×List MemPlace),DataW.trod enc P W 0 (λ_=>true) true n t cs=some x->(x.1.weights P t).all (·<=reachBytes)=true->∃y:α,rd (hp W) y cs/\bd y
def pz:vS->Prop:=λs=>s.size<=reachBytes
def Pr{α:Type}(bytes:Nat)(bd:α->Prop):List α->Prop:=λxs=>xs.length*bytes<=reachBytes/\∀x∈xs,bd x
section
variable{P:iI}{t e:aC}
theorem aem(b:P.underlying t=some (.int .i64)):Su P Int lU t:=by
 intro d e f g h i c j;obtain⟨a,rfl,_,k⟩:=DataW.trod_int b c;refine⟨a,rfl,?_⟩;have:IntKind.i64.min<=a/\a<=IntKind.i64.max:=by simp_all[Lit.wf]
 exact this
theorem aen(a:P.underlying t=some .string):Su P vS pz t:=by
 intro d e f g h i b j;obtain⟨c,rfl,rfl,_⟩:=DataW.trod_string a b;refine⟨c,rfl,?_⟩
 simp_all[DataW.weights,pz]
theorem Ax{α:Type}[tV α]{c:α->Prop}{h:Nat}(i:P.underlying t=some (.slice e))(a0:P.cellsOf e=tV.n α)(a1:P.bytesOf e=h)(p:Su P α c e):Su P (List α) (Pr h c) t:=by
 intro a2 q d a3 a4 a5 r j
 rcases DataW.trod_slice i r with⟨rfl,rfl⟩|⟨k,f,s,l,rest,v,rfl,rfl,rfl,_,w,a6,a7,x,_,_⟩
 ·exact⟨[],⟨none,0,0,rfl,gP _,bf.nil⟩,V,λb a=>by simp at a⟩
 ·simp only[DataW.weights,i,List.all_cons,List.all_append,jn,jV,jO] at j;obtain⟨a8,y,_⟩:=j
  have z:∀b,b<=f->∃a:List α,a.length=b/\(∀g m,a[g]? =some m->∃n,aj (hp d) (k.add<|ew g<|tV.n α) n/\rd (hp d) m n)/\∀g∈a,c g:=by
   intro A
   induction A with
   |zero=>simp
   |succ a C=>
    intro a9;obtain⟨F,I,aa,L⟩:=C U;have m:=x a U;obtain⟨N,Q⟩:∃b,l[a]? =some b:=⟨l[a]'U,gn _⟩;rw[Q,Option.bind_eq_some_iff] at m;obtain⟨R,ab,S⟩:=m;obtain⟨X,ac,Y⟩:=p q d v R N S (zW y _ G)
    refine⟨F++[X],G,λn o g=>?_,λo g=>?_⟩
    ·by_cases b:n<a
     ·grind
     ·have:n=a:=G
      subst this;rw[kL U,I,lH] at g
      grind[bh,XO]
    ·rcases iU.1 g with b|b
     ·exact L o b
     ·simp at b;subst b;exact Y
  obtain⟨a,b,m,g⟩:=z f (gP _)
  refine⟨a,⟨some k,f,s,rfl,w,b,λn o A=>?_⟩,?_,g⟩
  ·simp_all
  grind
theorem CZ{a:Array Field}(b:P.underlying t=some (.struct a)){H:Type}{enc:aC×ah->H}{c:ga}{n:Nat}{cs:Ay}{x:DataW H×List MemPlace}(h:DataW.trod enc P c 0 (λ_=>true) true n t cs=some x)(e:(x.1.weights P t).all (·<=reachBytes)=true):
  cs.length=P.cellsOf t/\∀(i:Nat)(f:Field)(ty k o:Nat),a[i]? =some f->P.cellsOf ty=k->f.type=ty->f.offset=o->∃(m:Nat)(d:DataW H×List MemPlace),DataW.trod enc P c 0 (λ_=>true) true m ty ((cs.drop o).take k)=some d/\(d.1.weights P ty).all (·<=reachBytes)=true:=by
 obtain⟨g,m,rfl,rfl,j,p,q⟩:=DataW.trod_struct b h;refine⟨j,?_⟩;rintro i f _ _ _ l rfl rfl rfl;have r:=(sk.1 l).1;obtain⟨d,s⟩:∃d,g[i]? =some d:=⟨g[i]'U,gn _⟩;refine⟨m,d,G,?_⟩;simp only[DataW.weights,b] at e;exact j9 e i f.type d.1 G G
theorem Wi{α:Type}[tV α]{b:α->Prop}(c:Su P α b t){H:Type}{enc:aC×ah->H}{a:ga}{v:ah}{d:DataW H}{ps:List MemPlace}(h:DataW.Trod enc P a 0 (λ_=>true) true t v d ps)
  (e:(d.weights P t).all (·<=reachBytes)=true):∃y:α,rd (hp a) y v.cells.toList/\b y:=by
 obtain⟨f,h⟩:=h;exact c enc a f _ _ h e
theorem XP{α:Type}[tV α]{g:α->Prop}{i:Nat}(j:Su P (List α) (Pr i g) t)(k:P.underlying t=some (.slice e)){H:Type}{enc:aC×ah->H}{f:ga}{b:Nat}{v:ah}{d:DataW H}{ps:List MemPlace}
  (m:Value.okWide P f .any b t v) (h:DataW.Trod enc P f 0 (λ_=>true) true t v d ps) (n:(d.weights P t).all (·<=reachBytes)=true):∃(xs:List α)(a:E)(l c:Nat),v=T a l c/\l<=c/\bf (hp f) xs a l/\Pr i g xs:=by
 obtain⟨xs,⟨a,l,c,o,p,q⟩,r⟩:=Wi j h n;refine⟨xs,a,l,c,?_,p,q,r⟩;cases v<;>first|(simp[Value.okWide,k,Cell.okWide,Cell.ok] at m;done)|simpa[Value.cells] using o
theorem Un{α:Type}[tV α]{c:α->Prop}{f:Array Field}(g:Su P α c t)(i:P.underlying t=some (.struct f)){H:Type}{enc:aC×ah->H}{a:ga}{b:Nat}{v:ah}{d:DataW H}{ps:List MemPlace}
  (e:Value.okWide P a .any b t v) (h:DataW.Trod enc P a 0 (λ_=>true) true t v d ps) (j:(d.weights P t).all (·<=reachBytes)=true):∃(x:α)(cs:Ay),v=.agg ⟨cs⟩/\rd (hp a) x cs/\c x:=by
 obtain⟨x,k,l⟩:=Wi g h j;simp only[Value.okWide,i] at e;obtain⟨cs,rfl,_⟩:=e;exact⟨x,cs.toList,rfl,k,l⟩
theorem abB{w w':ga}(h:Ev w w')(g:Gr w w'):Below w.heap.size w w':=by
 refine⟨h.os,h.tape,h.output,h.size,λb e=>?_⟩;cases c:w.heap[b]? with
 |none=>simp_all
 |some a=>
  by_cases d:Pw a=true
  ·have:hp w b=some a:=by simp_all[hp,IJ]
   exact tW (g b a this)
  ·cases a<;>first|exact absurd rfl d|exact h.dfr _ _ c
theorem BJ(hl:laidOutB P=true){H:Type}{enc:aC×ah->H}{W W':ga}(hb:Below W.heap.size W W'){sp:Nat->Bool}:∀{ts:List aC}{vs:Ay}{ds:List (DataW H)}{ps:List MemPlace},
  (ts.all λt=>P.readableRec t&&decide (t<P.types.size))=true->DataW.TrodAll enc P W 0 (λ_=>true) true ts vs ds ps->(∀x∈ps,x.block<W.heap.size)->(∀x∈ps,sp x.block=true)->
  DataW.TrodAll enc P W' 0 sp true ts vs ds ps
 |[],[],[],ps,_,h,_,_=>h
 |[],_::_,_,_,_,h,_,_=>h.elim
 |[],[],_::_,_,_,h,_,_=>h.elim
 |_::_,[],_,_,_,h,_,_=>h.elim
 |_::_,_::_,[],_,_,h,_,_=>h.elim
 |t::ts,v::vs,d::ds,ps,ht,h,hlt,hsp=>by
  obtain⟨p,q,h1,h2,rfl⟩:=h
  rw[List.all_cons,jn,jn,jV] at ht
  exact⟨p,q,WideElems.Trod_stays hl ht.1.1 ht.1.2 h1 (λx hx=>hb.same (hlt x G)) (λx hx=>hsp x G),BJ hl hb ht.2 h2 (λx hx=>hlt x G) (λx hx=>hsp x G),rfl⟩
theorem abC{H:Type}{enc:aC×ah->H}{s:ChangeSpec}{f:Func}{b a:ga}{args:Array ah}{ds gs:List (DataW H)}{d:List MemPlace}{h:aC}(i:s.vars=[])(j:f.resultTypes=#[h])(k:P.underlying h=some .bool)
  (l:s.fn H (ds++gs)={ results:=[.lit (.bool true)],args:=ds }) (C:laidOutB P=true) (F:(f.params.toList.all λc=>P.readableRec c&&decide (c<P.types.size))=true)
  (e:DataW.Whole enc P f.params.toList s.vars false b args.toList ds gs d) (p:Ev b a) (q:Gr b a):s.post enc P f false true false false b args (J true) a:=by
 have r:=abB p q;have I:∀c∈d,c.block<b.heap.size:=λc hp=>e.lt c hp;have t:∀c∈d,(λg=>decide (g<b.heap.size)) c.block=true:=λc hp=>η
 have v:=e;obtain⟨c,w,L,g,rfl,N,Q⟩:=e
 have x:w=[]:=by
  rw[i] at g;cases gs with
  |nil=>exact g
  |cons _ _=>exact g.elim
 subst x;rw[jK] at*;have y:∀m:Nat->Bool,(∀n∈c,m n.block=true)->DataW.TrodAll enc P a 0 m true f.params.toList args.toList (s.fn H<|ds++gs).args c:=λm n=>by grind[BJ]
 have z:∀m:Nat->Bool,DataW.TrodVars enc P a m s.vars (s.fn H<|ds++gs).vars []:=λm=>by
  rw[l,i];rfl
 have A:∀(m:Nat)(n:Nat->Bool)(o:Bool),DataW.TrodAll enc P a m n o f.resultTypes.toList ((J true).resultList f.resultTypes.size) (s.fn H<|ds++gs).results []:=λm n o=>by
  rw[l,j];exact trodAll_cons_mk (shut_bool k _) trodAll_mk0
 have R:∀(m:Nat)(n:aC)(o:ah),f.resultTypes[m]? =some n->((J true).resultList f.resultTypes.size)[m]? =some o->Value.okWide P a .any 0 n o:=ok_one j rfl (okWide_bool_mk k _)
 refine⟨ds,gs,c,[],c,[],v,A _ _ _,y _ t,z _,World.keptBut_mono (λn m=>⟨m,?_⟩)<|r.frame (·∈c),λ_=>?_⟩
 ·simp_all
 simp_all
end
end
section
open Go.RowKit Go.WideShapes Go.ChangeShapes Go.ChangeAt
theorem aio:ownKnob prog.godebug=none:=by kernel_rfl
theorem XQ:Tryz.pinned.checked.prog.mayEnter=true:=by kernel_rfl
theorem abD:Tryz.pinned.checked.prog.liftsFinal=Rows.topLanguageRow.lifted:=by kernel_rfl
theorem abE:Tryz.pinned.checked.prog.make=some Rows.topLanguageRow.make:=by kernel_rfl
theorem aeo:laidOutB Tryz.pinned.checked.prog=true:=by kernel_rfl
theorem XR:mapsRowed Tryz.pinned.checked.prog=true:=by kernel_rfl
theorem XS:Tryz.pinned.checked.prog.stops=[]:=by kernel_rfl
theorem XT:Tryz.pinned.checked.prog.stopKnobs=[]:=by kernel_rfl
theorem XU:Tryz.pinned.checked.prog.stopsHeard=true:=by kernel_rfl
theorem abF:Tryz.pinned.checked.prog.plainKeys=false:=by kernel_rfl
theorem XV:Tryz.pinned.checked.prog.looks []=true:=by kernel_rfl
theorem abG:Tryz.pinned.checked.prog.mainIs=some (true,"5752f73987eab450df8fa777ac1da065d74fe7e5dd4b24fd50114edcd979b5cc".toList):=by kernel_rfl
theorem ahV:laidOutB prog=true:=by kernel_rfl
theorem K4:prog.cellsOf 3=1:=by kernel_rfl
theorem agT:prog.bytesOf 3=8:=by kernel_rfl
theorem Si:prog.cellsOf 9=1:=by kernel_rfl
theorem abH:prog.bytesOf 9=16:=by kernel_rfl
theorem Sj:prog.cellsOf 24=1:=by kernel_rfl
theorem abI:prog.cellsOf 22=1:=by kernel_rfl
theorem abJ:prog.cellsOf 23=1:=by kernel_rfl
theorem abK:prog.cellsOf 25=1:=by kernel_rfl
theorem BO:prog.cellsOf 288=2:=by kernel_rfl
theorem agU:prog.bytesOf 288=24:=by kernel_rfl
theorem BP:prog.cellsOf 134=3:=by kernel_rfl
theorem agV:prog.bytesOf 134=40:=by kernel_rfl
theorem agW:prog.cellsOf 27=5:=by kernel_rfl
theorem tD:Su prog Int lU 3:=aem Tryz.underlying3
theorem xB:Su prog Az (Pr 8 lU) 24:=Ax Tryz.underlying24 K4 agT tD
theorem BQ:Su prog vS pz 9:=aen Tryz.underlying9
theorem ahX:Su prog (List vS) (Pr 16 pz) 23:=Ax Tryz.underlying23 Si abH BQ
theorem ahY:Su prog ly (λa=>pz a.name/\lU a.level) 288:=by
 intro w a b x g y h i;obtain⟨c,d⟩:=CZ Tryz.underlying288 h i;rw[BO] at c;obtain⟨_,_,j,k⟩:=d 0 _ 9 1 0 rfl Si rfl rfl;obtain⟨_,_,l,m⟩:=d 1 _ 3 1 1 rfl K4 rfl rfl;obtain⟨e,n,o⟩:=BQ a b _ _ _ j k;obtain⟨f,p,q⟩:=tD a b _ _ _ l m
 match g,c with
 |[r,s],_=>
  have t:[r]=[.string e]:=n;have v:[s]=[O f]:=p;cases t;cases v;exact⟨⟨e,f⟩,rfl,o,q⟩
theorem agX:Su prog (List ly) (Pr 24 λt=>pz t.name/\lU t.level) 22:=Ax Tryz.underlying22 BO agU ahY
theorem ahZ:Su prog aD (λa=>lU a.left/\Pr 8 lU a.right/\lU a.level) 134:=by
 intro R a b S j X k l;obtain⟨d,c⟩:=CZ Tryz.underlying134 k l;rw[BP] at d;obtain⟨_,_,m,n⟩:=c 0 _ 3 1 0 rfl K4 rfl rfl;obtain⟨_,_,o,p⟩:=c 1 _ 24 1 1 rfl Sj rfl rfl;obtain⟨_,_,q,r⟩:=c 2 _ 3 1 2 rfl K4 rfl rfl;obtain⟨e,s,t⟩:=tD a b _ _ _ m n;obtain⟨v,⟨f,g,h,w,x,y⟩,z⟩:=xB a b _ _ _ o p;obtain⟨i,A,C⟩:=tD a b _ _ _ q r
 match j,d with
 |[F,I,L],_=>
  have N:[F]=[O e]:=s;have P:[I]=[T f g h]:=w;have Q:[L]=[O i]:=A;cases N;cases P;cases Q;exact⟨⟨e,v,i⟩,⟨f,g,h,rfl,x,y⟩,t,z,C⟩
theorem agY:Su prog (List aD) (Pr 40 λp=>lU p.left/\Pr 8 lU p.right/\lU p.level) 25:=Ax Tryz.underlying25 BP agV ahZ
def aip(g:B):Prop:=jq g/\g.terms.length*24<=140737488355328/\g.b9.length*16<=140737488355328
theorem ah0:Su prog B aip 27:=by
 intro b7 a b b9 C ba F I;obtain⟨h,c⟩:=CZ Tryz.underlying27 F I;rw[agW] at h;obtain⟨_,_,L,N⟩:=c 0 _ 22 1 0 rfl abI rfl rfl;obtain⟨_,_,P,Q⟩:=c 1 _ 23 1 1 rfl abJ rfl rfl;obtain⟨_,_,R,S⟩:=c 2 _ 24 1 2 rfl Sj rfl rfl;obtain⟨_,_,X,Y⟩:=c 3 _ 3 1 3 rfl K4 rfl rfl;obtain⟨_,_,a0,a1⟩:=c 4 _ 25 1 4 rfl abK rfl rfl;obtain⟨d,⟨i,j,k,a2,a3,a4⟩,e⟩:=agX a b _ _ _ L N;obtain⟨f,⟨l,m,n,a5,a6,a7⟩,o⟩:=ahX a b _ _ _ P Q;obtain⟨p,⟨q,r,s,a8,a9,aa⟩,ab⟩:=xB a b _ _ _ R S;obtain⟨g,ac,bb⟩:=tD a b _ _ _ X Y;obtain⟨t,⟨v,w,x,ad,al,am⟩,y⟩:=agY a b _ _ _ a0 a1
 match C,h with
 |[an,ao,ap,av,az],_=>
  have aB:[an]=[T i j k]:=a2;have aK:[ao]=[T l m n]:=a5;have aR:[ap]=[T q r s]:=a8;have aS:[av]=[O g]:=ac;have aV:[az]=[T v w x]:=ad;cases aB;cases aK;cases aR;cases aS;cases aV;refine⟨⟨d,f,p,g,t⟩,⟨⟨i,j,k,l,m,n,q,r,s,g,v,w,x⟩,rfl,a4,a7,aa,rfl,am,a3,a6,a9,al⟩,?_⟩;have b0:=e.1;have b1:=o.1;have b2:=ab.1;have b3:=y.1;unfold reachBytes at b0 b1 b2 b3
  refine⟨⟨by show d.length<=_;omega,by show f.length<=_;omega,by show p.length<=_;omega,by show t.length*40<=_;omega,λz A=>⟨?_,(e.2 z A).2⟩,λb4 b5=>?_,λb6 hp=>?_⟩,by show d.length*24<=_;omega,by show f.length*16<=_;omega⟩
  ·have:=(e.2 z A).1;unfold pz reachBytes at this;omega
  ·have:=o.2 b4 b5;unfold pz reachBytes at this;omega
  ·have:=(y.2 b6 hp).2.1.1;unfold reachBytes at this;omega
theorem BR:prog.globalNamed "math/bits.deBruijn64tab"=some 0:=by kernel_rfl
theorem abP:(prog.globals[0]?).map (·.type)=some 465:=by kernel_rfl
theorem abQ:prog.cellsOf 465=64:=by kernel_rfl
theorem XW:prog.cellsOf 5=1:=by kernel_rfl
theorem vE{b:ga}(h:laidMetH prog [("math/bits.deBruijn64tab",Rows.laid_math_bits_deBruijn64tab)] b):ec (hp b):=by
 have d:Lib.TabIs prog b "math/bits.deBruijn64tab" .u8 (Lib.deBruijn64tab.map λ(a:Nat)=>(a:Int)):=
  Lib.tabIs_of_head (rest:=[]) BR abP Tryz.underlying465 Tryz.underlying5 XW abQ h
 refine .inr ⟨_,rfl,λe g c=>?_⟩;have a:=(gJ.1 c).1;have f:=d.cell BR e (by simpa[uF] using a);rw[ak];refine Sg<|f.trans ?_;rw[<-c];simp only[uF,iE,jO] at c a ⊢;rw[gn a];simp[a]
noncomputable def GK(os:Os):ga:=
  { World.holding prog os ⟨#[],#[],[]⟩ with heap:=(World.holding prog os ⟨#[],#[],[]⟩).heap.modify 0 fun
      |.cells _ t frozen=>.cells ⟨uF⟩ t frozen
      |o=>o }
end
end Go.Proofs.YtaoaemnefghnbaaGreatDoor
