/- Texts of this claim, one behind the other. -/
import Derived.Test.YtaoaemnefghnbaaGreatDoorG2
import Derived.Test.YtaoaemnefghnbaaGreatDoorG4
import Derived.Test.YtaoaemnefghnbaaGreatDoorG7
import Derived.Test.YtaoaemnefghnbaaGreatDoorG6
import Derived.Test.YtaoaemnefghnbaaGreatDoorG3
import Derived.Test.YtaoaemnefghnbaaGreatDoorG5
set_option linter.unusedVariables false
set_option linter.unusedSectionVars false
set_option maxRecDepth 100000
set_option maxHeartbeats 16000000
namespace Go.V
end Go.V
namespace Go.Proofs.YtaoaemnefghnbaaGreatDoor
end Go.Proofs.YtaoaemnefghnbaaGreatDoor
open Go.V Go.Proofs.YtaoaemnefghnbaaGreatDoor
namespace Go.Proofs.YtaoaemnefghnbaaGreatDoor
section
variable{a b c d:aiz}{i j k l m n o p:Nat}{A:Int}{w:aiA}{R:Value->WP}
theorem Jg(h:new w (ψ a i j b k l c m n A d o p) λa b=>χ b (aM a) λa=>rE 86 [a] b λa b=>∃c d,a=vU [vP c,iI d]/\br (d !=0) (R (vU [zS,iI d]) b) (rEs 87 [vP c] b λd e f b=>br ((e:Int)==0) (R (vU [zS,iI 0]) b) (idx d e 0 1 λa=>cLi b a λf=>rEs 88 [vP c,iI f] b λf g h b=>new b (oC [zS] 24) λa b=>st1 b (aM a) (vS f g h) λb=>idx d e 0 1 λf=>cLi b f λg=>new b (oC [iI g] 3) λb f=>dW1 f λg f=>dLs f (aM a) λh i j=>idx d e 0 1 λd=>dLi f d λe=>idx h i e 1 λd=>dLi f d λe=>aA (e-1)/\new g (oC [iI 0] 3) λd g=>f g/\st1 g (aM d) (iI (e-1)) λe=>τ [(8,kT),(9,S1.one Cs.ptr)] λf g=>f (some (aM b)) 1 1 (some (aM d)) e/\∀(_:ν) b d e h i,f b d e h i->nn h λj=>cLi i j λk=>bQ (0<k) (dW1 i λj k=>nn c λc=>dLs k c λl m n=>aA ((d:Int)-1)/\idx b d ((d:Int)-1) 1 λc=>dLi k c λn=>idx l m n 1 λc=>dLp k c λl=>rEs 89 [vP l] j λl m n j=>k j/\rEi 90 [vS l m n,vF1 91 [vP (some (aM a)),vP h]] j λj c=>idx l m j 1 λa=>cLi c a λj=>new c (oC [iI j] 3) λa c=>rS (fW1 24 [vS b d e,vS (some (aM a)) 1 1]) c λa c=>∃j k l,a=vS j k l/\nn h λa=>cLi c a λm=>new c (oC [iI 0] 3) λa c=>st1 c (aM a) (iI m) λc=>cLi c (aM a) λm=>aA (m-1)/\st1 c (aM a) (iI (m-1)) λc=>nD1 f g j k l (some (aM a)) c b d e h i) (rEs 92 [vP c,vS b d e] i λc d e b=>R (vU [vS c d e,iI 0]) b)))):ρ 40 [φ a i j b k l c m n A d o p] w R:=rv Tryz.func40 h ⟨[(10,[(8,kT),(9,(.one .ptr))])],[],[],[]⟩
theorem Ji(h:new w (ψ a i j b k l c m n A d o p) λa b=>χ b (aM a) λc=>rEb 81 [c] b λd c=>br (!d) (R (vU [vP none,iI 1]) c) (χ c (aM a) λb=>rE 179 [b] c λb c=>∃d e f g,b=vU [vS d e f,iI g]/\new c (oC [zS] 47) λb c=>st1 c (aM b) (vS d e f) λc=>br (g !=0) (R (vU [vP none,iI g]) c) (cLs c (aM a) λd e f=>new c (oC [zS,iI (e:Int)] 181) λc d=>new d (oC [vP none] 174) λd e=>st1 e (aM d) (vP (some (aM c))) λc=>cLs c (Addr.add (aM a) 1) λe f g=>τ [(34,aN)] λe g=>e 0 c/\∀(_:ν) c h,e c h->bQ (c<(f:Int)) (dW1 h λb f=>dLp f (aM d) λi=>dLp f (aM d) λj=>nn j λd=>dLs f d λj k l=>dLs f (Addr.add (aM a) 1) λd m n=>rEp 102 [iI (m:Int),zS] b λd b=>f b/\new b (oC [vP d] 178) λa b=>f b/\rS (fW1 179 [vS j k l,vS (some (aM a)) 1 1]) b λa b=>∃d j k,a=vS d j k/\f b/\nn i λa=>st1 b a (vS d j k) λa=>aA (c+1)/\nA e g (c+1) a c h) (cLs h (Addr.add (aM a) 4) λc e f=>τ [(53,aN)] λa f=>a 0 h/\∀(_:ν) g h,a g h->bQ (g<(e:Int)) (idx c e g 3 λc=>∃e i j k l,rA h c 3 [iI e,vS i j k,iI l]/\new h (oC [iI 0,zS,iI 0] 134) λc m=>bA m (aM c) [iI e,vS i j k,iI l] λe=>cLs e (Addr.add (aM c) 1) λi j k=>τ [(10,aN),(61,aN)] λk l=>k 0 0 e/\∀(_:ν) e m n,k e m n->bQ (m<(j:Int)) (idx i j m 1 λa=>cLi n a λc=>rEb 180 [iI c,vP (some (aM d)),vP (some (aM b))] n λc b=>br c (aA (e+1)/\aA (m+1)/\nB k l (e+1) (m+1) b e m n) (aA (m+1)/\nB k l e (m+1) b e m n)) (cLs n (Addr.add (aM c) 1) λi j k=>τ [(74,aN)] λk l=>k 0 n/\∀(_:ν) m n,k m n->bQ (m<(j:Int)) (idx i j m 1 λa=>cLi n a λf=>∃(a:lP [(96,yV)]),(cLp n (aM d) λc=>nn c λc=>cLi n (c.add 1) λg=>bQ (g<=f) (br (e==0) (a true n) (br (e==1) (rEb 180 [iI f,vP (some (aM d)),vP (some (aM b))] n λd c=>a d c) (a false n))) (a false n))/\∀(_:ν) b e,a b e->br b (dW1 e λa b=>dLp b (aM d) λe=>nn e λe=>dLs b e λg h i=>dLi b (aM c) λe=>dLp b (aM d) λc=>nn c λc=>dLi b (c.add 1) λi=>aA (e-i)/\idx g h (e-i) 1 λc=>dLp b c λe=>dLp b (aM d) λc=>nn c λc=>dLi b (c.add 1) λd=>aA (f-d)/\new a (oC [iI (f-d)] 3) λa c=>b c/\rEi 103 [vP e,vS (some (aM a)) 1 1] c λc b=>aA (m+1)/\nA k l (m+1) b m n) (aA (m+1)/\nA k l (m+1) e m n)) (aA (g+1)/\nA a f (g+1) n g h))) (cLp h (aM d) λa=>R (vU [vP a,iI 0]) h))))):ρ 86 [φ a i j b k l c m n A d o p] w R:=rv Tryz.func86 h ⟨[(8,[(34,aN)]),(12,[(53,aN)]),(17,[(10,aN),(61,aN)]),(23,[(74,aN)])],[(26,[(96,yV)])],[],[]⟩
theorem EZ(h:nn a λb=>cLs w b λc d e=>τ [(3,kT),(10,aN)] λb c=>b none 0 0 0 w/\∀(_:ν) e f g h i,b e f g h i->bQ (h<(d:Int)) (rEs 88 [vP a,iI h] i λj k l d=>idx j k h 1 λa=>cLi d a λj=>bQ (0<j) (new d (oC [iI h] 3) λa d=>rS (fW1 24 [vS e f g,vS (some (aM a)) 1 1]) d λa d=>∃j k l,a=vS j k l/\aA (h+1)/\nD1 b c j k l (h+1) d e f g h i) (aA (h+1)/\nD1 b c e f g (h+1) d e f g h i)) (R (vS e f g) i)):ρ 87 [.pointer a] w R:=rv Tryz.func87 h ⟨[(3,[(3,kT),(10,aN)])],[],[],[]⟩
theorem zX(h:nn a λb=>cLs w b λc d e=>od (d:Int) (d:Int) 8/\new w (Obj.cells (Array.mk (gD (Int.toNat (d:Int)) [iI 0])) 3) λb c=>new c (oC [iI A] 3) λc e=>τ [(6,kT),(7,aN)] λf g=>f (some (aM c)) 1 1 1 e/\∀(_:ν) c e h i j,f c e h i j->bQ (0<(e:Int)) (nn a λk=>cLs j k λl m n=>τ [(8,kT),(30,aN)] λk l=>k none 0 0 0 j/\∀(_:ν) n o p q r,k n o p q r->bQ (q<(m:Int)) (τ [(8,kT),(35,aN)] λf g=>f n o p 0 r/\∀(_:ν) h j m s t,f h j m s t->bQ (s<(e:Int)) (idx c e s 1 λc=>cLi t c λe=>idx (some (aM b)) (Int.toNat (d:Int)) q 1 λc=>cLi t c λu=>br (u==0) (nn a λa=>cLs t a λc u v=>idx c u q 1 λa=>cLp t a λc=>rEb 168 [vP c,iI e] t λe c=>br e (idx (some (aM b)) (Int.toNat (d:Int)) q 1 λa=>st1 c a (iI i) λa=>new a (oC [iI q] 3) λa b=>rS (fW1 24 [vS h j m,vS (some (aM a)) 1 1]) b λa b=>∃c d e,a=vS c d e/\aA (q+1)/\nD1 k l c d e (q+1) b n o p q r) (aA (s+1)/\nD1 f g h j m (s+1) c h j m s t)) (aA (s+1)/\nD1 f g h j m (s+1) t h j m s t)) (aA (q+1)/\nD1 k l h j m (q+1) t n o p q r)) (aA (i+1)/\nD1 f g n o p (i+1) r c e h i j)) (R (vS (some (aM b)) (Int.toNat (d:Int)) (Int.toNat (d:Int))) j)):ρ 88 [.pointer a,iI A] w R:=rv Tryz.func88 h ⟨[(4,[(6,kT),(7,aN)]),(8,[(8,kT),(30,aN)]),(11,[(8,kT),(35,aN)])],[],[],[]⟩
abbrev Gl:FuncId:=91
theorem Dd{b:Addr}{c:Addr}(h:dW1 w λa d=>dLs d b λe f g=>idx e f A 1 λb=>dLi d b λe=>dLi d c λb=>R (vB (e==b)) a):ρ 91 [iI A,(.pointer (some b)),(.pointer (some c))] w R:=rv Tryz.func91 h
theorem zZ(h:τ [(8,aN)] λc d=>c 0 w/\∀(_:ν) e f,c e f->bQ (e<(i:Int)) (dW1 f λg h=>idx b i e 1 λj=>dLi h j λk=>nn a λa=>dLi h (a.add 1) λj=>aA (k+j)/\idx b i e 1 λa=>st1 g a (iI (k+j)) λa=>aA (e+1)/\nA c d (e+1) a e f) (R (vS b i j) f)):ρ 92 [.pointer a,vS b i j] w R:=rv Tryz.func92 h ⟨[(2,[(8,aN)])],[],[],[]⟩
theorem Dg{b:Addr}{c:Addr}(h:dW1 w λa d=>dLp d b λe=>nn e λe=>dLi d (e.add 1) λf=>bQ (A<f) (R (vB true) a) (dLs d c λe f g=>dLp d b λc=>nn c λb=>dLi d (b.add 1) λc=>aA (A-c)/\idx e f (A-c) 1 λb=>dLb d b λc=>R (vB !c) a)):ρ 180 [iI A,(.pointer (some b)),(.pointer (some c))] w R:=rv Tryz.func180 h
end
theorem aX.atv{α:Type}[kZ α]{w:aiA}{xs:List α}{a:aiz}{l i:Nat}{x:α}{ad:Addr}(r:aX (hp w) xs a l)(ha:a=some ad)(hx:xs[i]? =some x):w.cell? (ad.add i)=some (kZ.val x):=by
 obtain⟨u,e,J⟩:=r.at hx
 simp_all[sub.refl]
inductive qA (R:Nat->Nat->Prop) (to:Nat):Nat->Nat->Prop
 |one (i:Nat):R i to->qA R to 1 i
 |more (n i k:Nat):R i k->qA R to n k->qA R to (n+1) i
section
variable{R:Nat->Nat->Prop}{N to n i j:Nat}
theorem qA.pos(h:qA R to n i):1<=n:=by cases h<;>omega
theorem qA.trans{b m:Nat}(h:qA R b n i)(k:qA R to m b):qA R to (n+m) i:=by
 induction h with
 |one i h=>rw[Nat.add_comm];exact .more m i b h k
 |more n i x h1 h2 ih=>rw[show n+1+m=(n+m)+1 from ω];exact .more _ i x h1 ih
structure aeS(R:Nat->Nat->Prop)(N to:Nat)(far:List Nat):Prop where
 ln:far.length=N
 z:∀i,i<N->far.getD i 0=0->∀m,¬qA R to m i
 p:∀(i:Nat) d,far[i]? =some d->0<d->qA R to d i/\∀m,qA R to m i->d<=m
structure Bfs(R:Nat->Nat->Prop)(N to n:Nat)(cur far:List Nat):Prop where
 one:1<=n
 ln:far.length=N
 z:∀i,i<N->far.getD i 0=0->∀m,m<n->¬qA R to m i
 p:∀(i:Nat) d,far[i]? =some d->0<d->d<n/\qA R to d i/\∀m,qA R to m i->d<=m
 c:∀k,k∈cur↔(n=1/\k=to)\/(1<n/\k<N/\far.getD k 0=n-1)
theorem getD_some{far:List Nat}(h:i<far.length):far[i]? =some (far.getD i 0):=by simp_all
theorem Zs:Bfs R N to 1 [to] (List.replicate N 0):=by
 refine⟨agT _,σ,λi hi _ m J u=>?_,λi d O h0=>?_,λk=>?_⟩
 ·have:=u.pos;omega
 ·grind
 simp
theorem Bfs.next{cur far cur' far':List Nat}(b:Bfs R N to n cur far)(hR:∀a k,R a k->k<N)(hl:far'.length=N)(new:Nat->Prop)(hn:∀j,j<N->(new j↔far.getD j 0=0/\∃k∈cur,R j k))
  (h1:∀j,j<N->new j->far'.getD j 0=n) (h2:∀j,j<N->¬new j->far'.getD j 0=far.getD j 0) (hc:∀k,k∈cur'↔k<N/\new k):Bfs R N to (n+1) cur' far':=by
 have a6:=b.ln
 have Y:∀j,j<N->new j->qA R to n j:=λj hj a4=>by
  obtain⟨_,k,V,O⟩:=(hn j hj).1 a4
  rcases(b.c k).1 V with⟨rfl,rfl⟩|⟨h1,h2,h3⟩
  ·exact .one _ O
  ·obtain⟨_,u,_⟩:=b.p k _ (getD_some ω) ω;rw[h3] at u;have:=qA.more (n-1) j k O u
   grind
 refine⟨ω,hl,λi hi h0 m hm u=>?_,λi d hd a0=>?_,λk=>?_⟩
 ·have X:¬new i:=λh=>by have:=h1 i hi h;have:=b.one;omega
  rw[h2 i hi X] at h0
  by_cases a5:m<n
  ·exact b.z i hi h0 m a5 u
  ·have:m=n:=ω
   subst this;refine X ((hn i hi).2 ⟨h0,?_⟩);cases u with
   |one _ O=>exact⟨to,(b.c to).2 (.inl ⟨rfl,rfl⟩),O⟩
   |more q _ k O u=>
    have Z:=hR _ _ O;refine⟨k,(b.c k).2 (.inr ⟨by have:=u.pos;omega,Z,?_⟩),O⟩
    by_cases hz:far.getD k 0=0
    ·exact absurd u (b.z k Z hz q ω)
    ·obtain⟨g1,g2,g3⟩:=b.p k _ (getD_some ω) ω;have g4:=g3 q u;have g5:¬far.getD k 0+1<q+1:=λhh=>b.z i hi h0 _ hh (.more _ i k O g2);omega
 ·have hi:i<N:=by grind
  have U:far'.getD i 0=d:=by simp_all
  by_cases J:new i
  ·rw[h1 i hi J] at U;subst U;refine⟨ω,Y i hi J,λm u=>?_⟩;have:=b.z i hi ((hn i hi).1 J).1 m
   simp_all
  ·rw[h2 i hi J] at U;have:=b.p i d (by simp_all) a0
   grind
 ·rw[hc]
  constructor
  ·rintro⟨V,W⟩;exact .inr ⟨by have:=b.one;omega,V,by grind⟩
  ·rintro(⟨h,_⟩|⟨_,V,h⟩)
   ·have:=b.one;omega
   ·refine⟨V,ahm λW=>?_⟩;rw[h2 k V W] at h;have:=b.p k _ (getD_some ω) ω;omega
theorem Bfs.done{far:List Nat}(b:Bfs R N to n [] far)(hR:∀a k,R a k->k<N):aeS R N to far:=by
 have V:=b.ln;refine⟨b.ln,λi hi h0 m O=>?_,λi d W h0=>(b.p i d W h0).2⟩
 have key:∀{m i},qA R to m i->i<N->far.getD i 0≠0:=by
  intro m i O
  induction O with
  |one i h=>
   intro hi h0
   by_cases J:n=1
   ·have:=(b.c to).2 (.inl ⟨J,rfl⟩);simp_all
   ·exact b.z i hi h0 1 (by have:=b.one;omega) (.one i h)
  |more q i k J h2 ih=>
   intro hi h0;have u:=hR _ _ J;have Y:=ih u;obtain⟨g1,g2,g3⟩:=b.p k _ (getD_some ω) ω;have X:¬far.getD k 0+1<n:=λU=>b.z i hi h0 _ U (.more _ i k J g2);have:=(b.c k).2 (.inr ⟨ω,u,ω⟩)
   simp_all
 grind
def Wc(far:List Nat):Nat:=(far.filter (·==0)).length
theorem aeT{far far':List Nat}(hl:far'.length=far.length)(h:∀j,j<far.length->far'.getD j 0=0->far.getD j 0=0):Wc far'<=Wc far/\(∀j,j<far.length->far.getD j 0=0->far'.getD j 0≠0->Wc far'<Wc far):=by
 induction far generalizing far' with
 |nil=>simp_all
 |cons x far ih=>cases far' with
  |nil=>simp_all
  |cons y far'=>
   obtain⟨J,U⟩:=ih (by simpa using hl) λj u W=>by
    have:=h (j+1) (by simp_all) (by simp_all)
    grind
   have h0:y=0->x=0:=λO=>by
    have:=h 0 σ (by simp_all)
    grind
   have V:∀(a:Nat) l,Wc (a::l)=(if a=0 then 1 else 0)+Wc l:=λa l=>by grind[Wc,Nat.add_comm]
   grind
def OnP(R:Nat->Nat->Prop)(i:Nat):Prop:=∃m,qA R i m i
structure af8(R:Nat->Nat->Prop)(N:Nat)(l:List Nat):Prop where
 lt:∀x∈l,x<N
 nd:l.Nodup
 st:∀(i:Nat) a b,l[i]? =some a->l[(i+1)%l.length]? =some b->R a b
 on:∀x∈l,OnP R x
end
def fV(T:Nat)(nn:List Bool)(s:Int):Bool:=decide (s<(T:Int))|| !bp nn (s.toNat-T)
def cM(T:Nat)(nn:List Bool)(row:List Int):Nat:=(row.filter (fV T nn)).length
def Ly(g:ah)(nn:List Bool)(p:aJ)(b:Nat):Prop:=cM g.T nn p.right=0\/(cM g.T nn p.right=1/\fV g.T nn ((g.T+b:Nat):Int)=true)
def Qb(g:ah)(nn:List Bool)(p:aJ)(i a b:Nat):Prop:=p.left=((g.T+a:Nat):Int)/\((g.T+b:Nat):Int)∈p.right.take i/\Ly g nn p b
def Dh(g:ah)(nn:List Bool)(p:aJ)(a b:Nat):Prop:=p.left=((g.T+a:Nat):Int)/\((g.T+b:Nat):Int)∈p.right/\Ly g nn p b
def VG(g:ah)(a b:Nat):Prop:=∃nn,lE g nn/\∃p∈g.prods,Dh g nn p a b
theorem Ua{g:ah}{nn:List Bool}(h:lE g nn){a b:Nat}:VG g a b↔∃p∈g.prods,Dh g nn p a b:=
 ⟨λ⟨nn',h',hp⟩=>(h'.inj h)▸hp,λhp=>⟨nn,h,hp⟩⟩
structure Ub(N:Nat)(vs:List (List Bool))(Q:Nat->Nat->Prop):Prop where
 ln:vs.length=N
 le:∀v∈vs,v.length=N
 st:∀(a:Nat) v,vs[a]? =some v->∀b,bp v b=true↔Q a b
theorem Ub.congr{N:Nat}{vs:List (List Bool)}{Q Q':Nat->Nat->Prop}(h:Ub N vs Q)(hq:∀a b,a<N->(Q a b↔Q' a b)):Ub N vs Q':=
 ⟨h.ln,h.le,λa v u b=>(h.st a v u b).trans (hq a b (by rw[<-h.ln];grind))⟩
theorem af9{v:List Bool}{b0 b:Nat}(h:b0<v.length):bp (di v [(b0:Int)]) b=true↔bp v b=true\/b=b0:=by
 rw[eR];unfold gf
 grind
theorem Ub.add{N:Nat}{vs:List (List Bool)}{Q:Nat->Nat->Prop}(h:Ub N vs Q){a b:Nat}{v:List Bool}(hv:vs[a]? =some v)(hb:b<N):Ub N (vs.set a (di v [(b:Int)])) λx y=>Q x y\/(x=a/\y=b):=by
 have O:=h.le v (agL hv)
 refine⟨by rw[ahB];exact h.ln,λu J=>?_,λx u J y=>?_⟩
 ·rcases List.mem_or_eq_of_mem_set J with J|rfl
  ·exact h.le u J
  simp_all[bu]
 ·rw[ah8] at J
  split at J
  ·rename_i e;subst e;rw[ag0 (agN.1 hv).1] at J;cases J;rw[af9 ω,h.st _ v hv];simp
  ·rename_i e;rw[h.st x u J]
   grind
theorem Br(T:Nat)(nn:List Bool)(row:List Int)(s:Int):cM T nn (row++[s])=cM T nn row+(if fV T nn s then 1 else 0):=by grind[cM,List.length_append,fV]
theorem Di(T:Nat)(nn:List Bool)(row:List Int):cM T nn row<=row.length:=ahs _ _
theorem ab2{N:Nat}(h:N<=65):(yz (N:Int) []).length=N/\∀k,bp (yz (N:Int) []) k=false:=by
 have e:KL (N:Int)=N:=by
  unfold KL;omega
 refine⟨by rw[L0,e],λk=>?_⟩;simp[yz,eR,gf,oy]
section
variable{w:aiA}{L:List aE}{g:ah}{x:GA}
theorem ab3{T k20 k23 k24 n c l:Nat}{nn:List Bool}{o o2:aiz}{c2:Nat}{s:Int}(h24:aq (hp w) ⟨k24,0,none⟩ [.pointer (some ⟨k23,0,none⟩)])(h23:aq (hp w) ⟨k23,0,none⟩ [vS o2 l c2,iI (T:Int)])(h20:aq (hp w) ⟨k20,0,none⟩ [vS o n c])(hn:aX (hp w) nn o n)(hs:0<=s/\s<(T:Int)+n)(hT:T<=65)(hN:n<=65):
  ρ 180 [iI s,.pointer (some ⟨k24,0,none⟩),.pointer (some ⟨k20,0,none⟩)] w λv w'=>v=vB (fV T nn s)/\hp w'=hp w:=by
 refine Dg λw1 hd=>?_;have e:=m_ hd;have Z:=hn.1;have J:∀w',hp w'=hp w->aq (hp w') ⟨k24,0,none⟩ [.pointer (some ⟨k23,0,none⟩)]:=λw' e=>by simp_all
 have O:∀w',hp w'=hp w->aq (hp w') ⟨k23,0,none⟩ [vS o2 l c2,iI (T:Int)]:=λw' e=>by simp_all
 have U:∀w',hp w'=hp w->aq (hp w') ⟨k20,0,none⟩ [vS o n c]:=λw' e=>by simp_all
 refine⟨λw'=>hp w'=hp w,e,some ⟨k23,0,none⟩,λw' q=>(J w' q).cell0 sZZ,(T:Int),λw' q=>(O w' q).cell sZZ (j:=1) rfl,ae (λu=>?_) λu=>?_⟩
 ·simp_all[agQ,fV]
 have u:¬s<(T:Int):=agO u;have Y:s-(T:Int)=((s.toNat-T:Nat):Int):=ω
 obtain⟨b,ad,X,W,V⟩:=hn.dQ (i:=s.toNat-T) ω;refine⟨_,_,_,λw' q=>(U w' q).cell0 sZZ,some ⟨k23,0,none⟩,λw' q=>(J w' q).cell0 sZZ,(T:Int),λw' q=>(O w' q).cell sZZ (j:=1) rfl,ξ,?_⟩;rw[Y];refine ax W ω ⟨_,λw' q=>V w' (Gr.of_eq q),?_,e⟩
 grind[fV,qM,kZ.val]
theorem aeU(hg:gR (hp w) g x)(hb:lq g)(ht:dP (hp w)):ρ 86 [.agg ⟨x.cells⟩] w λv w'=>
  (¬aw g/\v=.tuple #[vP none,iI 1]/\Gr w w')\/
  (aw g/\∃(b:Nat)(o:aiz)(c:Nat)(ps:List Nat)(vs:List (List Bool)),v=.tuple #[.pointer (some ⟨b,0,none⟩),iI 0]/\Ub g.N vs (VG g)/\ps.length=g.N/\
   St w' (az b [vS o g.N c,iI (g.T:Int)]::own 1 o g.N c (pv (ps.map bk))::aV (c_ ps vs)::all w)):=by
 refine Ji ?_;refine gi hg λk1 w1 gw hg B=>?_;have tl:g.T=x.tl:=hg.t.1;have nl:g.N=x.nl:=hg.n.1;have pl:=hg.p.1;have gs:sub (hp w) (hp w1):=gw;refine⟨_,_,_,_,_,_,_,_,_,_,_,_,_,B.row sZZ,(td (x:=x) hg hb).mono ?_⟩;rintro _ w2⟨⟨r,rfl,hr⟩,g2⟩
 refine⟨_,rfl,ae (λcx=>?_) λcx=>?_⟩
 ·exact .inl ⟨λh=>(by simp_all),rfl,sub.trans gs g2⟩
 have av:aw g:=hr.1 (by simp_all);have he:bM g:=.inr av;obtain⟨iG,bT,bN,pN,pT,bP⟩:=Gc he;refine⟨_,_,_,_,_,_,_,_,_,_,_,_,_,B.row g2,(Pm (x:=x) (hg.mono g2) hb (eE.mono (sub.trans gs g2) ht)).mono ?_⟩;rintro _ w3⟨o9,n9,c9,e9,rfl,g3,hN⟩
 rcases hN with⟨h1,_⟩|⟨_,rfl,rfl,nn,bi,al⟩
 ·simp_all
 refine⟨_,_,_,_,rfl,ag (St.all w3) λam w4 h=>aR h σ λw5 h=>?_⟩;have h:St w5 [az am [vS o9 g.N c9],has (hp w3)]:=h;have bz:aq (hp w5) ⟨am,0,none⟩ [vS o9 g.N c9]:=af 0 h.l;have bc:sub (hp w3) (hp w5):=aC 1 h.l;have al:=al.mono bc;have X:sub (hp w1) (hp w5):=sub.trans g2 (sub.trans g3 bc);have gs:sub (hp w) (hp w5):=sub.trans gs X;have hg:=hg.mono X;have B:GB (hp w5) k1 x:=⟨λs=>B.c0 (sub.trans X s),λs=>B.c1 (sub.trans X s),λs=>B.c2 (sub.trans X s),λs=>B.c3 (sub.trans X s),λs=>B.c4 (sub.trans X s),λs=>B.row (sub.trans X s)⟩;clear h;have h:=St.all w5;unfold Proofs.YtaoaemnefghnbaaGreatDoor.all at h;generalize hH:hp w5=H at*;have d7:=bi.1;refine ae (λh=>by grind) λ_=>⟨_,_,_,B.c0 (aC 0 h.l),ag h λu w6 h=>ag h λJ w7 h=>aR h σ λw8 h=>?_⟩;have h:St w8 [az J [.pointer (some ⟨u,0,none⟩)],az u [zS,iI (x.tl:Int)],has H]:=h;rw[<-tl] at h;have h:=(aI 1 h);have h:St w8 (aV (c_ [] (List.replicate 0 (yz (g.N:Int) [])))::_):=St.flat.2 (show St w8 ([]++_) from h);refine⟨_,_,_,B.c1 (aC 4 h.l),?_⟩;refine⟨λn w'=>∃(j:Nat)(o:aiz)(c:Nat)(ps:List Nat),n=j/\j<=g.N/\ps.length=j/\St w' [aV (c_ ps (List.replicate j (yz (g.N:Int) []))),own 1 o j c (pv (ps.map bk)),az J [.pointer (some ⟨u,0,none⟩)],az u [vS o j c,iI (g.T:Int)],has H],λn _=>g.N-n.toNat,⟨0,none,0,[],rfl,agP _,rfl,h⟩,?_⟩;clear h;rintro _ n4 w9⟨j,o,c,ps,rfl,hj,b3,h⟩
 refine ae (λU=>?_) λU=>?_
 ·have U:j<g.N:=by simp_all
  intro cW hd;have h:=h.drawn hd;have I:∀{w:aiA},aq (hp w) ⟨J,0,none⟩ [.pointer (some ⟨u,0,none⟩)]->aq (hp w) ⟨u,0,none⟩ [vS o j c,iI (g.T:Int)]->sub H (hp w)->aq (hp w) ⟨J,0,none⟩ [.pointer (some ⟨u,0,none⟩)]/\aq (hp w) ⟨u,0,none⟩ [vS o j c,iI (g.T:Int)]/\sub H (hp w):=λa b c=>⟨a,b,c⟩;refine⟨λw=>aq (hp w) ⟨J,0,none⟩ [.pointer (some ⟨u,0,none⟩)]/\aq (hp w) ⟨u,0,none⟩ [vS o j c,iI (g.T:Int)]/\sub H (hp w),I (af 2 h.l) (af 3 h.l) (aC 4 h.l),some ⟨u,0,none⟩,λw q=>q.1.cell0 sZZ,some ⟨u,0,none⟩,λw q=>q.1.cell0 sZZ,_,_,_,λw q=>q.2.1.cell0 sZZ,_,_,_,λw q=>B.c1 q.2.2,?_⟩;rw[<-nl];refine(UN (xs:=[]) (l:=0) (a:=none) (g.N:Int) aX.nil ω).mono ?_;rintro _ e4⟨Z,rfl,h1⟩;have h:=h1.eM h;refine⟨_,rfl,I (af 3 h.l) (af 4 h.l) (aC 5 h.l),ag h λe8 e3 h=>⟨I (af 4 h.l) (af 5 h.l) (aC 6 h.l),?_⟩⟩;refine(aS aT (rfl:ai Ty _=.slice _) (rfl:ai Ty _=.slice _) rfl rfl rfl (h.pick 7 [0,3,1,2,4,5,6]) rfl (by simp[aK]) (by grind) ω).mono ?_;rintro _ ef⟨o',c',rfl,h⟩;refine⟨_,_,_,rfl,I (af 4 h.l) (af 5 h.l) (aC 6 h.l),?_⟩;refine aR (h.pick 7 [5,0,2,3,4,6]) σ λdk h=>?_;have h:=St.snoc (A:=cU (bk Z) (yz (g.N:Int) [])) (M:=c_ ps (List.replicate j (yz (g.N:Int) []))) (h.pick 6 [2,3,0,1,4,5]);have e1:c_ ps (List.replicate j (yz (g.N:Int) []))++[cU (bk Z) (yz (g.N:Int) [])]=c_ (ps++[Z]) (List.replicate (j+1) (yz (g.N:Int) [])):=by simp_all[c_,List.replicate_succ',List.zipWith_append]
  have e2:pv (ps.map bk)++[Value.pointer (bk Z)]=pv ((ps++[Z]).map bk):=by simp[pv]
  rw[e1] at h;refine⟨ξ,⟨j+1,o',c',ps++[Z],σ,ω,by simp_all,?_⟩,bR U⟩;rw[<-e2];exact h.pick 5 [0,2,3,1,4]
 have U:j=g.N:=by grind
 rw[U] at h b3;clear hj U
 have V0:Ub g.N (List.replicate g.N (yz (g.N:Int) [])) λa b=>∃q∈g.prods.take 0,Dh g nn q a b:=by
  obtain⟨q1,q2⟩:=ab2 bN;refine⟨σ,λv hv=>by simp_all,λa v hv b=>?_⟩
  grind
 refine⟨_,_,_,B.c4 (aC 4 h.l),?_⟩;refine⟨λn w'=>∃(j:Nat)(vs:List (List Bool)),n=j/\j<=g.prods.length/\Ub g.N vs (λa b=>∃q∈g.prods.take j,Dh g nn q a b)/\St w' [aV (c_ ps vs),own 1 o g.N c (pv (ps.map bk)),az J [.pointer (some ⟨u,0,none⟩)],az u [vS o g.N c,iI (g.T:Int)],has H],λn _=>g.prods.length-n.toNat,⟨0,_,rfl,agP _,V0,h⟩,?_⟩;clear h V0;rintro _ n5 eg⟨j,vs,rfl,hj,hV,h⟩;refine ae (λU=>?_) λU=>?_
 rotate_left
 ·have U:j=g.prods.length:=by grind
  subst U;rw[ag9] at hV;refine⟨_,(af 2 h.l).cell0 sZZ,.inr ⟨av,u,o,c,ps,vs,rfl,hV.congr λa b _=>(Ua bi).symm,b3,?_⟩⟩;exact St.on (N:=[_,_,_]) (h.pick 5 [3,1,0,4]) (bF gs)
 have U:j<g.prods.length:=by simp_all
 obtain⟨p,ad,d0,cp,cu,cd,ra,rl,rc,rfl,dc,aa⟩:=hg.p.get (i:=j) ω;have b2:=agL cp;obtain⟨d3,ba⟩:=iG p b2;have d8:=aa.1;have dl:=hb.2.2.2.2.2.2 p b2;have et:g.prods.take (j+1)=g.prods.take j++[p]:=by simp_all[agR]
 refine aO cu ω ⟨_,_,_,_,_,cd.at (aC 4 h.l) rfl,ag h λW e7 h=>aL h rfl (by simp[aK]) λcz h=>?_⟩;have h:St cz [az W [iI p.left,vS ra rl rc,iI p.level],aV (c_ ps vs),own 1 o g.N c (pv (ps.map bk)),az J [.pointer (some ⟨u,0,none⟩)],az u [vS o g.N c,iI (g.T:Int)],has H]:=h;refine⟨_,_,_,(af 0 h.l).cell sZZ (j:=1) rfl,?_⟩
 have b5:∀{w':aiA}{vs':List (List Bool)}{s:Int},s∈p.right->St w' [az W [iI p.left,vS ra rl rc,iI p.level],aV (c_ ps vs'),own 1 o g.N c (pv (ps.map bk)),az J [.pointer (some ⟨u,0,none⟩)],az u [vS o g.N c,iI (g.T:Int)],has H]->ρ 180 [iI s,.pointer (some ⟨J,0,none⟩),.pointer (some ⟨am,0,none⟩)] w' λv ck=>v=vB (fV g.T nn s)/\hp ck=hp w':=λ{w' vs' s} hs h=>
  ab3 (af 3 h.l) (af 4 h.l) (bz.mono (aC 5 h.l)) (al.mono (aC 5 h.l)) (ba s hs) bT bN
 refine⟨λn m w'=>∃i:Nat,n=(cM g.T nn (p.right.take i):Int)/\m=i/\i<=rl/\St w' [az W [iI p.left,vS ra rl rc,iI p.level],aV (c_ ps vs),own 1 o g.N c (pv (ps.map bk)),az J [.pointer (some ⟨u,0,none⟩)],az u [vS o g.N c,iI (g.T:Int)],has H],λ_ m _=>rl-m.toNat,⟨0,by rfl,rfl,agP _,h⟩,?_⟩;clear h;rintro _ n8 n9 cF⟨i,rfl,rfl,hi,h⟩
 refine ae (λO=>?_) λO=>?_
 ·have O:i<rl:=by simp_all
  obtain⟨s,ca,a6,a9,a7⟩:=aa.dQ O;have a0:=agL a6;have a8:p.right.take (i+1)=p.right.take i++[s]:=by simp_all[agR]
  have ch:=Di g.T nn (p.right.take i);rw[ahl] at ch;refine ax a9 O ⟨_,a7 _ (aC 5 h.l),(b5 a0 h).mono ?_⟩;rintro _ e5⟨rfl,ci⟩;have h:=h.eq ci
  refine⟨_,rfl,ae (λcA=>?_) λcA=>?_⟩
  ·exact⟨ξ,ξ,⟨i+1,by simp_all[Br],σ,ω,h⟩,bR O⟩
  ·exact⟨ξ,⟨i+1,by simp_all[Br],σ,ω,h⟩,bR O⟩
 have O:i=rl:=by grind
 subst O;rw[ag4 ω];have cC:=Di g.T nn p.right;refine⟨_,_,_,(af 0 h.l).cell sZZ (j:=1) rfl,?_⟩;obtain⟨a,ha⟩:∃a:Nat,p.left=((g.T+a:Nat):Int):=⟨p.left.toNat-g.T,ω⟩;have cc:a<g.N:=ω
 obtain⟨Z,c8⟩:∃Z,ps[a]? =some Z:=⟨ps[a]'ω,agM _⟩;have V1:Ub g.N vs (λa b=>(∃q∈g.prods.take j,Dh g nn q a b)\/Qb g nn p 0 a b):=hV.congr λa b _=>by simp[Qb]
 refine⟨λn w'=>∃(m:Nat)(vs:List (List Bool)),n=m/\m<=i/\Ub g.N vs (λa b=>(∃q∈g.prods.take j,Dh g nn q a b)\/Qb g nn p m a b)/\St w' [az W [iI p.left,vS ra i rc,iI p.level],aV (c_ ps vs),own 1 o g.N c (pv (ps.map bk)),az J [.pointer (some ⟨u,0,none⟩)],az u [vS o g.N c,iI (g.T:Int)],has H],λn _=>i-n.toNat,⟨0,vs,rfl,agP _,V1,h⟩,?_⟩;clear h V1;rintro _ dF d4⟨m,Y,rfl,hm,a4,h⟩;refine ae (λV=>?_) λV=>?_
 rotate_left
 ·have V:m=i:=by grind
  subst V;refine⟨ξ,⟨j+1,Y,σ,ω,a4.congr λa b _=>?_,h.pick 6 [1,2,3,4,5]⟩,bR U⟩
  simp_all[Qb,Dh,ag4]
 have V:m<i:=by simp_all
 obtain⟨s,ca,a6,a9,a7⟩:=aa.dQ V;have a0:=agL a6;have e6:=ba s a0;have a8:p.right.take (m+1)=p.right.take m++[s]:=by simp_all[agR]
 have nx:∀{w':aiA}{vs':List (List Bool)},Ub g.N vs' (λa b=>(∃q∈g.prods.take j,Dh g nn q a b)\/Qb g nn p (m+1) a b)->St w' [az W [iI p.left,vS ra i rc,iI p.level],aV (c_ ps vs'),own 1 o g.N c (pv (ps.map bk)),az J [.pointer (some ⟨u,0,none⟩)],az u [vS o g.N c,iI (g.T:Int)],has H]->
   aA ((m:Int)+1)/\(∃(m':Nat)(vs:List (List Bool)),(m:Int)+1=m'/\m'<=i/\Ub g.N vs (λa b=>(∃q∈g.prods.take j,Dh g nn q a b)\/Qb g nn p m' a b)/\St w' [az W [iI p.left,vS ra i rc,iI p.level],aV (c_ ps vs),own 1 o g.N c (pv (ps.map bk)),az J [.pointer (some ⟨u,0,none⟩)],az u [vS o g.N c,iI (g.T:Int)],has H])/\i-((m:Int)+1).toNat<i-(m:Int).toNat:=
  λ{w' vs'} hv h'=>⟨ξ,⟨m+1,vs',σ,ω,hv,h'⟩,bR V⟩
 refine ax a9 V ⟨_,a7 _ (aC 5 h.l),?_⟩;obtain⟨P,hP⟩:∃P:Prop,P=((g.T:Int)<=s/\Ly g nn p (s.toNat-g.T)):=⟨_,rfl⟩
 refine⟨λb w'=>(b=true↔P)/\St w' [az W [iI p.left,vS ra i rc,iI p.level],aV (c_ ps Y),own 1 o g.N c (pv (ps.map bk)),az J [.pointer (some ⟨u,0,none⟩)],az u [vS o g.N c,iI (g.T:Int)],has H],?_,?_⟩
 ·refine⟨some ⟨u,0,none⟩,(af 3 h.l).cell0 sZZ,(g.T:Int),(af 4 h.l).cell sZZ (j:=1) rfl,ae (λh1=>?_) λh1=>⟨?_,h⟩⟩
  rotate_left
  ·grind
  have h1:(g.T:Int)<=s:=agQ h1;have b1:((g.T+(s.toNat-g.T):Nat):Int)=s:=ω
  refine ae (λh2=>⟨?_,h⟩) λh2=>ae (λh3=>(b5 a0 h).mono ?_) λh3=>⟨?_,h⟩
  ·have h2:cM g.T nn p.right=0:=by grind
   rw[hP];exact⟨λ_=>⟨h1,.inl h2⟩,λ_=>rfl⟩
  ·rintro _ d9⟨rfl,c5⟩;have h2:cM g.T nn p.right≠0:=λe=>by grind
   have h3:cM g.T nn p.right=1:=by grind
   refine⟨_,rfl,?_,h.eq c5⟩
   grind[Ly,absurd]
  ·have h2:cM g.T nn p.right≠0:=λe=>by grind
   have h3:cM g.T nn p.right≠1:=λe=>by grind
   rw[hP];exact⟨λh=>(by grind),λhh=>hh.2.elim (λe=>absurd e h2) λe=>absurd e.1 h3⟩
 clear h;rintro _ b4 e0⟨c6,h⟩;refine ae (λbl=>?_) λbl=>?_
 rotate_left
 ·refine nx (a4.congr λa' b _=>or_congr_right ?_) h;unfold Qb;rw[a8];refine and_congr_right λ_=>⟨λhh=>⟨List.mem_append_left _ hh.1,hh.2⟩,λhh=>⟨?_,hh.2⟩⟩
  rcases agX.1 hh.1 with h1|h1
  ·omega
  ·rw[ag_] at h1;have:P:=by rw[hP];exact⟨ω,by rw[<-h1];rw[show((g.T+b:Nat):Int).toNat-g.T=b from ω];grind⟩
   simp_all
 have cg:(g.T:Int)<=s/\Ly g nn p (s.toNat-g.T):=hP▸c6.1 bl;obtain⟨b0,c7⟩:∃b0,b0=s.toNat-g.T:=⟨_,rfl⟩;have b1:s=((g.T+b0:Nat):Int):=ω
 have bb:b0<g.N:=ω
 rw[<-c7] at cg;intro d5 hd;have h:=h.drawn hd;have I:∀{w:aiA},aq (hp w) ⟨W,0,none⟩ [iI p.left,vS ra i rc,iI p.level]->aq (hp w) ⟨J,0,none⟩ [.pointer (some ⟨u,0,none⟩)]->aq (hp w) ⟨u,0,none⟩ [vS o g.N c,iI (g.T:Int)]->aX (hp w) (ps.map bk) o g.N->aq (hp w) ⟨W,0,none⟩ [iI p.left,vS ra i rc,iI p.level]/\aq (hp w) ⟨J,0,none⟩ [.pointer (some ⟨u,0,none⟩)]/\aq (hp w) ⟨u,0,none⟩ [vS o g.N c,iI (g.T:Int)]/\aX (hp w) (ps.map bk) o g.N:=λa b c d=>⟨a,b,c,d⟩;have a5:(ps.map bk).length=g.N:=by grind
 have be:(ps.map bk)[a]? =some (bk Z):=by grind
 have i7:=I (af 0 h.l) (af 3 h.l) (af 4 h.l) (UO 2 h.l rfl rfl a5);obtain⟨d6,b6,_⟩:=i7.2.2.2.at be;have ea:p.left-(g.T:Int)=(a:Int):=ω
 have eb:s-(g.T:Int)=(b0:Int):=ω
 obtain⟨v,hv⟩:∃v,Y[a]? =some v:=⟨Y[a]'(by rw[a4.ln];omega),agM _⟩;refine⟨λw=>aq (hp w) ⟨W,0,none⟩ [iI p.left,vS ra i rc,iI p.level]/\aq (hp w) ⟨J,0,none⟩ [.pointer (some ⟨u,0,none⟩)]/\aq (hp w) ⟨u,0,none⟩ [vS o g.N c,iI (g.T:Int)]/\aX (hp w) (ps.map bk) o g.N,i7,some ⟨u,0,none⟩,λw q=>q.2.1.cell0 sZZ,_,_,_,λw q=>q.2.2.1.cell0 sZZ,p.left,λw q=>q.1.cell0 sZZ,some ⟨u,0,none⟩,λw q=>q.2.1.cell0 sZZ,(g.T:Int),λw q=>q.2.2.1.cell sZZ (j:=1) rfl,ξ,?_⟩;rw[ea];refine ax b6 cc ⟨bk Z,λw q=>q.2.2.2.atv b6 be,some ⟨u,0,none⟩,λw q=>q.2.1.cell0 sZZ,(g.T:Int),λw q=>q.2.2.1.cell sZZ (j:=1) rfl,ξ,?_⟩;rw[eb];have gS:(c_ ps Y)[a]? =some (cU (bk Z) v):=by unfold c_;grind
 refine ag h λcI cT h=>⟨I (af 1 h.l) (af 4 h.l) (af 5 h.l) (UO 3 h.l rfl rfl a5),?_⟩;refine(z7 (xs:=[(b0:Int)]) (l:=1) (St.out (h.pick 7 [2,0,1,3,4,5,6]) gS) (λh hh=>bt rfl (.inr ⟨_,rfl,af 1 hh⟩)) ω).mono ?_;rintro _ cN⟨rfl,h⟩;have h:=St.back h gS;have eS:(c_ ps Y).set a (cU (bk Z) (di v [(b0:Int)]))=c_ ps (Y.set a (di v [(b0:Int)])):=SY (λp v=>cU (bk p) v) c8;rw[eS] at h;refine⟨_,rfl,nx ((a4.add hv bb).congr λa' b _=>?_) (h.pick 7 [2,0,3,4,5,6])⟩;rw[or_assoc];refine or_congr_right ?_;unfold Qb;rw[a8]
 constructor
 ·rintro(hh|⟨rfl,rfl⟩)
  ·grind
  grind
 ·rintro⟨h1,h2,h3⟩
  rcases agX.1 h2 with h2|h2
  ·grind
  ·rw[ag_,b1] at h2;omega
end
structure VH(h:Hp)(b T N:Nat)(os:List (aiz))(vs:List (List Bool)):Prop where
 row:∃o c,aq h ⟨b,0,none⟩ [vS o N c,iI (T:Int)]/\aX h os o N
 lv:vs.length=N
 set:∀(i:Nat) o v,os[i]? =some o->vs[i]? =some v->eV h o v
theorem VH.mono{h h':Hp}{b T N:Nat}{os:List (aiz)}{vs:List (List Bool)}(s:sub h h')(r:VH h b T N os vs):VH h' b T N os vs:=by
 obtain⟨⟨o,c,O,u⟩,V,J⟩:=r;exact⟨⟨o,c,O.mono s,u.mono s⟩,V,λi o v U W=>(J i o v U W).mono s⟩
theorem aeV{w:aiA}{L:List aE}{b T N c:Nat}{o:aiz}{ps:List Nat}{vs:List (List Bool)}(h:St w (az b [vS o N c,iI (T:Int)]::own 1 o N c (pv (ps.map bk))::aV (c_ ps vs)::L))(hps:ps.length=N)(hv:vs.length=N):VH (hp w) b T N (ps.map bk) vs:=by
 refine⟨⟨o,c,af 0 h.l,UO 1 h.l rfl rfl (by simp_all)⟩,hv,λi o v u J=>?_⟩;rw[agS] at u;cases hp':ps[i]? with
 |none=>simp_all
 |some p=>
  rw[hp'] at u;cases u;obtain⟨g1,s1,ha⟩:=aaB (h.pick 3 [2]) (A:=cU (bk p) v) (agL (i:=i) (by simp_all[c_,List.getElem?_zipWith]));exact(DR ha).mono s1
def Rel(vs:List (List Bool))(a b:Nat):Prop:=bp (vs.getD a []) b=true
def Nu(l:List Nat):List Int:=l.map λ(k:Nat)=>(k:Int)
theorem Qc{l:List Nat}{i k:Nat}(h:l[i]? =some k):(Nu l)[i]? =some (k:Int):=by simp_all[Nu]
theorem Qd(l:List Nat):(Nu l).length=l.length:=by simp[Nu]
theorem ab4(l:List Nat):iv (Nu l)=dS l:=by rw[WZ];rfl
theorem ab5(l:List Nat)(i k:Nat):(dS l).set i (iI (k:Int))=dS (l.set i k):=by simp[dS]
theorem ab6(n:Nat):List.replicate n (iI 0)=dS (List.replicate n 0):=by simp[dS]
structure WvI(N n:Nat)(new:Nat->Bool)(far0:List Nat)(i:Nat)(far:List Nat):Prop where
 ln:far.length=N
 at_:∀j,j<N->far.getD j 0=if j<i/\new j=true then n else far0.getD j 0
theorem WvI.skip{N n i:Nat}{new:Nat->Bool}{far0 far:List Nat}(h:WvI N n new far0 i far)(hn:new i=false):WvI N n new far0 (i+1) far:=
 ⟨h.ln,λj u=>by
  rw[h.at_ j u]
  grind⟩
theorem WvI.hit{N n i:Nat}{new:Nat->Bool}{far0 far:List Nat}(h:WvI N n new far0 i far)(hi:i<N)(hn:new i=true):WvI N n new far0 (i+1) (far.set i n):=by
 have hl:=h.ln;refine⟨by simp_all,λj u=>?_⟩;rw[agU,ah8]
 by_cases e:i=j
 ·simp_all
 ·rw[agW e,<-agU,h.at_ j u]
  grind
section
variable{w:aiA}{L:List aE}{b T N to:Nat}{os:List (aiz)}{vs:List (List Bool)}
theorem Uc(hw:VH (hp w) b T N os vs)(hN:N<=65)(hR:∀a k,Rel vs a k->k<N)(hto:to<N):ρ 88 [.pointer (some ⟨b,0,none⟩),iI (to:Int)] w λv w'=>∃(k:Nat)(far:List Nat),v=vS (some ⟨k,0,none⟩) N N/\aeS (Rel vs) N to far/\(∀i,far.getD i 0<=N+2)/\St w' (az k (dS far)::all w):=by
 refine zX ?_;obtain⟨⟨o,c,r1,r2⟩,r3,r4⟩:=hw;have bi:=r2.1;refine⟨_,_,_,r1.cell0 sZZ,⟨ω,rfl,ω⟩,?_⟩;rw[agZ,cZ,ab6];refine ag (St.all w) λk3 w1 h=>ag h λk4 w2 h=>?_;have h:St w2 (az k4 (dS [to])::az k3 (dS (List.replicate N 0))::all w):=h;have h:St w2 (own 1 (some ⟨k4,0,none⟩) 1 1 (dS [to])::_):=bg (cs:=[]) (by simpa using h) rfl rfl (agT _);obtain⟨Q,hQ⟩:=uU (λ(o:aiz)(l c:Nat)(z:Int)(w':aiA)(m:Nat)=>∃(n:Nat)(u far:List Nat),z=n/\l=u.length/\u.length<=N+1/\Bfs (Rel vs) N to n u far/\m=Wc far+(if u=[] then 0 else 1)/\Wc far+n<=N+1+(if u=[] then 1 else 0)/\(∀k∈u,k<N)/\St w' [own 1 o l c (dS u),az k3 (dS far),has (hp w)]);obtain⟨μ,ad,a8⟩:=CF (λ(y:aiz×Nat×Nat×Int×aiA) m=>Q y.1 y.2.1 y.2.2.1 y.2.2.2.1 y.2.2.2.2 m);have c7:Wc (List.replicate N 0)=N:=by simp[Wc]
 refine⟨λo l c z w'=>∃m,Q o l c z w' m,λo l c z w=>μ (o,l,c,z,w),⟨N+1,?_⟩,?_⟩
 ·rw[hQ];exact⟨1,[to],_,rfl,rfl,σ,Zs,by grind,ω,by grind,h⟩
 clear h;intro _ o2 l2 c2 z2 w3 hP;have hP:=a8 (o2,l2,c2,z2,w3) hP;dsimp only at hP;generalize hμ:μ (o2,l2,c2,z2,w3)=μ0 at*;rw[hQ] at hP;obtain⟨n,u,far,rfl,rfl,b5,hB,hm,a4,bT,h⟩:=hP;refine ae (λb2=>?_) λb2=>?_
 rotate_left
 ·have W:u=[]:=ag2 (by grind);subst W;refine⟨k3,far,rfl,hB.done hR,λi=>?_,St.eM (A:=az k3 (dS far)) (h.pick 3 [1,2]) (bF sZZ)⟩;rw[ag0 rfl] at a4
  by_cases hi:i<far.length
  ·by_cases h0:far.getD i 0=0
   ·omega
   ·have:=(hB.p i _ (getD_some hi) ω).1;omega
  grind
 have W:u≠[]:=λe=>by grind
 rw[agW W] at hm a4;have a7:=hB.ln;obtain⟨new,b4⟩:∃new:Nat->Bool,new=λi=>decide (far.getD i 0=0)&&u.any λk=>bp (vs.getD i []) k:=⟨_,rfl⟩;have rW:∀{w':aiA},sub (hp w) (hp w')->aq (hp w') ⟨b,0,none⟩ [vS o N c,iI (T:Int)]:=λs=>r1.mono s;refine⟨_,_,_,(rW (aC 2 h.l)).cell0 sZZ,?_⟩;refine⟨λo4 l4 c4 z w'=>∃(i:Nat)(far' dh:List Nat),z=i/\i<=N/\dh=(List.range i).filter new/\l4=dh.length/\WvI N n new far i far'/\St w' [own 1 o2 u.length c2 (dS u),own 1 o4 l4 c4 (dS dh),az k3 (dS far'),has (hp w)],λ_ _ _ z _=>N-z.toNat,⟨0,far,[],rfl,agP _,rfl,rfl,⟨a7,λj _=>σ⟩,(aI 1 h).swap⟩,?_⟩;clear h;rintro _ o4 l4 c4 z w4⟨i,far',dh,rfl,hi,bP,rfl,V,h⟩;have bb:dh.length<=i:=by grind
 refine ae (λJ=>?_) λJ=>?_
 rotate_left
 ·have J:i=N:=by grind
  have h4:=h;subst J;have Y:∀j,new j=true↔far.getD j 0=0/\∃k∈u,Rel vs j k:=λj=>by grind[Rel]
  have aa:=hB.next hR V.ln (λj=>new j=true) (λj _=>Y j) (λj hj hn=>by rw[V.at_ j hj,ag0 ⟨hj,hn⟩]) (λj hj hn=>by rw[V.at_ j hj,agW (λh=>hn h.2)]) (cur':=dh) (λk=>by grind)
  obtain⟨z1,z2⟩:=aeT (far:=far) (far':=far') (by rw[V.ln,a7]) λj hj h0=>by
   rw[V.at_ j ω] at h0
   grind
  have key:Q o4 dh.length c4 (((n+1:Nat):Int)) w4 (Wc far'+(if dh=[] then 0 else 1)):=by
   rw[hQ];refine⟨n+1,dh,far',rfl,rfl,ω,aa,rfl,?_,λk Z=>by grind,h4.pick 4 [1,2,3]⟩
   by_cases e:dh=[]
   ·grind
   ·rw[agW e];obtain⟨k,Z⟩:=ahR _ e;have U:k<i/\new k=true:=by grind
    have:=z2 k ω ((Y k).1 U.2).1 (by rw[V.at_ k U.1,ag0 U];have:=hB.one;omega);omega
  have e1:(n:Int)+1=((n+1:Nat):Int):=σ
  rw[e1];refine⟨ξ,⟨_,key⟩,?_⟩;have:=ad (o4,dh.length,c4,((n+1:Nat):Int),w4) _ key;dsimp only at this ⊢;rw[hμ];refine Nat.lt_of_le_of_lt this ?_;rw[hm]
  by_cases e:dh=[]
  ·grind
  ·rw[agW e];obtain⟨k,Z⟩:=ahR _ e;have U:k<i/\new k=true:=by grind
   have:=z2 k ω ((Y k).1 U.2).1 (by rw[V.at_ k U.1,ag0 U];have:=hB.one;omega);omega
 have J:i<N:=by grind
 have er:List.range (i+1)=List.range i++[i]:=ahA;have c6:=V.ln;have b6:far'.getD i 0=far.getD i 0:=by rw[V.at_ i J,agW ω]
 obtain⟨v,hv⟩:∃v,vs[i]? =some v:=⟨vs[i]'ω,agM _⟩;obtain⟨oi,X⟩:∃oi,os[i]? =some oi:=⟨os[i]'ω,agM _⟩;have b7:vs.getD i []=v:=by grind
 refine⟨λo5 l5 c5 z w'=>∃m:Nat,z=m/\m<=u.length/\l5=dh.length/\(far.getD i 0=0->∀k∈u.take m,bp v k=false)/\St w' [own 1 o2 u.length c2 (dS u),own 1 o5 l5 c5 (dS dh),az k3 (dS far'),has (hp w)],λ_ _ _ z _=>u.length-z.toNat,⟨0,rfl,agP _,rfl,λ_ k Z=>by grind,h⟩,?_⟩;clear h;rintro _ o5 l5 c5 z w5⟨m,rfl,bz,rfl,am,h⟩;refine ae (λO=>?_) λO=>?_
 rotate_left
 ·have O:m=u.length:=by grind
  subst O;rw[ag9] at am;have b3:new i=false:=by grind
  exact⟨ξ,⟨i+1,far',dh,σ,ω,by grind,rfl,V.skip b3,h⟩,bR J⟩
 have O:m<u.length:=by grind
 obtain⟨k,Z⟩:∃k,u[m]? =some k:=⟨u[m],agM O⟩;have bl:=agL Z
 have nx:(far.getD i 0=0->bp v k=false)->St w5 [own 1 o2 u.length c2 (dS u),own 1 o5 dh.length c5 (dS dh),az k3 (dS far'),has (hp w)]->
   aA ((m:Int)+1)/\(∃m':Nat,(m:Int)+1=m'/\m'<=u.length/\dh.length=dh.length/\(far.getD i 0=0->∀k∈u.take m',bp v k=false)/\St w5 [own 1 o2 u.length c2 (dS u),own 1 o5 dh.length c5 (dS dh),az k3 (dS far'),has (hp w)])/\u.length-((m:Int)+1).toNat<u.length-(m:Int).toNat:=λhh h'=>by
  refine⟨ξ,⟨m+1,σ,ω,rfl,λh0 y hy=>?_,h'⟩,bR O⟩
  grind[List.take_add_one]
 obtain⟨bc,b1,al⟩:=cO h (j:=m) (v:=iI (k:Int)) (qL Z);refine ax b1 O ⟨_,al,ax rfl J ⟨((far.getD i 0:Nat):Int),(af 2 h.l).cell sZZ (j:=i) (by grind[qL,getD_some]),ae (λh0=>?_) λh0=>nx (λe=>by grind) h⟩⟩;have h0:far.getD i 0=0:=by grind
 have a5:aX (hp w5) os o N:=r2.mono (aC 3 h.l);obtain⟨ba,a0,_⟩:=a5.at X;refine⟨_,_,_,(rW (aC 3 h.l)).cell0 sZZ,ax a0 J ⟨oi,a5.atv a0 X,(KO ((r4 i oi v X hv).mono (aC 3 h.l)) (k:Int)).mono ?_⟩⟩;rintro _ w6⟨rfl,rfl⟩;have av:hasB v (k:Int)=bp v k:=by rfl
 refine⟨_,rfl,ae (λa6=>?_) λa6=>nx (λ_=>by grind) h⟩;rw[av] at a6;have a9:new i=true:=by grind
 refine ax rfl J ?_;rw[ak];refine aR (h.pick 4 [2,0,1,3]) (by grind[dS]) λw7 h=>ag h λbe w8 h=>?_;rw[ab5] at h;refine(aS aT (rfl:ai Ty _=.slice _) (rfl:ai Ty _=.slice _) rfl rfl rfl (h.pick 5 [0,3,1,2,4]) rfl (by simp[aK]) (by grind) ω).mono ?_;rintro _ w9⟨o',c',rfl,h⟩;have e5:dS dh++[iI (i:Int)]=dS (dh++[i]):=by simp[dS]
 rw[e5] at h;refine⟨_,_,_,rfl,ξ,⟨i+1,far'.set i n,dh++[i],σ,ω,by grind,σ,V.hit J a9,h.pick 5 [3,0,2,4]⟩,bR J⟩
end
theorem Ud{L:List aE}{h:Hp}{a:aiz}{sz l c:Nat}{vs:List Value}(i:Nat)(hl:aF L h)(e:vv L i=own sz a l c vs:=by rfl)(hi:Nat.blt i (DT L)=true:=by rfl):eE a vs h:=by
 obtain⟨u,s,ha⟩:=eO i (by simp_all[lh]) hl;rw[e] at ha
 grind[eE.mono,bH]
theorem Zt(xs:List Int)(i:Nat)(v:Int):(iv xs).set i (iI v)=iv (xs.set i v):=by simp[iv]
def E0(T:Nat)(xs:List Int):List Int:=xs.map λx=>x+(T:Int)
theorem Qe(T:Nat)(xs:List Int):(E0 T xs).length=xs.length:=by simp[E0]
theorem aeW{g:ah}{vs:List (List Bool)}(hV:Ub g.N vs (VG g))(iG:Fi g):Rel vs=VG g:=by
 funext a b
 refine propext ?_;unfold Rel
 by_cases ha:a<g.N
 ·obtain⟨v,u⟩:∃v,vs[a]? =some v:=⟨vs[a]'(by rw[hV.ln];omega),agM _⟩;rw[agU,u];exact hV.st a v u b
 ·rw[agU,ahk (by rw[hV.ln];omega)];refine⟨λh=>by grind[bp],λ⟨nn,_,p,hp,J,_⟩=>?_⟩;have:=(iG p hp).1;omega
theorem Zu{g:ah}(iG:Fi g){a b:Nat}(h:VG g a b):a<g.N/\b<g.N:=by
 obtain⟨nn,_,p,hp,J,u,_⟩:=h;have U:=(iG p hp).1;have O:=(iG p hp).2 _ u;omega
structure OnL(R:Nat->Nat->Prop)(N:Nat)(ol:List Nat):Prop where
 ex:∃p:Nat->Bool,(∀i,p i=true↔OnP R i)/\ol=(List.range N).filter p
theorem OnL.mem{R:Nat->Nat->Prop}{N:Nat}{ol:List Nat}(h:OnL R N ol){x:Nat}:x∈ol↔x<N/\OnP R x:=by
 obtain⟨p,hp,rfl⟩:=h.ex
 simp_all
theorem OnL.le{R:Nat->Nat->Prop}{N:Nat}{ol:List Nat}(h:OnL R N ol):ol.length<=N:=by
 obtain⟨p,hp,rfl⟩:=h.ex
 grind
theorem Qf{R:Nat->Nat->Prop}{out:List Nat}{l0:Nat}(h0:out[0]? =some l0)(hs:∀(i:Nat) a b,out[i]? =some a->out[i+1]? =some b->R a b):∀(i:Nat) x,out[i+1]? =some x->qA R x (i+1) l0
 |0,x,hx=>.one _ (hs 0 l0 x h0 hx)
 |i+1,x,hx=>by
  have hl:=(agN.1 hx).1
  obtain⟨y,hy⟩:∃y,out[i+1]? =some y:=⟨out[i+1]'ω,agM _⟩
  exact(Qf h0 hs i y hy).trans (.one y (hs (i+1) y x hy hx))
structure VI(R:Nat->Nat->Prop)(N F l0:Nat)(far out:List Nat):Prop where
 z:out[0]? =some l0
 st:∀(i:Nat) a b,out[i]? =some a->out[i+1]? =some b->R a b
 lt:∀x∈out,x<N
 fa:∀(i:Nat) x,out[i]? =some x->far.getD x 0+i=F
theorem VI.snoc{R:Nat->Nat->Prop}{N F l0 k last:Nat}{far out:List Nat}(h:VI R N F l0 far out)(hl:out[out.length-1]? =some last)(hr:R last k)(hk:k<N)(hf:far.getD k 0+out.length=F):VI R N F l0 far (out++[k]):=by
 have h0:=(agN.1 h.z).1
 refine⟨by rw[ag8 h0];exact h.z,λi a b ha hb=>?_,λx u=>?_,λi x u=>?_⟩
 ·have hi:=(agN.1 hb).1;rw[agV,ahY] at hi;rw[ag8 ω] at ha
  by_cases J:i+1<out.length
  ·rw[ag8 J] at hb;exact h.st i a b ha hb
  ·have e:i=out.length-1:=ω
   rw[e,hl] at ha;cases ha;rw[ahg ω] at hb;have:i+1-out.length=0:=ω
   rw[this] at hb;cases hb;exact hr
 ·rcases agX.1 u with u|u
  ·exact h.lt x u
  simp_all
 ·have hi:=(agN.1 u).1;rw[agV,ahY] at hi
  by_cases J:i<out.length
  ·rw[ag8 J] at u;exact h.fa i x u
  grind
theorem VI.cir{R:Nat->Nat->Prop}{N F l0:Nat}{far out:List Nat}(h:VI R N F l0 far out)(hF:aeS R N l0 far)(hl:out.length=F):af8 R N out:=by
 have h0:=(agN.1 h.z).1
 have U:∀(i:Nat) x,out[i]? =some x->qA R l0 (far.getD x 0) x:=λi x u=>by
  have hi:=(agN.1 u).1;have:=h.fa i x u;have V:=h.lt x (agL u);exact(hF.p x _ (getD_some (by grind)) ω).1
 refine⟨h.lt,?_,λi a b ha hb=>?_,λx u=>?_⟩
 ·rw[ahF,ahP];intro i j hi X W e;have Z:=h.fa i _ (agM hi);have Y:=h.fa j _ (agM X)
  grind
 ·have hi:=(agN.1 ha).1
  by_cases O:i+1<out.length
  ·rw[Nat.mod_eq_of_lt O] at hb;exact h.st i a b ha hb
  ·have e:i+1=out.length:=ω
   rw[e,Nat.mod_self,h.z] at hb;cases hb;have:=U i a ha;have hf:=h.fa i a ha;rw[show far.getD a 0=1 from ω] at this;cases this with
   |one _ hr=>exact hr
   |more n _ k _ J=>exact absurd J.pos ω
 ·obtain⟨i,hi⟩:=ahb u;have J:=U i x hi;cases i with
  |zero=>rw[h.z] at hi;cases hi;exact⟨_,J⟩
  |succ i=>exact⟨_,J.trans (Qf h.z h.st i x hi)⟩
section
variable{w:aiA}{L:List aE}{b T N l c:Nat}{os:List (aiz)}{vs:List (List Bool)}{a:aiz}{xs:List Int}{v0:Value}
theorem ab7(h:St w (own 1 a l c (iv xs)::L))(hb:∀h,aF L h->aq h ⟨b,0,none⟩ [v0,iI (T:Int)])(hx:∀x∈xs,0<=x/\x<=1000000)(hT:T<=65)(hl:l<=4611686018427387904):ρ 92 [.pointer (some ⟨b,0,none⟩),vS a l c] w λv w'=>v=vS a l c/\St w' (own 1 a l c (iv (E0 T xs))::L):=by
 refine zZ ?_;have X:xs.length=l:=by grind[fk,cf]
 refine⟨λz w'=>∃i:Nat,z=i/\i<=l/\St w' (own 1 a l c (iv (E0 T (xs.take i)++xs.drop i))::L),λz _=>l-z.toNat,⟨0,rfl,agP _,by simp_all[E0]⟩,?_⟩;clear h;rintro _ z w1⟨i,rfl,hi,h⟩;refine ae (λu=>?_) λu=>?_
 rotate_left
 ·grind
 have u:i<l:=by simp_all
 obtain⟨x,O⟩:∃x,xs[i]? =some x:=⟨xs[i],agM ω⟩;have W:=hx x (agL O);have V:(E0 T (xs.take i)).length=i:=by grind[Qe,List.length_take]
 have J:(E0 T (xs.take i)++xs.drop i)[i]? =some x:=by simp_all
 intro U Y;have h:=h.drawn Y;obtain⟨ad,ha,_⟩:=cO h (LX J);have r0:aq (hp U) ⟨b,0,none⟩ [v0,iI (T:Int)]:=hb _ h.tail
 refine⟨λw'=>hp w'=hp U,rfl,ax ha u ⟨x,λw' q=>?_,(T:Int),λw' q=>?_,ξ,ax ha u ?_⟩⟩
 ·show World.cell? w' _=_;obtain⟨Z,e,hc⟩:=cO (h.eq q) (LX J)
  simp_all
 ·show World.cell? w' _=_;rw[cG q];exact r0.cell sZZ (j:=1) rfl
 ·refine fX h ha (by simp_all[cf]) λw5 h=>⟨ξ,⟨i+1,σ,ω,?_⟩,bR u⟩
  have e:(iv (E0 T (xs.take i)++xs.drop i)).set i (iI (x+(T:Int)))=iv (E0 T (xs.take (i+1))++xs.drop (i+1)):=by
   have e1:xs.drop i=x::xs.drop (i+1):=by grind[List.drop_eq_getElem_cons,List.getElem?_eq_some_iff]
   simp_all[agR,Zt,E0]
  simp_all
theorem agG(hw:VH (hp w) b T N os vs)(hN:N<=65)(hR:∀a k,Rel vs a k->k<N):ρ 87 [.pointer (some ⟨b,0,none⟩)] w λv w'=>∃(a:aiz)(c:Nat)(ol:List Nat),v=vS a ol.length c/\OnL (Rel vs) N ol/\St w' (own 1 a ol.length c (dS ol)::all w):=by
 refine EZ ?_;obtain⟨⟨o,c,r1,r2⟩,r3,r4⟩:=id hw;obtain⟨p,O⟩:∃p:Nat->Bool,∀i,p i=true↔OnP (Rel vs) i:=⟨λi=>@decide (OnP (Rel vs) i) (Classical.propDecidable _),λi=>σ⟩;refine⟨_,_,_,r1.cell0 sZZ,?_⟩;refine⟨λW V c4 z w'=>∃(i:Nat)(dh:List Nat),z=i/\i<=N/\dh=(List.range i).filter p/\V=dh.length/\St w' [own 1 W V c4 (dS dh),has (hp w)],λ_ _ _ z _=>N-z.toNat,⟨0,[],rfl,agP _,rfl,rfl,aI 1 (St.all w)⟩,?_⟩;rintro _ W V c4 z w1⟨i,dh,rfl,hi,a4,rfl,h⟩;have Z:dh.length<=i:=by grind
 refine ae (λu=>?_) λu=>?_
 rotate_left
 ·have u:i=N:=by grind
  exact⟨W,c4,dh,rfl,⟨p,O,by simp_all⟩,h⟩
 have u:i<N:=by simp_all
 have er:List.range (i+1)=List.range i++[i]:=ahA;refine(Uc (hw.mono (aC 1 h.l)) hN hR u).mono ?_;rintro _ w2⟨kf,J,rfl,U,_,h2⟩;have h:=h2.eM h;have a0:=U.ln
 have X:p i=true↔0<J.getD i 0:=by
  rw[O]
  constructor
  ·rintro⟨m,Y⟩;exact ahT λe=>U.z i u e m Y
  ·intro h0;exact⟨_,(U.p i _ (getD_some ω) h0).1⟩
 refine⟨_,_,_,rfl,ax rfl u ⟨((J.getD i 0:Nat):Int),(af 0 h.l).cell sZZ (j:=i) (qL (getD_some ω)),ae (λh0=>?_) λh0=>?_⟩⟩
 ·have h0:p i=true:=X.2 (by simp_all);refine ag h λk7 w3 h=>?_;refine(aS aT (rfl:ai Ty _=.slice _) (rfl:ai Ty _=.slice _) rfl rfl rfl (h.pick 4 [0,2,1,3]) rfl (by simp[aK]) (by grind) ω).mono ?_;rintro _ w4⟨o',c',rfl,h⟩;have e5:dS dh++[iI (i:Int)]=dS (dh++[i]):=by simp[dS]
  rw[e5] at h;exact⟨_,_,_,rfl,ξ,⟨i+1,dh++[i],σ,ω,by simp_all,σ,h.pick 4 [0,3]⟩,bR u⟩
 ·have h0:¬p i=true:=λe=>by simp_all
  exact⟨ξ,⟨i+1,dh,σ,ω,by simp_all,rfl,h.pick 2 [1]⟩,bR u⟩
end
theorem St.Nv{w:aiA}{B:aE}{M:List aE}(h:St w (B::M)):∃HF,B HF/\St w (Proofs.YtaoaemnefghnbaaGreatDoor.has HF::M):=by
 obtain⟨u,J,d,s1,s2,ha,hl⟩:=h;exact⟨u,ha,u,J,d,s1,s2,sZZ,hl⟩
section
variable{w:aiA}{L:List aE}{g:ah}{x:GA}
theorem aeX{kf kn l c n N:Nat}{a fa:aiz}{fc:Nat}{xs far:List Nat}(hf:aq (hp w) ⟨kf,0,none⟩ [vS fa N fc])(hfr:eE fa (dS far) (hp w))(hfl:far.length=N)(hn:aq (hp w) ⟨kn,0,none⟩ [iI (n:Int)])(hr:aX (hp w) (Nu xs) a l)(hlt:∀k∈xs,k<N)(hl:l<=4611686018427387904)(hex:∃k∈xs,far.getD k 0=n):
  ρ 90 [vS a l c,.func (.func Gl) #[] #[.pointer (some ⟨kf,0,none⟩),.pointer (some ⟨kn,0,none⟩)]] w λv w'=>(∃(i:Nat)(k:Nat),v=iI (i:Int)/\i<l/\xs[i]? =some k/\far.getD k 0=n)/\hp w'=hp w:=by
 refine bK ?_;have a0:xs.length=l:=by have:=hr.1;simp_all[Qd]
 refine⟨λz w'=>∃j:Nat,z=j/\j<=l/\(∀k∈xs.take j,far.getD k 0≠n)/\hp w'=hp w,λz _=>l-z.toNat,⟨0,rfl,agP _,λk U=>by simp_all,rfl⟩,?_⟩;rintro _ z w1⟨j,rfl,hj,a4,Z⟩;refine ae (λJ=>?_) λJ=>?_
 rotate_left
 ·grind
 have J:j<l:=by simp_all
 obtain⟨k,U⟩:∃k,xs[j]? =some k:=⟨xs[j]'ω,agM _⟩;have W:=hlt k (agL U);obtain⟨ad,X,hc⟩:=hr.at (Qc U);refine ax X J ⟨(k:Int),hc w1 (Gr.of_eq Z),a_.2 ⟨rfl,?_⟩⟩;refine Dd λw2 hd=>?_;have Y:hp w2=hp w:=(m_ hd).trans Z
 obtain⟨u,V,O⟩:∃u,fa=some u/\∀w',hp w'=hp w->w'.cell? (u.add k)=some (iI ((far.getD k 0:Nat):Int)):=by
  rcases hfr with e|⟨u,e,hc⟩
  ·have:=congrArg List.length e
   grind[dS,List.length_nil]
  grind[jI,qL,getD_some]
 refine⟨λw'=>hp w'=hp w,Y,fa,N,fc,λw' q=>hf.cell0 (Gr.of_eq q),ax V W ⟨_,λw' q=>O w' q,(n:Int),λw' q=>hn.cell0 (Gr.of_eq q),_,rfl,ae (λhb=>?_) λhb=>?_⟩⟩
 ·grind
 ·refine⟨ξ,⟨j+1,σ,ω,λy hy=>?_,Y⟩,bR J⟩
  grind[List.take_add_one]
theorem ab8(hg:gR (hp w) g x)(hb:lq g)(ht:dP (hp w)):ρ 40 [.agg ⟨x.cells⟩] w λv w'=>
  (¬aw g/\v=.tuple #[zS,iI 1]/\Gr w w')\/
  (aw g/\∃(a:aiz)(c:Nat)(ol cl:List Nat),v=.tuple #[vS a cl.length c,iI 0]/\OnL (VG g) g.N ol/\(ol=[]->cl=[])/\(∀l0,ol[0]? =some l0->cl[0]? =some l0/\af8 (VG g) g.N cl)/\cl.length<=67/\cl.length<=c/\∃HF,aX HF (E0 g.T (Nu cl)) a cl.length/\St w' (has HF::all w)):=by
 refine Jg ?_;refine gi hg λk1 w1 gw hg B=>⟨_,_,_,_,_,_,_,_,_,_,_,_,_,B.row sZZ,(aeU (x:=x) hg hb (eE.mono gw ht)).mono ?_⟩
 rintro _ w2 (⟨hn,rfl,g2⟩|⟨a9,b,o,c,ps,vs,rfl,hV,ch,h2⟩)
 ·exact⟨_,_,rfl,ae (λ_=>.inl ⟨hn,rfl,sub.trans gw g2⟩) λh=>by cases h⟩
 obtain⟨iG,bT,bN,pN,pT,bP⟩:=Gc (.inr a9:bM g);have hW:=aeV h2 ch hV.ln;have a4:=aeW hV iG;have a6:∀a k,Rel vs a k->k<g.N:=λa k h=>(Zu iG (a4▸h)).2;have gs:sub (hp w) (hp w2):=sub.trans gw (aC 3 h2.l);have cg:dP (hp w2):=eE.mono gs ht;clear h2;obtain⟨⟨o,c,r1,r2⟩,r3,r4⟩:=id hW;refine⟨_,_,rfl,ae (λh=>by grind) λ_=>(agG hW bN a6).mono ?_⟩;rintro _ Z⟨a3,c3,ol,rfl,a5,h⟩;have e4:=a5.le
 refine⟨_,_,_,rfl,ae (λh0=>?_) λh0=>?_⟩
 ·have h0:ol=[]:=ag2 (afs (b:=0) h0);subst h0;exact .inr ⟨a9,none,0,[],[],rfl,a4▸a5,λ_=>rfl,λl0 h=>by grind,σ,agT _,λ_=>none,aX.nil,λ_=>none,hp Z,λ_=>.inl rfl,λ_ _ h=>(nomatch h),sZZ,sZZ,bF (sub.trans gs (aC 1 h.l))⟩
 have a7:0<ol.length:=ahT (adr (b:=0) h0);obtain⟨l0,ba⟩:∃l0,ol[0]? =some l0:=⟨ol[0],agM a7⟩;obtain⟨Y,b4⟩:=a5.mem.1 (agL ba);have V:sub (hp w2) (hp Z):=aC 1 h.l;have ci:eE a3 (dS ol) (hp Z):=Ud 0 h.l
 obtain⟨ca,d3,am⟩:∃ad,a3=some ad/\∀{w':aiA},sub (hp Z) (hp w')->w'.cell? (ad.add 0)=some (iI (l0:Int)):=by
  rcases ci with e|⟨ad,e,hc⟩
  ·have:=congrArg List.length e
   simp_all[dS]
  grind[jI,sU,qL]
 have W:∀{k:Addr->Prop},k (ca.add 0)->idx a3 ol.length 0 1 k:=λ{k} hk=>ax (i:=0) d3 a7 hk;clear h;refine W ⟨_,am sZZ,(Uc (hW.mono V) bN a6 Y).mono ?_⟩;rintro _ w4⟨kf,J,rfl,hF,cN,h4⟩;have ck:=hF.ln;have ek:sub (hp Z) (hp w4):=aC 1 h4.l;refine⟨_,_,_,rfl,ag h4 λX w5 h=>aR h σ λw6 h=>?_⟩;have h:St w6 [az X [vS (some ⟨kf,0,none⟩) g.N g.N],az kf (dS J),has (hp Z)]:=h;obtain⟨F,be⟩:∃F,F=J.getD l0 0:=⟨_,rfl⟩
 have cT:0<F:=by
  obtain⟨m,hm⟩:=b4;exact be▸ahT λe=>hF.z l0 Y e m hm
 have e8:F<=g.N+2:=be▸cN l0;refine W ⟨_,am (aC 2 h.l),ag h λaa w7 h=>λw8 hd=>?_⟩;have h:St w8 [az aa (dS [l0]),az X [vS (some ⟨kf,0,none⟩) g.N g.N],az kf (dS J),has (hp Z)]:=h.drawn hd;have d0:(dS J)[l0]? =some (iI (F:Int)):=by simp_all[qL]
 refine⟨λw=>aq (hp w) ⟨X,0,none⟩ [vS (some ⟨kf,0,none⟩) g.N g.N]/\aq (hp w) ⟨kf,0,none⟩ (dS J)/\sub (hp Z) (hp w),⟨af 1 h.l,af 2 h.l,aC 3 h.l⟩,_,_,_,λw q=>q.1.cell0 sZZ,W ⟨(l0:Int),λw q=>am q.2.2,ax rfl Y ⟨(F:Int),λw q=>q.2.1.cell sZZ (j:=l0) d0,ξ,ag h λbz e3 h=>⟨⟨af 2 h.l,af 3 h.l,aC 4 h.l⟩,aR h σ λb2 h=>?_⟩⟩⟩⟩;have e1:(F:Int)-1=((F-1:Nat):Int):=ω
 rw[e1] at h;have h:St b2 [az aa (dS [l0]),az bz [iI ((F-1:Nat):Int)],az X [vS (some ⟨kf,0,none⟩) g.N g.N],az kf (dS J),has (hp Z)]:=h.swap;have h:St b2 (own 1 (some ⟨aa,0,none⟩) 1 1 (dS [l0])::_):=bg (cs:=[]) (by simpa using h) rfl rfl (agT _)
 refine⟨λo9 l9 c9 b5 w'=>∃(kn n:Nat)(out:List Nat),b5=some ⟨kn,0,none⟩/\l9=out.length/\out.length+n=F/\VI (Rel vs) g.N F l0 J out/\St w' [own 1 o9 l9 c9 (dS out),az kn [iI (n:Int)],az X [vS (some ⟨kf,0,none⟩) g.N g.N],az kf (dS J),has (hp Z)],λ_ l9 _ _ _=>F-l9,⟨bz,F-1,[l0],rfl,rfl,by grind,⟨rfl,λi a b _ hb=>by simp_all,λy hy=>by simp_all,λi y hy=>?_⟩,h⟩,?_⟩
 ·grind
 clear h;rintro _ o9 l9 c9 b5 ea⟨kn,n,out,rfl,rfl,d9,U,h⟩;have d5:=(agN.1 U.z).1;refine⟨_,(af 1 h.l).cell0 sZZ,ae (λav=>?_) λav=>?_⟩
 rotate_left
 ·have av:n=0:=by simp_all
  have bi:=U.cir hF ω;rw[<-ab4] at h
  refine(ab7 (b:=b) (v0:=vS o g.N c) h (λh hh=>r1.mono (sub.trans V (aC 3 hh))) (λy hy=>?_) bT ω).mono ?_
  ·obtain⟨k,hk,rfl⟩:=agY.1 hy;have:=U.lt k hk;omega
  rintro _ e7⟨rfl,h⟩;obtain⟨HF,c7,cW⟩:=St.Nv (h.pick 5 [0,4]);refine⟨_,_,_,rfl,.inr ⟨a9,o9,c9,ol,out,rfl,a4▸a5,λe=>by simp_all,λl hl=>?_,ω,bD h,HF,bt (by rw[Qe,Qd]) (bH c7),St.on (N:=[has HF]) cW (bF (sub.trans gs V))⟩⟩;rw[ba] at hl;cases hl;exact⟨U.z,a4▸bi⟩
 have av:0<n:=by simp_all
 obtain⟨u,O⟩:∃u,out[out.length-1]? =some u:=⟨out[out.length-1]'ω,agM _⟩;have cA:=U.lt u (agL O);have cx:J.getD u 0=n+1:=by have:=U.fa _ u O;omega
 obtain⟨v,hv⟩:∃v,vs[u]? =some v:=⟨vs[u]'ω,agM _⟩;obtain⟨p,dl⟩:∃p,ps[u]? =some p:=⟨ps[u]'ω,agM _⟩;have al:(ps.map bk)[u]? =some (bk p):=by simp_all
 have d7:=hV.le v (agL hv);intro cz b3;have h:=h.drawn b3;have e2:(out.length:Int)-1=((out.length-1:Nat):Int):=ω
 obtain⟨bl,cF,_⟩:=cO h (qL O)
 have cc:∀{w':aiA},eE o9 (dS out) (hp w')->w'.cell? (bl.add (out.length-1))=some (iI (u:Int)):=λ{w'} r=>by
  rcases r with e|⟨ad,e,hc⟩
  ·have:=congrArg List.length e
   simp_all[dS]
  grind[jI,qL]
 have a0:sub (hp w2) (hp cz):=sub.trans V (aC 4 h.l);obtain⟨dk,b7,_⟩:=(r2.mono a0).at al;refine⟨λw'=>eE o9 (dS out) (hp w')/\sub (hp w2) (hp w'),⟨Ud 0 h.l,a0⟩,_,_,_,λw' q=>r1.cell0 q.2,ξ,?_⟩;rw[e2];refine ax cF ω ⟨(u:Int),λw' q=>cc q.1,ax b7 cA ⟨bk p,λw' q=>(r2.mono q.2).atv b7 al,(DS ((r4 u _ v al hv).mono a0) (eE.mono a0 cg)).mono ?_⟩⟩;rintro _ eg⟨dF,dc,rfl,cC⟩;have h:=cC.eM h;have ef:=iC v
 --one behind
 have b1:∃k∈mb v,J.getD k 0=n:=by
  obtain⟨hw,a8⟩:=hF.p u _ (getD_some ω) ω;rw[cx] at hw a8;cases hw with
  |one _ _=>omega
  |more q _ k hr hw=>
   have cI:=a6 _ _ hr;have c6:bp v k=true:=by grind[Rel]
   refine⟨k,uq.2 c6,?_⟩;have h1:J.getD k 0≠0:=λe=>hF.z k cI e _ hw;obtain⟨g1,g2⟩:=hF.p k _ (getD_some ω) ω;have g3:=g2 _ hw;have g4:=a8 _ (.more _ u k hr g1);omega
 have cu:Nu (mb v)=je v:=rfl
 refine⟨_,_,_,rfl,⟨Ud 1 h.l,sub.trans V (aC 5 h.l)⟩,(aeX (xs:=mb v) (N:=g.N) (af 3 h.l) (.inr ⟨_,rfl,af 4 h.l⟩) ck (af 2 h.l) (cu▸bt (by rw[BV]) (Ud 0 h.l)) (λk hk=>?_) ω b1).mono ?_⟩
 ·have:=uq.1 hk;exact ahm λe=>by grind[uo]
 rintro _ eb⟨⟨i,k,rfl,cp,b6,ej⟩,cd⟩;have h:=h.eq cd;have c6:=uq.1 (agL b6);have bb:Rel vs u k:=by grind[Rel]
 obtain⟨d4,bc,c5⟩:=cO h (LX (SU b6));refine⟨_,rfl,ax bc cp ⟨_,c5,ag h λel ei h=>?_⟩⟩;refine(aS aT (rfl:ai Ty _=.slice _) (rfl:ai Ty _=.slice _) rfl rfl rfl (h.pick 7 [0,2,1,3,4,5,6]) rfl (by simp[aK]) (by grind) ω).mono ?_;rintro _ d6⟨o',c',rfl,h⟩;have e5:dS out++[iI (k:Int)]=dS (out++[k]):=by simp[dS]
 rw[e5] at h;have h:=h.pick 7 [0,3,4,5,6];refine⟨_,_,_,rfl,_,(af 1 h.l).cell0 sZZ,ag h λc8 e9 h=>aR h σ λd8 h=>?_⟩;refine⟨(n:Int),(af 0 h.l).cell0 sZZ,ξ,aR h σ λe0 h=>⟨⟨c8,n-1,out++[k],rfl,σ,by grind,U.snoc O bb (a6 _ _ bb) ω,?_⟩,by grind⟩⟩;have e6:(n:Int)-1=((n-1:Nat):Int):=ω
 rw[e6] at h;exact h.pick 6 [1,0,3,4,5]
end
instance:uj NdT:={ n:=4,rd:=λh x vs=>∃(o:aiz)(c:Nat),vs=[iI x.sym,iI x.prod,iI x.tok,vS o x.kids.length c]/\aX h x.kids o x.kids.length,mono:=λs ⟨o,c,e,r⟩=>⟨o,c,e,r.mono s⟩,len:=λ⟨_,_,h,_⟩=>by grind }
theorem ab9{h:Hp}{nq:List VE}{o:aiz}{n:Nat}(hl:nq.length=n)(r:eE o (C9 nq) h)(hk:∀b∈nq,aX h b.2.2 b.2.1.1 b.2.2.length):aX h (nq.map ym) o n:=by
 refine⟨by simp_all,λi x u=>?_⟩;rw[agS] at u;cases hb:nq[i]? with
 |none=>simp_all
 |some b=>
  rw[hb] at u;cases u
  rcases r with e|⟨J,e,hc⟩
  ·have:=congrArg List.length e
   grind[C_,List.length_nil,List.getElem?_eq_some_iff]
  ·exact⟨J,_,e,cJ (f:=Qv) (n:=4) (λ_=>rfl) nq J hc i b hb,_,_,rfl,hk b (agL hb)⟩
section
variable{w:aiA}{L:List aE}{a a2 o:aiz}{n n2 c c2:Nat}
variable{k:Nat}{nq:List VE}{z:ArP}{tk:List Bool}
theorem ab_(hr:eE a (C9 nq) (hp w))(hl:nq.length=n)(hn:n<=1000000):ρ 131 [vS a n c] w λv w'=>∃o c',v=vS o n c'/\St w' (own 4 o n c' (C9 nq)::all w):=by
 refine jB ?_;cases a with
 |none=>
  have h0:C9 nq=[]:=by
   rcases hr with e|⟨J,e,_⟩
   ·omega
   simp_all
  have:n=0:=by have:=congrArg List.length h0;grind[C_]
  subst this;rw[h0];exact fM rfl ⟨none,0,rfl,aI 4 (St.all w)⟩
 |some J=>
  refine bB rfl (ag (St.all w) λb X O=>?_);have Y:St X (own 4 (some ⟨b,0,none⟩) 0 0 []::all w):=bg (cs:=[]) O rfl rfl (agT _);have hr:=eE.mono O.aP hr
  refine(ji aT (rfl:ai Ty _=.slice _) rfl rfl rfl Y (n:=n) (news:=C9 nq) (gA aT (rfl:ai Ty _=.slice _) (by rw[C_,hl]) (by
    rcases hr with h0|⟨U,e,hc⟩
    ·simp_all
    ·cases e;exact .inr ⟨J,rfl,λj u V=>jI (hc j u V)⟩) (by
   intro u W;obtain⟨t,_,ht⟩:=ahI.1 W;simp[Qv,bX] at ht;rcases ht with rfl|rfl|rfl|rfl<;>rfl)) (by grind) ω).mono ?_
  grind
theorem Qg(hk:aq (hp w) (aM k) [vS z.n nq.length z.cn,vS z.t tk.length z.ct])(hr:eE z.n (C9 nq) (hp w))(hkd:∀b∈nq,aX (hp w) b.2.2 b.2.1.1 b.2.2.length)(hn:nq.length<=1000000)(hkl:∀b∈nq,b.2.2.length<=1000000):ρ 60 [vP (some (aM k))] w λv w'=>∃o c HF,v=vS o nq.length c/\aX HF (nq.map ym) o nq.length/\St w' (has HF::all w):=by
 refine xv (bB rfl ⟨_,_,_,hk.cell0 sZZ,(ab_ hr rfl hn).mono ?_⟩);rintro _ w1⟨o,c,rfl,h⟩;obtain⟨H0,-,h⟩:=St.Nv ((St.flat (M:=[])).2 h);refine⟨_,_,_,rfl,λx u=>∃(j:Nat)(J:List VE)(H:Hp),x=j/\j<=nq.length/\J.map ym=nq.map ym/\(∀i b,J[i]? =some b->i<j->aX H b.2.2 b.2.1.1 b.2.2.length)/\(∀i b,J[i]? =some b->j<=i->aX (hp w) b.2.2 b.2.1.1 b.2.2.length)/\St u (own 4 o nq.length c (C9 J)::has H::all w),λx _=>nq.length-x.toNat,⟨0,nq,H0,rfl,agP _,rfl,λi b _ h=>absurd h (Nat.not_lt_zero _),λi b hb _=>hkd b (agL hb),h.swap⟩,?_⟩;clear h;rintro _ _ w2⟨j,J,H,rfl,hj,V,a5,a0,h⟩;have a6:J.length=nq.length:=by have:=congrArg List.length V;grind
 refine ae (λW=>?_) λW=>?_
 ·have W:j<nq.length:=by simp_all
  obtain⟨b,hb⟩:∃b,J[j]? =some b:=⟨_,agM ω⟩;have a9:=agL hb
  have a8:b.2.2.length<=1000000:=by
   have Z:(J.map ym)[j]? =some (ym b):=by grind
   rw[V,agS] at Z;cases hq:nq[j]? with
   |none=>simp_all
   |some X=>
    rw[hq] at Z;have h4:ym X=ym b:=Option.some.inj Z;have:=hkl X (agL hq);have h5:=congrArg NdT.kids h4
    show b.2.2.length<=_
    have h5:X.2.2=b.2.2:=h5
    simp_all
  obtain⟨ad,ho,rx⟩:=fmR (f:=Qv) (λ_=>rfl) σ h hb;refine aO ho W ⟨_,_,_,rx.cell sZZ (j:=3) rfl,(dL ((a0 j b hb (agT _)).mono (aC 2 h.l)) ω ω).mono ?_⟩;rintro _ w3⟨Y,c4,rfl,Z⟩;have h:=(St.eM Z h.l).swap;refine⟨_,_,_,rfl,aO ho W ?_⟩;have a7:ff j 4+3<(C9 J).length:=by grind[C_,bh]
  rw[add_add];refine fX h ho a7 λw4 h=>?_
  have a4:(C9 J).set (ff j 4+3) (vS Y b.2.2.length c4)=C9 (J.set j (b.1,((Y,c4),b.2.2))):=by
   have hd:Qv (b.1,((Y,c4),b.2.2))=(Qv b).set 3 (vS Y b.2.2.length c4):=rfl;have e1:J=J.take j++b::J.drop (j+1):=by grind[List.getElem?_eq_some_iff,List.drop_eq_getElem_cons,List.take_append_drop]
   have e2:C9 J=C9 (J.take j)++(Qv b++C9 (J.drop (j+1))):=by grind[C9]
   have e3:C9 (J.set j (b.1,((Y,c4),b.2.2)))=C9 (J.take j)++(Qv (b.1,((Y,c4),b.2.2))++C9 (J.drop (j+1))):=by
    rw[aij,ag0 ω];simp[C9]
   grind[C9,ff,C_,bh,List.length_take,List.set_append_right,Nat.add_sub_cancel_left,List.set_append_left,Qv]
  rw[a4] at h;obtain⟨h0,U,h⟩:=St.Nv (St.flat (M:=[_,_]).2 (h.pick 4 [1,2,0,3]));have U:aF [own 1 Y b.2.2.length c4 (iv b.2.2),has H] h0:=U;have hH:sub H h0:=aC 1 U
  refine⟨ξ,⟨j+1,_,h0,σ,W,?_,λi X O hi=>?_,λi X O hi=>?_,h.swap⟩,bR W⟩
  ·rw[ahn,<-V];exact B8 (by rw[agS,hb];rfl)
  ·by_cases e:i=j
   ·subst e;rw[aik ω] at O;cases O;exact bt rfl (dN 0 U)
   ·rw[ait (λh=>e h.symm)] at O;exact(a5 i X O ω).mono hH
  ·rw[ait ω] at O;exact a0 i X O ω
 ·have W:nq.length<=j:=by have:=agO W;omega
  obtain⟨HF,hF,h⟩:=St.Nv (St.flat (M:=[_,_]).2 h);have hF:aF [own 4 o nq.length c (C9 J),has H] HF:=hF;refine⟨o,c,HF,rfl,?_,h⟩;rw[<-V]
  exact ab9 a6 (dN 0 hF) λb hb=>by
   obtain⟨i,hi⟩:=ahb hb;have:=(agN.1 hi).1;exact(a5 i b hi ω).mono (aC 1 hF)
theorem aca(hk:aq (hp w) (aM k) [vS z.n nq.length z.cn,vS z.t tk.length z.ct])(hr:eE z.n (C9 nq) (hp w))(hkd:∀b∈nq,aX (hp w) b.2.2 b.2.1.1 b.2.2.length)(hn:nq.length<=1000000)(hkl:∀b∈nq,b.2.2.length<=1000000):ρ 60 [vP (some (aM k))] w λv w'=>∃o c,v=vS o nq.length c/\aX (hp w') (nq.map ym) o nq.length/\Gr w w':=by
 refine(Qg hk hr hkd hn hkl).mono ?_;rintro _ w'⟨o,c,O,rfl,J,u⟩;exact⟨o,c,rfl,J.mono (aC 0 u.l),aC 1 u.l⟩
end
section
variable{w:aiA}{L:List aE}{k r s a b:Nat}{y:cE}{g:ah}{ss:List SQ}{A:Nat->Int->aD}{G:Nat->Int->Nat}{H:Hp}{x:GA}{oA oG:GN}{xp:PA}{sy:Kl}{As:List (List aD)}{Gs:List (List Int)}{Cs:List cP}{p:dB}{t:Nat}
theorem acb(hs:zV (hp w) k sy g As Gs Cs p)(hb:lq g)(hbT:g.terms.length*24<=140737488355328)(hbN:g.cR.length*16<=140737488355328)(hne:g.prods.length≠0):ρ 55 [vP (some (aM k)),vB true] w λv w'=>∃(r s a b:Nat)(x:GA)(oA oG:GN)(xp:PA)(H:Hp),v=vP (some (aM r))/\Bq H b x oA oG xp g As Gs p/\nR r s a b cE.new (has H::all w) w':=by
 refine FY ((VF hs hb hbT hbN hne).mono ?_);rintro _ U⟨b,x,oA,oG,xp,H,rfl,u,h⟩;refine⟨_,rfl,bB rfl ((af4 h).mono ?_)⟩;rintro _ V⟨s,rfl,h⟩;refine⟨_,rfl,(af7 h).mono ?_⟩;rintro _ J⟨a,rfl,h⟩;refine⟨_,rfl,ag h λr O h=>⟨r,s,a,b,x,oA,oG,xp,H,rfl,u,[],⟨none,0,none,0⟩,⟨none,0,none,0⟩,none,0,rfl,?_⟩⟩;exact(aI 3 h).pick 9 [1,0,6,7,8,2,3,4,5]
theorem af_{ts:List Int}{o:aiz}{n c:Nat}{mo:aiz}{mc:Nat}(hk:aq (hp w) (aM r) (T6 s a b y mo mc))(hT:Bq (hp w) b x oA oG xp g As Gs p)(hr:aX (hp w) ts o n)(ht:∀t∈ts,1<=t/\t<g.T)(hn:n<=1000000):ρ 57 [vP (some (aM r)),vS o n c] w λv w'=>v=vB true/\Gr w w':=by
 refine Cj (ag (St.all w) λV Z h=>(R3 (p:=λ_=>false) (hr.mono h.aP) rfl (λU J u O=>?_) hn).mono ?_)
 ·obtain⟨X,h2⟩:=ht U J;have g1:Gr w u:=h.aP.trans O;refine xz (bB (ahf ω) ⟨some (aM r),(af 0 h.l).cell0 O,some (aM b),hk.cell g1 (j:=2) rfl,(T5 (hT.mono g1)).mono ?_⟩);rintro _ W⟨rfl,rfl⟩;exact⟨_,rfl,by simp_all,Gr.refl _⟩
 ·rintro _ Y⟨rfl,g2⟩;exact⟨_,rfl,σ,h.aP.trans g2⟩
theorem acd{w':aiA}(h:nR r s a b y L w)(g:Gr w w'):nR r s a b y L w':=by
 obtain⟨nq,O,z,U,J,u,h⟩:=h;exact⟨nq,O,z,U,J,u,h.gr g⟩
end
section
variable{a b c d e:aiz}{i j k l m n o p q r:Nat}{A B C:Int}{w:aiA}{R:Value->WP}
theorem sA(h:new w (ψ a i j b k l c m n A d o p) λa b=>χ b (aM a) λa=>rE 8 [a] b λa b=>∃c d f g h i,a=vU [vP c,vG [iI d,iI f,vS g h i]]/\new b (oC [iI 0,iI 0,zS] 31) λa b=>bA b (aM a) [iI d,iI f,vS g h i] λb=>br (Option.isNone c) (cLi b (aM a) λc=>R (vB (c !=0)) b) (rE 9 [vP c] b λa b=>∃d f g h i j k l m n o p s,a=vG [vS d f g,vS h i j,vS k l m,iI n,vS o p s]/\new b (oC [zS,zS,zS,iI 0,zS] 27) λa b=>bA b (aM a) [vS d f g,vS h i j,vS k l m,iI n,vS o p s] λb=>χ b (aM a) λd=>rE 10 [d,vS e q r,iI 10] b λb d=>∃e f g h,b=vU [vS e f g,vB h]/\∃(b:lP [(39,yV)]),br (!h) (b true d) (rEb 11 [vP c] d λd c=>b (!d) c)/\∀(_:ν) d h,b d h->br d (cLs h (Addr.add (aM a) 4) λb c d=>R (vB (decide (0<(c:Int)))) h) (rE 12 [vP c,vS e f g] h λb c=>∃d h i j k l m n o p q r s t u v,b=vU [vG [iI d,iI h,vS i j k,vS l m n,vS o p q,iI r,vS s t u],iI v]/\new c (oC [iI 0,iI 0,zS,zS,zS,iI 0,zS] 41) λb c=>bA c (aM b) [iI d,iI h,vS i j k,vS l m n,vS o p q,iI r,vS s t u] λc=>br (v !=0) (R (vB (v==15)) c) (aA ((f:Int)+1)/\dW1 c λd c=>∃h i j k l m n o p q r s t,(∀b,c b->rA b (aM a) 5 [vS h i j,vS k l m,vS n o p,iI q,vS r s t])/\∃u v w x y z a0 a1 a2 a3 a4 a5 a6,(∀b,c b->rA b (aM a) 5 [vS u v w,vS x y z,vS a0 a1 a2,iI a3,vS a4 a5 a6])/\dLs c (Addr.add (aM a) 1) λa7 a8 a9=>aA ((a8:Int)*((f:Int)+1))/\aA ((a8:Int)*((f:Int)+1)*((f:Int)+1))/\(rEs 15 [vG [vS u v w,vS x y z,vS a0 a1 a2,iI a3,vS a4 a5 a6]] d λv w x u=>c u/\od ((a8:Int)*((f:Int)+1)*((f:Int)+1)) ((a8:Int)*((f:Int)+1)*((f:Int)+1)) 8/\new u (Obj.cells (Array.mk (gD (Int.toNat ((a8:Int)*((f:Int)+1)*((f:Int)+1))) [iI 0])) 3) λd u=>c u/\new u (oC [vS h i j,vS k l m,vS n o p,iI q,vS r s t,vS v w x,vS e f g,vS (some (aM d)) (Int.toNat ((a8:Int)*((f:Int)+1)*((f:Int)+1))) (Int.toNat ((a8:Int)*((f:Int)+1)*((f:Int)+1)))] 50) λd e=>c e/\cLi e (Addr.add (aM a) 3) λc=>rEi 16 [vP (some (aM d)),iI c,iI 0,iI (f:Int)] e λd c=>cLi c (aM b) λa=>br (a==1) (R (vB (d==1)) c) (cLi c (aM b) λa=>br (a==2) (R (vB (d==0)) c) (R (vB false) c)))/\od ((a8:Int)*((f:Int)+1)*((f:Int)+1)) ((a8:Int)*((f:Int)+1)*((f:Int)+1)) 8/\new d (Obj.cells (Array.mk (gD (Int.toNat ((a8:Int)*((f:Int)+1)*((f:Int)+1))) [iI 0])) 3) λd a7=>c a7/\rEs 15 [vG [vS u v w,vS x y z,vS a0 a1 a2,iI a3,vS a4 a5 a6]] a7 λw x y v=>c v/\new v (oC [vS h i j,vS k l m,vS n o p,iI q,vS r s t,vS w x y,vS e f g,vS (some (aM d)) (Int.toNat ((a8:Int)*((f:Int)+1)*((f:Int)+1))) (Int.toNat ((a8:Int)*((f:Int)+1)*((f:Int)+1)))] 50) λd e=>c e/\cLi e (Addr.add (aM a) 3) λc=>rEi 16 [vP (some (aM d)),iI c,iI 0,iI (f:Int)] e λd c=>cLi c (aM b) λa=>br (a==1) (R (vB (d==1)) c) (cLi c (aM b) λa=>br (a==2) (R (vB (d==0)) c) (R (vB false) c)))))):ρ 4 [φ a i j b k l c m n A d o p,vS e q r] w R:=rv Tryz.func4 h ⟨[],[(7,[(39,yV)])],[],[]⟩
theorem yp(h:new w (ψ a i j b k l c m n A d o p) λa b=>cLs b (aM a) λc d f=>aA ((d:Int)-1)/\τ [(8,kT),(10,aN)] λa c=>a none 0 0 0 b/\∀(_:ν) b f g h i,a b f g h i->bQ (h<(q:Int)) (bQ (h<B) (idx e q h 1 λe=>cLi i e λj=>bQ (j<0) (aA (j+1)/\aA (0-(j+1))/\bQ ((d:Int)-1<1) (R (vU [zS,vB false]) i) (nz ((d:Int)-1)/\aA (1+Int.tmod (0-(j+1)) ((d:Int)-1))/\new i (oC [iI (1+Int.tmod (0-(j+1)) ((d:Int)-1))] 3) λd e=>rS (fW1 24 [vS b f g,vS (some (aM d)) 1 1]) e λd e=>∃j k l,d=vS j k l/\aA (h+1)/\nD1 a c j k l (h+1) e b f g h i)) (bQ ((d:Int)-1<1) (R (vU [zS,vB false]) i) (nz ((d:Int)-1)/\aA (1+Int.tmod j ((d:Int)-1))/\new i (oC [iI (1+Int.tmod j ((d:Int)-1))] 3) λd e=>rS (fW1 24 [vS b f g,vS (some (aM d)) 1 1]) e λd e=>∃j k l,d=vS j k l/\aA (h+1)/\nD1 a c j k l (h+1) e b f g h i))) (R (vU [vS b f g,vB true]) i)) (R (vU [vS b f g,vB true]) i)):ρ 10 [φ a i j b k l c m n A d o p,vS e q r,iI B] w R:=rv Tryz.func10 h ⟨[(4,[(8,kT),(10,aN)])],[],[],[]⟩
abbrev eJ:FuncId:=16
theorem gP(h:nn a λb=>cLs w b λc d e=>bQ (A<(d:Int)) (∃(b:lP []),(aA (B+1)/\br (C==B+1) (nn a λa=>cLs w (a.add 6) λc d e=>idx c d B 1 λa=>cLi w a λc=>br (c==A) (R (iI 1) w) (b w)) (b w))/\∀(_:ν) a,b a->R (iI 0) a) (∃(b:lP []),(dW1 w λc d=>br (B==C) (nn a λe=>dLs d (e.add 5) λf g h=>nn a λa=>dLs d a λe h i=>aA (A-(h:Int))/\idx f g (A-(h:Int)) 1 λa=>dLb d a λe=>br (!e) (R (iI 0) c) (b c)) (b c))/\∀(_:ν) c,b c->nn a λb=>cLs c (b.add 6) λd e f=>aA ((e:Int)+1)/\nn a λb=>cLs c b λd f g=>aA (A-(f:Int))/\aA ((A-(f:Int))*((e:Int)+1))/\aA ((A-(f:Int))*((e:Int)+1)+B)/\aA (((A-(f:Int))*((e:Int)+1)+B)*((e:Int)+1))/\aA (((A-(f:Int))*((e:Int)+1)+B)*((e:Int)+1)+C)/\nn a λb=>cLs c (b.add 7) λd g h=>idx d g (((A-(f:Int))*((e:Int)+1)+B)*((e:Int)+1)+C) 1 λb=>cLi c b λd=>bQ (0<d) (nn a λa=>cLs c (a.add 7) λb d g=>idx b d (((A-(f:Int))*((e:Int)+1)+B)*((e:Int)+1)+C) 1 λa=>cLi c a λb=>aA (b-1)/\R (iI (b-1)) c) (τ [(11,aN),(12,aN)] λb d=>b 0 0 c/\∀(_:ν) c g h,b c g h->nn a λi=>cLs h (i.add 4) λj k l=>bQ (g<(k:Int)) (bQ (c<2) (nn a λe=>cLs h (e.add 4) λf i j=>idx f i g 3 λe=>cLi h e λf=>br (f==A) (nn a λe=>cLs h (e.add 4) λf i j=>idx f i g 3 λe=>cLs h (e.add 1) λf i j=>rEi 54 [vP a,vS f i j,iI B,iI C] h λf e=>aA (c+f)/\aA (g+1)/\nB b d (c+f) (g+1) e c g h) (aA (g+1)/\nB b d c (g+1) h c g h)) (bQ (2<c) (nn a λa=>cLs h (a.add 7) λb c d=>aA (2+1)/\idx b c (((A-(f:Int))*((e:Int)+1)+B)*((e:Int)+1)+C) 1 λa=>st1 h a (iI (2+1)) λa=>R (iI 2) a) (nn a λa=>cLs h (a.add 7) λb d g=>aA (c+1)/\idx b d (((A-(f:Int))*((e:Int)+1)+B)*((e:Int)+1)+C) 1 λa=>st1 h a (iI (c+1)) λa=>R (iI c) a))) (bQ (2<c) (nn a λa=>cLs h (a.add 7) λb c d=>aA (2+1)/\idx b c (((A-(f:Int))*((e:Int)+1)+B)*((e:Int)+1)+C) 1 λa=>st1 h a (iI (2+1)) λa=>R (iI 2) a) (nn a λa=>cLs h (a.add 7) λb d g=>aA (c+1)/\idx b d (((A-(f:Int))*((e:Int)+1)+B)*((e:Int)+1)+C) 1 λa=>st1 h a (iI (c+1)) λa=>R (iI c) a))))):ρ 16 [.pointer a,iI A,iI B,iI C] w R:=rv Tryz.func16 h ⟨[(13,[(11,aN),(12,aN)])],[(4,[]),(7,[])],[],[]⟩
theorem qC(h:nn a λc=>cLs w (c.add 6) λd e f=>aA ((e:Int)+1)/\od ((e:Int)+1) ((e:Int)+1) 8/\new w (Obj.cells (Array.mk (gD (Int.toNat ((e:Int)+1)) [iI 0])) 3) λc d=>idx (some (aM c)) (Int.toNat ((e:Int)+1)) A 1 λf=>st1 d f (iI 1) λd=>τ [(9,kT),(10,aN)] λf g=>f (some (aM c)) (Int.toNat ((e:Int)+1)) (Int.toNat ((e:Int)+1)) 0 d/\∀(_:ν) c d e h k,f c d e h k->bQ (h<(i:Int)) (nn a λl=>cLs k (l.add 6) λm n o=>aA ((n:Int)+1)/\od ((n:Int)+1) ((n:Int)+1) 8/\new k (Obj.cells (Array.mk (gD (Int.toNat ((n:Int)+1)) [iI 0])) 3) λl m=>aA (h+1)/\lU b i j (some (h+1)) none none 1 λ(j:aiz)(o p:Nat)=>rEi 122 [vP a,vS j o p] m λo m=>τ [(13,aN)] λj p=>j A m/\∀(_:ν) m q,j m q->bQ (m<=B) (idx c d m 1 λe=>cLi q e λf=>br (f==0) (aA (m+1)/\nA j p (m+1) q m q) (τ [(14,aN)] λe f=>e m q/\∀(_:ν) g k,e g k->aA (B-o)/\bQ (g<=B-o) (∃(j:lP []),(aA ((i:Int)-1)/\br (h==(i:Int)-1) (bQ (g<B) (aA (g+1)/\nA e f (g+1) k g k) (j k)) (j k))/\∀(_:ν) o,j o->dW1 o λj o=>idx (some (aM l)) (Int.toNat ((n:Int)+1)) g 1 λp=>dLi o p λq=>idx c d m 1 λc=>dLi o c λd=>idx b i h 1 λb=>dLi o b λc=>rEi 16 [vP a,iI c,iI m,iI g] j λc b=>o b/\aA (d*c)/\aA (q+d*c)/\idx (some (aM l)) (Int.toNat ((n:Int)+1)) g 1 λa=>st1 b a (iI (q+d*c)) λa=>idx (some (aM l)) (Int.toNat ((n:Int)+1)) g 1 λb=>cLi a b λc=>bQ (2<c) (idx (some (aM l)) (Int.toNat ((n:Int)+1)) g 1 λb=>st1 a b (iI 2) λa=>aA (g+1)/\nA e f (g+1) a g k) (aA (g+1)/\nA e f (g+1) a g k)) (aA (m+1)/\nA j p (m+1) k m q))) (aA (h+1)/\nD1 f g (some (aM l)) (Int.toNat ((n:Int)+1)) (Int.toNat ((n:Int)+1)) (h+1) q c d e h k)) (idx c d B 1 λa=>cLi k a λb=>R (iI b) k)):ρ 54 [.pointer a,vS b i j,iI A,iI B] w R:=rv Tryz.func54 h ⟨[(4,[(9,kT),(10,aN)]),(9,[(13,aN)]),(13,[(14,aN)])],[(16,[])],[],[]⟩
theorem qE(h:τ [(5,aN),(6,aN)] λc d=>c 0 0 w/\∀(_:ν) e f g,c e f g->bQ (f<(i:Int)) (dW1 g λh j=>idx b i f 1 λk=>dLi j k λl=>nn a λk=>dLs j k λm n o=>bQ (l<(n:Int)) (aA (e+1)/\aA (f+1)/\nB c d (e+1) (f+1) h e f g) (nn a λk=>dLs j (k.add 5) λl m n=>idx b i f 1 λb=>dLi j b λi=>nn a λa=>dLs j a λb k n=>aA (i-(k:Int))/\idx l m (i-(k:Int)) 1 λa=>dLb j a λb=>br (!b) (aA (e+1)/\aA (f+1)/\nB c d (e+1) (f+1) h e f g) (aA (f+1)/\nB c d e (f+1) h e f g))) (R (iI e) g)):ρ 122 [.pointer a,vS b i j] w R:=rv Tryz.func122 h ⟨[(3,[(5,aN),(6,aN)])],[],[],[]⟩
end
section
variable{g:ah}{ss:List SQ}{A:Nat->Int->aD}{G:Nat->Int->Nat}{Gs:List (List Int)}{p:dB}{y:cE}
theorem Lz(g:ah)(G:Nat->Int->Nat)(t:Nat)(ms:List aD)(y:cE):(ms.foldl (zK g G t) y).dp=y.dp:=Da t ms y
end
section
variable{w:aiA}{g:ah}{x:GA}
theorem ace{ts:List Int}{o:aiz}{n cp s:Nat}(hg:gR (hp w) g x)(hb:g.T<=1000000)(hr:aX (hp w) ts o n)(hi:∀t∈ts,-9223372036854775808<=t/\t<=9223372036854775807)(hs:s<=1000):
  ρ 10 [.agg ⟨x.cells⟩,vS o n cp,iI (s:Int)] w λv w'=>(v=.tuple #[zS,vB false]/\Gr w w')\/∃(row:List Int)(oo:aiz)(cc:Nat),v=.tuple #[vS oo row.length cc,vB true]/\row.length<=s/\(∀t∈row,1<=t/\t<(g.T:Int))/\St w' (own 1 oo row.length cc (iv row)::all w):=by
 have hT:x.tl=g.T:=hg.t.1.symm;refine yp (ag (St.all w) λZ w1 h=>⟨_,_,_,(show aq (hp w1) (aM Z) x.cells from af 0 h.l).cell0 sZZ,ξ,λoo l cc z u=>∃(row:List Int),z=(row.length:Int)/\l=row.length/\row.length<=n/\row.length<=s/\(∀t∈row,1<=t/\t<(g.T:Int))/\St u (own 1 oo l cc (iv row)::all w),λ_ _ _ z _=>n-z.toNat,⟨[],rfl,rfl,agP _,agP _,σ,aI 1 h.tail⟩,?_⟩);rintro _ oo _ cc _ w2⟨row,rfl,rfl,hj,X,J,h⟩;refine ae (λV=>ae (λY=>?_) λ_=>.inr ⟨row,oo,cc,rfl,X,J,h⟩) λ_=>.inr ⟨row,oo,cc,rfl,X,J,h⟩;have V:row.length<n:=by simp_all
 have Y:row.length<s:=by simp_all
 obtain⟨t,ad,ht,ho,hc⟩:=hr.dQ V;have a0:=hi t (agL ht);have key:∀k:Int,0<=k->1<=(x.tl:Int)-1->0<=k.tmod ((x.tl:Int)-1)/\k.tmod ((x.tl:Int)-1)<(x.tl:Int)-1:=λk V Y=>⟨Int.tmod_nonneg _ V,Int.tmod_lt_of_pos _ ω⟩
 refine ax ho V ⟨_,hc w2 (aC 1 h.l),ae (λW=>have W:t<0:=agQ W;⟨ξ,ξ,?_⟩) λW=>?_⟩
 ·have O:=key (0-(t+1)) ω;generalize Int.tmod (0-(t+1)) ((x.tl:Int)-1)=kk at O ⊢;refine ae (λU=>.inl ⟨rfl,aC 1 h.l⟩) λU=>?_;have U:1<=(x.tl:Int)-1:=by simp_all
  have O:=O U;refine⟨by show(x.tl:Int)-1≠0;omega,ξ,ag h λk6 w3 h=>?_⟩;refine(aS (us:=iv row) (vs:=[iI (1+kk)]) aT (rfl:ai Ty _=.slice _) (rfl:ai Ty _=.slice _) rfl rfl rfl h rfl (by simp[aK]) (by grind) ω).mono ?_;rintro _ w4⟨o',c',rfl,h⟩
  refine⟨_,_,_,rfl,ξ,⟨row++[1+kk],σ,σ,by grind,by grind,λt ht=>?_,?_⟩,bR V⟩
  ·grind
  ·have e:iv (row++[1+kk])=iv row++[iI (1+kk)]:=by simp[iv]
   rw[e];exact h.pick 2 [0]
 ·have W:¬t<0:=agO W;have O:=key t ω;generalize Int.tmod t ((x.tl:Int)-1)=kk at O ⊢;refine ae (λU=>.inl ⟨rfl,aC 1 h.l⟩) λU=>?_;have U:1<=(x.tl:Int)-1:=by simp_all
  have O:=O U;refine⟨by show(x.tl:Int)-1≠0;omega,ξ,ag h λk6 w3 h=>?_⟩;refine(aS (us:=iv row) (vs:=[iI (1+kk)]) aT (rfl:ai Ty _=.slice _) (rfl:ai Ty _=.slice _) rfl rfl rfl h rfl (by simp[aK]) (by grind) ω).mono ?_;rintro _ w4⟨o',c',rfl,h⟩
  refine⟨_,_,_,rfl,ξ,⟨row++[1+kk],σ,σ,by grind,by grind,λt ht=>?_,?_⟩,bR V⟩
  ·grind
  ·have e:iv (row++[1+kk])=iv row++[iI (1+kk)]:=by simp[iv]
   rw[e];exact h.pick 2 [0]
end
def Bu(g:ah)(A':Int->Int->aD)(G':Int->Int->Int)(G:Nat->Int->Nat):Nat->List Nat->cE->Option (Bool×Nat×cE)
 |i,[],y=>some (true,i,y)
 |i,t::ts,y=>match jH g A' G' G t y with
  |none=>none
  |some (false,y')=>some (false,i,y')
  |some (true,y')=>Bu g A' G' G (i+1) ts y'
abbrev nZ(ns:List Nat):List Int:=ns.map λ(j:Nat)=>(j:Int)
def Qh(y:cE):Prop:=y.ids=[]\/∃l,y.nd.length≠0/\y.ids=(y.nd.length-1)::l
section
variable{g:ah}{ss:List SQ}{A:Nat->Int->aD}{G:Nat->Int->Nat}{Gs:List (List Int)}{p:dB}{y:cE}
theorem acf(t:Nat)(a:aD)(h:Qh y):Qh (zK g G t y a):=by
 unfold zK
 split
 ·exact .inr ⟨y.ids,by simp[Bn],by simp[Bn]⟩
 split
 ·split
  ·exact .inr ⟨_,by simp[CX],by simp[CX];rfl⟩
  ·exact h
 ·exact h
theorem E1(t:Nat):∀(ms:List aD){y:cE},Qh y->Qh (ms.foldl (zK g G t) y)
 |[],_,h=>h
 |a::ms,_,h=>E1 t ms (acf t a h)
theorem Se{A':Int->Int->aD}{G':Int->Int->Int}{t:Nat}{f:Bool}{y':cE}(hF:jH g A' G' G t y=some (f,y'))(h:Qh y):Qh y':=by
 unfold jH at hF
 split at hF
 ·cases hF
 ·cases hF;exact h
 ·cases hF;unfold EO
  split
  ·exact E1 t _ h
  ·exact E1 t _ h
end
section
section
variable{w:aiA}{L:List aE}{a:aiz}{l c:Nat}
theorem aga{vs:List Value}(h:St w (own 3 a l c vs::L)):ρ 117 [vS a l c] w λv w'=>∃o k c',v=vS o k c'/\w'=w:=
 j4 (bS (bD h) ⟨_,_,_,rfl,rfl⟩)
end
variable{w:aiA}{L:List aE}{g:ah}{x:GA}
theorem Zv(hg:gR (hp w) g x)(hb:lq g)(ht:dP (hp w)):ρ 43 [.agg ⟨x.cells⟩] w (agD g w):=by
 refine Bp (gi hg λk1 w1 gw a7 B=>ag (St.all w1) λk2 w2 h=>?_);have b2:Gr w1 w2:=h.aP;refine⟨_,_,_,_,_,_,_,_,_,_,_,_,_,B.row b2,(Y4 (a7.mono b2) hb (eE.mono (gw.trans b2) ht)).mono ?_⟩;rintro _ w3⟨ss,ask,int,f,nn,o5,c5,ds,rfl,hR,hn,eg,Z⟩;have h:=St.Oo Z h.l;clear Z
 refine⟨_,_,_,_,rfl,ae (λJ=>?_) λJ=>?_⟩
 ·have J:f≠0:=by simp_all
  have hz:=hR.nil J;subst hz;refine aL (h.pick 3 [2]) rfl (by simp[aK]) λw4 h=>⟨_,_,_,_,_,_,_,_,_,(af 0 h.l).at sZZ rfl,[],ask,int,f,nn,none,0,none,0,none,0,[],[],[],rfl,hR,hn,rfl,rfl,rfl,?_⟩;exact aI 1 ((St.flat (M:=[])).2 (aI 1 ((St.flat (M:=[])).2 (aI 3 ((St.flat (M:=[])).2 (St.here (sub.trans gw (aC 1 h.l))))))))
 have J:f=0:=by simp_all
 subst J;obtain⟨hc,hA⟩:=hR.Qs rfl;have fS:=hn rfl;obtain⟨sT,sN,sP,f6,_,_⟩:=hc.cK;have ei:=hA.dn.2.1;have tl:=a7.t.1;have nl:=a7.n.1;have eT:g.T=g.terms.length:=rfl;have eN:g.N=g.cR.length:=rfl
 --the cells,as they are read
 have ch:∀(i:Nat) d,ds[i]? =some d->∃ad,o5=some ad/\aq (hp w3) (ad.add (ff i 3)) (ckE d):=λi d hd=>aeA h hd;have bP:∀(i:Nat) d,ds[i]? =some d->d.2.2.length<=d.2.1.2/\aX (hp w3) d.2.2 d.2.1.1 d.2.2.length:=λi d hd=>af0 (h.pick 2 [1,0]) hd
 have eK:ds.length<=16640:=by
  have e:=congrArg List.length eg
  grind[TX,List.length_map]
 have h:St w3 [az k2 [zS,zS,zS],has (hp w1)]:=h.pick 3 [2];obtain⟨H3,g8⟩:∃H3,H3=hp w3:=⟨_,rfl⟩;have b5:Gr w1 w3:=aC 1 h.l;refine⟨_,_,_,_,_,_,_,_,_,_,_,_,_,B.row b5,(xU (a7.mono b5) hb).mono ?_⟩;rintro _ w5⟨oA,cA,O,cu,bc,f2,rfl,cd,h5⟩;have d5:Gr w3 w5:=aC 3 h5.l;have ha:O_ (hp w5) O oA:=GF h5.l;clear h5;have a5:=hR.one cd;have cW:cD ss=cD O:=a5.2.1;obtain rfl:(0:Int)=f2:=a5.2.2.2.2.1;obtain⟨_,b3⟩:=cd.Qs rfl;have c6:O.length=ss.length:=a5.2.2.2.2.2.symm;refine⟨_,_,_,_,_,_,rfl,ag (St.all w5) λcN w6 h6=>aL h6 rfl (by simp[aK]) λw7 h7=>?_⟩;have e4:aq (hp w7) (aM cN) [vS oA O.length cA,iI cu,iI bc]:=af 0 h7.l;have be:Gr w5 w7:=h7.aP;clear h6 h7;have ha:=ha.mono be;have aa:=d5.trans be;have a4:=b5.trans aa;have ck:=b3.J9 hc;have h:=h.gr aa
 --all that stands still,in one frame
 have hX:St w7 [az k2 [zS,zS,zS],has (hp w1)]:=h;refine ag (St.all w7) λa0 w8 h=>⟨_,_,_,e4.cell0 (aC 1 h.l),?_⟩;rw[c6]
 refine⟨λz u=>∃(q:Nat)(AL:List (Lq aD))(U:List (Lq Int))(oa:aiz)(Y:Nat)(og:aiz)(cg:Nat),z=q/\q<=ss.length/\AL.length=q/\U.length=q/\AL.map (·.2)=List.replicate q (List.replicate g.T ⟨0,0⟩)/\U.map (·.2)=(List.range q).map (Kk g O)/\St u (az a0 [vS oa q Y,vS og q cg,zS]::own 1 oa q Y (AL.map bX)::aV (AL.map (bI 2 du))::own 1 og q cg (U.map bX)::aV (U.map (bI 1 iv))::all w7),λz _=>ss.length-z.toNat,⟨0,[],[],none,0,none,0,rfl,agP _,rfl,rfl,rfl,rfl,?_⟩,?_⟩
 ·exact(aI 1 ((St.flat (M:=[])).2 (aI 1 ((St.flat (M:=[])).2 h)))).pick 5 [4,0,1,2,3]
 clear h;rintro _ _ w9⟨q,AL,U,oa,Y,og,cg,rfl,hq,a8,bz,e5,cI,h⟩;have d9:Gr w7 w9:=aC 5 h.l
 refine ae (λJ=>?_) λJ=>?_
 ·have J:q<ss.length:=by grind
  obtain⟨r,hr⟩:∃r,O[q]? =some r:=⟨_,agM ω⟩;obtain⟨ad,eA,rs,_,re⟩:=ha q r hr;have em:=(ck r (agL hr)).2;have f3:=Ep b3 hr;refine aO eA J ⟨_,_,_,_,_,_,rs.at d9 rfl,ag h λb4 ep h=>aL h rfl (by simp[aK]) λfL h=>⟨_,_,_,B.c1 (sub.trans a4 (aC 6 h.l)),⟨ω,rfl,ω⟩,?_⟩⟩;rw[agZ,cZ,<-nl,<-eN];refine ag h λV d7 h=>?_
  have h:St d7 (az V (iv (List.replicate 0 (-1)++List.replicate (g.N-0) 0))::az b4 (U5 r)::az a0 [vS oa q Y,vS og q cg,zS]::own 1 oa q Y (AL.map bX)::aV (AL.map (bI 2 du))::own 1 og q cg (U.map bX)::aV (U.map (bI 1 iv))::all w7):=by
   have e:List.replicate g.N (iI 0)=iv (List.replicate 0 (-1)++List.replicate (g.N-0) 0):=by simp[iv]
   rw[<-e];exact h
  refine⟨λz u=>∃j:Nat,z=j/\j<=g.N/\St u (az V (iv (List.replicate j (-1)++List.replicate (g.N-j) 0))::az b4 (U5 r)::az a0 [vS oa q Y,vS og q cg,zS]::own 1 oa q Y (AL.map bX)::aV (AL.map (bI 2 du))::own 1 og q cg (U.map bX)::aV (U.map (bI 1 iv))::all w7),λz _=>g.N-z.toNat,⟨0,rfl,agP _,h⟩,?_⟩;clear h;rintro _ _ eo⟨j,rfl,hj,h⟩
  refine ae (λW=>?_) λW=>?_
  ·have W:j<g.N:=by grind
   refine aO rfl W ?_;rw[bh,ahH,ak];refine aR h (by grind[iv]) λfg h=>⟨ξ,⟨j+1,σ,W,?_⟩,bR W⟩
   have e:(iv (List.replicate j (-1)++List.replicate (g.N-j) 0)).set j (iI (-1))=iv (List.replicate (j+1) (-1)++List.replicate (g.N-(j+1)) 0):=by
    rw[Gx];congr 1;rw[show g.N-j=(g.N-(j+1))+1 from ω,ah1,ahW _ _ σ,ahX,ah2,List.set_cons_zero,List.replicate_succ',ag3];rfl
   grind
  have W:j=g.N:=by grind
  rw[W,ah2,List.replicate_zero,ahe,<-Zg] at h;refine⟨_,_,_,(af 1 h.l).cell sZZ (j:=1) rfl,λz u=>∃k:Nat,z=k/\k<=r.2.2.length/\St u (az V (iv (Jc g (r.2.2.take k)))::az b4 (U5 r)::az a0 [vS oa q Y,vS og q cg,zS]::own 1 oa q Y (AL.map bX)::aV (AL.map (bI 2 du))::own 1 og q cg (U.map bX)::aV (U.map (bI 1 iv))::all w7),λz _=>r.2.2.length-z.toNat,⟨0,rfl,agP _,h⟩,?_⟩;clear h;rintro _ _ f8⟨k,rfl,hk,h⟩
  refine ae (λZ=>?_) λZ=>?_
  ·have Z:k<r.2.2.length:=by grind
   obtain⟨e,g0,he,cC,ef⟩:=pM re Z;have c8:r.2.2.take (k+1)=r.2.2.take k++[e]:=by grind[List.take_add_one]
   have ci:∀y∈r.2.2.take k,y.sym≠e.sym:=λy hy=>by
    obtain⟨i,hi⟩:=ahb hy
    grind[List.getElem?_eq_some_iff,List.pairwise_iff_getElem]
   obtain⟨e1,e2,_⟩:=dm hc b3 hr he
   refine aO cC Z ⟨_,_,ef.at (aC 7 h.l) rfl,ag h λeu f9 h=>aL h rfl (by simp[aK]) λg5 h=>⟨_,(af 0 h.l).cell0 sZZ,_,_,_,B.c0 (sub.trans a4 (aC 8 h.l)),ae (λh4=>?_) λh4=>?_⟩⟩
   ·have h4:(g.T:Int)<=e.sym:=by grind
    refine⟨_,(af 0 h.l).cell0 sZZ,_,_,_,B.c0 (sub.trans a4 (aC 8 h.l)),ξ,_,(af 0 h.l).cell sZZ (j:=1) rfl,aM V,rfl,ω,ω,?_⟩;rw[bh,ahH,ak];refine aR (h.pick 2 [1]) (by grind[cf,Zf]) λeY h=>⟨ξ,⟨k+1,σ,Z,?_⟩,bR Z⟩;rw[c8,Lv ci e2,ag0 h4,<-Gx,eT,tl];exact h
   ·have h4:¬(g.T:Int)<=e.sym:=by grind
    refine⟨ξ,⟨k+1,σ,Z,?_⟩,bR Z⟩;rw[c8,Lv ci e2,agW h4];exact h.tail
  have Z:k=r.2.2.length:=by grind
  rw[Z,ag9,Zh hr] at h;have c9:(Kk g O q).length=g.N:=by simp[Kk]
  intro g9 hd;have h:=h.drawn hd;have e0:x.tl=g.T:=ω
  refine⟨λu=>Gr w7 u/\u.cell? (aM a0)=some (vS oa q Y),⟨aC 7 h.l,(af 2 h.l).cell0 sZZ⟩,_,_,_,λu s=>s.2,_,_,_,λu s=>B.c0 (sub.trans a4 s.1),⟨ω,rfl,ω⟩,?_⟩;rw[agZ,TY,e0];refine ag h λa6 el h=>⟨⟨aC 8 h.l,(af 3 h.l).cell0 sZZ⟩,ag h λeD fc h=>⟨⟨aC 9 h.l,(af 4 h.l).cell0 sZZ⟩,?_⟩⟩;have b1:(AL.map bX).length=q:=by grind
  refine(aS (us:=AL.map bX) aT (rfl:ai Ty _=.slice _) (rfl:ai Ty _=.slice _) rfl rfl rfl (h.pick 6 [0,5,1,2,3,4]) rfl (by simp[aK]) (by grind) ω).mono ?_;rintro _ ey⟨dc,d6,rfl,h⟩;refine⟨_,_,_,rfl,⟨aC 9 h.l,(af 5 h.l).cell0 sZZ⟩,aR (i:=0) (h.pick 6 [5,0,2,3]) σ λeX h=>?_⟩;refine⟨_,_,_,(af 0 h.l).cell sZZ (j:=1) rfl,ag h λgc f5 h=>?_⟩;refine(aS (us:=U.map bX) aT (rfl:ai Ty _=.slice _) (rfl:ai Ty _=.slice _) rfl rfl rfl (h.pick 7 [0,6,1,2,3,4,5]) rfl (by simp[aK]) (by grind) ω).mono ?_;rintro _ eI⟨d0,eb,rfl,h⟩;refine⟨_,_,_,rfl,?_⟩;rw[ak];refine aR (i:=1) (h.pick 3 [2,0]) σ λfs h=>?_;refine⟨ξ,⟨q+1,AL++[((some (aM a6),g.T),List.replicate g.T ⟨0,0⟩)],U++[((some (aM V),g.N),Kk g O q)],dc,d6,d0,eb,σ,J,by grind,by grind,by grind[List.replicate_succ'],by grind[List.range_succ],?_⟩,bR J⟩;have eA:(AL++[((some (aM a6),g.T),List.replicate g.T (⟨0,0⟩:aD))]).map bX=AL.map bX++[vS (some (aM a6)) g.T g.T]:=by simp[bX]
  have e7:(AL++[((some (aM a6),g.T),List.replicate g.T (⟨0,0⟩:aD))]).map (bI 2 du)=AL.map (bI 2 du)++[own 2 (some (aM a6)) g.T g.T (du (List.replicate g.T ⟨0,0⟩))]:=by simp[bI]
  have eG:(U++[((some (aM V),g.N),Kk g O q)]).map bX=U.map bX++[vS (some (aM V)) g.N g.N]:=by grind[bX]
  have ea:(U++[((some (aM V),g.N),Kk g O q)]).map (bI 1 iv)=U.map (bI 1 iv)++[own 1 (some (aM V)) g.N g.N (iv (Kk g O q))]:=by grind[bI]
  rw[eA,e7,eG,ea];have J:=h.pick 7 [3,5,4,6,0,2,1];have W:=St.snoc (bg (sz:=2) (l:=g.T) (c:=g.T) (cs:=[]) (by rw[ahe];exact J) (by rw[oN,ahX]) (by rw[ahe,oN,ahX]) (agT _));have Z:=W.pick 3 [1,2,0];have h4:=St.snoc (bg (sz:=1) (l:=g.N) (c:=g.N) (cs:=[]) (by rw[ahe];exact Z) (by rw[cf,c9,ahH]) (by rw[ahe,cf,c9,ahH]) (agT _));exact h4.pick 5 [2,3,1,4,0]
 have J:q=ss.length:=by grind
 subst J;obtain⟨C,hC⟩:∃C,C=nu g nn ss 1:=⟨_,rfl⟩;have fw:C.length=ds.length:=by grind
 have ba:∀{z:cP},z∈C->∃q t:Nat,q<ss.length/\t<g.T/\1<=(ee g nn ss q t).length/\z=⟨(q:Int),(t:Int),ee g nn ss q t⟩:=λ{z} hz=>by
  rw[hC] at hz;exact pe.1 hz
 have ej:∀{i j:Nat}{a b:cP},C[i]? =some a->C[j]? =some b->a.st=b.st->a.tm=b.tm->i=j:=λha hb=>by
  rw[hC] at ha hb;exact YB ha hb
 have g6:∀l:List cP,(l.flatMap (Vu g)).length<=l.length:=λl=>by
  induction l with
  |nil=>simp
  |cons c l ih=>
   grind[List.length_append,List.length_cons,Vu]
 have h0:St w9 (az a0 [vS oa ss.length Y,vS og ss.length cg,zS]::own 1 oa ss.length Y (AL.map bX)::aV (AL.map (bI 2 du))::own 1 og ss.length cg (U.map bX)::aV (U.map (bI 1 iv))::own 3 none 0 0 (Fv [])::aV (Dl [])::all w7):=
  (aI 3 ((St.flat (M:=[])).2 h)).pick 7 [2,3,4,5,6,0,1]
 refine⟨λz u=>∃(i:Nat)(AL:List (Lq aD))(X:List Fu)(oc:aiz)(cc:Nat),z=i/\i<=ds.length/\Nl g ss.length (C.take i) (AL.map (·.2))/\X.map oU=(C.take i).flatMap (Vu g)/\St u (az a0 [vS oa ss.length Y,vS og ss.length cg,vS oc X.length cc]::own 1 oa ss.length Y (AL.map bX)::aV (AL.map (bI 2 du))::own 1 og ss.length cg (U.map bX)::aV (U.map (bI 1 iv))::own 3 oc X.length cc (Fv X)::aV (Dl X)::all w7),λz _=>ds.length-z.toNat,⟨0,AL,[],none,0,rfl,agP _,by grind[Nl.zero],rfl,h0⟩,?_⟩;clear h h0 e5 a8;rintro _ _ bT⟨i,AL,X,oc,cc,rfl,hi,hD,b6,h⟩;have bl:Gr w7 bT:=aC 7 h.l;have a8:AL.length=ss.length:=by have:=hD.1;grind
 refine ae (λJ=>?_) λJ=>?_
 rotate_left
 ·have J:i=ds.length:=by grind
  subst J;rw[ag4 ω,hC] at hD b6;have h8:=St.on (N:=[_,_,_,_,_,_,_]) h hX.l;refine⟨_,_,_,_,_,_,_,_,_,(af 0 h.l).at sZZ rfl,?_⟩;have h9:St bT (az k2 [zS,zS,zS]::own 1 oa ss.length Y (AL.map bX)::aV (AL.map (bI 2 du))::own 1 og ss.length cg (U.map bX)::aV (U.map (bI 1 iv))::own 3 oc X.length cc (Fv X)::aV (Dl X)::[has (hp w1)]):=h8.pick 8 [7,1,2,3,4,5,6];refine aL h9 rfl (by simp[aK]) λeP h=>?_;refine⟨_,_,_,_,_,_,_,_,_,(af 0 h.l).at sZZ rfl,?_⟩;refine⟨ss,ask,int,0,nn,oa,Y,og,cg,oc,cc,AL,U,X,by grind,hR,hn,hD.all,by rw[cI,abV cW];exact congrArg (λn=>(List.range n).map (Kk g O)) c6.symm,b6,?_⟩;unfold acY;rw[a8,bz];exact St.on (N:=[_,_,_,_,_,_]) h.tail (bF gw)
 have J:i<ds.length:=by grind
 obtain⟨d,hd⟩:∃d,ds[i]? =some d:=⟨_,agM J⟩;have cx:C[i]? =some (oU d):=by grind
 obtain⟨q,t,hq,ht1,_,ez⟩:=ba (agL cx);have e1:d.1.1=(q:Int):=congrArg cP.st ez;have e2:d.1.2=(t:Int):=congrArg cP.tm ez;have e3:d.2.2=ee g nn ss q t:=congrArg cP.acts ez;have cz:C.take (i+1)=C.take i++[oU d]:=by grind[List.take_add_one]
 have ek:X.length<=16640:=by grind
 have bb:∀c∈C.take i,¬(c.st=(q:Int)/\c.tm=(t:Int)):=λc gg hh=>by grind[List.getElem?_of_mem]
 obtain⟨b,d8⟩:∃b,AL[q]? =some b:=⟨_,agM ω⟩;have b1:(AL.map (·.2))[q]? =some b.2:=by grind
 have fd:b.2.length=g.T:=(hD.2 q b.2 b1).1;have a9:=hD.put (c:=oU d) b1 e1 e2 bb;rw[<-cz] at a9;have cT:(C.take (i+1)).flatMap (Vu g)=(C.take i).flatMap (Vu g)++Vu g (oU d):=by grind
 obtain⟨d4,dl⟩:=bP i d hd;obtain⟨ad,e9,rb⟩:=ch i d hd;have rb:aq (hp w3) (ad.add (ff i 3)) [iI (q:Int),iI (t:Int),vS d.2.1.1 d.2.2.length d.2.1.2]:=by rw[<-e1,<-e2];exact rb
 have cp:P0 g.prods.length d.2.2:=by grind[Za]
 refine aO e9 J ⟨_,_,_,_,_,rb.at (aa.trans bl) rfl,ag h λeL g7 h=>aL h rfl (by simp[aK]) λeU h=>⟨_,_,_,_,_,_,_,_,_,_,_,_,_,B.row (sub.trans a4 (aC 8 h.l)),_,_,_,_,_,(af 0 h.l).at sZZ rfl,(Vy hc (a7.mono (sub.trans a4 (aC 8 h.l))) (dl.mono (sub.trans aa (aC 8 h.l))) d4 cp ht1).mono ?_⟩⟩;obtain⟨l,hl⟩:∃l,l=fU g t d.2.2:=⟨_,rfl⟩;rw[<-hl];have c7:(AL.set q (b.1,b.2.set t (C3 l))).map (·.2)=(AL.map (·.2)).set q (b.2.set t (C3 (fU g t (oU d).acts))):=by grind[List.map_set]
 rw[<-c7] at a9;rintro _ f7⟨al,am,rfl,bi⟩;have h:=St.eM bi h.l;clear bi;refine⟨_,_,_,_,_,rfl,ag h λfC ge h=>aL h rfl (by simp[aK]) λf4 h=>?_⟩;intro cF b7;have h:=h.drawn b7;obtain⟨eS,dk,e8⟩:=cO (h.pick 5 [4]) (j:=q) (v:=bX b) (by grind);refine⟨λu=>cF=u,rfl,_,_,_,by rintro _ rfl;exact(af 3 h.l).cell0 sZZ,_,by rintro _ rfl;exact(af 2 h.l).cell0 sZZ,ax dk hq ⟨_,_,_,by rintro _ rfl;exact e8,_,by rintro _ rfl;exact(af 2 h.l).cell sZZ (j:=1) rfl,_,_,by rintro _ rfl;exact(af 0 h.l).at sZZ rfl,?_⟩⟩;refine af3 (y:=C3 l) d8 ω (h.pick 6 [4,5,1,2,3]) λg4 h=>?_
 refine ae (λW=>?_) λW=>?_
 ·have W:2<=l.1.length:=by
   have:(0:Int)<((qf l.1).length:Int):=agQ W
   grind[qf]
  have e6:qf l.1=l.1:=by unfold qf;grind
  rw[e6] at h ⊢
  have av:Vu g (oU d)=[⟨(q:Int),(t:Int),l.1⟩]:=by
   unfold Vu;rw[ez]
   show(if 2<=(fU g (t:Int).toNat (ee g nn ss q t)).1.length then _ else _)=_
   rw[agZ,<-e3,<-hl,ag0 W]
  refine⟨_,_,_,(af 4 h.l).cell sZZ (j:=2) rfl,_,(af 3 h.l).cell0 sZZ,_,(af 3 h.l).cell sZZ (j:=1) rfl,ag h λet er h=>?_⟩;refine(aS (us:=Fv X) aT (rfl:ai Ty _=.slice _) (rfl:ai Ty _=.slice _) rfl rfl rfl (h.pick 9 [0,8,1,2,3,5,6,7]) rfl (by simp[aK]) (by grind) ω).mono ?_;rintro _ eB⟨dF,d3,rfl,h⟩;refine⟨_,_,_,rfl,?_⟩;rw[ak];refine aR (i:=2) (h.pick 8 [5,0,2,3,4,6,7]) σ λfz h=>?_;refine⟨ξ,⟨i+1,_,X++[(((q:Int),(t:Int)),((al,am),l.1))],dF,d3,σ,J,a9,by rw[ag7,b6,cT,av];rfl,?_⟩,bR J⟩;have eC:Dl (X++[(((q:Int),(t:Int)),((al,am),l.1))])=Dl X++[own 2 al l.1.length am (du l.1)]:=by unfold Dl;rw[ag7];rfl
  rw[eC,Ng,show(X++[(((q:Int),(t:Int)),((al,am),l.1))]).length=X.length+1 from σ];have W:=St.snoc (h.pick 8 [4,7,0,2,3,5,6,1]);exact W.pick 7 [1,2,3,4,5,6,0]
 ·have W:¬2<=l.1.length:=by
   intro hh;have:¬(0:Int)<((qf l.1).length:Int):=agO W;unfold qf at this
   grind
  have av:Vu g (oU d)=[]:=by
   unfold Vu;rw[ez]
   show(if 2<=(fU g (t:Int).toNat (ee g nn ss q t)).1.length then _ else _)=_
   rw[agZ,<-e3,<-hl,agW W]
  refine⟨ξ,⟨i+1,_,X,oc,cc,σ,J,a9,by grind,?_⟩,bR J⟩;exact h.pick 9 [4,0,1,5,6,7,8]
end
def agb(g:ah)(e:Int)(nn:List Bool):Prop:=(¬bM g/\e=1/\nn=[])\/(bM g/\e=0/\YL g nn)
theorem Ue{w:aiA}{L:List aE}{k n:Nat}{nn:List Bool}(h:St w (az k (bv nn)::L))(hl:nn.length=n):St w (own 1 (some ⟨k,0,none⟩) n n (bv nn)::L):=
 bg (cs:=[]) (vs:=bv nn) (by simp_all) (by rw[pz,hl,ahH]) (by rw[ahe,pz,hl,ahH]) (agT _)
section
variable{w:aiA}{L:List aE}{g:ah}{x:GA}{a a2:aiz}{l l2 c c2:Nat}{bs:List Bool}
theorem VJ(hg:gR (hp w) g x)(hb:lq g)(ht:dP (hp w)):ρ 83 [.agg ⟨x.cells⟩] w λv w'=>∃(o:aiz)(n c:Nat)(e:Int)(nn:List Bool),v=.tuple #[vS o n c,iI e]/\nn.length=n/\agb g e nn/\St w' (own 1 o n c (bv nn)::all w):=by
 refine El ?_;refine gi hg λk1 w1 gw hg B=>?_;refine⟨_,_,_,_,_,_,_,_,_,_,_,_,_,B.row sZZ,(Mb (x:=x) hg hb).mono ?_⟩;rintro _ w2⟨⟨r1,rfl,e1⟩,g2⟩
 refine⟨_,rfl,ae (λh1=>?_) λh1=>?_⟩
 ·refine⟨_,_,_,_,_,_,_,_,_,_,_,_,_,B.row g2,(td (x:=x) (hg.mono g2) hb).mono ?_⟩;rintro _ a0⟨⟨r2,rfl,e2⟩,a4⟩;have s2:Gr w1 a0:=g2.trans a4
  refine⟨_,rfl,ae (λh2=>?_) λh2=>?_⟩
  ·have hn:¬bM g:=by
    rintro(h|h)
    ·simp_all
    simp_all
   exact⟨_,_,_,_,[],rfl,rfl,.inl ⟨hn,rfl,rfl⟩,aI 1 (bF (gw.trans s2))⟩
  have W:bM g:=.inr (e2.1 (by simp_all));obtain⟨iG,bT,bN,pN,pT,bP⟩:=Gc W;intro J hd;have g3:Gr a0 J:=Gr.drawn hd;have O:Gr w1 J:=s2.trans g3;have U:Gr w J:=gw.trans O;refine⟨λw=>Gr J w,Gr.refl _,_,_,_,_,_,_,_,_,_,_,_,_,_,λw s=>B.row (O.trans s),_,_,_,_,_,_,_,_,_,_,_,_,_,λw s=>B.row (O.trans s),(u9 (x:=x) (hg.mono O) hb W).mono ?_⟩;rintro _ w4⟨pb,bs,rfl,Y,h4⟩;have Z:Gr J w4:=h4.aP;refine⟨_,_,rfl,Z,(IK (x:=x) (hg.mono (O.trans Z)) hb W h4.eV Y).mono ?_⟩;rintro _ w5⟨a5,cs,rfl,u,h5⟩;have X:Gr J w5:=Z.trans h5.aP;refine⟨_,_,rfl,X,(YK h5.eV u.1 bN bT (eE.mono (U.trans X) ht)).mono ?_⟩;rintro _ w6⟨k,rfl,V⟩;have g6:Gr J w6:=X.trans V.aP;have V:St w6 (az k (bv (cs.drop g.T))::all w):=V.eM (bF (U.trans X));exact⟨_,_,_,rfl,g6,_,_,_,_,_,rfl,u.cR.1,.inr ⟨W,rfl,u.cR⟩,Ue V u.cR.1⟩
 ·have W:bM g:=.inl (e1.1 (by simp_all));obtain⟨iG,bT,bN,pN,pT,bP⟩:=Gc W;have s2:Gr w1 w2:=g2;intro J hd;have g3:Gr w2 J:=Gr.drawn hd;have O:Gr w1 J:=s2.trans g3;have U:Gr w J:=gw.trans O;refine⟨λw=>Gr J w,Gr.refl _,_,_,_,_,_,_,_,_,_,_,_,_,_,λw s=>B.row (O.trans s),_,_,_,_,_,_,_,_,_,_,_,_,_,λw s=>B.row (O.trans s),(u9 (x:=x) (hg.mono O) hb W).mono ?_⟩;rintro _ w4⟨pb,bs,rfl,Y,h4⟩;have Z:Gr J w4:=h4.aP;refine⟨_,_,rfl,Z,(IK (x:=x) (hg.mono (O.trans Z)) hb W h4.eV Y).mono ?_⟩;rintro _ w5⟨a5,cs,rfl,u,h5⟩;have X:Gr J w5:=Z.trans h5.aP;refine⟨_,_,rfl,X,(YK h5.eV u.1 bN bT (eE.mono (U.trans X) ht)).mono ?_⟩;rintro _ w6⟨k,rfl,V⟩;have g6:Gr J w6:=X.trans V.aP;have V:St w6 (az k (bv (cs.drop g.T))::all w):=V.eM (bF (U.trans X));exact⟨_,_,_,rfl,g6,_,_,_,_,_,rfl,u.cR.1,.inr ⟨W,rfl,u.cR⟩,Ue V u.cR.1⟩
end
section
theorem Zw{g:ah}{pds uns:List Bool}{p:aJ}:vr g pds uns p=true↔bp uns (p.left.toNat-g.T)=true/\abt g pds p.right:=by simp[vr,abt]
theorem Dj{α β:Type}{f:α->β}{l:List α}(hf:∀a∈l,∀b∈l,f a=f b->a=b)(h:l.Nodup):(l.map f).Nodup:=by
 unfold List.Nodup at*;rw[ahD];exact h.imp_of_mem λ{a b} ha hb u e=>u (hf a ha b hb e)
theorem Uf{uns:List Bool}{n k:Nat}(hk:k<n)(hu:bp uns k=true):∃i,(dx n (bp uns))[i]? =some k/\i=dp k (bp uns)/\i<dp n (bp uns):=by
 have O:k∈dx n (bp uns):=by simp_all[dx]
 obtain⟨i,hi,e⟩:=List.mem_iff_getElem.1 O;have J:(dx n (bp uns))[i]? =some k:=by simp_all
 obtain⟨_,_,u⟩:=yM J;have hl:=congrArg List.length u
 grind[List.length_take,mA]
theorem acg{uns:List Bool}{n i:Nat}(hi:i<dp n (bp uns)):∃k,k<n/\bp uns k=true/\dp k (bp uns)=i:=by
 have hl:i<(dx n (bp uns)).length:=by simp_all[mA]
 obtain⟨J,U,u⟩:=yM (agM hl);have O:=congrArg List.length u
 grind[List.length_take,mA]
theorem Us.pd{g:ah}(hv:mB g){s:Int}(h:Us g s):Pd g s:=by
 cases h with
 |start h=>omega
 |zero hc _=>exact absurd hc.1 (Pn hv).2.2.2
 |pr p s hp _ hr hs=>exact hr s hs
theorem Us.nt{g:ah}(hv:mB g){s:Int}(h:Pd g s)(hT:(g.T:Int)<=s):∃p∈g.prods,p.left=s/\Z8 g p.right:=by
 cases h with
 |tm t ht=>omega
 |mk p hp hr=>exact⟨p,hp,rfl,hr⟩
section
variable{g:ah}{pds uns:List Bool}
theorem ac1:(ir g pds uns).N=1+dp g.N (bp uns):=by
 show(ew g uns).length=_
 grind[ew,List.length_cons,List.length_map,mA]
theorem Sf(hun:YL g uns){s:Int}(hT:(g.T:Int)<=s)(h:Us g s):fO g.T uns s=(g.T:Int)+1+(dp (s.toNat-g.T) (bp uns):Int)/\bp uns (s.toNat-g.T)=true:=by
 have u:bp uns (s.toNat-g.T)=true:=(hun.2 _).2 (by grind);unfold fO
 grind
theorem Sg(he:bM g)(hun:YL g uns){s:Int}(hT:(g.T:Int)<=s)(h:Us g s):(g.T:Int)+1<=fO g.T uns s/\fO g.T uns s<(g.T:Int)+1+dp g.N (bp uns):=by
 obtain⟨e,u⟩:=Sf hun hT h;have:=(h.in he).2;obtain⟨i,_,O,J⟩:=Uf (n:=g.N) (k:=s.toNat-g.T) ω u;omega
theorem GW(hpd:V7 g pds)(hun:YL g uns)(iG:Fi g){p:aJ}(hp:p∈g.prods):vr g pds uns p=true↔Us g p.left/\Z8 g p.right:=by
 obtain⟨hl,u⟩:=iG p hp;rw[Zw,hun.2,agA hl.1,hpd.fit u]
theorem Jk(hv:mB g)(hp:Pd g g.start)(hpd:V7 g pds)(hun:YL g uns):aw (ir g pds uns):=by
 have he:bM g:=.inl hv;obtain⟨iG,bT,bN,pN,pT,bP⟩:=Gc he;obtain⟨a0,b5⟩:=tY he;obtain⟨⟨a1,a2,a3,a4,a5,a6,a7,a8,a9,bb⟩,⟨c1,c2,c3,c4,c5,c6⟩,_⟩:=id hv;have b7:g.N=g.cR.length:=rfl;have b1:Us g g.start:=.start hp;have bc:=Sg he hun a0 b1;have be:dp g.N (bp uns)<=g.N:=DQ _ _;have ba:0<dp g.N (bp uns):=ω
 have U:=ac1 (g:=g) (pds:=pds) (uns:=uns);have b4:(ir g pds uns).cR.length=1+dp g.N (bp uns):=U
 have u:∀q,q∈(ir g pds uns).prods.drop 1↔∃p∈g.prods,(Us g p.left/\Z8 g p.right)/\q=jE g uns p:=λq=>by
  show q∈kJ g pds uns g.prods↔_
  unfold kJ;rw[agY]
  constructor
  ·rintro⟨p,O,rfl⟩;rw[ahi] at O;exact⟨p,O.1,(GW hpd hun iG O.1).1 O.2,rfl⟩
  ·rintro⟨p,O,hk,rfl⟩;exact⟨p,ahi.2 ⟨O,(GW hpd hun iG O).2 hk⟩,rfl⟩
 have bi:∀{n:Nat},n=(kJ g pds uns g.prods).length->n<=g.prods.length:=λh=>by simp_all[kJ,ahs]
 have am:∀k,k<g.N->g.cR[k]? =some (Ac g k):=λk hk=>by simp_all[Ac]
 refine⟨rfl,⟨a1,ω,a3,ω,by grind[ir],a6,a7,a8,?_,?_⟩,⟨?_,?_,?_,?_,?_,?_⟩,⟨lK g uns,rfl,rfl,rfl,rfl⟩⟩
 ·show((dx g.N (bp uns)).map (Ac g)).Nodup
  have Y:(dx g.N (bp uns)).Nodup:=by unfold dx;exact List.nodup_range.filter _
  refine Dj ?_ Y;intro i hi j hj e;unfold dx at hi hj;rw[ahi,ahd] at hi hj
  grind[List.getElem?_eq_getElem,Option.some.inj,List.pairwise_iff_getElem,Nat.lt_trichotomy,absurd]
 ·intro s hs;have hs:s∈(dx g.N (bp uns)).map (Ac g):=hs;obtain⟨k,hk,rfl⟩:=agY.1 hs
  grind[dx,List.mem_of_getElem?]
 ·obtain⟨p,J,al,Z⟩:=Us.nt hv hp a0;have:jE g uns p∈(ir g pds uns).prods.drop 1:=(u _).2 ⟨p,J,⟨by simp_all,Z⟩,rfl⟩
  grind
 ·show(lK g uns::kJ g pds uns g.prods).length<=96+1
  grind
 ·intro q hq;obtain⟨p,J,⟨hu,hr⟩,rfl⟩:=(u q).1 hq;obtain⟨W,bz⟩:=iG p J;have hn:=Sg he hun W.1 hu;have X:=c3 p (by simp_all)
  refine⟨⟨hn.1,?_,X.1.2.2.1,X.1.2.2.2⟩,λs hs=>?_⟩
  ·show fO g.T uns p.left<((ir g pds uns).T:Int)+(ir g pds uns).N
   rw[U];have:(ir g pds uns).T=g.T:=rfl;omega
  ·obtain⟨y,hy,rfl⟩:=agY.1 hs;have av:=X.2 y hy;have b3:(ir g pds uns).T=g.T:=rfl;unfold nV;rw[U,b3]
   by_cases hT:y<(g.T:Int)
   ·have:fO g.T uns y=y:=by simp_all[fO]
    rw[this];exact⟨av.1,ω,ω⟩
   ·have aa:Us g y:=.pr p y J hu hr hy;have:=Sg he hun ω aa;omega
 ·show((fv (((ir g pds uns).prods.drop 1).map aJ.left)).length:Int)=_
  have V:∀y,y∈fv (((ir g pds uns).prods.drop 1).map aJ.left)↔y∈(List.range (dp g.N (bp uns))).map λ(c:Nat)=>(g.T:Int)+1+(c:Int):=λy=>by
   rw[Q2,agY,agY]
   constructor
   ·rintro⟨q,hq,rfl⟩;obtain⟨p,J,⟨hu,hr⟩,rfl⟩:=(u q).1 hq;have W:=(iG p J).1;obtain⟨e,ad⟩:=Sf hun W.1 hu;obtain⟨i,_,h2,h3⟩:=Uf (n:=g.N) (k:=p.left.toNat-g.T) ω ad;exact⟨i,ahd.2 h3,by show _=fO g.T uns p.left;omega⟩
   ·rintro⟨c,hc,rfl⟩;obtain⟨k,b6,b2,bl⟩:=acg (ahd.1 hc);have hU:Us g ((g.T+k:Nat):Int):=(hun.2 k).1 b2;obtain⟨p,J,al,Z⟩:=Us.nt hv (hU.pd hv) ω;refine⟨jE g uns p,(u _).2 ⟨p,J,⟨by simp_all,Z⟩,rfl⟩,?_⟩
    show fO g.T uns p.left=_
    grind[Sf]
  have Y:((List.range (dp g.N (bp uns))).map λ(c:Nat)=>(g.T:Int)+1+(c:Int)).Nodup:=
   Dj (λa _ b _ h=>ω) List.nodup_range
  have h1:=wY (Ma _) λy hy=>(V y).1 hy;have h2:=wY Y λy hy=>(V y).2 hy
  grind
 ·show(g.T:Int)+(1:Nat)<=fO g.T uns g.start
  omega
 ·show fO g.T uns g.start<((ir g pds uns).T:Int)+(ir g pds uns).N
  rw[U];have:(ir g pds uns).T=g.T:=rfl;omega
theorem aeY(hv:mB g)(hb:lq g):lq (ir g pds uns):=by
 obtain⟨iG,bT,bN,pN,pT,bP⟩:=Gc (.inl hv);obtain⟨W,b2,Y,b4,U,Z,b7⟩:=id hb;have V:dp g.N (bp uns)<=g.N:=DQ _ _;have O:(ir g pds uns).cR.length=1+dp g.N (bp uns):=ac1
 refine⟨W,ω,Y,?_,U,λs u=>?_,λp hp=>?_⟩
 ·show(lK g uns::kJ g pds uns g.prods).length*40<=_
  grind[kJ,List.length_map,List.length_filter_le,List.length_cons]
 ·have u:s∈ByteArray.empty::(dx g.N (bp uns)).map (Ac g):=u
  rcases ag6.1 u with rfl|u
  ·simp
  ·obtain⟨k,J,rfl⟩:=agY.1 u;unfold dx at J;rw[ahi,ahd] at J;refine Z _ ?_;have l:k<g.cR.length:=J.1
   simp_all[Ac]
 ·have hp:p∈lK g uns::kJ g pds uns g.prods:=hp
  rcases ag6.1 hp with rfl|hp
  ·show(1:Nat)<=_;omega
  ·unfold kJ at hp;obtain⟨q,X,rfl⟩:=agY.1 hp;rw[ahi] at X
   show(q.right.map _).length<=_
   simp_all
end
section
variable{g:ah}{pds uns:List Bool}
theorem aeZ{T:Nat}{s:Int}(h:s<(T:Int)):fO T uns s=s:=by simp_all[fO]
theorem VK(hpd:V7 g pds)(hun:YL g uns)(iG:Fi g){p:aJ}(hp:p∈g.prods)(hu:Us g p.left)(hr:Z8 g p.right):jE g uns p∈(ir g pds uns).prods:=by
 refine ahQ _ ?_
 show jE g uns p∈kJ g pds uns g.prods
 unfold kJ;exact agY.2 ⟨p,ahi.2 ⟨hp,(GW hpd hun iG hp).2 ⟨hu,hr⟩⟩,rfl⟩
theorem Zx(hpd:V7 g pds)(hun:YL g uns)(iG:Fi g){s:Int}(h:Pd g s):(s<(g.T:Int)\/Us g s)->Pd (ir g pds uns) (fO g.T uns s):=by
 induction h with
 |tm t ht=>intro _;rw[aeZ ω];exact .tm t ht
 |mk p hp hr ih=>
  intro u;have hl:=(iG p hp).1;have u:Us g p.left:=u.resolve_left ω;refine .mk (jE g uns p) (VK hpd hun iG hp u hr) λy O=>?_;obtain⟨s,J,rfl⟩:=agY.1 O;exact ih s J (.inr (.pr p s hp u hr J))
end
section
variable{g:ah}{pds uns:List Bool}{row:List Int}
def Km(g:ah)(pds:List Bool):List aJ:=g.prods.filter λp=>p.right.all λs=>decide (s<(g.T:Int))||bp pds (s.toNat-g.T)
theorem Ug(iG:Fi g)(hpd:V7 g pds){p:aJ}:p∈Km g pds↔p∈g.prods/\Z8 g p.right:=by
 unfold Km;rw[ahi];refine and_congr_right λhp=>?_;rw[<-hpd.fit (iG p hp).2,ah4];simp[abt]
theorem ach(hv:mB g)(hp:Pd g g.start)(hpd:V7 g pds)(hun:YL g uns){pdc:List Bool}(hpc:V7 (ir g pds uns) pdc):Km (ir g pds uns) pdc=(ir g pds uns).prods:=by
 have Z:bM g:=.inl hv;obtain⟨U,bT,bN,pN,pT,bP⟩:=Gc Z;have V:=Jk hv hp hpd hun;obtain⟨W,_⟩:=Gc (.inr V);unfold Km;rw[List.filter_eq_self];intro q O;have hm:q∈Km (ir g pds uns) pdc↔_:=Ug W hpc
 have a0:Z8 (ir g pds uns) q.right:=by
  have O:q∈lK g uns::kJ g pds uns g.prods:=O
  rcases ag6.1 O with rfl|O
  ·intro s J;have J:s∈[fO g.T uns g.start]:=J;rw[ag_] at J;rw[J];exact Zx hpd hun U hp (.inr (.start hp))
  ·unfold kJ at O;obtain⟨p,u,rfl⟩:=agY.1 O;rw[ahi] at u;obtain⟨hu,X⟩:=(GW hpd hun U u.1).1 u.2;intro s J;obtain⟨z,Y,rfl⟩:=agY.1 J;exact Zx hpd hun U (X z Y) (.inr (.pr p z u.1 hu X Y))
 simp_all[Km]
end
def LA(row:List Int)(f k:Nat):List Tk:=(List.range' f (k-f)).map λi=>(row.getD i 0,i)
section
variable{g:ah}{row:List Int}
theorem Uh{f m k:Nat}(h1:f<=m)(h2:m<=k):LA row f m++LA row m k=LA row f k:=by
 unfold LA;rw[<-ag7];congr 1;have:=List.range'_append (s:=f) (m:=m-f) (n:=k-m) (step:=1);rw[show f+1*(m-f)=m by omega] at this;rw[this];congr 1;omega
theorem yS{f k:Nat}:(LA row f k).length=k-f:=by simp[LA]
theorem Jl{f:Nat}:LA row f f=[]:=by simp[LA]
theorem Ui{k:Nat}{a:Int}(h:row[k]? =some a):LA row k (k+1)=[(a,k)]:=by
 unfold LA;rw[show k+1-k=1 by omega];simp[h]
theorem aci{f m k:Nat}{y z:List Tk}(hz:z.length=m-f)(h1:f<=m)(h2:m<=k)(h:z++y=LA row f k):z=LA row f m/\y=LA row m k:=by
 rw[<-Uh h1 h2] at h;exact List.append_inj h (by rw[hz,yS])
theorem Dv.one{t:Tr}{s:Int}{y:List Tk}(h:Dv g [t] [s] y):(∃k,t=.lf s k/\y=[(s,k)]/\0<=s/\s<(g.T:Int))\/∃n p ks,t=.nd n ks/\g.prods[n]? =some p/\p.left=s/\Dv g ks p.right y:=by
 generalize e1:[t]=a at h;generalize e2:[s]=b at h;cases h with
 |nil=>cases e1
 |lf s' k l r y h0 hT hy=>
  cases e1;cases e2;cases hy;exact .inl ⟨k,rfl,rfl,h0,hT⟩
 |nd n p ks l r z y hn hz hy=>
  cases e1;cases e2;cases hy;exact .inr ⟨n,p,ks,rfl,hn,rfl,by simpa using hz⟩
end
open Classical in
noncomputable def cap{α:Type}(S:α->Prop):Nat:=if∃a b,a≠b/\S a/\S b then 2 else if∃a,S a then 1 else 0
section
variable{α β γ:Type}
theorem kB(S:α->Prop):cap S<=2:=by unfold cap;split<;>(try split)<;>omega
theorem fI{S:α->Prop}:cap S=0↔∀a,¬S a:=by
 unfold cap
 split
 ·rename_i h;obtain⟨a,_,_,ha,_⟩:=h;exact⟨λh=>(by cases h),λh=>absurd ha (h a)⟩
 ·split
  ·rename_i h;obtain⟨a,ha⟩:=h;exact⟨λh=>(by cases h),λh=>absurd ha (h a)⟩
  ·rename_i h;exact⟨λ_ a ha=>h ⟨a,ha⟩,λ_=>rfl⟩
theorem jJ{S:α->Prop}:cap S=2↔∃a b,a≠b/\S a/\S b:=by
 unfold cap
 split
 ·rename_i h;exact⟨λ_=>h,λ_=>rfl⟩
 ·rename_i h
  split
  ·exact⟨λh=>(by cases h),λh'=>absurd h' h⟩
  ·exact⟨λh=>(by cases h),λh'=>absurd h' h⟩
theorem Nw{S:α->Prop}{n:Nat}(h0:n=0↔∀a,¬S a)(h2:2<=n↔∃a b,a≠b/\S a/\S b):cap S=min n 2:=by
 have O:=kB S;have J:=fI (S:=S);have u:=jJ (S:=S);rw[<-h0] at J;rw[<-h2] at u;omega
theorem iP{S:α->Prop}:0<cap S↔∃a,S a:=by
 have:=fI (S:=S)
 constructor
 ·intro h;refine ahm λhn=>?_;have:=this.2 λa ha=>hn ⟨a,ha⟩;omega
 ·rintro⟨a,ha⟩
  rcases ain (cap S) with h|h
  ·exact absurd ha (this.1 h a)
  ·exact h
theorem mK{S S':α->Prop}(h:∀a,S a↔S' a):cap S=cap S':=by
 have:S=S':=funext λa=>propext (h a);rw[this]
theorem Zy{S T:α->Prop}(h:∀a,S a->¬T a):cap (λa=>S a\/T a)=min (cap S+cap T) 2:=by
 refine Nw ?_ ?_
 ·have J:=fI (S:=S);have O:=fI (S:=T)
  constructor
  ·intro h0 a ha
   rcases ha with ha|ha
   ·exact J.1 ω a ha
   ·exact O.1 ω a ha
  ·intro h0;have:=J.2 λa ha=>h0 a (.inl ha);have:=O.2 λa ha=>h0 a (.inr ha);omega
 ·have W:=kB S;have l2:=kB T
  constructor
  ·intro h0
   by_cases V:cap S=2
   ·obtain⟨a,b,u,ha,hb⟩:=jJ.1 V;exact⟨a,b,u,.inl ha,.inl hb⟩
   by_cases U:cap T=2
   ·obtain⟨a,b,u,ha,hb⟩:=jJ.1 U;exact⟨a,b,u,.inr ha,.inr hb⟩
   obtain⟨a,ha⟩:=iP.1 (show 0<cap S by omega);obtain⟨b,hb⟩:=iP.1 (show 0<cap T by omega);exact⟨a,b,λe=>h a ha (e▸hb),.inl ha,.inr hb⟩
  ·rintro⟨a,b,u,ha,hb⟩
   rcases ha with ha|ha<;>rcases hb with hb|hb
   ·have:=jJ.2 ⟨a,b,u,ha,hb⟩;omega
   ·have:=iP.2 ⟨a,ha⟩;have:=iP.2 ⟨b,hb⟩;omega
   ·have:=iP.2 ⟨a,ha⟩;have:=iP.2 ⟨b,hb⟩;omega
   ·have:=jJ.2 ⟨a,b,u,ha,hb⟩;omega
theorem acj{S:α->Prop}{T:β->Prop}{f:α->β->γ}(hf:∀a b a' b',S a->T b->S a'->T b'->f a b=f a' b'->a=a'/\b=b'):cap (λc=>∃a b,S a/\T b/\c=f a b)=min (cap S*cap T) 2:=by
 refine Nw ?_ ?_
 ·rw[Nat.mul_eq_zero,fI,fI]
  constructor
  ·rintro(h|h) c⟨a,b,ha,hb,_⟩
   ·exact h a ha
   ·exact h b hb
  ·intro h;refine ahm λhn=>?_;simp only[not_or,Classical.not_forall,Classical.not_not] at hn;obtain⟨⟨a,ha⟩,b,hb⟩:=hn;exact h _ ⟨a,b,ha,hb,rfl⟩
 ·have l1:=kB S;have l2:=kB T
  constructor
  ·intro h;have Z:0<cap S:=by rcases ain (cap S) with e|e;(rw[e] at h;omega);exact e
   have Y:0<cap T:=by rcases ain (cap T) with e|e;(rw[e] at h;omega);exact e
   by_cases U:cap S=2
   ·obtain⟨a,b,u,ha,hb⟩:=jJ.1 U;obtain⟨c,hc⟩:=iP.1 Y;exact⟨_,_,λe=>u (hf _ _ _ _ ha hc hb hc e).1,⟨a,c,ha,hc,rfl⟩,b,c,hb,hc,rfl⟩
   ·have U:cap S=1:=ω
    rw[U] at h;have O:cap T=2:=ω
    obtain⟨a,b,u,ha,hb⟩:=jJ.1 O;obtain⟨c,hc⟩:=iP.1 Z;exact⟨_,_,λe=>u (hf _ _ _ _ hc ha hc hb e).2,⟨c,a,hc,ha,rfl⟩,c,b,hc,hb,rfl⟩
  ·rintro⟨c,d,X,⟨a,b,ha,hb,rfl⟩,a',b',W,J,rfl⟩;have Z:=iP.2 ⟨a,ha⟩;have Y:=iP.2 ⟨b,hb⟩
   by_cases e:a=a'
   ·have V:b≠b':=λO=>X (by rw[e,O]);have:=jJ.2 ⟨b,b',V,hb,J⟩;rw[this];omega
   ·have:=jJ.2 ⟨a,a',e,ha,W⟩;rw[this];omega
end
def yT(g:ah)(row:List Int)(s:Int)(f t:Nat)(x:Tr):Prop:=Dv g [x] [s] (LA row f t)
def Jm(g:ah)(row:List Int)(r:List Int)(f t:Nat)(l:List Tr):Prop:=Dv g l r (LA row f t)
section
variable{g:ah}{row:List Int}
theorem Uj{f t:Nat}{l:List Tr}(h:f<=t):Jm g row [] f t l↔l=[]/\f=t:=by
 unfold Jm
 constructor
 ·intro u;generalize e:LA row f t=y at u;cases u;have:=congrArg List.length e;rw[yS] at this;exact⟨rfl,by simp at this;omega⟩
 ·rintro⟨rfl,rfl⟩;rw[Jl];exact .nil
theorem Zz{r:List Int}{s:Int}{f t:Nat}{l:List Tr}(h:f<=t):Jm g row (r++[s]) f t l↔∃m,f<=m/\m<=t/\∃a b,Jm g row r f m a/\yT g row s m t b/\l=a++[b]:=by
 unfold Jm yT
 constructor
 ·intro O;have hl:=O.len;simp only[agV,ahY] at hl;have u:l≠[]:=λe=>by rw[e] at hl;simp at hl
  have e:l=l.dropLast++[l.getLast u]:=(List.dropLast_concat_getLast u).symm;rw[e] at O;obtain⟨Y,Z,V,J,U⟩:=O.split (by simp;omega);have W:=congrArg List.length V;rw[yS,agV] at W;obtain⟨m,hm⟩:∃m,m=f+Y.length:=⟨_,rfl⟩;obtain⟨f1,X⟩:=aci (m:=m) ω ω ω V.symm;subst f1;subst X;exact⟨m,ω,ω,_,_,J,U,e⟩
 ·rintro⟨m,J,U,a,b,ha,hb,rfl⟩;rw[<-Uh J U];exact ha.app hb
end
section
variable{g:ah}{nn:List Bool}{ss:List SQ}{A:Nat->Int->aD}{G:Nat->Int->Nat}
theorem Nx{l:List yN}{k:Nat}(h:A (b8 l) 0=⟨3,0⟩):IM g A G (l,[((0:Int),k)])=none:=by
 unfold IM;simp[h]
theorem ZA(hc:aw g)(hA:bC g ss)(hn:lE g nn)(hC:TP g nn ss A G){t t':Tr}{y:List Tk}(h:Dv g [t] [g.start] y)(h':Dv g [t'] [g.start] y):t=t':=by
 obtain⟨q,r,a⟩:=IN hc hA hn hC h 0;obtain⟨J,r',u⟩:=IN hc hA hn hC h' 0;have:=r.det r' (Nx a) (Nx u);cases this;rfl
end
section
variable{g:ah}{nn:List Bool}{ss:List SQ}{p:dB}
theorem GX{q t:Nat}(h:(nQ g nn ss q t).kind≠0)(h4:(nQ g nn ss q t).kind≠4):nQ g nn ss q t∈ee g nn ss q t:=by
 unfold nQ at h h4 ⊢;have u:=λx=>Lt (g:=g) (t:=t) (l:=ee g nn ss q t) (x:=x);revert h h4 u;generalize fU g t (ee g nn ss q t)=r;intro h h4 u;obtain⟨l,b⟩:=r;cases l with
 |nil=>cases b<;>simp[C3] at h h4
 |cons a l=>exact u a (List.mem_cons_self ..)
theorem E2{q t:Nat}{x:aD}(h:x∈ee g nn ss q t):(x.kind=1/\dh ss q (t:Int)=some x.to)\/(x.kind=3/\x.to=0/\t=0/\∃r,ss[q]? =some r/\(⟨0,1⟩:au)∈r.1.2)\/(x.kind=2/\∃l∈dt g nn ss,l.st=(q:Int)/\l.prod=x.to/\(t:Int)∈l.tm):=by
 unfold ee at h
 rcases agX.1 h with h|h
 ·rcases agX.1 h with h|h
  ·grind[PF]
  ·obtain⟨rfl,u,J⟩:=PG h
   simp_all
 grind[PH]
theorem Uk(hc:aw g)(hA:bC g ss)(hn:lE g nn){q t:Nat}{x:aD}(h:x∈ee g nn ss q t)(hk:x.kind=2):∃(m:Nat)(p:aJ),x.to=m/\m≠0/\g.prods[m]? =some p/\∃r,ss[q]? =some r/\vF g r.1.2 ⟨(m:Int),(p.right.length:Int)⟩:=by
 rcases E2 h with⟨J,_⟩|⟨J,_⟩|⟨_,l,hl,J,O,W⟩
 ·omega
 ·omega
 ·obtain⟨V,m,_,U,u,rfl⟩:=CS hl;have J:(V:Int)=q:=J;have O:(m:Int)=x.to:=O;have:V=q:=ω
  subst this;obtain⟨z,_,_,X⟩:=(PL hc hA hn (agM U) u).1 W;exact⟨m,_,O.symm,u,agM U,(X.inv hc hA hn).it⟩
theorem ZB(hc:aw g)(hA:bC g ss)(hn:lE g nn)(q t:Nat):EP ss.length (nQ g nn ss q t):=by
 have W:=hc.cK
 by_cases h:(nQ g nn ss q t).kind=0\/(nQ g nn ss q t).kind=4
 ·have:nQ g nn ss q t=⟨0,0⟩\/nQ g nn ss q t=⟨4,0⟩\/nQ g nn ss q t∈ee g nn ss q t:=by
   unfold nQ;have O:=λx=>Lt (g:=g) (t:=t) (l:=ee g nn ss q t) (x:=x);revert O;generalize fU g t (ee g nn ss q t)=r;intro O;obtain⟨l,b⟩:=r;cases l with
   |nil=>cases b<;>simp[C3]
   |cons a l=>exact .inr (.inr (O a (List.mem_cons_self ..)))
  rcases this with e|e|e
  ·rw[e];exact .inl ⟨rfl,rfl⟩
  ·rw[e];exact .inr (.inr (.inr (.inr ⟨rfl,rfl⟩)))
  ·rcases E2 e with⟨u,_⟩|⟨u,_⟩|⟨u,_⟩<;>omega
 ·have J:=GX (λe=>h (.inl e)) (λe=>h (.inr e))
  rcases E2 J with⟨u,U⟩|⟨u,U,_⟩|⟨u,_⟩
  ·have:=d_ hc hA U;exact .inr (.inl ⟨u,ω,ω⟩)
  ·exact .inr (.inr (.inr (.inl ⟨u,U⟩)))
  ·obtain⟨m,Z,Y,X,V,_⟩:=Uk hc hA hn J u;have:=(agN.1 V).1;exact .inr (.inr (.inl ⟨u,ω,ω⟩))
theorem ack{q t:Nat}(hq:q<ss.length)(ht:t<g.T):∃l,(C4 g nn ss)[q]? =some l/\l[t]? =some (nQ g nn ss q t):=by
 unfold C4
 simp_all
theorem Ul{q n:Nat}(hq:q<ss.length)(hn:n<g.N):∃l,(ER g ss)[q]? =some l/\l[n]? =some (CA ss q ((g.T+n:Nat):Int)):=by
 unfold ER
 simp_all
theorem ZC(hc:aw g)(hA:bC g ss)(hn:lE g nn):Zd (C4 g nn ss) (ER g ss) g.T g.N:=by
 have U:=hc.cK;have hp:=hA.pos;have J:=hA.dn.2.1;have hl:(C4 g nn ss).length=ss.length:=by simp[C4]
 refine⟨ω,ω,by simp[ER,C4],ω,ω,ω,ω,λl u=>?_,λl u=>?_⟩
 ·obtain⟨q,_,rfl⟩:=agY.1 u;refine⟨σ,λa ha=>?_⟩;obtain⟨t,_,rfl⟩:=agY.1 ha
  simp_all[ZB]
 ·obtain⟨q,_,rfl⟩:=agY.1 u;refine⟨σ,λz O=>?_⟩;obtain⟨j,_,rfl⟩:=agY.1 O;rw[hl];unfold CA;cases hx:dh ss q ((g.T+j:Nat):Int) with
  |none=>grind
  |some z=>have:=d_ hc hA hx;grind
abbrev pA(p:dB)(q:Nat)(t:Int):aD:=bq p q t
def pG(g:ah)(p:dB)(q:Nat)(s:Int):Nat:=(bW p q (s-g.T)).toNat
variable(hc:aw g)(hA:bC g ss)(hn:lE g nn)(hP:Fw (C4 g nn ss) (ER g ss) g.N p)
include hc hA hn hP
theorem Um{q t:Nat}(hq:q<ss.length)(ht:t<g.T):((nQ g nn ss q t).kind≠0/\bq p q t=nQ g nn ss q t)\/((nQ g nn ss q t).kind=0/\(bq p q t=⟨0,0⟩\/∃t'<g.T,(nQ g nn ss q t').kind=2/\bq p q t=nQ g nn ss q t')):=by
 obtain⟨l,u,O⟩:=ack (nn:=nn) hq ht;have J:=((ZC hc hA hn).a l (agL u)).2
 rcases hP.act u O J with⟨k,e⟩|⟨k,e|⟨b,hb,U,e⟩⟩
 ·simp_all
 ·simp_all
 grind[List.getElem?_of_mem,List.range,nQ,C4,List.getElem?_range,Option.some.inj,List.getElem?_eq_none]
theorem ZD{q:Nat}{s j:Int}(hs:(g.T:Int)<=s)(h:dh ss q s=some j):bW p q (s-g.T)=j:=by
 have W:=aeO hc hA h;have X:=d_ hc hA h;obtain⟨n,u⟩:∃n:Nat,s=((g.T+n:Nat):Int):=⟨(s-g.T).toNat,ω⟩;subst u;have U:=RS h;obtain⟨l,J,O⟩:=Ul (g:=g) (n:=n) U ω;have e:CA ss q ((g.T+n:Nat):Int)=j:=by simp_all[CA]
 rw[e] at O;have V:((g.T+n:Nat):Int)-(g.T:Int)=(n:Int):=ω
 rw[V];exact hP.tgt J ω (by simp_all) ω
theorem ae0(hb:lq g):EX g ss (pA p) (pG g p) (ER g ss) p:=by
 refine⟨hc,hA,hb,⟨?_,?_,?_,?_⟩,⟨λq t=>rfl,?_⟩,?_⟩
 ·intro q t O ht u;have u:(bq p q t).kind=1:=u
  show dh ss q (t:Int)=some (bq p q t).to
  rcases Um hc hA hn hP O ht with⟨k,e⟩|⟨k,e|⟨J,_,V,e⟩⟩
  ·rw[e] at u ⊢
   rcases E2 (GX k ω) with⟨_,h⟩|⟨h,_⟩|⟨h,_⟩
   ·omega
   ·omega
   omega
  ·simp_all
  simp_all
 ·intro q t r W ht u;have O:=(agN.1 W).1;have u:(bq p q t).kind=2:=u
  have key:∀J,(nQ g nn ss q J).kind=2->bq p q t=nQ g nn ss q J->∃(m:Nat)(Y:aJ),(bq p q t).to=m/\m≠0/\g.prods[m]? =some Y/\vF g r.1.2 ⟨(m:Int),(Y.right.length:Int)⟩:=λJ V e=>by
   obtain⟨m,Y,e1,e2,e3,r',Z,e4⟩:=Uk hc hA hn (GX ω ω) V
   grind
  rcases Um hc hA hn hP O ht with⟨k,e⟩|⟨k,e|⟨J,_,V,e⟩⟩
  ·simp_all
  ·simp_all
  simp_all
 ·intro q t r W ht u;have O:=(agN.1 W).1;have u:(bq p q t).kind=3:=u
  rcases Um hc hA hn hP O ht with⟨k,e⟩|⟨k,e|⟨J,_,V,e⟩⟩
  ·rw[e] at u
   rcases E2 (GX k ω) with⟨h,_⟩|⟨_,_,h1,r',Z,h2⟩|⟨h,_⟩
   ·omega
   ·simp_all
   omega
  ·simp_all
  simp_all
 ·grind[pG,ZD]
 ·rintro q s⟨j,U⟩ hs;unfold pG;rw[ZD hc hA hn hP hs U];have:=d_ hc hA U;omega
 ·intro q n j X U;obtain⟨l,h1,h2⟩:=Ul (g:=g) (n:=n) (RS U) X
  simp_all[CA]
theorem ae1(hcl:nu g nn ss 2=[]):TP g nn ss (pA p) (pG g p):=by
 refine⟨λq t a O ht ha=>?_,λq j s U h=>?_⟩
 ·have hl:ee g nn ss q t=[a]:=by
   have W:(ee g nn ss q t).length<2:=Nat.lt_of_not_le λV=>by
    have:(⟨(q:Int),(t:Int),ee g nn ss q t⟩:cP)∈nu g nn ss 2:=pe.2 ⟨q,t,O,ht,V,rfl⟩;rw[hcl] at this;cases this
   match hx:ee g nn ss q t,W,ha with
   |[b],_,ha=>rw[ag_.1 ha]
  have u:nQ g nn ss q t=a:=by
   unfold nQ;rw[hl]
   by_cases J:a.kind=1
   ·rw[qZ J];rfl
   ·rw[yP J];rfl
  have J:a.kind≠0:=by
   rcases E2 ha with⟨h,_⟩|⟨h,_⟩|⟨h,_⟩<;>omega
  rcases Um hc hA hn hP O ht with⟨k,e⟩|⟨k,_⟩
  ·show bq p q t=a
   rw[e,u]
  ·rw[u] at k;exact absurd k J
 ·unfold pG;rw[ZD hc hA hn hP U h];rfl
end
def tkF:Nat->List Nat->List Tk
 |_,[]=>[]
 |c,t::ts=>((t:Int),c)::tkF (c+1) ts
theorem Ny:∀(ts:List Nat)(c i:Nat),(tkF c ts)[i]? =ts[i]?.map λ(t:Nat)=>((t:Int),c+i)
 |[],c,i=>by simp[tkF]
 |t::ts,c,0=>by simp[tkF]
 |t::ts,c,i+1=>by
  show(tkF (c+1) ts)[i]? =_
  rw[Ny ts (c+1) i]
  simp only[aic]
  rw[show c+1+i=c+(i+1) by omega]
theorem Un(ns:List Nat):tkF 0 ns=LA (nZ ns) 0 ns.length:=by
 apply ahp;intro i;rw[Ny];unfold LA;rw[agS]
 by_cases h:i<ns.length
 ·rw[List.getElem?_range' ω,agM h];simp[h]
 ·rw[ahk ω,ahk (by simp;omega)];rfl
section
variable{g:ah}{ss:List SQ}{A:Nat->Int->aD}{G:Nat->Int->Nat}{Gs:List (List Int)}{p:dB}{t:Nat}
theorem acm{l l':List yN}{rs:List aD}{t':Int}(h:PN g A G t' l rs l'):∀{y:cE},y.es=l->(rs.foldl (zK g G t) y).es=l':=by
 induction h with
 |nil=>exactλh=>h
 |cons l m q ms l' h1 h2 _ _ _ ih=>
  intro y e;subst e;rw[List.foldl_cons];refine ih ?_;unfold zK;simp[h2,CX]
theorem Uo(h:EX g ss A G Gs p)(ht:t<g.T){y y':cE}(hw:oP ss y.es)(hF:jH g (bq p) (bW p) G t y=some (true,y')):
  oP ss y'.es/\((0<t/\y'.dp=y.dp+1/\∀v,Rn g A G (y.es,((t:Int),y.dp)::v) (y'.es,v))\/(t=0/\(A (b8 y'.es) 0).kind=3/\∀k v,Rn g A G (y.es,((0:Int),k)::v) (y'.es,((0:Int),k)::v))):=by
 unfold jH at hF
 split at hF
 ·cases hF
 ·cases hF
 ·rename_i ms _ O;cases hF;obtain⟨rs,l',Y,X,r3,r4⟩:=RT h.hc h.hA h.hS h.hN ht 1024 hw O;have J:=acm (t:=t) Y (y:=y) rfl;have U:(rs.foldl (zK g G t) y).dp=y.dp:=Da t rs y;have hl:=IP h.hA h.hc X
  rcases r4 with⟨_,u,k2,rfl⟩|⟨_,u,rfl⟩|⟨hf,_⟩
  ·obtain⟨r,O⟩:=hl;have hn:=h.hS.sh _ t (agN.1 O).1 ht u;obtain⟨q0,k,e,W,he,a0,_⟩:=lB hn;have:=(dm h.hc h.hA W he).1;have h0:=(d_ h.hc h.hA hn).1;rw[ahU,aiu];generalize List.foldl (zK g G t) y rs=z at J U;have V:zK g G t z (A (b8 l') t)=Bn t (A (b8 l') t).to.toNat z:=by unfold zK;rw[ag0 u]
   rw[List.foldl_cons,List.foldl_nil,V];unfold EO;rw[ag0 ω]
   refine⟨⟨?_,?_⟩,.inl ⟨ω,by simp[Bn,U],λv=>(Y.IM _ v).trans (.step _ _ _ ?_ (.refl _))⟩⟩
   ·show dh ss (b8 z.es) (t:Int)=_
    rw[J,hn]
    show some _=some (((A (b8 l') t).to.toNat:Nat):Int)
    rw[Int.toNat_of_nonneg h0]
   ·show oP ss z.es
    rw[J];exact X
   ·show IM g A G (l',((t:Int),y.dp)::v)=some (((t:Int),(A (b8 l') t).to.toNat,Tr.lf t z.dp)::z.es,v)
    unfold IM;simp[u,J,U]
  ·obtain⟨r,O⟩:=hl;have ht0:=(h.hS.ac _ t r O ht u).1;subst ht0;rw[ahU,aiu];generalize List.foldl (zK g G 0) y rs=z at J U;have V:zK g G 0 z (A (b8 l') ((0:Nat):Int))=PO (A (b8 l') ((0:Nat):Int)) z:=by unfold zK;rw[agW ω,agW ω]
   rw[List.foldl_cons,List.foldl_nil,V];unfold EO;rw[agW ω];have Z:(PO (A (b8 l') ((0:Nat):Int)) z).es=l':=J;rw[Z];exact⟨X,.inr ⟨rfl,u,λk v=>Y.IM k v⟩⟩
  ·cases hf
theorem ZE(h:EX g ss A G Gs p){b:Bool}{j k:Nat}{y':cE}:∀(ts:List Nat)(i:Nat)(y:cE),(∀t∈ts,1<=t/\t<g.T)->oP ss y.es->Bu g (bq p) (bW p) G i (ts++[0]) y=some (b,j,y')->
  ∃l v,Rn g A G (y.es,tkF y.dp ts++[((0:Int),k)]) (l,v)/\((b=true/\l=y'.es/\v=[((0:Int),k)]/\(A (b8 l) 0).kind=3)\/
   (b=false/\∃(t:Nat)(k':Nat)(v':List Tk),v=((t:Int),k')::v'/\(A (b8 l) t).kind≠1/\(A (b8 l) t).kind≠2/\(A (b8 l) t).kind≠3)):=by
 have hs:=h.hc.cK
 --a token that does not fit
 have W:∀{t:Nat}{y:cE}{v:List Tk}{O:cE}{k':Nat},t<g.T->oP ss y.es->jH g (bq p) (bW p) G t y=some (false,O)->∃l,Rn g A G (y.es,((t:Int),k')::v) (l,((t:Int),k')::v)/\(A (b8 l) t).kind≠1/\(A (b8 l) t).kind≠2/\(A (b8 l) t).kind≠3:=by
  intro t y v O k' ht U u;unfold jH at u
  split at u
  ·cases u
  ·rename_i hr;obtain⟨rs,l',J,V,r3,r4⟩:=RT h.hc h.hA h.hS h.hN ht 1024 U hr
   rcases r4 with⟨hf,_⟩|⟨hf,_⟩|⟨_,Z,k2,k3,_⟩
   ·cases hf
   ·cases hf
   ·exact⟨l',J.IM _ _,Z,k2,k3⟩
  ·cases u
 intro ts
 induction ts with
 |nil=>
  intro i y _ U u;have u:(match jH g (bq p) (bW p) G 0 y with|none=>none|some (false,y')=>some (false,i,y')|some (true,y')=>some (true,i+1,y'))=some (b,j,y'):=u
  split at u
  ·cases u
  ·rename_i O hT;cases u;obtain⟨l,J,V⟩:=W (v:=[]) (k':=k) ω U hT;exact⟨l,_,J,.inr ⟨rfl,0,k,[],rfl,V⟩⟩
  ·rename_i O hT;cases u
   obtain⟨_,hh|⟨_,h3,h4⟩⟩:=Uo h ω U hT
   ·omega
   ·exact⟨_,_,h4 k [],.inl ⟨rfl,rfl,rfl,h3⟩⟩
 |cons t ts ih=>
  intro i y X U u;have ht:=X t σ;have u:(match jH g (bq p) (bW p) G t y with|none=>none|some (false,y')=>some (false,i,y')|some (true,y')=>Bu g (bq p) (bW p) G (i+1) (ts++[0]) y')=some (b,j,y'):=u
  split at u
  ·cases u
  ·rename_i O hT;cases u;obtain⟨l,J,V⟩:=W (v:=tkF (y.dp+1) ts++[((0:Int),k)]) (k':=y.dp) ω U hT;exact⟨l,_,J,.inr ⟨rfl,t,_,_,rfl,V⟩⟩
  ·rename_i O hT
   obtain⟨Y,⟨_,hc,hR⟩|hh⟩:=Uo h ω U hT
   ·obtain⟨l,v,J,V⟩:=ih (i+1) O (λt h=>X t (by simp[h])) Y u;rw[hc] at J;exact⟨l,v,(hR _).trans J,V⟩
   ·omega
theorem acn(h:EX g ss A G Gs p){ns:List Nat}(ht:∀t∈ns,1<=t/\t<g.T){j:Nat}{y:cE}(hF:Bu g (bq p) (bW p) G 0 (ns++[0]) cE.new=some (true,j,y)):
  ∃(q:Nat)(x:Tr),y.es=[(g.start,q,x)]/\Dv g [x] [g.start] (LA (nZ ns) 0 ns.length):=by
 have Y:=h.hc.cK
 obtain⟨l,v,U,⟨_,rfl,rfl,O⟩|⟨hb,_⟩⟩:=ZE h (k:=0) ns 0 cE.new ht trivial hF
 ·have J:∀x∈tkF 0 ns++[((0:Int),0)],0<=x.1/\x.1<(g.T:Int):=by
   intro x u
   rcases agX.1 u with u|u
   ·obtain⟨i,hi⟩:=ahb u;rw[Ny] at hi;cases hn:ns[i]? with
    |none=>rw[hn] at hi;cases hi
    |some t=>
     rw[hn] at hi;cases hi;have:=ht t (agL hn);exact⟨ahu _,by show(t:Int)<_;omega⟩
   ·rw[ag_.1 u];exact⟨σ,by show(0:Int)<_;omega⟩
  obtain⟨_,q,x,y0,X,W,V⟩:=(V8.run h.hc h.hA h.hS J V8.start U).acc h.hc h.hA h.hS (t:=0) ω O;refine⟨q,x,X,?_⟩;have:=List.append_inj_left' V rfl;rw[<-Un,this];exact W
 ·cases hb
theorem aco(h:EX g ss A G Gs p){nn:List Bool}(hn:lE g nn)(hC:TP g nn ss A G){ns:List Nat}(ht:∀t∈ns,1<=t/\t<g.T){j:Nat}{y:cE}(hF:Bu g (bq p) (bW p) G 0 (ns++[0]) cE.new=some (false,j,y))(x:Tr):
  ¬Dv g [x] [g.start] (LA (nZ ns) 0 ns.length):=λJ=>by
 obtain⟨l,v,U,⟨hb,_⟩|⟨_,t,W,X,rfl,V,k2,k3⟩⟩:=ZE h (k:=0) ns 0 cE.new ht trivial hF
 ·cases hb
 rw[<-Un] at J
 obtain⟨q,O,ha⟩:=IN h.hc h.hA hn hC J 0
 have u:IM g A G (l,((t:Int),W)::X)=none:=by unfold IM;simp[V,k2]
 have:=U.det O u (Nx ha)
 cases this
 exact k3 (by show(A q 0).kind=3;rw[ha])
end
section
variable{α β:Type}
theorem ZF{S T:α->Prop}(h:∀a,S a->T a):cap S<=cap T:=by
 have O:=kB S;have V:=kB T
 by_cases J:cap S=2
 ·obtain⟨a,b,u,ha,hb⟩:=jJ.1 J;have:=jJ.2 ⟨a,b,u,h a ha,h b hb⟩;omega
 by_cases U:cap S=0
 ·omega
 obtain⟨a,ha⟩:=iP.1 (show 0<cap S by omega);have:=iP.2 ⟨a,h a ha⟩;omega
theorem acp{S:α->Prop}{f:α->β}(hf:∀a b,f a=f b->a=b):cap (λc=>∃a,S a/\c=f a)=cap S:=by
 have h0:=kB S
 have:=Nw (S:=λc=>∃a,S a/\c=f a) (n:=cap S) ?_ ?_
 ·omega
 ·rw[fI];exact⟨λh c ⟨a,ha,_⟩=>h a ha,λh a ha=>h _ ⟨a,ha,rfl⟩⟩
 ·have e:2<=cap S↔cap S=2:=ω
  rw[e,jJ]
  constructor
  ·rintro⟨a,b,u,ha,hb⟩;exact⟨_,_,λe=>u (hf _ _ e),⟨a,ha,rfl⟩,b,hb,rfl⟩
  ·rintro⟨_,_,u,⟨a,ha,rfl⟩,b,hb,rfl⟩;exact⟨a,b,λe=>u (by rw[e]),ha,hb⟩
theorem Nz{a:α}{S:α->Prop}(h:∀b,S b↔b=a):cap S=1:=by
 have:=Nw (S:=S) (n:=1) ⟨λh=>(by cases h),λh0=>absurd ((h a).2 rfl) (h0 a)⟩ ⟨λh=>ω,λ⟨x,y,u,J,O⟩=>absurd (((h x).1 J).trans ((h y).1 O).symm) u⟩;omega
end
section
variable{g:ah}{nn:List Bool}{row r:List Int}{s:Int}{f t at_ e i:Nat}
theorem Dv.tok{l:List Tr}{r:List Int}{y:List Tk}(h:Dv g l r y):∀{r':List Int}{y':List Tk},Dv g l r' y'->y=y':=by
 induction h with
 |nil=>intro r' y' h';cases h';rfl
 |lf s k l r y _ _ _ ih=>
  intro r' y' h';cases h' with
  |lf _ _ _ _ _ _ _ h2=>rw[ih h2]
 |nd n p ks l r z y _ _ _ ih1 ih2=>
  intro r' y' h';cases h' with
  |nd _ _ _ _ _ _ _ _ h1 h2=>rw[ih1 h1,ih2 h2]
theorem ae2(hc:aw g)(h0:0<=s)(hT:s<(g.T:Int))(hft:f<=t)(htl:t<=row.length):cap (yT g row s f t)=if t=f+1/\row[f]? =some s then 1 else 0:=by
 have inv:∀{x:Tr},yT g row s f t x->t=f+1/\row[f]? =some s/\x=.lf s f:=λ{x} h=>by
  rcases Dv.one h with⟨k,rfl,e,_⟩|⟨n,p,ks,_,hn,hl,_⟩
  ·have hl:=congrArg List.length e;rw[yS,ahY] at hl;have:t=f+1:=ω
   subst this;have hf:row[f]? =some row[f]:=agM ω;rw[Ui hf] at e;cases e;exact⟨rfl,hf,rfl⟩
  ·have:=hc.left (agL hn);omega
 split
 ·rename_i h;obtain⟨rfl,hf⟩:=h;refine Nz (a:=.lf s f) λx=>⟨λh=>(inv h).2.2,λe=>?_⟩;subst e;unfold yT;rw[Ui hf];exact .lf s f [] [] [] h0 hT .nil
 ·rename_i h;rw[fI];exactλx u=>h ⟨(inv u).1,(inv u).2.1⟩
def Z9(g:ah)(row:List Int)(s:Int)(f t j:Nat)(x:Tr):Prop:=∃n p ks,n<j/\x=.nd n ks/\g.prods[n]? =some p/\p.left=s/\Jm g row p.right f t ks
theorem ZG:cap (Z9 g row s f t 0)=0:=fI.2 λx ⟨n,_,_,h,_⟩=>ω
theorem ZH{j:Nat}{p:aJ}(hp:g.prods[j]? =some p):cap (Z9 g row s f t (j+1))=if p.left=s then min (cap (Z9 g row s f t j)+cap (Jm g row p.right f t)) 2 else cap (Z9 g row s f t j):=by
 have e:∀x,Z9 g row s f t (j+1) x↔Z9 g row s f t j x\/(p.left=s/\∃ks,Jm g row p.right f t ks/\x=.nd j ks):=λx=>by
  constructor
  ·rintro⟨n,q,ks,U,rfl,O,u,J⟩
   by_cases hn:n=j
   ·subst hn;rw[hp] at O;cases O;exact .inr ⟨u,ks,J,rfl⟩
   ·exact .inl ⟨n,q,ks,ω,rfl,O,u,J⟩
  ·rintro(⟨n,q,ks,U,h⟩|⟨u,ks,J,rfl⟩)
   ·exact⟨n,q,ks,ω,h⟩
   ·exact⟨j,p,ks,ω,rfl,hp,u,J⟩
 rw[mK e]
 split
 ·rename_i hl
  rw[Zy]
  ·congr 2;rw[<-acp (S:=Jm g row p.right f t) (f:=λks=>Tr.nd j ks) (λa b h=>by injection h)];exact mK λx=>⟨λh=>h.2,λh=>⟨hl,h⟩⟩
  ·rintro x⟨n,q,ks,U,rfl,_⟩⟨_,V,_,e⟩;injection e with W _
   omega
 ·rename_i hl;exact mK λx=>⟨λh=>h.elim id λh=>absurd h.1 hl,.inl⟩
theorem ae3{j k:Nat}(h:j<=k):cap (Z9 g row s f t j)<=cap (Z9 g row s f t k):=ZF λx ⟨n,p,ks,J,u⟩=>⟨n,p,ks,ω,u⟩
theorem acq(hs:(g.T:Int)<=s):cap (Z9 g row s f t g.prods.length)=cap (yT g row s f t):=mK λx=>by
 constructor
 ·rintro⟨n,p,ks,_,rfl,hn,rfl,h⟩
  have:=Dv.nd n p ks [] [] _ [] hn h .nil
  unfold yT
  simpa using this
 ·intro h
  rcases Dv.one h with⟨k,_,_,_,u⟩|⟨n,p,ks,rfl,hn,hl,u⟩
  ·omega
  ·exact⟨n,p,ks,(agN.1 hn).1,rfl,hn,hl,u⟩
theorem ZI(hn:lE g nn)(iG:Fi g)(hb:fV g.T nn s=true):cap (yT g row s f f)=0:=fI.2 λx u=>by
 have h:MT g [s]:=Dv.nul u Jl
 have J:=(hn.van iG (row:=[s])).2 h s σ
 unfold fV at hb
 simp at hb
 rcases hb with hb|hb
 ·omega
 ·rw[J.2] at hb;cases hb
def VL(g:ah)(row r:List Int)(s:Int)(f at_ e:Nat)(l:List Tr):Prop:=∃m,f<=m/\m<at_/\m<=e/\∃a b,Jm g row r f m a/\yT g row s m e b/\l=a++[b]
theorem ZJ:cap (VL g row r s f f e)=0:=fI.2 λl ⟨m,u,J,_⟩=>ω
theorem Qi(h1:f<=at_)(h2:at_<=e):cap (VL g row r s f (at_+1) e)=min (cap (VL g row r s f at_ e)+cap (Jm g row r f at_)*cap (yT g row s at_ e)) 2:=by
 have q:∀l,VL g row r s f (at_+1) e l↔VL g row r s f at_ e l\/∃a b,Jm g row r f at_ a/\yT g row s at_ e b/\l=a++[b]:=λl=>by
  constructor
  ·rintro⟨m,u,k2,k3,h⟩
   by_cases W:m=at_
   ·subst W;exact .inr h
   ·exact .inl ⟨m,u,ω,k3,h⟩
  ·rintro(⟨m,u,k2,k3,h⟩|h)
   ·exact⟨m,u,ω,k3,h⟩
   ·exact⟨at_,h1,ω,h2,h⟩
 rw[mK q,Zy]
 ·rw[acj (f:=λa b=>a++[b]) λa b O V _ _ _ _ e=>by simpa using e];have:=kB (VL g row r s f at_ e);omega
 ·rintro l⟨m,u,k2,k3,a,b,ha,hb,rfl⟩⟨O,V,J,U,e⟩;have:a=O:=by simp at e;exact e.1
  subst this;have:=congrArg List.length (Dv.tok ha J);rw[yS,yS] at this;omega
theorem Qj(h:e<at_):cap (VL g row r s f (at_+1) e)=cap (VL g row r s f at_ e):=mK λl=>⟨λ⟨m,u,k2,k3,h'⟩=>⟨m,u,ω,k3,h'⟩,λ⟨m,u,k2,k3,h'⟩=>⟨m,u,ω,k3,h'⟩⟩
theorem acr(hfe:f<=e)(h:e<at_):cap (VL g row r s f at_ e)=cap (Jm g row (r++[s]) f e):=mK λl=>by
 rw[Zz hfe]
 exact⟨λ⟨m,u,_,k3,h'⟩=>⟨m,u,k3,h'⟩,λ⟨m,u,k3,h'⟩=>⟨m,u,ω,k3,h'⟩⟩
theorem ZK(hfe:f<=e):cap (Jm g row [] f e)=if f=e then 1 else 0:=by
 split
 ·rename_i h;exact Nz (a:=[]) λl=>by rw[Uj hfe];exact⟨λx=>x.1,λx=>⟨x,h⟩⟩
 ·rename_i h;rw[fI];exactλl hl=>h ((Uj hfe).1 hl).2
end
inductive Jn (R:Nat->Nat->Prop):Nat->Prop
 |mk (i:Nat):(∀k,R i k->Jn R k)->Jn R i
section
variable{R:Nat->Nat->Prop}{N:Nat}
theorem ZL(hR:∀a b,R a b->b<N)(hno:∀i,i<N->¬OnP R i){i:Nat}(hi:i<N):Jn R i:=by
 refine ahm λY=>?_;have u:∀i,¬Jn R i->∃k,R i k/\¬Jn R k:=λi h=>ahm λhn=>h (.mk i λk W=>ahm λX=>hn ⟨k,W,X⟩)
 obtain⟨s,V,s1⟩:∃s:Nat->Nat,s 0=i/\∀n,R (s n) (s (n+1))/\¬Jn R (s n):=by
  let F:{x//¬Jn R x}->{x//¬Jn R x}:=λx=>⟨(u x.1 x.2).choose,(u x.1 x.2).choose_spec.2⟩;have U:∀x,R x.1 (F x).1:=λx=>(u x.1 x.2).choose_spec.1;let S:Nat->{x//¬Jn R x}:=λn=>Nat.rec ⟨i,Y⟩ (λ_ x=>F x) n;exact⟨λn=>(S n).1,rfl,λn=>⟨U (S n),(S n).2⟩⟩
 have sW:∀d a,qA R (s (a+d+1)) (d+1) (s a):=λd=>by
  induction d with
  |zero=>exactλa=>.one _ (s1 a).1
  |succ d ih=>
   intro a;have:=ih (a+1);rw[show a+1+d+1=a+(d+1)+1 from ω] at this;exact .more _ _ (s (a+1)) (s1 a).1 this
 have O:∀n,s n<N:=λn=>by
  cases n with
  |zero=>rw[V];exact hi
  |succ n=>exact hR _ _ (s1 n).1
 have nn:¬((List.range (N+1)).map λn=>(s n:Int)).Nodup:=λhn=>by
  have:=wY hn (m:=(List.range N).map λ(n:Nat)=>(n:Int)) λx Z=>by
   obtain⟨n,_,rfl⟩:=agY.1 Z;exact agY.2 ⟨s n,ahd.2 (O n),rfl⟩
  simp at this;omega
 obtain⟨a,b,a0,e⟩:∃a b,a<b/\s a=s b:=ahm λhno=>nn (by
  rw[ahF,ahP];intro i j hi hj J e;simp at e;exact hno ⟨i,j,J,ω⟩)
 refine hno (s a) (O a) ⟨b-a,?_⟩;have:=sW (b-a-1) a;rw[show a+(b-a-1)+1=b from ω,<-e,show b-a-1+1=b-a from ω] at this;exact this
end
structure Si(h:Hp)(k:Nat)(g:ah)(x:GA)(nn:List Bool)(row:List Int)(on or_ om:aiz)(cn rc nm cm:Nat):Prop where
 c:aq h (aM k) (x.cells++[vS on g.N cn,vS or_ row.length rc,vS om nm cm])
 gr:gR h g x
 n:aX h nn on g.N
 r:aX h row or_ row.length
structure Bv(g:ah)(row:List Int)(ms:List Int):Prop where
 l:ms.length=(g.N*(row.length+1))*(row.length+1)
 v:∀(i:Nat)(z:Int),ms[i]? =some z->z=0\/∃a f t,a<g.N/\f<=t/\t<=row.length/\i=(a*(row.length+1)+f)*(row.length+1)+t/\z=1+(cap (yT g row ((g.T+a:Nat):Int) f t):Int)
theorem Up{x y s t n:Nat}(hs:s<n)(ht:t<n)(h:x*n+s=y*n+t):x=y/\s=t:=by
 have u:(x*n+s)/n=x:=by rw[Nat.mul_comm,Nat.mul_add_div ω,Nat.div_eq_of_lt hs];omega
 have J:(y*n+t)/n=y:=by rw[Nat.mul_comm,Nat.mul_add_div ω,Nat.div_eq_of_lt ht];omega
 have:x=y:=by rw[<-u,<-J,h]
 subst this;omega
section
variable{g:ah}{nn:List Bool}{row rs ms:List Int}{s:Int}{f t a i e at_ nd:Nat}
theorem agc(ha:a<g.N)(hf:f<=row.length)(ht:t<=row.length):(a*(row.length+1)+f)*(row.length+1)+t<(g.N*(row.length+1))*(row.length+1):=by
 have u:a*(row.length+1)+f+1<=g.N*(row.length+1):=by
  have:=ahO (row.length+1) (show a+1<=g.N by omega);rw[Nat.add_mul] at this;omega
 have J:=ahO (row.length+1) u;rw[Nat.add_mul] at J;omega
theorem Bv.at(h:Bv g row ms)(ha:a<g.N)(hft:f<=t)(ht:t<=row.length){z:Int}(hz:ms[(a*(row.length+1)+f)*(row.length+1)+t]? =some z):z=0\/z=1+(cap (yT g row ((g.T+a:Nat):Int) f t):Int):=by
 rcases h.v _ _ hz with h|⟨V,Y,W,X,Z,U,u,J⟩
 ·exact .inl h
 obtain⟨O,rfl⟩:=Up ω ω u;obtain⟨rfl,rfl⟩:=Up ω ω O;exact .inr J
theorem Bv.put(h:Bv g row ms)(ha:a<g.N)(hft:f<=t)(ht:t<=row.length){z:Int}(hz:z=1+(cap (yT g row ((g.T+a:Nat):Int) f t):Int)):Bv g row (ms.set ((a*(row.length+1)+f)*(row.length+1)+t) z):=by
 refine⟨by rw[ahB];exact h.l,λi v u=>?_⟩;rw[ah8] at u
 split at u
 ·split at u
  ·cases u;exact .inr ⟨a,f,t,ha,hft,ht,ω,hz⟩
  ·cases u
 ·exact h.v i v u
theorem Bw(h:rs[i]? =some s):cM g.T nn (rs.drop i)=(if fV g.T nn s then 1 else 0)+cM g.T nn (rs.drop (i+1)):=by
 have hi:=(agN.1 h).1;rw[ahj hi];rw[agM hi] at h;cases h;unfold cM;rw[List.filter_cons]
 split<;>simp<;>omega
def Sj(nd t:Nat)(last:Prop)(e:Nat):Prop:=e+nd<=t/\(last->e=t)
structure WI(g:ah)(nn:List Bool)(row rs:List Int)(f t i:Nat)(ws:List Int):Prop where
 l:ws.length=row.length+1
 b:∀z∈ws,0<=z/\z<=2
 v:∀e,f<=e->e<=t->Sj (cM g.T nn (rs.drop i)) t (0<i/\i=rs.length) e->ws[e]? =some (cap (Jm g row (rs.take i) f e):Int)
structure NI(g:ah)(nn:List Bool)(row rs:List Int)(f t i:Nat)(s:Int)(at_ e0:Nat)(ns:List Int):Prop where
 l:ns.length=row.length+1
 b:∀z∈ns,0<=z/\z<=2
 v:∀e,f<=e->e<=t->Sj (cM g.T nn (rs.drop (i+1))) t (i+1=rs.length) e->ns[e]? =some (cap (VL g row (rs.take i) s f (if at_<=e/\e<e0 then at_+1 else at_) e):Int)
theorem LB{ns:List Int}{z:Int}(h:∀z∈ns,0<=z/\z<=2)(hz:0<=z/\z<=2)(k:Nat):∀y∈ns.set k z,0<=y/\y<=2:=λy u=>by
 rcases List.mem_or_eq_of_mem_set u with u|rfl
 ·exact h y u
 ·exact hz
theorem ZM(hft:f<=t)(ht:t<=row.length):WI g nn row rs f t 0 ((List.replicate (row.length+1) 0).set f 1):=by
 refine⟨σ,LB (λz J=>by rw[List.eq_of_mem_replicate J];omega) ω f,λe u O _=>?_⟩;rw[List.take_zero,ZK u,ah8]
 split
 ·rename_i he;rw[ag0 (by simp;omega)];rfl
 ·rename_i he;rw[aib,ag0 ω];rfl
theorem ZN(ht:t<=row.length):NI g nn row rs f t i s f f (List.replicate (row.length+1) 0):=by
 refine⟨σ,λz u=>by rw[List.eq_of_mem_replicate u];omega,λe J O _=>?_⟩;rw[agW ω,ZJ,aib,ag0 ω];rfl
theorem Uq(hn:lE g nn)(iG:Fi g){ws:List Int}(hW:WI g nn row rs f t i ws)(hs:rs[i]? =some s)(hfa:f<=at_)(hae:at_<=e)(het:e<=t)(hr:Sj (cM g.T nn (rs.drop (i+1))) t (i+1=rs.length) e){z:Int}(hz:ws[at_]? =some z):
  (cap (Jm g row (rs.take i) f at_):Int)*(cap (yT g row s at_ e):Int)=z*(cap (yT g row s at_ e):Int):=by
 have u:=Bw (g:=g) (nn:=nn) hs;have hi:=(agN.1 hs).1
 by_cases h:at_+cM g.T nn (rs.drop i)<=t
 ·have:=hW.v at_ hfa ω ⟨h,λh=>ω⟩;rw[hz] at this;rw[Option.some.inj this]
 ·obtain⟨J,_⟩:=hr
  by_cases hb:fV g.T nn s=true
  ·rw[ag0 hb] at u;have:e=at_:=ω
   subst this;rw[ZI hn iG hb];simp
  ·rw[agW hb] at u;omega
theorem acs(p q:Nat):((min (p+q) 2:Nat):Int)=if 2<(p:Int)+(q:Int) then 2 else(p:Int)+(q:Int):=by split<;>omega
theorem NI.step(hn:lE g nn)(iG:Fi g){ws ns:List Int}(hW:WI g nn row rs f t i ws)(hN:NI g nn row rs f t i s at_ e ns)(hs:rs[i]? =some s)(hfa:f<=at_)(hae:at_<=e)(het:e<=t)(hr:Sj (cM g.T nn (rs.drop (i+1))) t (i+1=rs.length) e){y z v:Int}(hy:ns[e]? =some y)(hz:ws[at_]? =some z)
  (hv:v=if 2<y+z*(cap (yT g row s at_ e):Int) then 2 else y+z*(cap (yT g row s at_ e):Int)):NI g nn row rs f t i s at_ (e+1) (ns.set e v):=by
 have h0:=hN.v e ω het hr;rw[agW ω,hy] at h0;have h0:=Option.some.inj h0;have U:=Uq hn iG hW hs hfa hae het hr hz;have u:=Qi (g:=g) (row:=row) (r:=rs.take i) (s:=s) hfa hae
 have J:v=(cap (VL g row (rs.take i) s f (at_+1) e):Int):=by
  rw[hv,u,acs,Int.natCast_mul,U,<-h0]
 have W:=kB (VL g row (rs.take i) s f (at_+1) e);refine⟨by rw[ahB];exact hN.l,LB hN.b ω e,λe' V X O=>?_⟩;rw[ah8]
 split
 ·rename_i he;subst he;rw[ag0 (agN.1 hy).1,ag0 ω,J]
 ·rename_i he;have:=hN.v e' V X O;rw[this]
  by_cases hc:at_<=e'/\e'<e
  ·rw[ag0 hc,ag0 ω]
  ·rw[agW hc,agW ω]
theorem NI.skip{ns:List Int}(hN:NI g nn row rs f t i s at_ e ns)(h:¬Sj (cM g.T nn (rs.drop (i+1))) t (i+1=rs.length) e):NI g nn row rs f t i s at_ (e+1) ns:=by
 refine⟨hN.l,hN.b,λe' J O u=>?_⟩;rw[hN.v e' J O u];have:e'≠e:=λq=>h (q▸u)
 by_cases hc:at_<=e'/\e'<e
 ·rw[ag0 hc,ag0 ω]
 ·rw[agW hc,agW ω]
theorem NI.next{ns:List Int}{e0:Nat}(hN:NI g nn row rs f t i s at_ e0 ns)(h:∀e,Sj (cM g.T nn (rs.drop (i+1))) t (i+1=rs.length) e->e<e0):NI g nn row rs f t i s (at_+1) (at_+1) ns:=by
 refine⟨hN.l,hN.b,λe' O U u=>?_⟩;have J:¬(at_+1<=e'/\e'<at_+1):=ω
 rw[hN.v e' O U u,agW J]
 by_cases hc:at_<=e'
 ·rw[ag0 ⟨hc,h e' u⟩]
 ·rw[agW ω,Qj ω]
theorem NI.none(hn:lE g nn)(iG:Fi g){ws ns:List Int}(hW:WI g nn row rs f t i ws)(hN:NI g nn row rs f t i s at_ at_ ns)(hs:rs[i]? =some s)(hfa:f<=at_)(hz:ws[at_]? =some 0):NI g nn row rs f t i s (at_+1) (at_+1) ns:=by
 refine⟨hN.l,hN.b,λe' X O J=>?_⟩;have U:¬(at_+1<=e'/\e'<at_+1):=ω
 have V:¬(at_<=e'/\e'<at_):=ω
 rw[hN.v e' X O J,agW U,agW V]
 by_cases hc:at_<=e'
 ·have W:=Uq hn iG hW hs hfa hc O J hz;have u:=Qi (g:=g) (row:=row) (r:=rs.take i) (s:=s) hfa hc;have:=kB (VL g row (rs.take i) s f at_ e')
  have h0:cap (Jm g row (rs.take i) f at_)*cap (yT g row s at_ e')=0:=by
   have:((cap (Jm g row (rs.take i) f at_)*cap (yT g row s at_ e'):Nat):Int)=0:=by rw[Int.natCast_mul,W];simp
   omega
  rw[u,h0];congr 2;omega
 ·rw[Qj ω]
theorem NI.all{ns:List Int}{e0:Nat}(hN:NI g nn row rs f t i s (t+1) e0 ns)(hs:rs[i]? =some s):WI g nn row rs f t (i+1) ns:=by
 refine⟨hN.l,hN.b,λe J O u=>?_⟩;rw[hN.v e J O ⟨u.1,λh=>u.2 ⟨ω,h⟩⟩,agW ω,acr J ω,agR,hs];rfl
end
end
section
variable{w:aiA}{L:List aE}{g:ah}{x:GA}{nn:List Bool}{row rs:List Int}{on or_ om o:aiz}{k cn rc nm cm l c f t a:Nat}{s:Int}
theorem ae4(hR:Si (hp w) k g x nn row on or_ om cn rc nm cm)(hnn:nn.length=g.N)(hs:SyP g rs)(hr:aX (hp w) rs o l)(hb:l<=17592186043904)(hT:g.T<=65)(hN:g.N<=65):
  ρ 122 [vP (some (aM k)),vS o l c] w λv w'=>v=iI (cM g.T nn rs)/\Gr w w':=by
 refine qE ⟨λn i u=>∃j:Nat,i=j/\j<=l/\n=(cM g.T nn (rs.take j):Int)/\Gr w u,λ_ i _=>l-i.toNat,⟨0,rfl,agP _,rfl,Gr.refl _⟩,?_⟩;rintro _ _ _ w1⟨j,rfl,hj,rfl,g1⟩;have a6:=hr.1;have a4:=Di g.T nn (rs.take j);have tl:g.T=x.tl:=hR.gr.t.1;rw[ahl] at a4
 refine ae (λJ=>?_) λJ=>?_
 ·have J:j<l:=by simp_all
  obtain⟨s,ad,U,X,V⟩:=hr.dQ J;have a8:=hs s (agL U);have O:cM g.T nn (rs.take (j+1))=cM g.T nn (rs.take j)+if fV g.T nn s then 1 else 0:=by rw[b_ U,Br]
  have nx:∀{u:aiA}{z:Int},z=(cM g.T nn (rs.take (j+1)):Int)->Gr w u->∃j':Nat,(j:Int)+1=j'/\j'<=l/\z=(cM g.T nn (rs.take j'):Int)/\Gr w u:=λe q=>⟨j+1,σ,J,e,q⟩;intro w2 hd;have g2:=g1.trans (Gr.drawn hd);refine⟨λu=>Gr w u,g2,ax X J ⟨s,λu q=>V u q,?_⟩⟩
  refine⟨_,_,_,λu q=>hR.c.cell0 q,ae (λW=>?_) λW=>?_⟩
  ·have W:=agQ W;have hB:fV g.T nn s=true:=by simp[fV];omega
   exact⟨ξ,ξ,nx (by rw[O,ag0 hB];simp) g2,bR J⟩
  ·have W:=agO W;have eu:s-(x.tl:Int)=((s.toNat-g.T:Nat):Int):=ω
   obtain⟨b,a7,Z,a0,a5⟩:=hR.n.dQ (i:=s.toNat-g.T) ω;refine⟨_,_,_,λu q=>hR.c.cell q (j:=5) rfl,ax X J ⟨s,λu q=>V u q,_,_,_,λu q=>hR.c.cell0 q,ξ,?_⟩⟩;rw[eu]
   have hB:fV g.T nn s= !b:=by
    unfold fV;rw[ahf ω,qM Z];simp
   refine ax a0 ω ⟨b,λu q=>a5 u q,ae (λY=>?_) λY=>?_⟩
   ·exact⟨ξ,ξ,nx (by rw[O,ag0 (by rw[hB];exact Y)];simp) g2,bR J⟩
   ·exact⟨ξ,nx (by rw[O,agW (by rw[hB,Y];simp)];simp) g2,bR J⟩
 ·have J:j=l:=by grind
  subst J;rw[ag4 ω];exact⟨rfl,g1⟩
def VM(k:Nat)(g:ah)(x:GA)(nn:List Bool)(row:List Int)(on or_ om:aiz)(cn rc nm cm:Nat)(s:Int)(f t:Nat):Prop:=
 ∀(w:aiA)(L:List aE)(ms:List Int),Bv g row ms->St w (own 1 om nm cm (iv ms)::L)->(∀h,aF L h->Si h k g x nn row on or_ om cn rc nm cm)->
  ρ eJ [vP (some (aM k)),iI s,iI (f:Int),iI (t:Int)] w λv w'=>v=iI (cap (yT g row s f t):Int)/\∃ms',Bv g row ms'/\St w' (own 1 om nm cm (iv ms')::L)
theorem ae5(hc:aw g)(h0:0<=s)(hT:s<(g.T:Int))(hft:f<=t)(ht:t<=row.length)(hrow:row.length<=10):VM k g x nn row on or_ om cn rc nm cm s f t:=by
 intro w L ms hM h hL;have V:Si (hp w) k g x nn row on or_ om cn rc nm cm:=hL _ (aj h.l);have tl:g.T=x.tl:=V.gr.t.1;have W:=ae2 hc h0 hT hft ht
 refine gP ⟨_,_,_,V.c.cell0 sZZ,fM (by simp;omega) ⟨λu=>u=w/\¬(t=f+1/\row[f]? =some s),⟨ξ,ae (λO=>?_) λO=>⟨rfl,λq=>?_⟩⟩,?_⟩⟩
 ·have O:t=f+1:=by simp at O;omega
  obtain⟨y,ad,U,Z,X⟩:=V.r.dQ (i:=f) ω
  refine⟨_,_,_,V.c.cell sZZ (j:=6) rfl,ax Z ω ⟨y,X w sZZ,ae (λJ=>?_) λJ=>⟨rfl,λq=>?_⟩⟩⟩
  ·have J:y=s:=by simpa using J
   subst J;rw[ag0 ⟨O,U⟩] at W;exact⟨by rw[W];rfl,ms,hM,h⟩
  ·have J:y≠s:=by simpa using J
   rw[U] at q;exact J (Option.some.inj q.2)
 ·simp at O;omega
 ·rintro _ _⟨rfl,Y⟩;rw[agW Y] at W;exact⟨by rw[W];rfl,ms,hM,h⟩
end
section
variable{w:aiA}{L:List aE}{g:ah}{x:GA}{nn:List Bool}{row rs:List Int}{on or_ om o:aiz}{k cn rc nm cm l c f t a:Nat}{s:Int}
theorem ae6(hn:lE g nn)(iG:Fi g)(hT:g.T<=65)(hN:g.N<=65)(hrow:row.length<=10)(hs:SyP g rs)(hr:∀h,aF L h->aX h rs o l)(hlc:l<=c)(hb:l<=17592186043904)(hft:f<=t)(ht:t<=row.length)
  (hS:∀(i:Nat)(s:Int)(at_ e:Nat),rs[i]? =some s->f<=at_->at_<=e->e<=t->(at_=f/\e=t->cM g.T nn (rs.drop (i+1))=0/\((∃l,Jm g row (rs.take i) f f l)\/(fV g.T nn s=true/\f=t)))->VM k g x nn row on or_ om cn rc nm cm s at_ e)
  {ms:List Int} (hM:Bv g row ms) (h:St w (own 1 om nm cm (iv ms)::L)) (hL:∀h,aF L h->Si h k g x nn row on or_ om cn rc nm cm):
  ρ 54 [vP (some (aM k)),vS o l c,iI (f:Int),iI (t:Int)] w λv w'=>v=iI (cap (Jm g row rs f t):Int)/\∃ms',Bv g row ms'/\St w' (own 1 om nm cm (iv ms')::L):=by
 have am:Si (hp w) k g x nn row on or_ om cn rc nm cm:=hL _ (aj h.l);have bc:rs.length=l:=(hr _ (aj h.l)).1;have eN:Int.toNat ((row.length:Int)+1)=row.length+1:=rfl;refine qC ⟨_,_,_,am.c.cell sZZ (j:=6) rfl,ξ,⟨ω,rfl,ω⟩,?_⟩;rw[cZ,eN];refine ag h λk3 w1 h=>ax rfl ω ?_;rw[ak];refine aR h (by simp;omega) λw2 h=>?_;have e0:(List.replicate (row.length+1) (iI 0)).set f (iI 1)=iv ((List.replicate (row.length+1) 0).set f 1):=by simp[iv]
 rw[e0] at h;refine⟨λo' k4 k5 z u=>∃(i kk:Nat)(ws ms:List Int),z=i/\i<=l/\o'=some (aM kk)/\k4=row.length+1/\WI g nn row rs f t i ws/\Bv g row ms/\St u (az kk (iv ws)::own 1 om nm cm (iv ms)::L),λ_ _ _ z _=>l-z.toNat,⟨0,k3,_,ms,rfl,agP _,rfl,rfl,ZM hft ht,hM,h⟩,?_⟩;clear h hM am;rintro _ _ _ _ _ w3⟨i,kk,ws,ms,rfl,hi,rfl,rfl,hW,hM,h⟩;have c6:=hW.l;refine ae (λh1=>?_) λh1=>?_
 rotate_left
 ·have h1:i=l:=by have:=agO h1;omega
  subst h1;have hv:=hW.v t hft (agT _) ⟨by rw[List.drop_eq_nil_of_le ω];simp[cM],λ_=>rfl⟩;rw[ag4 ω] at hv;refine ax rfl ω ⟨_,(by rw[ak,h.cell];simp[iv,hv]:World.cell? w3 _=_),rfl,ms,hM,h.tail⟩
 have h1:i<l:=by have:=agQ h1;omega
 obtain⟨s,J⟩:∃s,rs[i]? =some s:=⟨_,agM ω⟩;have a7:Si (hp w3) k g x nn row on or_ om cn rc nm cm:=hL _ (aj (aj h.l));have b5:aX (hp w3) rs o l:=hr _ (aj (aj h.l));refine⟨_,_,_,a7.c.cell sZZ (j:=6) rfl,ξ,⟨ω,rfl,ω⟩,?_⟩;rw[cZ,eN];refine ag h λk8 w4 h=>⟨ξ,dy (lo:=i+1) ω hlc ?_⟩;have a8:Si (hp w4) k g x nn row on or_ om cn rc nm cm:=hL _ (aj (aj (aj h.l)));have al:aX (hp w4) rs o l:=hr _ (aj (aj (aj h.l)));refine(ae4 (rs:=rs.drop (i+1)) a8 hn.1 (λs b6=>hs s (List.mem_of_mem_drop b6)) (al.drop (m:=c) ω hlc) ω hT hN).mono ?_;clear a7 b5 a8 al;rintro _ w5⟨rfl,g5⟩;have h:=h.gr g5;have e1:List.replicate (row.length+1) (iI 0)=iv (List.replicate (row.length+1) 0):=by simp[iv]
 rw[e1] at h;refine⟨_,rfl,λz u=>∃(q:Nat)(ns ms:List Int),z=q/\f<=q/\q<=t+1/\NI g nn row rs f t i s q q ns/\Bv g row ms/\St u (az k8 (iv ns)::az kk (iv ws)::own 1 om nm cm (iv ms)::L),λz _=>t+1-z.toNat,⟨f,_,ms,rfl,agT _,ω,ZN ht,hM,h⟩,?_⟩;clear h hM;generalize hnd:cM g.T nn (rs.drop (i+1))=nd at*
 have b7:nd<=l:=by
  have:=Di g.T nn (rs.drop (i+1));rw[ahZ] at this;omega
 rintro _ _ w6⟨q,ns,ms,rfl,V,bT,X,hM,h⟩;refine ae (λh2=>?_) λh2=>?_
 rotate_left
 ·have h2:q=t+1:=by have:=agO h2;omega
  subst h2;exact⟨ξ,⟨i+1,k8,ns,ms,σ,ω,rfl,rfl,X.all J,hM,h.pick 3 [0,2]⟩,bR h1⟩
 have h2:q<=t:=by have:=agQ h2;omega
 obtain⟨z,hz⟩:∃z,ws[q]? =some z:=⟨_,agM ω⟩;have bb:=hW.b z (agL hz);have cW:∀{u:aiA}{ns:List Int}{M:List aE},St u (az k8 (iv ns)::az kk (iv ws)::M)->u.cell? ((aM kk).add q)=some (iI z):=λh=>by rw[ak,h.tail.cell];simp[iv,hz]
 refine ax rfl ω ⟨z,cW h,ae (λh3=>?_) λh3=>?_⟩
 ·have h3:z=0:=by simpa using h3
  subst h3;exact⟨ξ,⟨q+1,ns,ms,σ,ω,ω,NI.none hn iG hW X J V hz,hM,h⟩,bR ω⟩
 have h3:z≠0:=by simpa using h3
 refine⟨λy u=>∃(e:Nat)(ns ms:List Int),y=e/\q<=e/\NI g nn row rs f t i s q e ns/\Bv g row ms/\St u (az k8 (iv ns)::az kk (iv ws)::own 1 om nm cm (iv ms)::L),λy _=>t+1-y.toNat,⟨q,ns,ms,rfl,agT _,X,hM,h⟩,?_⟩;clear h hM X;rintro _ _ w7⟨e,ns,ms,rfl,W,O,hM,h⟩;have c7:=O.l;refine⟨ξ,ae (λh4=>?_) λh4=>?_⟩
 rotate_left
 ·have h4:=agO h4;exact⟨ξ,⟨q+1,ns,ms,σ,ω,ω,O.next λe' a9=>by rw[hnd] at a9;have:=a9.1;omega,hM,h⟩,bR ω⟩
 have h4:e+nd<=t:=by have:=agQ h4;omega
 refine⟨λu=>u=w7/\(i+1=l->e=t),⟨ξ,ae (λh5=>ae (λh6=>?_) λh6=>?_) λh5=>?_⟩,?_⟩
 ·have h6:e<t:=by have:=agQ h6;omega
  have h5:i+1=l:=by simp at h5;omega
  exact⟨ξ,⟨e+1,ns,ms,σ,ω,O.skip λY=>by have:=Y.2 ω;omega,hM,h⟩,bR ω⟩
 ·exact⟨rfl,λ_=>by have:=agO h6;omega⟩
 ·exact⟨rfl,λY=>by simp at h5;omega⟩
 rintro _ _⟨rfl,a4⟩ w9 hd;have Z:Sj (cM g.T nn (rs.drop (i+1))) t (i+1=rs.length) e:=⟨by rw[hnd];exact h4,λY=>a4 ω⟩;have h:=h.drawn hd;obtain⟨y,hy⟩:∃y,ns[e]? =some y:=⟨_,agM ω⟩;have c5:=O.b y (agL hy);have cN:∀{u:aiA}{M:List aE},St u (az k8 (iv ns)::M)->u.cell? ((aM k8).add e)=some (iI y):=λh=>by rw[ak,h.cell];simp[iv,hy]
 obtain⟨ad,aa,bl⟩:=(hr _ (aj (aj (aj h.l)))).at J
 have b3:∀{u:aiA}{M:List aE},St u M->(∀h,aF M h->aF L h)->u.cell? (ad.add i)=some (iI s):=λ{u M} h Y=>by
  obtain⟨c8,a0,av⟩:=(hr _ (Y _ h.l)).at J;rw[aa] at a0;cases a0;exact av u sZZ
 have a6:VM k g x nn row on or_ om cn rc nm cm s q e:=hS i s q e J V W ω λ⟨b2,b4⟩=>by
  subst b2;subst b4;have hd:=Bw (g:=g) (nn:=nn) J;rw[hnd] at hd ⊢;refine⟨ω,?_⟩
  by_cases hc:q+cM g.T nn (rs.drop i)<=e
  ·have hv:=hW.v q (agT _) W ⟨hc,λh=>ω⟩;rw[hz] at hv;have hv:=Option.some.inj hv;exact .inl (iP.1 ω)
  ·by_cases hB:fV g.T nn s=true
   ·rw[ag0 hB] at hd;exact .inr ⟨hB,ω⟩
   ·rw[agW hB] at hd;omega
 refine⟨λu=>∃ms,Bv g row ms/\St u (az k8 (iv ns)::az kk (iv ws)::own 1 om nm cm (iv ms)::L),⟨ms,hM,h⟩,ax rfl ω ⟨y,λu ⟨_,_,h⟩=>cN h,ax rfl ω ⟨z,λu ⟨_,_,h⟩=>cW h,ax aa h1 ⟨s,λu ⟨_,_,h⟩=>b3 h λh Y=>aj (aj (aj Y)),(a6 w9 _ ms hM (h.pick 3 [2,0,1]) λh Y=>hL h (aj (aj Y))).mono ?_⟩⟩⟩⟩;clear h hM;rintro _ be⟨rfl,ms',hM,h⟩;have h:=h.pick 3 [1,2,0];have ba:=kB (yT g row s q e);obtain⟨U,a5⟩:∃U,U=cap (yT g row s q e):=⟨_,rfl⟩
 have bi:0<=z*(U:Int)/\z*(U:Int)<=4:=by
  have:U=0\/U=1\/U=2:=ω
  rcases this with e|e|e<;>rw[e]<;>omega
 rw[<-a5];refine⟨_,rfl,⟨ms',hM,h⟩,ξ,ξ,ax rfl ω ?_⟩;rw[ak];refine aR h (by rw[cf];omega) λbP h=>ax rfl ω ?_;have e2:∀v:Int,(iv ns).set e (iI v)=iv (ns.set e v):=λv=>by simp[iv]
 rw[e2] at h
 have b1:(iv (ns.set e (y+z*(U:Int))))[e]? =some (iI (y+z*(U:Int))):=by
  unfold iv;rw[agS,aik ω];rfl
 refine⟨_,(by rw[ak,h.cell];exact b1:World.cell? bP _=_),ae (λh7=>ax rfl ω ?_) λh7=>?_⟩
 ·have h7:=agQ h7;rw[ak];refine aR h (by rw[cf,ahB];omega) λbz h=>⟨ξ,⟨e+1,ns.set e 2,ms',σ,ω,O.step hn iG hW J V W ω Z hy hz (by rw[<-a5];exact(ag0 h7).symm),hM,?_⟩,bR ω⟩;have e3:(iv (ns.set e (y+z*(U:Int)))).set e (iI 2)=iv (ns.set e 2):=by simp[iv]
  rw[e3] at h;exact h
 ·have h7:=agO h7;exact⟨ξ,⟨e+1,ns.set e (y+z*(U:Int)),ms',σ,ω,O.step hn iG hW J V W ω Z hy hz (by rw[<-a5];exact(agW h7).symm),hM,h⟩,bR ω⟩
end
section
variable{g:ah}{nn:List Bool}{row:List Int}{r:List Int}
theorem VN(T:Nat)(nn:List Bool)(a b:List Int):cM T nn (a++b)=cM T nn a+cM T nn b:=by simp[cM]
theorem VO(hn:lE g nn)(iG:Fi g)(h:MT g r):cM g.T nn r=0:=by
 unfold cM;rw[List.length_eq_zero_iff,ah7];intro s u;have:=(hn.van iG).2 h s u;unfold fV;rw[ahf ω,this.2];simp
end
section
variable{w:aiA}{L:List aE}{g:ah}{x:GA}{nn:List Bool}{row rs:List Int}{on or_ om o:aiz}{k cn rc nm cm l c:Nat}{s:Int}
theorem ZO(hc:aw g)(hn:lE g nn)(iG:Fi g)(hb:lq g)(hT:g.T<=65)(hN:g.N<=65)(hPl:g.prods.length<=97)(hrow:row.length<=10){a f t:Nat}(ha:a<g.N)(hft:f<=t)(ht:t<=row.length)
  (hrec:¬(f=t/\fV g.T nn ((g.T+a:Nat):Int)=true)->∀(j:Nat)(p:aJ)(i:Nat)(s:Int)(at_ e:Nat),g.prods[j]? =some p->p.left=((g.T+a:Nat):Int)->p.right[i]? =some s->f<=at_->at_<=e->e<=t->(at_=f/\e=t->cM g.T nn (p.right.drop (i+1))=0/\((∃l,Jm g row (p.right.take i) f f l)\/(fV g.T nn s=true/\f=t)))->VM k g x nn row on or_ om cn rc nm cm s at_ e):
  VM k g x nn row on or_ om cn rc nm cm ((g.T+a:Nat):Int) f t:=by
 intro w L ms U h hL;obtain⟨H,Z,s0,h⟩:=h.freeze;have J:=hL H Z;clear hL;have O:∀{u:aiA}{A:aE},St u [A,has H]->sub H (hp u):=λh=>aC 1 h.l;have tl:g.T=x.tl:=J.gr.t.1;have pl:g.prods.length=x.pl:=J.gr.p.1;have a9:∀{u:aiA}{ms:List Int},St u [own 1 om nm cm (iv ms),has H]->ms.length=nm:=λh=>by have:=fk h;rw[cf] at this;omega
 have eu:((g.T+a:Nat):Int)-(x.tl:Int)=((a:Nat):Int):=ω
 refine gP ⟨_,_,_,J.c.cell0 (O h),bB (by simp;omega) ⟨λu=>St u [own 1 om nm cm (iv ms),has H]/\¬(f=t/\fV g.T nn ((g.T+a:Nat):Int)=true),λw2 b3=>?_,?_⟩⟩
 ·have h2:=h.drawn b3
  refine⟨λu=>sub H (hp u),O h2,ae (λh1=>?_) λh1=>⟨h2,λe=>?_⟩⟩
  ·have h1:f=t:=by simp at h1;omega
   refine⟨_,_,_,λu q=>J.c.cell q (j:=5) rfl,_,_,_,λu q=>J.c.cell0 q,ξ,?_⟩;rw[eu];obtain⟨b,bP,b7,b5,bb⟩:=J.n.dQ (i:=a) ha
   have hB:fV g.T nn ((g.T+a:Nat):Int)= !b:=by
    unfold fV;rw[ahf ω,show((g.T+a:Nat):Int).toNat-g.T=a by omega,qM b7];simp
   refine ax b5 ha ⟨b,λu q=>bb u q,ae (λh3=>?_) λh3=>⟨h2,λe=>?_⟩⟩
   ·subst h1;exact⟨by rw[ZI hn iG (by rw[hB];exact h3)];rfl,ms,U,h2.eM Z⟩
   ·rw[hB,h3] at e;simp at e
  ·simp at h1;omega
 rintro _ w6⟨h,ba⟩;have hrec:=hrec ba;have b1:a*(row.length+1)<=65*11:=ah6 ω ω;have b2:(a*(row.length+1)+f)*(row.length+1)<=800*11:=ah6 ω ω;have e1:((a:Nat):Int)*((row.length:Int)+1)=((a*(row.length+1):Nat):Int):=σ
 have e2:((a*(row.length+1):Nat):Int)+(f:Int)=((a*(row.length+1)+f:Nat):Int):=σ
 have e3:((a*(row.length+1)+f:Nat):Int)*((row.length:Int)+1)=(((a*(row.length+1)+f)*(row.length+1):Nat):Int):=σ
 have e4:(((a*(row.length+1)+f)*(row.length+1):Nat):Int)+(t:Int)=(((a*(row.length+1)+f)*(row.length+1)+t:Nat):Int):=σ
 refine⟨_,_,_,J.c.cell (O h) (j:=6) rfl,ξ,_,_,_,J.c.cell0 (O h),?_⟩;try dsimp only;rw[eu,e1,e2,e3,e4];have a7:=agc (row:=row) ha (by omega:f<=row.length) ht;refine⟨ξ,ξ,ξ,ξ,ξ,_,_,_,J.c.cell (O h) (j:=7) rfl,?_⟩;obtain⟨ix,V⟩:∃ix,ix=(a*(row.length+1)+f)*(row.length+1)+t:=⟨_,rfl⟩;rw[<-V] at a7 ⊢;obtain⟨z,hz⟩:∃z,ms[ix]? =some z:=⟨_,agM (by rw[U.l];exact a7)⟩;obtain⟨ad,Y,W⟩:=(iDZ h).at hz;have a8:ix<nm:=by rw[<-a9 h,U.l];exact a7
 refine ax Y a8 ⟨z,W w6 sZZ,ae (λh4=>?_) λh4=>?_⟩
 ·have h4:=agQ h4;rw[V] at hz;have hv:z=1+(cap (yT g row ((g.T+a:Nat):Int) f t):Int):=by rcases U.at ha hft ht hz with e|e<;>omega
  have:=kB (yT g row ((g.T+a:Nat):Int) f t);refine⟨_,_,_,J.c.cell (O h) (j:=7) rfl,ax Y a8 ⟨z,W w6 sZZ,ξ,?_,ms,U,h.eM Z⟩⟩;rw[show z-1=(cap (yT g row ((g.T+a:Nat):Int) f t):Int) by omega]
 clear W hz h4;refine⟨λy j' u=>∃(q j:Nat)(ms:List Int),y=q/\j'=j/\j<=g.prods.length/\q<=3/\min q 2=cap (Z9 g row ((g.T+a:Nat):Int) f t j)/\Bv g row ms/\St u [own 1 om nm cm (iv ms),has H],λ_ j _=>g.prods.length-j.toNat,⟨0,0,ms,rfl,rfl,agP _,ω,by rw[ZG];rfl,U,h⟩,?_⟩;clear h U;rintro _ _ _ w7⟨q,j,ms,rfl,rfl,hj,b6,a5,U,h⟩
 --the end
 have fin:∀{v:Int},v=(cap (yT g row ((g.T+a:Nat):Int) f t):Int)->idx om nm (ix:Int) 1 λa'=>st1 w7 a' (iI (v+1)) λw'=>(iI v:Value)=iI (cap (yT g row ((g.T+a:Nat):Int) f t):Int)/\∃a0,Bv g row a0/\St w' (own 1 om nm cm (iv a0)::L):=λ{v} hv=>by
  have bT:=a9 h
  refine ax Y a8 (fX h Y (by rw[cf];omega) λw' h=>⟨by rw[hv],ms.set ix (v+1),?_,?_⟩)
  ·rw[V];exact U.put ha hft ht ω
  ·have e:(iv ms).set ix (iI (v+1))=iv (ms.set ix (v+1)):=by simp[iv]
   rw[e] at h;exact h.eM Z
 have be:=acq (g:=g) (row:=row) (s:=((g.T+a:Nat):Int)) (f:=f) (t:=t) ω;have bi:=kB (yT g row ((g.T+a:Nat):Int) f t);refine⟨_,_,_,J.c.cell (O h) (j:=4) rfl,ae (λh5=>ae (λh6=>?_) λh6=>?_) λh5=>?_⟩
 rotate_left
 ·have h6:=agO h6;have hm:=ae3 (g:=g) (row:=row) (s:=((g.T+a:Nat):Int)) (f:=f) (t:=t) hj;exact ae (λX=>⟨_,_,_,J.c.cell (O h) (j:=7) rfl,ξ,fin ω⟩) λX=>⟨_,_,_,J.c.cell (O h) (j:=7) rfl,ξ,fin (by have X:=agO X;omega)⟩
 ·have h5:=agO h5;have:j=g.prods.length:=ω
  rw[this] at a5;exact ae (λX=>⟨_,_,_,J.c.cell (O h) (j:=7) rfl,ξ,fin (by have X:=agQ X;omega)⟩) λX=>⟨_,_,_,J.c.cell (O h) (j:=7) rfl,ξ,fin (by have X:=agO X;omega)⟩
 have h5:j<g.prods.length:=by have:=agQ h5;omega
 have h6:q<2:=by have:=agQ h6;omega
 obtain⟨p,ap,vs,a6,am,al,ra,rl,bl,rfl,b4,av⟩:=J.gr.p.get (i:=j) ω;have a4:=ZH (g:=g) (row:=row) (s:=((g.T+a:Nat):Int)) (f:=f) (t:=t) a6;have aa:=agL a6
 refine⟨_,_,_,J.c.cell (O h) (j:=4) rfl,aO am ω ⟨_,al.cell0 (O h),ae (λh7=>?_) λh7=>?_⟩⟩
 ·have h7:p.left=((g.T+a:Nat):Int):=by simpa using h7
  rw[ag0 h7] at a4;refine⟨_,_,_,J.c.cell (O h) (j:=4) rfl,aO am ω ⟨_,_,_,al.cell (O h) (j:=1) rfl,?_⟩⟩;have bc:=hb.2.2.2.2.2.2 p aa;have bz:=av.1
  refine(ae6 hn iG hT hN hrow (λs hs=>(iG p aa).2 s hs) (λh hh=>av.mono (aC 0 hh)) b4 ω hft ht (λi s at_ e hs h1 h2 h3 h4=>hrec j p i s at_ e a6 h7 hs h1 h2 h3 h4) U h (λh hh=>?_)).mono ?_
  ·have s':sub H h:=aC 0 hh;exact⟨J.c.mono s',J.gr.mono s',J.n.mono s',J.r.mono s'⟩
  rintro _ w8⟨rfl,a0,U,h⟩;have W:=kB (Jm g row p.right f t);exact⟨_,rfl,ξ,ξ,⟨q+cap (Jm g row p.right f t),j+1,a0,σ,σ,ω,ω,by rw[a4];omega,U,h⟩,bR h5⟩
 ·have h7:p.left≠((g.T+a:Nat):Int):=by simpa using h7
  rw[agW h7] at a4;exact⟨ξ,⟨q,j+1,ms,rfl,σ,ω,b6,by rw[a4];exact a5,U,h⟩,bR h5⟩
theorem ae7(hc:aw g)(hn:lE g nn)(iG:Fi g)(hb:lq g)(hT:g.T<=65)(hN:g.N<=65)(hPl:g.prods.length<=97)(hrow:row.length<=10)(hdead:∀a,a<g.N->Jn (VG g) a):
  ∀(d a:Nat),a<g.N->∀(f t:Nat),f<=t->t<=row.length->t-f=d->VM k g x nn row on or_ om cn rc nm cm ((g.T+a:Nat):Int) f t:=by
 intro d
 induction d using Nat.strongRecOn with
 |_ d ih=>
 intro a ha;have hD:=hdead a ha;revert ha
 induction hD with
 |mk a hk ih2=>
 intro ha f t a0 ht hd;refine ZO hc hn iG hb hT hN hPl hrow ha a0 ht λa4 j p i s at_ e hp Y hs a5 J a6 u=>?_;have W:=agL hp;have V:=agL hs;have Z:=(iG p W).2 s V
 by_cases X:s<(g.T:Int)
 ·exact ae5 hc Z.1 X J ω hrow
 obtain⟨b,rfl⟩:∃b:Nat,s=((g.T+b:Nat):Int):=⟨(s-g.T).toNat,ω⟩;have O:b<g.N:=ω
 by_cases hq:at_=f/\e=t
 ·obtain⟨rfl,rfl⟩:=hq
  obtain⟨hz,⟨l,hl⟩|⟨hB,he⟩⟩:=u ⟨rfl,rfl⟩
  ·have U:VG g a b:=by
    refine(Ua hn).2 ⟨p,W,Y,V,?_⟩;have h1:cM g.T nn (p.right.take i)=0:=VO hn iG (Dv.nul hl Jl);have h2:=Bw (g:=g) (nn:=nn) hs;have h3:cM g.T nn p.right=cM g.T nn (p.right.take i)+cM g.T nn (p.right.drop i):=by rw[<-VN,aha]
    unfold Ly
    by_cases hB:fV g.T nn ((g.T+b:Nat):Int)=true
    ·rw[ag0 hB] at h2;exact .inr ⟨ω,hB⟩
    ·rw[agW hB] at h2;exact .inl ω
   exact ih2 b U O at_ e J ht hd
  ·subst he;exact ZO hc hn iG hb hT hN hPl hrow O (agT _) ht λh=>absurd ⟨rfl,hB⟩ h
 ·exact ih (e-at_) ω b O at_ e J ω rfl
end
def Sk(g:ah)(ss:List SQ)(A':Int->Int->aD)(G':Int->Int->Int)(G:Nat->Int->Nat)(ns:List Nat)(v:Value)(HF:Hp):Prop:=
 ∃(vd at_ rt e:Int)(oe:aiz)(le ce:Nat)(os:aiz)(ls cs:Nat)(on:aiz)(ln cn:Nat)(om:aiz)(lm cm:Nat),v=.tuple #[.agg #[iI vd,iI at_,vS oe le ce,vS os ls cs,vS on ln cn,iI rt,vS om lm cm],iI e]/\
  (e=15\/(e=0/\((vd=2/\∃i y,Bu g A' G' G 0 (ns++[0]) cE.new=some (false,i,y))\/
   (vd=1/\∃i y,Bu g A' G' G 0 (ns++[0]) cE.new=some (true,i,y)/\mH g ss y/\Qh y/\y.mv.length<=1000000/\aX HF y.nd on ln/\rt=(y.nd.length:Int)-1))))
section
variable{w:aiA}{L M:List aE}{k r s a b:Nat}{y:cE}{g:ah}{ss:List SQ}{A:Nat->Int->aD}{G:Nat->Int->Nat}{H:Hp}{x:GA}{oA oG:GN}{xp:PA}{sy:Kl}{As:List (List aD)}{Gs:List (List Int)}{Cs:List cP}{p:dB}{t:Nat}
abbrev zO:List Value:=[iI 0,iI 0,zS,zS,zS,iI 0,zS]
section
variable{a b c d:aiz}{i j k l m n o p q:Nat}{A B C D:Int}{w:aiA}{R:Value->WP}
theorem Dk{us:List Value}(h:St w (az i us::M))(hu:us.length=7)
  (hR:∀u,St u (az i [iI A,iI B,vS a j n,vS b k o,vS c l p,iI C,vS d m q]::M)->R (vT (Array.mk [vA (Array.mk [iI A,iI B,vS a j n,vS b k o,vS c l p,iI C,vS d m q]),iI D])) u):
  bA w (aM i) [iI A,iI B,vS a j n,vS b k o,vS c l p,iI C,vS d m q] λw24=>∃n14 n15 o25 k41 k42 o26 k43 k44 o27 k45 k46 n16 o28 k47 k48,rowAt w24 (aM i) 0 7=some [iI n14,iI n15,vS o25 k41 k42,vS o26 k43 k44,vS o27 k45 k46,iI n16,vS o28 k47 k48]/\R (vT (Array.mk [vA (Array.mk [iI n14,iI n15,vS o25 k41 k42,vS o26 k43 k44,vS o27 k45 k46,iI n16,vS o28 k47 k48]),iI D])) w24:=
 aL h (by rw[hu];rfl) (by simp[aK]) λu h=>⟨_,_,_,_,_,_,_,_,_,_,_,_,_,_,_,(af 0 h.l:aq (hp u) (aM i) [iI A,iI B,vS a j n,vS b k o,vS c l p,iI C,vS d m q]).at sZZ rfl,hR u h⟩
end
theorem agd{ns:List Nat}{o:aiz}{n c:Nat}(hs:zV (hp w) k sy g As Gs Cs p)(hD:EX g ss A G Gs p)(hbT:g.terms.length*24<=140737488355328)(hbN:g.cR.length*16<=140737488355328)(hne:g.prods.length≠0)(hr:aX (hp w) (nZ ns) o n)(ht:∀t∈ns,1<=t/\t<g.T)(hn:n<=100):
  ρ 49 [vP (some (aM k)),vB true,vS o n c] w λv w'=>∃HF,Sk g ss (bq p) (bW p) G ns v HF/\St w' (has HF::all w):=by
 have am:ns.length=n:=by have:=hr.1;simpa using this
 have c9:=hD.hc.cK;refine JT (ag (St.all w) λk1 w1 h=>(acb (hs.mono h.aP) hD.hb hbT hbN hne).mono ?_);rintro _ w2⟨r,s,a,b,x,oA,oG,xp,H,rfl,hT,nq,sk,z,X,W,J,h2⟩;have h:=St.on (N:=[_,_,_,_,_,_,_,_,_,_]) h2 h.l;have gH:sub H (hp w2):=aC 9 h.l;have gw:sub (hp w) (hp w2):=aC 11 h.l;have a5:aq (hp w2) (aM r) (T6 s a b cE.new X W):=af 0 h.l;have h:nR r s a b cE.new (has H::az k1 zO::all w) w2:=⟨nq,sk,z,X,W,J,h⟩
 refine⟨_,rfl,λz u=>z=false/\nR r s a b cE.new (has H::az k1 zO::all w) u,bB rfl ((af_ a5 (hT.mono gH) (hr.mono gw) (λt b2=>?_) ω).mono ?_),?_⟩
 ·obtain⟨t',hm,rfl⟩:=agY.1 b2;have:=ht t' hm;omega
 ·rintro _ w3⟨rfl,g3⟩;exact⟨_,rfl,rfl,acd h g3⟩
 clear h2 a5 J h;rintro _ _ w4⟨rfl,nq,sk,z,X,W,J,h⟩;refine bB rfl ((PT (xs:=nZ ns) (hr.mono (aC 11 h.l)) ω h (I:=λ_=>True) (λ_ _=>trivial) (K:=λo' l' c' u=>l'=n/\St u (own 1 o' l' c' (iv (nZ ns))::_)) (λ_ _ _ h=>⟨rfl,h⟩)).mono ?_);rintro _ w6⟨o6,Y,c6,rfl,-,av,h⟩;subst av;refine⟨_,_,_,rfl,ag h λbe w7 h=>(aS (us:=iv (nZ ns)) (vs:=[iI 0]) aT (rfl:ai Ty _=.slice _) (rfl:ai Ty _=.slice _) rfl rfl rfl h rfl (by simp[aK]) (by show(Y+1)*8<=_;omega) ω).mono ?_⟩;rintro _ w8⟨o7,c7,rfl,h⟩;have eX:iv (nZ ns)++[iI 0]=iv (nZ (ns++[0])):=by simp[iv,nZ]
 rw[eX] at h;have lX:(nZ (ns++[0])).length=Y+1:=by simp[nZ,am]
 have h:nR r s a b cE.new (own 1 o7 (Y+1) c7 (iv (nZ (ns++[0])))::has H::az k1 zO::all w) w8:=⟨nq,sk,z,X,W,J,h.pick 11 [2,3,4,5,6,7,8,9,10,0]⟩;have hL:∀h,aF (own 1 o7 (Y+1) c7 (iv (nZ (ns++[0])))::has H::az k1 zO::all w) h->sub H h:=λh hh=>aC 1 hh
 have a7:∀{u:aiA}{U:cE}{R:Prop},nR r s a b U (own 1 o7 (Y+1) c7 (iv (nZ (ns++[0])))::has H::az k1 zO::all w) u->∃M,St u (az k1 zO::M)/\∀u' us,St u' (az k1 us::M)->∃HF,St u' (has HF::all w):=by
  rintro u U R⟨nq,sk,z,X,W,J,h⟩;exact⟨_,h.pick 12 [11,0,1,2,3,4,5,6,7,8,9,10],λu' us h=>⟨_,h.pick 13 [11,12]⟩⟩
 refine⟨_,_,_,rfl,λz u=>∃(j:Nat)(y:cE),z=j/\j<=Y+1/\mH g ss y/\y.mv.length<=1025*j/\y.dp<=j/\Qh y/\Bu g (bq p) (bW p) G 0 (ns++[0]) cE.new=Bu g (bq p) (bW p) G j ((ns++[0]).drop j) y/\nR r s a b y (own 1 o7 (Y+1) c7 (iv (nZ (ns++[0])))::has H::az k1 zO::all w) u,λz _=>Y+1-z.toNat,⟨0,_,rfl,agP _,mH.new,agP _,agT _,.inl rfl,rfl,h⟩,?_⟩;clear h J;rintro _ _ w9⟨j,y,rfl,hj,hI,bP,ca,al,O,h⟩;have bz:(ns++[0]).length=Y+1:=by simp[am]
 refine ae (λh1=>?_) λh1=>?_
 ·have h1:j<Y+1:=by have:=agQ h1;omega
  obtain⟨t,a4⟩:∃t,(ns++[0])[j]? =some t:=⟨_,agM ω⟩
  have b1:t<g.T:=by
   rcases agX.1 (agL a4) with hm|hm
   ·exact(ht t hm).2
   ·have:=ag_.1 hm;omega
  have b6:(ns++[0]).drop j=t::(ns++[0]).drop (j+1):=by
   rw[ahj ω];rw[agM ω] at a4;rw[Option.some.inj a4]
  have b3:(nZ (ns++[0]))[j]? =some (t:Int):=by unfold nZ;rw[agS,a4];rfl
  obtain⟨nq,sk,z,X,W,J,h⟩:=h;have aa:aX (hp w9) (nZ (ns++[0])) o7 (Y+1):=bt lX (dN 9 h.l);obtain⟨ad,ho,hc⟩:=aa.at b3;refine ax ho h1 ⟨_,hc w9 sZZ,(aeR (t:=t) hD hT hL b1 hI ω ω ⟨nq,sk,z,X,W,J,h⟩).mono ?_⟩;clear h J aa hc ho;rw[b6] at O
  rintro _ bi (⟨hF,rfl,h⟩|⟨f,U,hF,rfl,Z,bl,h⟩)
  ·obtain⟨M,hM,hG⟩:=a7 (R:=True) h;exact⟨_,_,rfl,fM rfl (Dk (R:=λv w'=>∃HF,Sk g ss (bq p) (bW p) G ns v HF/\St w' (has HF::all w)) hM rfl λu h=>let⟨HF,q⟩:=hG u _ h;⟨HF,⟨0,0,0,15,none,0,0,none,0,0,none,0,0,none,0,0,rfl,.inl rfl⟩,q⟩)⟩
  cases f with
  |true=>
   refine⟨_,_,rfl,bB rfl (fM rfl ⟨ξ,⟨j+1,U,σ,h1,Z,ω,?_,Se hF al,?_,h⟩,bR h1⟩)⟩
   ·unfold jH at hF
    split at hF
    ·cases hF
    ·cases hF
    ·cases hF;unfold EO
     split
     ·show(List.foldl (zK g G t) y _).dp+1<=_
      rw[Lz];omega
     ·rw[Lz];omega
   ·rw[O]
    show(match jH g (bq p) (bW p) G t y with|none=>none|some (false,U)=>some (false,j,U)|some (true,U)=>Bu g (bq p) (bW p) G (j+1) ((ns++[0]).drop (j+1)) U)=_
    rw[hF]
  |false=>
   have O:Bu g (bq p) (bW p) G 0 (ns++[0]) cE.new=some (false,j,U):=by
    rw[O]
    show(match jH g (bq p) (bW p) G t y with|none=>none|some (false,U)=>some (false,j,U)|some (true,U)=>Bu g (bq p) (bW p) G (j+1) ((ns++[0]).drop (j+1)) U)=_
    rw[hF]
   refine⟨_,_,rfl,bB rfl (bB rfl λb4 hd=>?_)⟩;obtain⟨nq,sk,z,X,W,J,h⟩:=h;have h:=h.drawn hd;have V:(yg U.es).length<=64:=by rw[gb];exact Z.hl
   have bb:aq (hp b4) (aM r) (T6 s a b U X W):=af 0 h.l;refine⟨λu=>aq (hp u) (aM r) (T6 s a b U X W),bb,_,λu q=>q.cell sZZ (j:=2) rfl,_,λu q=>q.cell0 sZZ,(ab1 hT hD.hb (λt ht=>YR hD.hc hD.hA hD.hb hD.hS hD.hN ht λq hq=>by have:=Nr hD.hc q hq;omega) ⟨U.es,Z.PK,rfl⟩ V ω (λh hh=>⟨Sb hh V,hL _ (aj (aj (aj (aj (aj (aj (aj (aj (aj hh)))))))))⟩) h).mono ?_⟩;rintro _ c8⟨⟨oe,le,ce,e,rfl,he⟩,h⟩;refine⟨_,_,_,_,rfl,af 0 h.l,?_⟩
   rcases he with rfl|rfl
   ·refine bB rfl λcc hd=>?_;have h:=h.drawn hd;refine⟨λu=>aq (hp u) (aM r) (T6 s a b U X W),af 0 h.l,_,λu q=>q.cell0 sZZ,_,λu q=>q.cell sZZ (j:=1) rfl,_,_,_,λu q=>q.cell sZZ (j:=4) rfl,(Qa (h.pick 9 [2,3,4,0,1,5,6,7,8]) V).mono ?_⟩;rintro _ a8⟨os,cs,rfl,h⟩;have h:=h.pick 10 [4,5,1,2,3,6,7,8,9];have a6:nq.length<=1000000:=by have:=Z.nl;have:=congrArg List.length J;rw[ag5] at this;omega
    have hk:∀b∈nq,aX (hp a8) b.2.2 b.2.1.1 b.2.2.length:=λb hb=>by
     obtain⟨h1,s1,a1⟩:=Az (A:=aV (ndO nq)) 7 h.l;obtain⟨h2,s2,a2⟩:=ju (A:=bI 1 iv b.2) (agY.2 ⟨b,hb,rfl⟩) a1;exact(bt rfl (bH a2)).mono (s2.trans s1)
    refine⟨_,_,_,rfl,af 0 h.l,(aca (af 5 h.l) (dN 6 h.l) hk a6 (λb hb=>?_)).mono ?_⟩
    ·refine ahq ?_ (show 64<=1000000 by decide);have:ym b∈U.nd:=by rw[<-J];exact agY.2 ⟨b,hb,rfl⟩
     exact Z.kl (ym b) this
    rintro _ a0⟨on,cn,rfl,a9,ba⟩;have h:=St.gr h ba;refine⟨_,_,_,rfl,af 0 h.l,(aga (h.pick 2 [1,0])).mono ?_⟩;rintro _ b7⟨om,lm,cm,rfl,rfl⟩;refine⟨_,_,_,rfl,af 0 h.l,?_⟩;obtain⟨M,hM,hG⟩:=a7 (R:=True) ⟨nq,sk,z,X,W,J,h⟩;exact Dk (R:=λv w'=>∃HF,Sk g ss (bq p) (bW p) G ns v HF/\St w' (has HF::all w)) hM rfl λu h=>let⟨HF,q⟩:=hG u _ h;⟨HF,⟨_,_,_,_,_,_,_,_,_,_,_,_,_,_,_,_,rfl,.inr ⟨rfl,.inl ⟨rfl,_,_,O⟩⟩⟩,q⟩
   ·obtain⟨M,hM,hG⟩:=a7 (R:=True) ⟨nq,sk,z,X,W,J,h⟩;exact fM rfl (Dk (R:=λv w'=>∃HF,Sk g ss (bq p) (bW p) G ns v HF/\St w' (has HF::all w)) hM rfl λu h=>let⟨HF,q⟩:=hG u _ h;⟨HF,⟨0,0,0,15,none,0,0,none,0,0,none,0,0,none,0,0,rfl,.inl rfl⟩,q⟩)
 ·have h1:j=Y+1:=by have:=agO h1;omega
  subst h1
  have O:Bu g (bq p) (bW p) G 0 (ns++[0]) cE.new=some (true,Y+1,y):=by
   rw[O,List.drop_eq_nil_of_le ω];rfl
  intro bT hd;obtain⟨nq,sk,z,X,W,J,h⟩:=h;have V:(yg y.es).length<=64:=by rw[gb];exact hI.hl
  have h:=h.drawn hd;refine⟨λu=>aq (hp u) (aM r) (T6 s a b y X W),af 0 h.l,_,λu q=>q.cell0 sZZ,_,λu q=>q.cell sZZ (j:=1) rfl,_,λu q=>q.cell sZZ (j:=1) rfl,_,_,_,λu q=>q.cell sZZ (j:=4) rfl,(Qa (h.pick 9 [2,3,4,0,1,5,6,7,8]) V).mono ?_⟩;rintro _ a8⟨os,cs,rfl,h⟩;have h:=h.pick 10 [4,5,1,2,3,6,7,8,9];have a6:nq.length<=1000000:=by have:=hI.nl;have:=congrArg List.length J;rw[ag5] at this;omega
  have hk:∀b∈nq,aX (hp a8) b.2.2 b.2.1.1 b.2.2.length:=λb hb=>by
   obtain⟨h1,s1,a1⟩:=Az (A:=aV (ndO nq)) 7 h.l;obtain⟨h2,s2,a2⟩:=ju (A:=bI 1 iv b.2) (agY.2 ⟨b,hb,rfl⟩) a1;exact(bt rfl (bH a2)).mono (s2.trans s1)
  refine⟨_,_,_,rfl,af 0 h.l,(Qg (af 5 h.l) (dN 6 h.l) hk a6 (λb hb=>?_)).mono ?_⟩
  ·refine ahq ?_ (show 64<=1000000 by decide);have:ym b∈y.nd:=by rw[<-J];exact agY.2 ⟨b,hb,rfl⟩
   exact hI.kl (ym b) this
  rintro _ a0⟨on,cn,HF,rfl,a9,bc⟩;have h:=(St.on (N:=[_]) bc h.l).pick 10 [1,2,3,4,5,6,7,8,9,0];have r5:aq (hp a0) (aM a) [vS z.n nq.length z.cn,vS z.t y.tk.length z.ct]:=af 5 h.l;refine⟨_,_,_,rfl,af 0 h.l,(@AR (some (aM a)) a0 (λv u=>v=iI (nq.length:Int)/\u=a0) (bB rfl ⟨_,_,_,r5.cell0 sZZ,rfl,rfl⟩)).mono ?_⟩;rintro _ c5⟨rfl,rfl⟩;refine⟨_,rfl,af 0 h.l,ξ,(aga (h.pick 2 [1,0])).mono ?_⟩;rintro _ b7⟨om,lm,cm,rfl,rfl⟩;refine⟨_,_,_,rfl,af 0 h.l,?_⟩;have b5:nq.length=y.nd.length:=by rw[<-J,ag5]
  rw[J] at a9;exact Dk (R:=λv w'=>∃HF,Sk g ss (bq p) (bW p) G ns v HF/\St w' (has HF::all w)) (h.pick 13 [12,0,1,2,3,4,5,6,7,8,9,10,11]) rfl λu h=>⟨HF,⟨_,_,_,_,_,_,_,_,_,_,_,_,_,_,_,_,rfl,.inr ⟨rfl,.inr ⟨rfl,_,_,O,hI,al,ω,a9,by rw[b5]⟩⟩⟩,h.pick 14 [10,13]⟩
theorem VP{ns:List Nat}{o:aiz}{n c:Nat}(hs:zV (hp w) k sy g As Gs Cs p)(hD:EX g ss A G Gs p)(hbT:g.terms.length*24<=140737488355328)(hbN:g.cR.length*16<=140737488355328)(hne:g.prods.length≠0)(hr:aX (hp w) (nZ ns) o n)(ht:∀t∈ns,1<=t/\t<g.T)(hn:n<=100):
  ρ 12 [vP (some (aM k)),vS o n c] w λv w'=>∃HF,Sk g ss (bq p) (bW p) G ns v HF/\St w' (has HF::all w):=by
 refine D8 (ag (St.all w) λX Y h=>(agd (hs.mono h.aP) hD hbT hbN hne (hr.mono h.aP) ht hn).mono ?_);rintro _ Z⟨HF,⟨O,at_,V,e,W,le,ce,os,ls,cs,on,ln,cn,om,J,cm,rfl,u⟩,U⟩;have h:=St.on (N:=[_]) U h.l;exact⟨_,_,_,_,_,_,_,_,_,_,_,_,_,_,_,_,rfl,Dk (R:=λv w'=>∃HF,Sk g ss (bq p) (bW p) G ns v HF/\St w' (has HF::all w)) (h.pick 2 [1,0]) rfl λ_ h=>⟨HF,⟨O,at_,V,e,W,le,ce,os,ls,cs,on,ln,cn,om,J,cm,rfl,u⟩,h.tail⟩⟩
end
def age(c:ah):Prop:=∀pdc,V7 c pdc->Km c pdc=c.prods
structure Qk(c:ah):Prop where
 hc:aw c
 hb:lq c
 ha:age c
theorem Sl{g:ah}{uns:List Bool}(hc:aw g)(hu:YL g uns)(h:false∉uns):age g:=λO u=>by
 obtain⟨U,bT,bN,pN,pT,bP⟩:=Gc (.inr hc)
 unfold Km
 rw[List.filter_eq_self]
 intro q Z
 have a4:Z8 g q.right:=λs W=>by
  have hi:=(U q Z).2 s W
  by_cases hT:s<(g.T:Int)
  ·obtain⟨t,rfl⟩:∃t:Nat,s=t:=⟨s.toNat,ω⟩
   exact .tm t ω
  ·obtain⟨i,rfl⟩:∃i:Nat,s=((g.T+i:Nat):Int):=⟨(s-g.T).toNat,ω⟩
   have hb:bp uns i=true:=by
    have a0:i<uns.length:=by rw[hu.1];omega
    grind[bp,List.getElem?_eq_none_iff,absurd,List.mem_of_getElem?]
   have V:=(hu.2 i).1 hb
   generalize ((g.T+i:Nat):Int)=s at V
   cases V with
   |start h=>omega
   |zero hc' h=>
    obtain⟨_,_,_,Y,J,hl,X,_⟩:=hc
    have:=Pd.mk Y (agL J) (λs W=>by simp_all)
    simp_all
   |pr p s hp _ X hs'=>exact X _ hs'
 have hm:q∈Km g O↔_:=Ug U u
 simp_all[Km]
structure agH(c:ah)(ss:List SQ)(nn:List Bool)(As:List (List aD))(Gs:List (List Int))(Cs:List cP)(p:dB)(clr:Bool):Prop where
 s:Qk c
 A:bC c ss
 n:lE c nn
 dA:As=C4 c nn ss
 dG:Gs=ER c ss
 dC:Cs=R5 c nn ss
 P:Fw As Gs c.N p
 cl:clr=true↔nu c nn ss 2=[]
 cy:OnL (VG c) c.N []
section
variable{w:aiA}{L:List aE}{g:ah}{x:GA}
theorem acu{bs:List Bool}{o:aiz}{n c:Nat}(hr:aX (hp w) bs o n)(hn:n<=1000000):ρ 84 [vS o n c,vB false] w λv w'=>(∃b,v=vB b/\(b=false->false∉bs))/\w'=w:=by
 have hl:=hr.1
 refine mr ((@ot _ _ _ _ w (λv w'=>∃z:Int,v=iI z/\(z<0->false∉bs)/\w'=w) ⟨λz u=>∃j:Nat,z=j/\j<=n/\false∉bs.take j/\u=w,λz _=>n-z.toNat,⟨0,rfl,agP _,σ,rfl⟩,?_⟩).mono ?_)
 ·rintro _ _ O⟨j,rfl,X,hb,rfl⟩
  refine ae (λJ=>?_) λJ=>?_
  ·have J:j<n:=by simp_all
   obtain⟨b,V,Y,ha,hc⟩:=hr.dQ J;refine ax ha J ⟨_,hc O sZZ,ae (λU=>⟨_,rfl,λh=>ω,rfl⟩) λU=>⟨ξ,⟨j+1,σ,J,λW=>?_,rfl⟩,bR J⟩⟩
   simp_all[agR]
  grind
 simp
theorem ae8(hg:gR (hp w) g x)(hb:lq g)(ht:dP (hp w)):ρ 39 [.agg ⟨x.cells⟩] w λv w'=>∃(x':GA)(c:ah)(os:List (aiz×Nat))(e:Int),v=.tuple #[.agg ⟨x'.cells⟩,iI e]/\DU c x'/\os.length=c.prods.length/\(e=0->Qk c)/\St w' (y7 c x' os++all w):=by
 refine IU (gi hg λk1 w1 gw a9 B=>ag (St.all w1) λk2 w2 h=>?_);have ad:Gr w1 w2:=h.aP;refine⟨_,_,_,_,_,_,_,_,_,_,_,_,_,B.row ad,(td (a9.mono ad) hb).mono ?_⟩;rintro _ w3⟨⟨r,rfl,hr⟩,g3⟩;have h:=h.gr g3;have J:Gr w1 w3:=h.aP
 --a grammar is handed out
 have fin:∀{u:aiA}{x':GA}{c:ah}{os:List (aiz×Nat)}{e:Int},DU c x'->os.length=c.prods.length->(e=0->Qk c)->St u (y7 c x' os++(az k2 z5::all w1))->bA u (aM k2) [vS x'.ta x'.tl x'.tc,vS x'.na x'.nl x'.nc,vS x'.la x'.ll x'.lc,iI x'.s,vS x'.pa x'.pl x'.pc] λw5=>∃a7 Z W X a5 a0 Y a4 a6 n5 V U O,rowAt w5 (aM k2) 0 5=some [vS a7 Z W,vS X a5 a0,vS Y a4 a6,iI n5,vS V U O]/\
   ∃(x':GA)(c:ah)(os:List (aiz×Nat))(e':Int),(.tuple #[.agg #[vS a7 Z W,vS X a5 a0,vS Y a4 a6,iI n5,vS V U O],iI e]:Value)=.tuple #[.agg ⟨x'.cells⟩,iI e']/\DU c x'/\os.length=c.prods.length/\(e'=0->Qk c)/\St w5 (y7 c x' os++all w):=λ{u x' c os e} hx ho he h=>by
  refine aL (St.pick (show St u (_::_::_::_::_::_::all w1) from h) 6 [5,0,1,2,3,4]) rfl (by simp[aK]) λw5 h=>?_;have r5:aq (hp w5) (aM k2) [vS x'.ta x'.tl x'.tc,vS x'.na x'.nl x'.nc,vS x'.la x'.ll x'.lc,iI x'.s,vS x'.pa x'.pl x'.pc]:=af 0 h.l;exact⟨_,_,_,_,_,_,_,_,_,_,_,_,_,r5.at sZZ rfl,x',c,os,e,rfl,hx,ho,he,St.on (N:=[_,_,_,_,_]) h.tail (bF gw)⟩
 have none:∀{u:aiA}{e:Int},e≠0->St u (az k2 z5::all w1)->bA u (aM k2) z5 λw5=>∃a7 Z W X a5 a0 Y a4 a6 n5 V U O,rowAt w5 (aM k2) 0 5=some [vS a7 Z W,vS X a5 a0,vS Y a4 a6,iI n5,vS V U O]/\
   ∃(x':GA)(c:ah)(os:List (aiz×Nat))(e':Int),(.tuple #[.agg #[vS a7 Z W,vS X a5 a0,vS Y a4 a6,iI n5,vS V U O],iI e]:Value)=.tuple #[.agg ⟨x'.cells⟩,iI e']/\DU c x'/\os.length=c.prods.length/\(e'=0->Qk c)/\St w5 (y7 c x' os++all w):=λhe h=>fin (x':=noG) (c:=EN) (os:=[]) ⟨rfl,rfl,rfl,rfl,rfl⟩ rfl (λh=>absurd h he) (TR h)
 refine⟨_,rfl,ae (λh1=>?_) λh1=>?_⟩
 ·refine⟨_,_,_,_,_,_,_,_,_,_,_,_,_,B.row J,(YS (a9.mono J) hb (eE.mono (gw.trans J) ht)).mono ?_⟩;rintro _ w4⟨x',G,os,e,rfl,hx,ho,hR,h4⟩;refine⟨_,_,_,_,_,_,_,_,_,_,_,_,_,_,rfl,fin hx ho (λhe=>?_) (St.on (N:=[_,_,_,_,_]) h4 h.l)⟩
  rcases hR with⟨_,h,_⟩|⟨_,_,h,_⟩|⟨hv,hP,_,pds,uns,al,aa,rfl⟩
  ·omega
  ·omega
  ·exact⟨Jk hv hP al aa,aeY hv hb,λb5 av=>ach hv hP al aa av⟩
 have a8:aw g:=hr.1 (by grind);refine⟨_,_,_,_,_,_,_,_,_,_,_,_,_,B.row J,(VJ (a9.mono J) hb (eE.mono (gw.trans J) ht)).mono ?_⟩;rintro _ w6⟨o,n,c',e,nn,rfl,b1,hU,h6⟩
 rcases hU with⟨hn,_⟩|⟨_,rfl,hU⟩
 ·exact absurd (.inr a8) hn
 have h:=St.eM h6 h.l;have am:Gr w1 w6:=aC 2 h.l;have hs:=a8.cK;have b4:n=g.N:=by rw[<-b1];exact hU.1
 refine⟨_,_,_,_,rfl,bB rfl ((acu (SX h) ω).mono ?_)⟩;rintro _ w8⟨⟨b,rfl,b3⟩,rfl⟩;refine⟨_,rfl,ae (λh2=>none σ h.tail) λh2=>?_⟩;refine⟨_,_,_,_,_,_,_,_,_,_,_,_,_,B.row am,(YV (a9.mono am) hb (by have:g.T=g.terms.length:=rfl;omega) (by have:g.N=g.cR.length:=rfl;omega)).mono ?_⟩;rintro _ b6⟨x',os,rfl,hx,ho,b2⟩;exact⟨_,_,_,_,_,_,_,_,_,_,_,_,_,rfl,fin hx ho (λ_=>⟨a8,hb,Sl a8 hU (b3 h2)⟩) (St.on (N:=[_,_,_,_,_]) b2 h.tail.l)⟩
end
theorem VQ{CL:List Fu}{o:aiz}{n c:Nat}{h h1 h2:Hp}(s1:sub h1 h)(a1:own 3 o n c (Fv CL) h1)(s2:sub h2 h)(a2:aV (Dl CL) h2):aX h (CL.map oU) o n:=by
 have hl:CL.length=n:=by grind[Jd,Nf]
 refine⟨by simp_all,λi x u=>?_⟩;rw[agS] at u;cases hb:CL[i]? with
 |none=>simp_all
 |some b=>
  rw[hb] at u;cases u;obtain⟨V,U,J⟩:=ju (A:=bI 2 du b.2) (agY.2 ⟨b,agL hb,rfl⟩) a2
  rcases bH a1 with e|⟨O,e,hc⟩
  ·have:=congrArg List.length e
   grind[Nf,List.length_nil,List.getElem?_eq_some_iff]
  ·exact⟨O,_,e,(cJ (f:=ckE) (n:=3) (λ_=>rfl) CL O hc i b hb).mono s1,_,_,rfl,(CZ rfl (bH J)).mono (U.trans s2)⟩
theorem pkH{p:dB}{x:PA}{L:List aE}{h:Hp}{As:List (List aD)}{Gs:List (List Int)}{N:Nat}(hs:aF (pkL p x L) h)(hI:Fw As Gs N p)(hB:PkB p):Vm h p x:=by
 have J:=hI.ac.c.lv;have a0:=hI.gt.c.lv;have b1:=hB.a1;have b2:=hB.g1;have ln:∀{i:Nat}{o:aiz}{n c:Nat}{xs:List Int},(∃u,sub u h/\own 1 o n c (iv xs) u)->xs.length=n:=λ⟨_,_,a⟩=>by grind[Jd,cf]
 have e0:=ln (i:=0) (Az (A:=own 1 x.d.1 x.d.2.1 x.d.2.2 (iv p.df)) 0 hs);have Z:=ln (i:=0) (Az (A:=own 1 x.a1.1 x.a1.2.1 x.a1.2.2 (iv p.ac.bs)) 1 hs);have Y:=ln (i:=0) (Az (A:=own 1 x.a2.1 x.a2.2.1 x.a2.2.2 (iv p.ac.vs)) 2 hs);have U:=ln (i:=0) (Az (A:=own 1 x.a3.1 x.a3.2.1 x.a3.2.2 (iv p.ac.os)) 3 hs);have X:=ln (i:=0) (Az (A:=own 1 x.t.1 x.t.2.1 x.t.2.2 (iv p.tg)) 4 hs);have O:=ln (i:=0) (Az (A:=own 1 x.g1.1 x.g1.2.1 x.g1.2.2 (iv p.gt.bs)) 5 hs);have V:=ln (i:=0) (Az (A:=own 1 x.g2.1 x.g2.2.1 x.g2.2.2 (iv p.gt.vs)) 6 hs);have W:=ln (i:=0) (Az (A:=own 1 x.g3.1 x.g3.2.1 x.g3.2.2 (iv p.gt.os)) 7 hs);exact⟨bt e0 (dN 0 hs),⟨bt Z (dN 1 hs),bt Y (dN 2 hs),bt U (dN 3 hs),ω,ω,hB.a2⟩,bt X (dN 4 hs),⟨bt O (dN 5 hs),bt V (dN 6 hs),bt W (dN 7 hs),ω,ω,hB.g2⟩⟩
theorem ae9{c:ah}{nn:List Bool}{ss:List SQ}{a i f:Int}(hc:aw c)(hR:Fh c ss a i f):(R5 c nn ss).length<=16640/\∀x∈R5 c nn ss,x.acts.length<=100000:=by
 have U:=hc.cK
 constructor
 ·grind[Vu,C7,nu,TX,R5]
 ·intro x u;obtain⟨d,O,J⟩:=ahI.1 u;obtain⟨q,t,_,_,_,rfl⟩:=pe.1 O
  grind[Vu,List.mem_singleton,Vt,ee,YC,fU]
def OfR(w:aiA)(v:Value)(w':aiA):Prop:=
 (∃(n a:Int)(o:aiz)(k c:Nat),n≠0/\v=.tuple #[vP none,.agg #[iI n,iI a,vS o k c]]/\Gr w w')\/
 ∃(k4:Nat)(y:Kl)(c:ah)(ss:List SQ)(nn:List Bool)(As:List (List aD))(Gs:List (List Int))(Cs:List cP)(p:dB),v=.tuple #[vP (some (aM k4)),.agg #[iI 0,iI 0,zS]]/\zV (hp w') k4 y c As Gs Cs p/\agH c ss nn As Gs Cs p y.clr/\Gr w w'
section
variable{w:aiA}{L:List aE}{g:ah}{x:GA}{k2 k3 k4:Nat}{M:List aE}
theorem NA{ms:List Value}{n a:Int}{o:aiz}{k c:Nat}{R:Value->WP}(hml:ms.length=3)(h:St w (az k3 ms::az k2 [vP (some (aM k4))]::M))
  (hR:∀u,St u (az k3 [iI n,iI a,vS o k c]::az k2 [.pointer (if n=0 then some (aM k4) else none)]::M)->R (vT (Array.mk [vP (if n=0 then some (aM k4) else none),vA (Array.mk [iI n,iI a,vS o k c])])) u):
  bA w (aM k3) [iI n,iI a,vS o k c] λw10=>JE Tryz.prog Ev Ke [vP (some (aM k3)),vP (some (aM k2))] w10 λw11=>∃o10,World.cell? w11 (aM k2)=some (vP o10)/\∃n4 n5 o11 k22 k23,rowAt w11 (aM k3) 0 3=some [iI n4,iI n5,vS o11 k22 k23]/\R (vT (Array.mk [vP o10,vA (Array.mk [iI n4,iI n5,vS o11 k22 k23])])) w11:=by
 refine aL h ω (by simp[aK]) λw10 h=>Gk _ _ w10 _ ⟨_,h.cell 0,ae (λJ=>?_) λJ=>?_⟩
 ·have J:n≠0:=by simp_all
  rw[agW J] at hR;refine aR (i:=0) h.swap σ λw11 h=>?_;have O:aq (hp w11) (aM k3) [iI n,iI a,vS o k c]:=af 1 h.l;exact⟨_,h.cell 0,_,_,_,_,_,O.at sZZ rfl,hR w11 h.swap⟩
 ·have J:n=0:=by simp_all
  rw[ag0 J] at hR;have O:aq (hp w10) (aM k3) [iI n,iI a,vS o k c]:=af 0 h.l;exact⟨_,h.tail.cell 0,_,_,_,_,_,O.at sZZ rfl,hR w10 h⟩
abbrev zM:List Value:=[iI 0,iI 0,zS]
theorem agI(hg:gR (hp w) g x)(hb:lq g)(ht:dP (hp w)):ρ 8 [.agg ⟨x.cells⟩] w (OfR w):=by
 refine M_ _ _ _ _ _ _ _ _ _ _ _ _ _ w _ (gi hg λk1 w1 gw d9 B=>ag (St.all w1) λk2 w2 h=>ag h λk3 w3 h=>ag h λk4 w4 h=>aR (i:=0) (h.pick 3 [2,0,1]) σ λw5 h=>?_);have av:Gr w1 w5:=aC 3 h.l;refine⟨_,_,_,_,_,_,_,_,_,_,_,_,_,B.row av,(ae8 (d9.mono av) hb (eE.mono (gw.trans av) ht)).mono ?_⟩;rintro _ w6⟨J,c,os,e,rfl,hx,ho,hI,h6⟩;have h:=St.on (N:=[_,_,_,_,_]) h6 h.l;refine⟨_,_,_,_,_,_,_,_,_,_,_,_,_,_,rfl,ag h λd7 w7 h=>aL (vs:=J.cells) h rfl (by simp[aK,GA.cells]) λw8 h=>?_⟩
 --what stands still
 obtain⟨H,hH,h⟩:=St.mP [_,_,_] (St.pick h 10 [7,6,8,0,1,2,3,4,5,9]);have W:aq H (aM d7) J.cells:=af 0 hH;have O:gR H c J:=Mc (L:=[has (hp w1)]) hx ho (aj hH);have a8:sub (hp w1) H:=aC 6 hH;have aa:dP H:=eE.mono (sub.trans gw a8) ht;clear hH;have h:St w8 (az k4 (Kl.cells ⟨noG,(none,0,0),0,0,(none,0,0),(none,0,0),(none,0,0),(none,0,0),⟨(none,0,0),(none,0,0),(none,0,0),(none,0,0),(none,0,0),(none,0,0),(none,0,0),(none,0,0)⟩,false⟩)::az k2 [vP (some (aM k4))]::az k3 zM::[has H]):=h
 have b4:∀{u:aiA}{S ms:List Value}{n a:Int}{o:aiz}{k Z:Nat}{H':Hp},n≠0->sub (hp w1) H'->St u (az k3 [iI n,iI a,vS o k Z]::az k2 [.pointer (if n=0 then some (aM k4) else none)]::[az k4 S,has H'])->OfR w (vT (Array.mk [vP (if n=0 then some (aM k4) else none),vA (Array.mk [iI n,iI a,vS o k Z])])) u:=λ{u S ms n a o k Z H'} hn hs h=>by
  rw[agW hn];exact .inl ⟨n,a,o,k,Z,hn,rfl,sub.trans gw (sub.trans hs (aC 3 h.l))⟩
 refine ae (λh1=>?_) λh1=>?_
 ·have h1:e≠0:=by simp_all
  exact⟨_,h.tail.cell 0,aR (i:=0) h.swap σ λw9 h=>NA rfl (h.pick 4 [2,0,1,3]) λu h=>b4 (ms:=[]) h1 a8 h⟩
 have h1:e=0:=by simp_all
 obtain⟨hc,a4,cu⟩:=hI h1;have eU:=hc.cK;refine⟨_,h.tail.cell 0,_,_,_,_,_,_,_,_,_,_,_,_,_,W.at (aC 3 h.l) rfl,?_⟩
 show bA w8 ((aM k4).add 0) J.cells _
 refine yQ h (by simp[GA.cells]) (by simp[aK,GA.cells]) λcA h=>?_;have h:St cA (az k4 (Kl.cells ⟨J,(none,0,0),0,0,(none,0,0),(none,0,0),(none,0,0),(none,0,0),⟨(none,0,0),(none,0,0),(none,0,0),(none,0,0),(none,0,0),(none,0,0),(none,0,0),(none,0,0)⟩,false⟩)::az k2 [vP (some (aM k4))]::az k3 zM::[has H]):=h;refine⟨_,_,_,_,_,_,_,_,_,_,_,_,_,W.at (aC 3 h.l) rfl,(ab8 (O.mono (aC 3 h.l)) a4 (eE.mono (aC 3 h.l) aa)).mono ?_⟩
 rintro _ et (⟨hn,_⟩|⟨_,oF,cF,ol,cl,rfl,d5,d8,am,ei,_,HF,c6,dl⟩)
 ·simp_all
 have h:=St.on (N:=[_]) dl h.l
 refine⟨_,_,_,_,rfl,ae (λh2=>?_) λh2=>?_⟩
 ·--a circle
  have h2:0<cl.length:=by simp_all
  have bc:∀z∈cl,z<c.N:=by
   cases a7:ol[0]? with
   |none=>
    simp_all
   |some l0=>exact(am l0 a7).2.lt
  obtain⟨H2,a6,h⟩:=St.mP [_,_,_] (St.pick h 5 [1,2,3,0,4]);have sF:sub HF H2:=aC 0 a6;have s2:sub H H2:=aC 1 a6;clear a6;have f4:c.N=c.cR.length:=rfl;have eK:c.T=c.terms.length:=rfl;have nT:=O.t.1;have nN:=O.n.1;refine aR (i:=0) (h.pick 4 [2,0,1,3]) σ λeX h=>?_;refine⟨λz u=>∃(j Z:Nat)(o:aiz)(us:List ByteArray),z=j/\j<=cl.length/\St u (az k3 [iI 13,iI 0,vS o j Z]::own 1 o j Z (RV us)::az k4 (Kl.cells ⟨J,(none,0,0),0,0,(none,0,0),(none,0,0),(none,0,0),(none,0,0),⟨(none,0,0),(none,0,0),(none,0,0),(none,0,0),(none,0,0),(none,0,0),(none,0,0),(none,0,0)⟩,false⟩)::az k2 [vP (some (aM k4))]::[has H2]),λz _=>cl.length-z.toNat,⟨0,0,none,[],rfl,agP _,(aI 1 h).pick 5 [1,0,2,3,4]⟩,?_⟩;clear h;rintro _ _ cT⟨j,Z,o,us,rfl,hj,h⟩
  refine ae (λh3=>?_) λh3=>?_
  ·have h3:j<cl.length:=by simp_all
   obtain⟨z,hz⟩:∃z,cl[j]? =some z:=⟨_,agM h3⟩;have eN:=bc z (agL hz);have ck:(E0 c.T (Nu cl))[j]? =some ((z:Int)+(c.T:Int)):=by simp_all[E0,Qc]
   obtain⟨fd,d3,cz⟩:=c6.at ck;obtain⟨nm,eY,eo,d4,b6⟩:=O.n.dQ (i:=z) ω;refine ax d3 h3 ⟨_,cz cT (sF.trans (aC 4 h.l)),λeS hd=>?_⟩;have h:=h.drawn hd;have ez:(z:Int)+(c.T:Int)-(J.tl:Int)=(z:Int):=ω
   refine⟨λu=>aq (hp u) (aM k3) [iI 13,iI 0,vS o j Z]/\sub H2 (hp u),⟨af 0 h.l,aC 4 h.l⟩,_,_,_,λu r=>r.1.cell sZZ (j:=2) rfl,_,_,_,λu r=>W.cell (s2.trans r.2) (j:=1) rfl,_,_,_,λu r=>W.cell0 (s2.trans r.2),ξ,?_⟩;rw[ez];refine ax d4 ω ⟨_,λu r=>b6 u (s2.trans r.2),ag h λeL fg h=>⟨⟨af 1 h.l,aC 5 h.l⟩,?_⟩⟩;refine(aS (us:=RV us) (vs:=[.string nm]) aT (rfl:ai Ty _=.slice _) (rfl:ai Ty _=.slice _) rfl rfl rfl (h.pick 5 [0,2,1,3,4]) rfl (by simp[aK]) (by grind) ω).mono ?_;rintro _ el⟨o',c',rfl,h⟩;refine⟨_,_,_,rfl,⟨af 2 h.l,aC 5 h.l⟩,?_⟩;rw[ak];refine aR (i:=2) (h.pick 5 [2,0,3,4]) σ λeT h=>⟨ξ,⟨j+1,c',o',us++[nm],σ,h3,?_⟩,bR h3⟩;have e:RV (us++[nm])=RV us++[.string nm]:=σ
   rw[e];exact h
  ·intro ey hd;have h:=h.drawn hd;refine⟨λu=>aq (hp u) (aM k2) [vP (some (aM k4))]/\aq (hp u) (aM k3) [iI 13,iI 0,vS o j Z],⟨af 3 h.l,af 0 h.l⟩,_,λu r=>r.1.cell0 sZZ,_,_,_,_,_,λu r=>r.2.at sZZ rfl,aR (i:=0) (h.pick 5 [3,0,2,4]) σ λeB h=>⟨⟨af 0 h.l,af 1 h.l⟩,NA rfl h.swap λu h=>b4 (ms:=[]) σ (a8.trans s2) h⟩⟩
 --none
 have eb:cl=[]:=ag2 (by simp_all)
 have a7:ol=[]:=by
  cases hx0:ol[0]? with
  |none=>simp_all
  |some l0=>
   simp_all
 subst a7;clear c6 am d8 h2;have h:=h.tail;intro f9 hd;have h:=h.drawn hd;refine⟨λu=>aq (hp u) (aM k2) [vP (some (aM k4))]/\sub H (hp u),⟨af 1 h.l,aC 3 h.l⟩,_,λu r=>r.1.cell0 sZZ,_,_,_,_,_,_,_,_,_,_,_,_,_,λu r=>W.at r.2 rfl,(xU (O.mono (aC 3 h.l)) a4).mono ?_⟩;rintro _ fs⟨oB,cB,ss,ask,int,f,rfl,hR,cp⟩;have h:=St.on (N:=[_,_,_]) cp h.l;obtain⟨H2,a6,h⟩:=St.mP [_,_,_] (St.pick h 7 [3,4,5,0,1,2,6]);have s2:sub H H2:=aC 3 a6;clear a6;refine⟨_,_,_,_,_,_,rfl,⟨af 1 h.l,sub.trans s2 (aC 3 h.l)⟩,yQ (i:=5) h σ (by simp[aK]) λcI h=>⟨⟨af 1 h.l,sub.trans s2 (aC 3 h.l)⟩,?_⟩⟩;have h:St cI (az k4 (Kl.cells ⟨J,(oB,ss.length,cB),ask,int,(none,0,0),(none,0,0),(none,0,0),(none,0,0),⟨(none,0,0),(none,0,0),(none,0,0),(none,0,0),(none,0,0),(none,0,0),(none,0,0),(none,0,0)⟩,false⟩)::az k2 [vP (some (aM k4))]::az k3 zM::[has H2]):=h
 refine ae (λh3=>?_) λh3=>?_
 ·have h3:f≠0:=by simp_all
  exact⟨_,h.tail.cell 0,aR (i:=0) h.swap σ λw9 h=>NA rfl (h.pick 4 [2,0,1,3]) λu h=>b4 (ms:=[]) h3 (a8.trans s2) h⟩
 have h3:f=0:=by simp_all
 obtain⟨_,hA⟩:=hR.Qs h3;intro eC hd;have h:=h.drawn hd;refine⟨λu=>aq (hp u) (aM k2) [vP (some (aM k4))]/\sub H (hp u),⟨af 1 h.l,sub.trans s2 (aC 3 h.l)⟩,_,λu r=>r.1.cell0 sZZ,_,_,_,_,_,_,_,_,_,_,_,_,_,λu r=>W.at r.2 rfl,(Yo (O.mono (sub.trans s2 (aC 3 h.l))) a4 (eE.mono (sub.trans s2 (aC 3 h.l)) aa)).mono ?_⟩;rintro _ dk⟨fc,ej,e8,fL,eI,oL,cL,Y,rfl,eP,f5,_,c7⟩;have h:=St.on (N:=[_,_]) c7 h.l;obtain⟨H3,c5,h⟩:=St.mP [_,_,_] (St.pick h 6 [2,3,4,0,1,5]);have s3:sub H H3:=sub.trans s2 (aC 2 c5);clear c5;refine⟨_,_,_,_,rfl,⟨af 1 h.l,sub.trans s3 (aC 3 h.l)⟩,?_⟩
 show st1 dk (((aM k4).add 5).add 3) _ _
 rw[add_add,ak];refine aR (i:=8) h σ λeu h=>⟨⟨af 1 h.l,sub.trans s3 (aC 3 h.l)⟩,λch hd=>?_⟩;have h:=h.drawn hd;have h:St ch (az k4 (Kl.cells ⟨J,(oB,ss.length,cB),ask,int,(oL,Y.length,cL),(none,0,0),(none,0,0),(none,0,0),⟨(none,0,0),(none,0,0),(none,0,0),(none,0,0),(none,0,0),(none,0,0),(none,0,0),(none,0,0)⟩,false⟩)::az k2 [vP (some (aM k4))]::az k3 zM::[has H3]):=h;refine⟨λu=>aq (hp u) (aM k2) [vP (some (aM k4))]/\sub H (hp u),⟨af 1 h.l,sub.trans s3 (aC 3 h.l)⟩,_,λu r=>r.1.cell0 sZZ,_,_,_,_,_,_,_,_,_,_,_,_,_,λu r=>W.at r.2 rfl,(Zv (O.mono (sub.trans s3 (aC 3 h.l))) a4 (eE.mono (sub.trans s3 (aC 3 h.l)) aa)).mono ?_⟩;rintro _ f7⟨U,eg,e9,fS,nn,oa,ca,og,cg,oc,Z,AL,X,CL,rfl,al,dc,bl,bb,dF,c9⟩;have h:=St.on (N:=[_,_,_,_,_,_]) c9 h.l;obtain⟨H4,V,h⟩:=St.mP [_,_,_] (St.pick h 10 [6,7,8,0,1,2,3,4,5,9]);have s4:sub H H4:=sub.trans s3 (aC 6 V)
 have rA:aX H4 (AL.map (·.2)) oa AL.length:=by
  obtain⟨h1,s1,a1⟩:=Az (A:=own 1 oa AL.length ca (AL.map bX)) 0 V;obtain⟨h2,s2,a2⟩:=Az (A:=aV (AL.map (bI 2 du))) 1 V;exact C8 (λr=>CZ rfl r) s1 a1 s2 a2
 have rG:aX H4 (X.map (·.2)) og X.length:=by
  obtain⟨h1,s1,a1⟩:=Az (A:=own 1 og X.length cg (X.map bX)) 2 V;obtain⟨h2,s2,a2⟩:=Az (A:=aV (X.map (bI 1 iv))) 3 V;exact C8 (λr=>bt rfl r) s1 a1 s2 a2
 have rC:aX H4 (CL.map oU) oc CL.length:=by
  obtain⟨h1,s1,a1⟩:=Az (A:=own 3 oc CL.length Z (Fv CL)) 4 V;obtain⟨h2,s2,a2⟩:=Az (A:=aV (Dl CL)) 5 V
  grind[VQ]
 clear V
 --the same automaton
 obtain⟨eD,eA,_,_,f1,em⟩:=hR.one al;have bT:fS=0:=ω
 obtain⟨_,b1⟩:=al.Qs bT;have b5:=dc bT;rw[bl] at rA;rw[bb] at rG;rw[dF] at rC;have b3:=ZC hc b1 b5;have lA:AL.length=U.length:=by have:=congrArg List.length bl;grind[C4]
 have lG:X.length=U.length:=by have:=congrArg List.length bb;grind[ER]
 have ek:=b1.dn.2.1;refine⟨_,_,_,_,_,_,_,_,_,_,rfl,⟨af 1 h.l,sub.trans s4 (aC 3 h.l)⟩,yQ (i:=9) h σ (by simp[aK]) λeG h=>⟨⟨af 1 h.l,sub.trans s4 (aC 3 h.l)⟩,λbe hd=>?_⟩⟩;have h:=h.drawn hd;have h:St be (az k4 (Kl.cells ⟨J,(oB,ss.length,cB),ask,int,(oL,Y.length,cL),(oa,AL.length,ca),(og,X.length,cg),(oc,CL.length,Z),⟨(none,0,0),(none,0,0),(none,0,0),(none,0,0),(none,0,0),(none,0,0),(none,0,0),(none,0,0)⟩,false⟩)::az k2 [vP (some (aM k4))]::az k3 zM::[has H4]):=h;have r4:=af 0 h.l;have r9:aq (hp be) ((aM k4).add 9) [vS oa AL.length ca,vS og X.length cg]:=(aq.drop (us:=vS J.ta J.tl J.tc::vS J.na J.nl J.nc::vS J.la J.ll J.lc::iI J.s::vS J.pa J.pl J.pc::gn (oB,ss.length,cB)::iI ask::iI int::[gn (oL,Y.length,cL)]) r4).take (us:=[vS oa AL.length ca,vS og X.length cg]);refine⟨λu=>aq (hp u) (aM k2) [vP (some (aM k4))]/\aq (hp u) ((aM k4).add 9) [vS oa AL.length ca,vS og X.length cg],⟨af 1 h.l,r9⟩,_,λu r=>r.1.cell0 sZZ,_,λu r=>r.1.cell0 sZZ,_,_,_,_,_,_,λu r=>r.2.at sZZ rfl,(aeE (rA.mono (aC 3 h.l)) (rG.mono (aC 3 h.l)) b3).mono ?_⟩;rintro _ bi⟨p,xp,rfl,a0,cW,cd⟩;have h:=St.on (N:=[_,_,_,_,_,_,_,_]) cd h.l
 have ep:aq (hp bi) ((aM k4).add 9) [vS oa AL.length ca,vS og X.length cg]:=by
  have r4:=af (b:=k4) 8 h.l;exact(aq.drop (us:=vS J.ta J.tl J.tc::vS J.na J.nl J.nc::vS J.la J.ll J.lc::iI J.s::vS J.pa J.pl J.pc::gn (oB,ss.length,cB)::iI ask::iI int::[gn (oL,Y.length,cL)]) r4).take (us:=[vS oa AL.length ca,vS og X.length cg])
 obtain⟨H5,b2,h⟩:=St.mP [_,_,_] (St.pick h 12 [8,9,10,0,1,2,3,4,5,6,7,11]);have ad:sub H4 H5:=aC 8 b2;have s5:sub H H5:=s4.trans ad;have rP:Vm H5 p xp:=pkH (L:=[has H4]) b2 a0 cW
 have e4:xp.d.2.1<=1000000/\xp.a1.2.1<=1000000/\xp.t.2.1<=1000000/\xp.g1.2.1<=1000000:=by
  have e0:=rP.d.1;have e1:=rP.a.rb.1;have e2:=rP.t.1;have e3:=rP.g.rb.1;have f0:=a0.d1;have f1:=a0.ac.c.lb;have f2:=a0.t1;have f3:=a0.gt.c.lb
  grind
 clear b2
 refine⟨_,_,_,_,_,_,_,_,_,_,_,_,_,_,_,_,_,_,_,_,_,_,_,_,_,rfl,⟨af 1 h.l,?_⟩,?_⟩
 ·omega
 show bA bi (((aM k4).add 9).add 3) _ _
 rw[add_add];refine yQ (i:=12) (vs:=xp.cells) h (by simp[PA.cells]) (by simp[aK,PA.cells]) λci h=>?_;have h:St ci (az k4 (Kl.cells ⟨J,(oB,ss.length,cB),ask,int,(oL,Y.length,cL),(oa,AL.length,ca),(og,X.length,cg),(oc,CL.length,Z),xp,false⟩)::az k2 [vP (some (aM k4))]::az k3 zM::[has H5]):=h
 refine⟨⟨af 1 h.l,?_⟩,_,_,_,_,_,_,_,_,_,_,_,_,_,W.at (sub.trans s5 (aC 3 h.l)) rfl,(Vq (O.mono (sub.trans s5 (aC 3 h.l))) a4 (eE.mono (sub.trans s5 (aC 3 h.l)) aa)).mono ?_⟩
 ·exact(aq.drop (us:=vS J.ta J.tl J.tc::vS J.na J.nl J.nc::vS J.la J.ll J.lc::iI J.s::vS J.pa J.pl J.pc::gn (oB,ss.length,cB)::iI ask::iI int::[gn (oL,Y.length,cL)]) (af 0 h.l)).take (us:=[vS oa AL.length ca,vS og X.length cg])
 rintro _ cN⟨d6,ea,ef,fC,bP,f6,cC,c8,rfl,e5,e7,b7,cx⟩;have h:=(St.on (N:=[_,_]) cx h.l).tail.tail;obtain⟨e6,d0,_,_,f2,f8⟩:=al.one e5;have bz:bP=nn:=(e7 ω).inj b5;have a9:nu c bP d6 2=nu c nn U 2:=by rw[bz];exact(Y5 d0 e6).symm
 refine⟨_,_,_,_,rfl,_,h.tail.cell 0,?_⟩
 show st1 cN (((aM k4).add 9).add 11) _ _
 rw[add_add,ak];refine aR (i:=20) h σ λfw h=>⟨_,h.tail.cell 0,aR (i:=0) h.swap σ λer h=>NA rfl (h.pick 4 [2,0,1,3]) λu h=>?_⟩;have h:St u (az k3 zM::az k2 [vP (some (aM k4))]::az k4 (Kl.cells ⟨J,(oB,ss.length,cB),ask,int,(oL,Y.length,cL),(oa,AL.length,ca),(og,X.length,cg),(oc,CL.length,Z),xp,((c8.length:Int)==0)⟩)::[has H5]):=h;have a5:sub H5 (hp u):=aC 3 h.l;have ba:=ae9 (nn:=nn) hc al;have lC:CL.length=(R5 c nn U).length:=by grind
 refine .inr ⟨k4,_,c,U,nn,C4 c nn U,ER c U,R5 c nn U,p,rfl,⟨af 2 h.l,O.mono (s5.trans a5),rA.mono (ad.trans a5),rG.mono (ad.trans a5),rC.mono (ad.trans a5),rP.mono a5,⟨by grind,λl hl=>by have:=(b3.a l hl).1;omega⟩,⟨by grind,λl hl=>by have:=(b3.t l hl).1;omega⟩,⟨by grind,ba.2⟩,e4⟩,⟨⟨hc,a4,cu⟩,b1,b5,rfl,rfl,rfl,a0,?_,d5⟩,sub.trans gw (sub.trans a8 (sub.trans s5 a5))⟩;rw[<-a9,<-b7];simp
end
section
variable{g:ah}{ss:List SQ}{A:Nat->Int->aD}{G:Nat->Int->Nat}{Gs:List (List Int)}{p:dB}{nn:List Bool}
theorem acv(h:EX g ss A G Gs p)(hn:lE g nn)(hC:TP g nn ss A G){ns:List Nat}(ht:∀t∈ns,1<=t/\t<g.T){j:Nat}{y:cE}(hF:Bu g (bq p) (bW p) G 0 (ns++[0]) cE.new=some (true,j,y)):cap (yT g (nZ ns) g.start 0 ns.length)=1:=by
 obtain⟨q,x,_,u⟩:=acn h ht hF;exact Nz (a:=x) λb=>⟨λhb=>ZA h.hc h.hA hn hC hb u,λe=>e▸u⟩
theorem acw(h:EX g ss A G Gs p)(hn:lE g nn)(hC:TP g nn ss A G){ns:List Nat}(ht:∀t∈ns,1<=t/\t<g.T){j:Nat}{y:cE}(hF:Bu g (bq p) (bW p) G 0 (ns++[0]) cE.new=some (false,j,y)):cap (yT g (nZ ns) g.start 0 ns.length)=0:=
 fI.2 λx u=>aco h hn hC ht hF x u
theorem acx(iG:Fi g)(h:OnL (VG g) g.N []):∀a,a<g.N->Jn (VG g) a:=λa ha=>
 ZL (λa b h=>(Zu iG h).2) (λi hi u=>by have:=h.mem.2 ⟨hi,u⟩;cases this) ha
end
section
variable{w:aiA}{L:List aE}{g:ah}{x:GA}{nn:List Bool}{row:List Int}{or_:aiz}{kt km kn rc:Nat}
theorem agf(hc:aw g)(hn:lE g nn)(hb:lq g)(hcy:OnL (VG g) g.N [])(hrow:row.length<=10)(h:St w (az kt (x.cells++[vS (some (aM kn)) g.N g.N,vS or_ row.length rc,vS (some (aM km)) (g.N*(row.length+1)*(row.length+1)) (g.N*(row.length+1)*(row.length+1))])::az km (List.replicate (g.N*(row.length+1)*(row.length+1)) (iI 0))::az kn (bv nn)::L))(hg:∀h,aF L h->gR h g x/\aX h row or_ row.length):
  ρ eJ [vP (some (aM kt)),iI g.start,iI 0,iI (row.length:Int)] w λv w'=>v=iI (cap (yT g row g.start 0 row.length):Int)/\St w' L:=by
 obtain⟨O,Y,bN,pN,pT,U⟩:=Gc (.inr hc:bM g);have V:=hc.2.2.1.2.2.2.2;obtain⟨a,ha⟩:∃a:Nat,g.start=((g.T+a:Nat):Int):=⟨(g.start-g.T).toNat,ω⟩;have h:=h.pick 3 [1,0,2];have e0:List.replicate (g.N*(row.length+1)*(row.length+1)) (iI 0)=iv (List.replicate (g.N*(row.length+1)*(row.length+1)) 0)++[]:=by simp[iv]
 rw[e0] at h;have h:=bg (l:=g.N*(row.length+1)*(row.length+1)) (c:=g.N*(row.length+1)*(row.length+1)) (sz:=1) h (by simp[cf]) (by simp[cf]) (agT _);rw[ha]
 refine(ae7 (x:=x) (on:=some (aM kn)) (or_:=or_) (om:=some (aM km)) (k:=kt) (cn:=g.N) (rc:=rc) (nm:=g.N*(row.length+1)*(row.length+1)) (cm:=g.N*(row.length+1)*(row.length+1)) hc hn O hb Y bN U hrow (acx O hcy) row.length a ω 0 row.length (agP _) (agT _) ω w _ (List.replicate (g.N*(row.length+1)*(row.length+1)) 0) ⟨σ,λi z u=>.inl ?_⟩ h λh J=>?_).mono ?_
 ·rw[aib] at u
  split at u
  ·cases u;rfl
  ·cases u
 ·obtain⟨Z,X⟩:=hg h (aj (aj J));exact⟨af 0 J,Z,Av hn.1 (.inr ⟨_,rfl,af 1 J⟩),X⟩
 ·rintro _ w'⟨rfl,W,_,h⟩;exact⟨rfl,h.tail.tail.tail⟩
theorem Ql{ts:List Int}{o:aiz}{n cp:Nat}(hg:gR (hp w) g x)(hb:lq g)(hr:aX (hp w) ts o n)(hi:∀t∈ts,-9223372036854775808<=t/\t<=9223372036854775807)(ht:dP (hp w)):
  ρ 4 [.agg ⟨x.cells⟩,vS o n cp] w λv w'=>v=vB true/\Gr w w':=by
 refine sA (gi hg λk1 w1 gw c6 B=>⟨_,_,_,_,_,_,_,_,_,_,_,_,_,B.row (Gr.refl _),(agI c6 hb (eE.mono gw ht)).mono ?_⟩)
 rintro _ w2 (⟨n1,a1,o1,cd,c1,c8,rfl,g2⟩|⟨k4,y,c,ss,nn,As,Gs,Cs,p,rfl,hS,J,g2⟩)
 ·refine⟨_,_,_,_,_,_,rfl,ag (St.all w2) λb3 w3 h=>aL h rfl (by simp[aK]) λw4 h=>fM rfl ⟨_,(af 0 h.l:aq (hp w4) (aM b3) [iI n1,iI a1,vS o1 cd c1]).cell0 sZZ,by simp[c8],gw.trans (g2.trans (aC 1 h.l))⟩⟩
 clear B c6;have hc:=J.s.hc;have a5:=J.s.hb;have d0:=hc.cK;have d6:c.T=c.terms.length:=rfl;have d7:c.N=c.cR.length:=rfl;refine⟨_,_,_,_,_,_,rfl,ag (St.all w2) λb3 w3 h=>aL h rfl (by simp[aK]) λw4 h=>bB rfl ?_⟩;have g4:Gr w2 w4:=aC 1 h.l;clear h;refine(Lw (hS.mono g4) a5 ω ω).mono ?_;rintro _ w5⟨x',os,rfl,hx,ho,h5⟩;refine⟨_,_,_,_,_,_,_,_,_,_,_,_,_,rfl,ag h5 λav w6 h=>aL h rfl (by simp[aK]) λw7 h=>?_⟩;have B:GB (hp w7) av x':=Xd h.row;have a4:gR (hp w7) c x':=Mc hx ho h.tail;have bb:sub (hp w4) (hp w7):=aC 6 h.l;clear h h5;have bi:=hS.mono (sub.trans g4 bb);have G7:Gr w w7:=gw.trans (g2.trans (g4.trans bb));have cz:c.prods.length=x'.pl:=a4.p.1;have be:c.N=x'.nl:=a4.n.1;have a6:∀{u:aiA},sub (hp w7) (hp u)->∃ci ba ch,World.cell? u (Addr.add (aM av) 4)=some (vS ci ba ch)/\(vB (decide (0<(ba:Int)))=vB true/\Gr w u):=λs=>⟨_,_,_,B.c4 s,by simp;omega,G7.trans s⟩;refine⟨_,_,_,_,_,_,_,_,_,_,_,_,_,B.row sZZ,(ace (s:=10) a4 ω (hr.mono G7) hi ω).mono ?_⟩
 rintro _ w8 (⟨rfl,g8⟩|⟨row,oo,cc,rfl,cx,a9,h8⟩)
 ·refine⟨_,_,_,_,rfl,λb u=>b=true/\sub (hp w7) (hp u),fM rfl ⟨rfl,g8⟩,?_⟩;rintro _ _ u⟨rfl,gu⟩;exact fM rfl (a6 gu)
 have g8:sub (hp w7) (hp w8):=h8.aP
 refine⟨_,_,_,_,rfl,λb u=>b= !y.clr/\w8=u,bB rfl ((abY (bi.mono g8)).mono ?_),?_⟩
 ·rintro _ _⟨rfl,rfl⟩;exact⟨_,rfl,rfl,rfl⟩
 rintro _ _ _⟨rfl,rfl⟩;refine ae (λh1=>a6 g8) λh1=>?_;have c5:y.clr=true:=by simpa using h1
 obtain⟨ns,rfl⟩:∃ns:List Nat,row=nZ ns:=⟨row.map Int.toNat,by
  apply ahp;intro i;simp only[nZ,air,agS];cases hi:row[i]? with
  |none=>rfl
  |some t=>
   have:=a9 t (agL hi);simp only[aif,Function.comp,Option.some.injEq];omega⟩
 have aa:∀t∈ns,1<=t/\t<c.T:=λt ht=>by
  have:=a9 (t:Int) (agY.2 ⟨t,ht,rfl⟩);omega
 have b7:(nZ ns).length=ns.length:=σ
 have hD:=ae0 hc J.A J.n (by have:=J.P;rwa [J.dA,J.dG] at this) a5;rw[<-J.dG] at hD;have hC:TP c nn ss (pA p) (pG c p):=ae1 hc J.A J.n (by have:=J.P;rwa [J.dA,J.dG] at this) (J.cl.1 c5);have a7:aX (hp w8) (nZ ns) oo (nZ ns).length:=bt rfl (dN 0 h8.l);clear h8;refine(VP (bi.mono g8) hD ω ω ω a7 aa ω).mono ?_;rintro _ d5⟨HF,⟨vd,at_,rt,e,oe,le,ce,bl,ls,cs,on,ln,cn,om,lm,cm,rfl,O⟩,bz⟩;refine⟨_,_,_,_,_,_,_,_,_,_,_,_,_,_,_,_,rfl,ag bz λa0 cN h=>aL h rfl (by simp[aK]) λb4 h=>?_⟩;have al:sub (hp w8) (hp b4):=aC 2 h.l;have fin:∀{u:aiA},sub (hp w8) (hp u)->Gr w u:=λs=>G7.trans (sub.trans g8 s)
 rcases O with rfl|⟨rfl,O⟩
 ·exact fM rfl ⟨rfl,fin al⟩
 have Z:(vd=1/\cap (yT c (nZ ns) c.start 0 ns.length)=1)\/(vd=2/\cap (yT c (nZ ns) c.start 0 ns.length)=0):=by
  rcases O with⟨rfl,i,y',hF⟩|⟨rfl,i,y',hF,_⟩
  ·exact .inr ⟨rfl,acw hD J.n hC aa hF⟩
  ·exact .inl ⟨rfl,acv hD J.n hC aa hF⟩
 clear O;have Y:aq (hp b4) (aM a0) [iI vd,iI at_,vS oe le ce,vS bl ls cs,vS on ln cn,iI rt,vS om lm cm]:=af 0 h.l;clear h bz;refine bB rfl ⟨ξ,λV hd=>?_⟩;have Y:aq (hp V) (aM a0) [iI vd,iI at_,vS oe le ce,vS bl ls cs,vS on ln cn,iI rt,vS om lm cm]:=Y.mono (Gr.drawn hd);have U:sub (hp w8) (hp V):=sub.trans al (Gr.drawn hd);have X:sub (hp w7) (hp V):=sub.trans g8 U;clear al hd;obtain⟨H,hH⟩:∃H,H=hp V:=⟨_,rfl⟩;rw[<-hH] at Y U X;have am:=a4.mono X;have cg:=a7.mono U;have sH:sub H (hp V):=hH▸sZZ;have BB:∀{u:aiA},sub H (hp u)->sub (hp w7) (hp u):=λs=>sub.trans X s;have hM:((x'.nl:Int)*(((nZ ns).length:Int)+1)*(((nZ ns).length:Int)+1))=((c.N*((nZ ns).length+1)*((nZ ns).length+1):Nat):Int):=by rw[be];simp
 have c9:((x'.nl:Int)*(((nZ ns).length:Int)+1))=((c.N*((nZ ns).length+1):Nat):Int):=by rw[be];simp
 obtain⟨iG,bT,bN,pN,pT,bP⟩:=Gc (.inr hc:bM c);have b1:c.N*((nZ ns).length+1)<=65*11:=ah6 ω ω;have b2:c.N*((nZ ns).length+1)*((nZ ns).length+1)<=800*11:=ah6 ω ω
 have a8:∀{kt km kn:Nat}{u:aiA},St u (az kt (x'.cells++[vS (some (aM kn)) c.N c.N,.slice oo (nZ ns).length cc,vS (some (aM km)) (c.N*((nZ ns).length+1)*((nZ ns).length+1)) (c.N*((nZ ns).length+1)*((nZ ns).length+1))])::az km (List.replicate (c.N*((nZ ns).length+1)*((nZ ns).length+1)) (iI 0))::az kn (bv nn)::[has H])->∃b5,World.cell? u (Addr.add (aM av) 3)=some (iI b5)/\iA Tryz.prog Ev eJ [vP (some (aM kt)),iI b5,iI 0,iI ((nZ ns).length:Int)] u λv7 W=>∃ad,v7=iI ad/\∃c7,World.cell? W (aM a0)=some (iI c7)/\br (c7==1) (vB (ad==1)=vB true/\Gr w W) (∃b6,World.cell? W (aM a0)=some (iI b6)/\br (b6==2) (vB (ad==0)=vB true/\Gr w W) (vB false=vB true/\Gr w W)):=λ{kt km kn u} h=>by
  refine⟨_,B.c3 (BB (aC 3 h.l)),?_⟩;rw[am.s];refine(agf hc J.n a5 J.cy ω h λh hh=>⟨am.mono (aC 0 hh),cg.mono (aC 0 hh)⟩).mono ?_;rintro _ w'⟨rfl,h⟩;have s':sub H (hp w'):=aC 0 h.l;rw[b7] at*;refine⟨_,rfl,_,Y.cell0 s',?_⟩
  rcases Z with⟨rfl,e⟩|⟨rfl,e⟩
  ·exact fM rfl ⟨by rw[e];rfl,fin (sub.trans U s')⟩
  ·exact bB rfl ⟨_,Y.cell0 s',fM rfl ⟨by rw[e];rfl,fin (sub.trans U s')⟩⟩
 have bc:∀{u:aiA},sub H (hp u)->ρ 15 [.agg ⟨x'.cells⟩] u λv w'=>∃kn,v=vS (some (aM kn)) c.N c.N/\St w' (az kn (bv nn)::all u):=λ{u} s=>by
  refine(adT (am.mono s) a5 (.inr hc)).mono ?_;rintro _ w'⟨kn,nn',rfl,ca,h⟩;rw[ca.inj J.n] at h;exact⟨kn,rfl,h⟩
 refine⟨λu=>sub H (hp u),sH,_,_,_,_,_,_,_,_,_,_,_,_,_,λu s=>B.row (BB s),_,_,_,_,_,_,_,_,_,_,_,_,_,λu s=>B.row (BB s),_,_,_,λu s=>B.c1 (BB s),?_⟩;try dsimp only;rw[hM,c9];have mk:od ((c.N*((nZ ns).length+1)*((nZ ns).length+1):Nat):Int) ((c.N*((nZ ns).length+1)*((nZ ns).length+1):Nat):Int) 8:=⟨ω,rfl,ω⟩;rw[agZ,cZ]
 refine⟨ξ,ξ,(bc sH).mono ?_,mk,ag (St.here sH) λcA cu h=>⟨aC 1 h.l,(bc (aC 1 h.l)).mono ?_⟩⟩
 ·rintro _ cT⟨kn,rfl,h⟩;have h:=h.eM (bF sH);refine⟨_,_,_,rfl,aC 1 h.l,mk,ag h λcF d8 h=>⟨aC 2 h.l,ag h λcI d4 h=>⟨aC 3 h.l,a8 h⟩⟩⟩
 ·rintro _ cW⟨kn,rfl,ck⟩;have h:=ck.eM h.l;refine⟨_,_,_,rfl,aC 2 h.l,ag h λd3 cC h=>⟨aC 3 h.l,a8 (h.pick 4 [0,2,1,3])⟩⟩
end
end Go.Proofs.YtaoaemnefghnbaaGreatDoor
