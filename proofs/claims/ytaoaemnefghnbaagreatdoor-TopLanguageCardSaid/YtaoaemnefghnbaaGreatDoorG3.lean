/- A part of the claim. -/
import Derived.Test.YtaoaemnefghnbaaGreatDoorG2
import Derived.Shelf.SlSortCmp.NoneTotal
import Derived.Shelf.Sort.Plain
import Derived.Shelf.Slices.In.SortNone
set_option linter.unusedVariables false
set_option linter.unusedSectionVars false
set_option maxRecDepth 100000
set_option maxHeartbeats 16000000
namespace Go.Proofs.YtaoaemnefghnbaaGreatDoor
open Tryz
def MC(g:B)(added:Nat):Prop:=yA g added/\Fo g added
theorem S5{l:Az}(h:0<l.length):0<(dB l).length:=by
 obtain⟨b,a⟩:=List.exists_mem_of_length_pos h;exact List.length_pos_of_mem (Ju.2 a)
def Qp(g:B)(added:Nat):Prop:=g.b9.length<=64+added/\g.terms.length<=65/\g.prods.length<=96+added/\added<g.prods.length/\g.levels.length<=64
theorem Qq{g:B}{a:Nat}:MC g a↔Qp g a/\(g.terms.length:Int)-1+g.b9.length-a<=64/\Jv g/\Dw g/\Qo g a/\(∀p∈g.prods.drop a,tf g a p)/\((kD g a).length:Int)=(g.N:Int)-a/\(g.T:Int)+a<=g.start/\g.start<g.T+g.N:=by
 unfold MC;rw[Dx]
 constructor
 ·rintro⟨⟨o,b,c,d,q,e,f,h⟩,i,j,k,l,m,n⟩;exact⟨⟨c,b,j,i,d⟩,U,e,f,h,k,l,m,n⟩
 ·rintro⟨⟨c,d,e,f,h⟩,o,b,i,j,k,l,m,n⟩;have q:0<(kD g a).length:=S5 G;have r:g.N=g.b9.length:=rfl;have s:1<=g.terms.length:=by have:=(gJ.1 b.1).1;omega
  exact⟨⟨U,d,c,h,U,b,i,j⟩,f,e,k,l,m,n⟩
section
variable{w:ga}{L:List aG}{g:B}{x:GA}{s:vS}
def wL(c:Nat):Bool:=decide (c=95)||(decide (65<=c)&&decide (c<=90))||(decide (97<=c)&&decide (c<=122))
theorem Qr{i c:Nat}:UW i c=(wL c||(decide (i≠0)&&decide (48<=c)&&decide (c<=57))):=rfl
theorem Y8(m:s.size<=4611686018427387904):ρ 301 [.string s] w λa b=>a=J (fo s)/\b=w:=by
 refine um ?_;refine⟨λc d=>∃a:Nat,c=a/\a<=s.size/\(∀b,b<a->UW b (lu s b)=true)/\d=w,λa _=>s.size-a.toNat,⟨0,rfl,U,λa b=>U,rfl⟩,?_⟩;rintro _ n e⟨a,rfl,o,p,rfl⟩
 refine ae (λh=>?_) λh=>?_
 ·have q:a<s.size:=η
  have b:Nq (a:Int) s.size:=ξ;have i:((sb s a).toNat:Int)=(lu s a:Nat):=rfl;rw[je,i]
  refine⟨λc=>UW a (lu s a)=true/\c=e,⟨λc d=>c=wL (lu s a)/\d=e,⟨b,?_⟩,?_⟩,?_⟩
  ·generalize lu s a=f;have g:((f:Int)==95)=decide (f=95):=G
   unfold wL;rw[g];refine ae (λj=>⟨b,ae (λk=>⟨?_,rfl⟩) λk=>⟨b,ae (λc=>⟨b,ae (λd=>⟨?_,rfl⟩) λd=>⟨b,?_,rfl⟩⟩) λc=>⟨b,?_,rfl⟩⟩⟩) λj=>⟨b,ae (λc=>⟨b,ae (λd=>⟨?_,rfl⟩) λd=>⟨b,?_,rfl⟩⟩) λc=>⟨b,?_,rfl⟩⟩
   all_goals
    grind
  ·rintro _ r f⟨g,rfl⟩;rw[Qr,<-g]
   have c:UW a (lu s a)=false->J false=J (fo s)/\f=f:=λt=>by
    refine⟨?_,rfl⟩;have:(List.range s.size).all (λd=>UW d<|lu s d)=false:=G
    simp_all[fo]
   rw[Qr,<-g] at c;generalize lu s a=v at c;refine⟨b,ae (λj=>⟨b,ae (λk=>ae (λd=>ae (λl=>c ?_) λl=>⟨?_,rfl⟩) λd=>⟨?_,rfl⟩) λk=>ae (λd=>c ?_) λd=>⟨?_,rfl⟩⟩) λj=>ae (λd=>c ?_) λd=>⟨?_,rfl⟩⟩
   all_goals grind
   all_goals simp_all
   all_goals
    simp_all
  ·rintro _ c⟨d,rfl⟩;refine⟨ξ,⟨a+1,V,U,λf g=>?_,rfl⟩,G⟩
   grind
 ·have d:a=s.size:=G
  have c:(List.range s.size).all (λb=>UW b<|lu s b)=true:=Fm.2 η;unfold fo;rw[c]
  refine ae (λb=>?_) λb=>?_
  ·have f:1<=s.size:=G
   refine⟨?_,rfl⟩;have g:decide ((s.size:Int)<=16)=decide (s.size<=16):=G
   simp_all
  grind
theorem Qs(t:gR (hp w) g x)(v:jq g):ρ 215 [.agg ⟨x.cells⟩] w λa b=>(∃r:Bool,a=J r/\(r=true↔Dw g))/\Gr w b:=by
 refine qe ?_;refine dZ t λX n o c b=>?_;obtain⟨Y,a0,a1,a2,a3,a4,a5⟩:=v;have a6:=c.t.1;have a7:=c.l.1;have f:∀{d},Gr n d->¬Dw g->(∃r:Bool,J false=J r/\(r=true↔Dw g))/\Gr w d:=λ{i} d e=>⟨⟨false,rfl,⟨λh=>G,λh=>absurd h e⟩⟩,o.trans d⟩;refine⟨λy z=>∃d:Nat,y=d/\d<=x.ll/\(∀(k:Nat) a,k<d->g.levels[k]? =some a->1<=a/\a<=3/\∃a∈g.terms,a.level=(k:Int)+1)/\z=n,λa _=>x.ll-a.toNat,⟨0,rfl,U,λk a d=>U,rfl⟩,?_⟩;rintro _ a8 A⟨a,rfl,a9,C,rfl⟩
 refine⟨_,_,_,b.c2 sZ,ae (λF=>?_) λF=>?_⟩
 ·have d:a<x.ll:=η
  obtain⟨h,aa,i,p,q⟩:=c.l.dy d;refine⟨λe l m=>∃k:Nat,l=k/\k<=x.tl/\(e=true↔∃s∈g.terms.take k,s.level=(a:Int)+1)/\m=A,λl e _=>x.tl-e.toNat,⟨0,rfl,U,V,rfl⟩,?_⟩;rintro _ I ab ac⟨k,rfl,ad,s,rfl⟩
  refine⟨_,_,_,b.c0 sZ,ae (λL=>?_) λL=>?_⟩
  ·have e:k<x.tl:=η
   obtain⟨l,al,N,am,P,Q,R⟩:=c.t.get e;have S:N=[.string l.name,O l.level]:=R;subst S;have an:g.terms.take (k+1)=g.terms.take k++[l]:=by simp_all[iw]
   refine ae (λm=>?_) λm=>?_
   ·subst m;refine⟨ξ,⟨k+1,V,U,?_,rfl⟩,bS e⟩
    simp_all
   ·subst m;refine⟨_,_,_,b.c0 sZ,aI P e ⟨_,Q.cell sZ (j:=1) rfl,ξ,ξ,⟨k+1,V,U,?_,rfl⟩,bS e⟩⟩
    simp_all
  ·have N:k=x.tl:=G
   rw[jy U] at s
   refine ae (λm=>f (Gr.refl _) λhp=>?_) λm=>?_
   ·have:=s.2 (hp a h i).2.2
    simp_all
   have P:I=true:=η
   refine⟨_,_,_,b.c2 sZ,au p d ⟨_,q _ sZ,ae (λe=>f (Gr.refl _) λhp=>?_) λe=>⟨_,_,_,b.c2 sZ,au p d ⟨_,q _ sZ,ae (λl=>f (Gr.refl _) λhp=>?_) λl=>?_⟩⟩⟩⟩
   ·have:=gZ e;have:=(hp a h i).1;omega
   ·have:=gZ l;have:=(hp a h i).2.1;omega
   ·have Q:=hY e;have R:=hY l;refine⟨ξ,⟨a+1,V,U,λS al am an=>?_,rfl⟩,bS d⟩
    grind
 ·have d:a=x.ll:=G
  subst d;exact⟨⟨true,rfl,⟨λ_ e h i=>C e h G i,λ_=>rfl⟩⟩,o⟩
theorem WK(F:gR (hp w) g x)(I:jq g)(a:Nat):ρ 216 [.agg ⟨x.cells⟩,O (a:Int)] w λb c=>(∃r:Bool,b=J r/\(r=true↔Qo g a))/\Gr w c:=by
 refine s8 ?_;refine dZ F λY e n j h=>?_;obtain⟨a0,a1,a2,a3,a4,a5,a6⟩:=I;have a7:=j.n.1;have o:∀{b},Gr e b->¬Qo g a->(∃r:Bool,J false=J r/\(r=true↔Qo g a))/\Gr w b:=λ{f} b c=>⟨⟨false,rfl,⟨λd=>G,λd=>absurd d c⟩⟩,n.trans b⟩;refine⟨λc d=>∃b:Nat,c=((a+b:Nat):Int)/\(a+b<=x.nl\/b=0)/\((g.b9.drop a).take b).Nodup/\(∀f∈(g.b9.drop a).take b,fo f=true)/\Gr e d,λb _=>x.nl-b.toNat,⟨0,rfl,.inr rfl,V,V,Gr.refl _⟩,?_⟩;rintro _ a8 a9⟨b,rfl,aa,p,q,c⟩
 refine⟨_,_,_,h.c1 c,ae (λs=>?_) λs=>?_⟩
 ·have k:a+b<x.nl:=G
  obtain⟨f,ab,ac,i,t⟩:=j.n.dy k;have v:(g.b9.drop a)[b]? =some f:=η
  have L:=gg v;have ad:(g.b9.drop a).take (b+1)=(g.b9.drop a).take b++[f]:=by simp_all[iw]
  refine⟨_,_,_,h.c1 c,au i k ⟨_,t _ c,(Y8 G).mono ?_⟩⟩;rintro _ al⟨rfl,rfl⟩
  refine⟨_,rfl,ae (λy=>o c λhp=>?_) λy=>?_⟩
  ·rw[hp.2 f L] at y;grind
  have am:fo f=true:=η
  refine⟨λl m=>∃d:Nat,l=((a+d:Nat):Int)/\d<=b/\(∀z∈(g.b9.drop a).take d,z≠f)/\Gr e m,λd _=>x.nl-d.toNat,⟨0,rfl,U,V,c⟩,?_⟩;rintro _ an ao⟨d,rfl,ap,av,z⟩
  refine ae (λN=>?_) λN=>?_
  ·have az:d<b:=η
   obtain⟨P,aB,aK,A,Q⟩:=j.n.dy (by omega:a+d<x.nl);rw[i] at A;cases A;have C:(g.b9.drop a)[d]? =some P:=η
   intro R S;have l:Gr e R:=z.trans<|Gr.of_eq<|fM S;refine⟨λm=>Gr e m,l,_,_,_,λX m=>h.c1 m,au i U ⟨_,λX m=>Q _ m,_,_,_,λX m=>h.c1 m,au i k ⟨_,λX m=>t _ m,?_⟩⟩⟩;rw[GX]
   refine ae (λm=>o l λhp=>?_) λm=>?_
   ·have X:=gZ m;subst X;have:=(vJ (gJ.1 C).1 hp.1).1 (C.trans v.symm);omega
   ·have X:=hY m;refine⟨ξ,⟨d+1,by rfl,U,λaR aS=>?_,l⟩,G⟩
    grind[List.take_add_one]
  ·have l:d=b:=G
   subst l
   refine⟨ξ,⟨d+1,by rfl,U,?_,λm A=>?_,z⟩,G⟩
   ·grind
   grind
 ·have d:=hY s;rw[jy G] at q p;exact⟨⟨true,rfl,⟨λ_=>⟨p,q⟩,λ_=>rfl⟩⟩,n.trans c⟩
theorem Fp(c:gR (hp w) g x)(d:jq g):ρ 148 [.agg ⟨x.cells⟩] w λa b=>a=O ((g.T:Int)+g.N)/\Gr w b:=by
 refine sU ?_;refine dZ c λf h e a b=>?_;have i:=a.t.1;have j:=a.n.1;obtain⟨k,l,m,n,o,p,q⟩:=d;exact⟨_,_,_,b.c0 sZ,_,_,_,b.c1 sZ,ξ,by simp_all[B.T,B.N],e⟩
theorem S6(a9:gR (hp w) g x)(I:jq g)(a:Nat):ρ 217 [.agg ⟨x.cells⟩,O (a:Int),O ((g.T:Int)+a)] w λv b=>(∃r:Bool,v=J r/\(r=true↔∀p∈g.prods.drop a,tf g a p))/\Gr w b:=by
 refine qZ ?_;refine dZ a9 λb2 o L f i=>?_;have N:=I;obtain⟨b3,b4,b5,b6,b7,b9,aa⟩:=I;have ba:g.T=x.tl:=f.t.1;have bb:g.N=x.nl:=f.n.1;have bc:=f.l.1;have bd:=f.p.1;have P:∀{b},Gr o b->¬(∀p∈g.prods.drop a,tf g a p)->(∃r:Bool,J false=J r/\(r=true↔∀p∈g.prods.drop a,tf g a p))/\Gr w b:=λ{e} b c=>⟨⟨false,rfl,⟨λd=>G,λd=>absurd d c⟩⟩,L.trans b⟩;refine⟨λb c=>∃j:Nat,b=((a+j:Nat):Int)/\(a+j<=x.pl\/j=0)/\(∀p∈(g.prods.drop a).take j,tf g a p)/\Gr o c,λb _=>x.pl-b.toNat,⟨0,rfl,.inr rfl,V,Gr.refl _⟩,?_⟩;rintro _ be ab⟨j,rfl,bi,Q,l⟩
 refine⟨_,_,_,i.c4 l,ae (λR=>?_) λR=>?_⟩
 ·have S:a+j<x.pl:=G
  obtain⟨p,bl,bo,bs,ac,ad,X,d,Y,rfl,bu,a0⟩:=f.p.get S;have a1:(g.prods.drop a)[j]? =some p:=η
  have q:=gg a1;have bz:=a0.1;have bE:=aa p<|rr q;refine⟨_,_,_,i.c4 l,aI ac S ⟨_,_,_,_,_,ad.at l rfl,ag (W.all ab) λal bN n=>aQ n rfl (by simp[aO]) λb n=>?_⟩⟩;have c:Gr o b:=l.trans n.aS;have t:aj (hp b) ⟨al,0,none⟩ [O p.left,T X d Y,O p.level]:=n.row;have a2:=λ(e:ga)(s:Gr b e)=>t.cell0 s;have a3:=λ(e:ga)(s:Gr b e)=>t.cell s (j:=1) (v:=T X d Y) rfl;have a4:=λ(e:ga)(s:Gr b e)=>t.cell s (j:=2) (v:=O p.level) rfl
  refine⟨λe h=>(e=false↔((g.T:Int)+a<=p.left/\p.left<g.T+g.N/\0<=p.level/\p.level<=g.levels.length))/\Gr b h,?_,?_⟩
  ·intro A C;have e:Gr b A:=Gr.of_eq (fM C)
   refine⟨λh=>Gr b h,e,_,λh s=>a2 _ s,ae (λm=>⟨?_,e⟩) λm=>?_⟩
   ·grind
   have a6:=hY m;refine⟨_,λh s=>a2 _ s,_,_,_,_,_,_,_,_,_,_,_,_,_,λh s=>i.row<|c.trans s,(Fp (x:=x) (f.mono<|c.trans e) N).mono ?_⟩;rintro _ F⟨rfl,a5⟩;have h:Gr b F:=e.trans a5
   refine⟨_,rfl,λy=>Gr b y,h,λ_ y=>y,ae (λy=>⟨?_,h⟩) λy=>?_⟩
   ·grind
   have a7:=hY y
   refine⟨_,λz s=>a4 _ s,ae (λz=>⟨?_,h⟩) λz=>?_⟩
   ·grind
   have a8:=hY z;refine⟨_,λam s=>a4 _ s,_,_,_,λam s=>i.c2<|c.trans s,?_,h⟩
   simp_all
  rintro _ bO bQ⟨a5,a6⟩
  refine ae (λam=>?_) λan=>?_
  ·subst am;exact P (c.trans a6) λe=>by have:=a5.2 (e p q).1;simp_all
  have ao:=a5.1 an;refine⟨λap av=>∃e:Nat,ap=e/\e<=d/\(∀(k:Nat) s,k<e->p.right[k]? =some s->gI g a s)/\Gr b av,λe _=>d-e.toNat,⟨0,rfl,U,λk s e=>U,a6⟩,?_⟩;rintro _ bP bT⟨h,rfl,c0,az,e⟩
  refine⟨_,_,_,a3 _ e,ae (λaB=>?_) λaB=>?_⟩
  ·have y:h<d:=η
   obtain⟨s,c1,aK,aR,aS⟩:=a0.dy y;have z:∀{m},Gr b m->¬gI g a s->_:=λ{F} m A=>P (c.trans m) (λC=>A<|(C p q).2 s (gg aK))
   have a7:∀{A},Gr b A->gI g a s->K ((h:Int)+1)/\(∃m:Nat,(h:Int)+1=m/\m<=d/\(∀(k:Nat) s,k<m->p.right[k]? =some s->gI g a s)/\Gr b A)/\d-((h:Int)+1).toNat<d-(h:Int).toNat:=λ{c2} aV c3=>by
    refine⟨ξ,⟨h+1,V,U,λk m A C=>?_,aV⟩,bS y⟩
    grind
   refine⟨_,_,_,a3 _ e,au aR y ⟨s,aS _<|c.trans e,ae (λA=>z e ?_) λA=>?_⟩⟩
   ·have:=gZ A;grind[gI]
   refine⟨_,_,_,_,_,_,_,_,_,_,_,_,_,i.row<|c.trans e,(Fp (x:=x) (f.mono<|c.trans e) N).mono ?_⟩;rintro _ b0⟨rfl,b1⟩;have m:Gr b b0:=e.trans b1
   refine⟨_,rfl,ae (λC=>z m ?_) λC=>⟨_,_,_,i.c0<|c.trans m,ae (λF=>ae (λa8=>z m ?_) λa8=>a7 m ?_) λF=>a7 m ?_⟩⟩
   ·have:=gZ C;grind[gI]
   ·have c4:=gZ F;have c5:=gZ a8;grind[gI]
   ·have c4:=hY A;have c5:=hY C;have c6:=gZ F;grind[of_decide_eq_false,gI]
   grind[of_decide_eq_false,gI]
  have z:h=d:=G
  subst z;refine⟨ξ,⟨j+1,by rfl,U,λC y=>?_,c.trans e⟩,G⟩;rw[iw,a1] at y
  rcases iU.1 y with m|m
  ·simp_all
  ·simp at m;subst m
   exact⟨ao,λs A=>by
    obtain⟨k,F,a7⟩:=List.mem_iff_getElem.1 A;exact az k s U G⟩
 ·have b:=hY R;rw[jy G] at Q;exact⟨⟨true,rfl,⟨λ_=>Q,λ_=>rfl⟩⟩,L.trans l⟩
theorem Fx(L:gR (hp w) g x)(N:jq g)(b:Nat):ρ 146 [.agg ⟨x.cells⟩,O (b:Int)] w λd e=>∃a c,d=.slice a (kD g b).length c/\W e (own 1 a (kD g b).length c (iv (kD g b))::all w):=by
 refine vt ?_;refine dZ L λa3 h P q n=>?_;obtain⟨a4,a5,a6,a7,a8,a9,aa⟩:=N;have ab:=q.p.1;have Q:∀{d:ga}{e:aG},W d (e::all h)->W d (e::all w):=λd=>d.fy (bM P)
 refine⟨λf e i j k=>∃d:Nat,j=((b+d:Nat):Int)/\(b+d<=x.pl\/d=0)/\(dB<|((g.prods.drop b).map aD.left).take d).length=e/\
   W k (own 1 f e i (iv<|dB<|((g.prods.drop b).map aD.left).take d)::all h),λ_ _ _ d _=>x.pl-d.toNat,⟨0,rfl,.inr rfl,rfl,aH 1<|W.all h⟩,?_⟩
 rintro _ r _ s ac R⟨e,rfl,ad,rfl,j⟩;have t:Gr h R:=j.aS;have al:(dB<|((g.prods.drop b).map aD.left).take e).length<=e:=j3 (B6 _) G
 refine⟨_,_,_,n.c4 t,ae (λv=>?_) λv=>?_⟩
 ·have o:b+e<x.pl:=G
  obtain⟨f,am,an,ao,y,z,ap,av,az,rfl,aB,aK⟩:=q.p.get o;have aR:(g.prods.drop b)[e]? =some f:=η
  have S:((g.prods.drop b).map aD.left)[e]? =some f.left:=η
  have aS:=GY S;generalize aV:dB (((g.prods.drop b).map aD.left).take e)=d at*;refine⟨λk l m=>∃i:Nat,l=i/\i<=d.length/\(k=true↔f.left∈d.take i)/\W m (own 1 r d.length s (iv d)::all h),λk i _=>d.length-i.toNat,⟨0,rfl,U,V,j⟩,?_⟩;clear j t;rintro _ b0 b1 b2⟨i,rfl,b3,A,k⟩
  refine ae (λX=>?_) λX=>?_
  ·have l:i<d.length:=η
   intro C Y;have m:=k.drawn Y;have F:Gr h C:=m.aS;obtain⟨I,b4,a0,rfl,a1⟩:=(uL m).dy l;have b5:d.take (i+1)=d.take i++[I]:=cH a0
   refine⟨λp=>Gr C p,Gr.refl _,ae (λp=>?_) λp=>?_⟩
   ·subst p;exact⟨ξ,⟨i+1,V,U,⟨λ_=>η,λ_=>rfl⟩,m⟩,bS l⟩
   ·subst p;refine au rfl l ⟨I,λb6 a2=>a1 _ a2,_,_,_,λb6 a2=>n.c4<|F.trans a2,aI y o ⟨_,λb6 a2=>z.cell0<|F.trans a2,ξ,⟨i+1,V,U,?_,m⟩,bS l⟩⟩
    grind
  ·have m:i=d.length:=G
   subst m;rw[jl] at A
   refine ae (λp=>?_) λp=>?_
   ·have a0:f.left∉d:=λl=>η
    refine⟨_,_,_,n.c4 k.aS,aI y o ⟨_,z.cell0 k.aS,ag k λa1 a2 C=>?_⟩⟩;refine(aU aY (rfl:ai Ty _=.slice _) (rfl:ai Ty _=.slice _) rfl rfl rfl C rfl (by simp[aO]) G U).mono ?_;rintro _ b4⟨b5,b6,rfl,F⟩;have I:dB (((g.prods.drop b).map aD.left).take (e+1))=d++[f.left]:=by simp_all[vz]
    refine⟨_,_,_,rfl,ξ,⟨e+1,by rfl,U,η,?_⟩,G⟩;rw[I];have Y:∀l:Az,iv (l++[f.left])=iv l++[O f.left]:=λl=>by simp[iv]
    rw[Y];exact F.pick 3 [0,2]
   ·have l:f.left∈d:=A.1 η;have C:dB (((g.prods.drop b).map aD.left).take (e+1))=d:=by simp_all[vz]
    refine⟨ξ,⟨e+1,by rfl,U,G,?_⟩,G⟩
    simp_all
 ·have f:=hY v;have d:((g.prods.drop b).map aD.left).take e=(g.prods.drop b).map aD.left:=jy G;rw[d] at j ⊢;exact⟨r,s,rfl,Q j⟩
end
theorem Gr.drawn{w w':ga}(h:Proofs.YtaoaemnefghnbaaGreatDoor.drawn w w'):Gr w w':=Gr.of_eq (fM h)
theorem ic{w:ga}{L:List aG}{a:E}{l c:Nat}{xs:Az}(h:W w (own 1 a l c (iv xs)::L)):bf (hp w) xs a l:=by
 have b:=gm h;obtain⟨f,d,e⟩:=h.first;exact(iJ (by simpa[iv] using b)<|bD e).mono d
theorem S7{g:B}:aw g↔(2<=g.b9.length/\g.b9[0]? =some .empty/\2<=g.prods.length/\∃p,g.prods[0]? =some p/\p.left=(g.T:Int)/\p.right=[g.start]/\p.level=0)/\MC g 1:=by
 unfold aw MC
 constructor
 ·rintro⟨c,a,b,d⟩;have:=(Dx.1 a).1;have:=(Qq.1 ⟨a,b⟩).1.2.2.2.1
  grind
 simp_all
section
variable{w:ga}{L:List aG}{g:B}{x:GA}{s:vS}
theorem Fz(I:gR (hp w) g x)(m:jq g)(c:Nat)(an:c<=1):ρ 121 [.agg ⟨x.cells⟩,O (c:Int)] w λa b=>(∃r:Bool,a=J r/\(r=true↔MC g c))/\Gr w b:=by
 refine xa ?_;refine dZ I λao n o b a=>?_;have h:=m;obtain⟨ap,av,az,aB,aK,aR,aS⟩:=m;have p:=b.t.1;have q:=b.n.1;have L:=b.l.1;have N:=b.p.1;have s:g.T=x.tl:=p;have P:g.N=x.nl:=q;have aV:=b.s;rw[Qq];unfold Qp;rw[s,P,p,q,L,N];generalize b0:(_/\_:Prop)=t;have d:∀{e},Gr n e->¬t->(∃r:Bool,J false=J r/\(r=true↔t))/\Gr w e:=λ{j} e f=>⟨⟨false,rfl,⟨λi=>(by cases i),λi=>absurd i f⟩⟩,o.trans e⟩
 refine⟨λe f=>(e=false↔(x.nl<=64+c/\x.tl<=65/\x.pl<=96+c/\c<x.pl/\x.ll<=64))/\f=n,?_,?_⟩
 ·refine⟨_,_,_,a.c1 sZ,ξ,ae (λe=>⟨?_,rfl⟩) λe=>⟨_,_,_,a.c0 sZ,ae (λf=>⟨?_,rfl⟩) λf=>⟨_,_,_,a.c4 sZ,ξ,ae (λi=>⟨?_,rfl⟩) λi=>⟨_,_,_,a.c4 sZ,ξ,ae (λj=>⟨?_,rfl⟩) λj=>⟨_,_,_,a.c2 sZ,?_,rfl⟩⟩⟩⟩⟩
  all_goals grind
  all_goals omega
 rintro _ b1 e⟨Q,rfl⟩
 refine ae (λv=>d (Gr.refl _) λhp=>?_) λv=>?_
 ·simp_all
 obtain⟨b2,b3,z3,b4,z5⟩:=Q.1 v
 refine⟨_,_,_,a.c0 sZ,ξ,_,_,_,a.c1 sZ,ξ,ξ,ae (λy=>d (Gr.refl _) λhp=>?_) λy=>?_⟩
 ·grind
 have b5:=hY y;refine⟨_,_,_,_,_,_,_,_,_,_,_,_,_,a.row sZ,(S4 (x:=x) b h).mono ?_⟩;rintro _ b6⟨⟨R,rfl,S⟩,i⟩
 refine⟨_,rfl,ae (λX=>d i λhp=>?_) λX=>?_⟩
 ·simp_all
 have Y:R=true:=η
 have b7:=S.1 Y;refine⟨_,_,_,_,_,_,_,_,_,_,_,_,_,a.row i,(Qs (x:=x) (b.mono i) h).mono ?_⟩;rintro _ a0⟨⟨b9,rfl,ba⟩,a1⟩;have k:Gr e a0:=i.trans a1;refine⟨_,rfl,_,_,_,_,_,_,_,_,_,_,_,_,_,a.row k,(WK (x:=x) (b.mono k) h c).mono ?_⟩;rintro _ a2⟨⟨bb,rfl,bc⟩,a3⟩;have j:Gr e a2:=k.trans a3;have z:=S6 (x:=x) (b.mono j) h c;rw[s] at z;refine⟨_,rfl,_,_,_,_,_,_,_,_,_,_,_,_,_,a.row j,_,_,_,a.c0 j,ξ,z.mono ?_⟩;rintro _ a4⟨⟨bd,rfl,be⟩,a5⟩;have l:Gr e a4:=j.trans a5;refine⟨_,rfl,_,_,_,_,_,_,_,_,_,_,_,_,_,a.row l,(Fx (x:=x) (b.mono l) h c).mono ?_⟩;rintro _ a6⟨bi,bl,rfl,a7⟩;have A:Gr e a6:=l.trans a7.aS;refine⟨_,_,_,rfl,λa8 C=>⟨λf=>Gr e f,A.trans<|Gr.drawn C,?_⟩⟩;have f:Gr e a8:=A.trans (Gr.drawn C)
 refine ae (λa9=>ae (λaa=>ae (λab=>⟨_,_,_,λac F=>a.c1 F,ξ,ae (λac=>⟨_,λad F=>a.c3 F,_,_,_,λad F=>a.c0 F,ξ,ae (λad=>⟨_,λal F=>a.c3 F,_,_,_,_,_,_,_,_,_,_,_,_,_,λal F=>a.row F,(Fp (x:=x) (b.mono f) h).mono ?_⟩) λad=>d f λhp=>?_⟩) λac=>d f λhp=>?_⟩) λab=>d f λhp=>?_) λaa=>d f λhp=>?_) λa9=>d f λhp=>?_
 ·rintro _ al⟨rfl,am⟩;have F:Gr e al:=f.trans am;refine⟨_,rfl,F,⟨_,rfl,?_⟩,o.trans F⟩
  simp_all
 ·simp_all
 ·simp_all
 ·simp_all
 ·simp_all
 simp_all
end
def bL(g:B):Prop:=kE g\/aw g
theorem wM(a:vP)(n:Nat):a.add (ew 0 n)=a:=by simp[bh,Addr.add]
section
variable{w:ga}{L:List aG}{g:B}{x:GA}{s:vS}
theorem Y9(z:gR (hp w) g x)(A:jq g):ρ 52 [.agg ⟨x.cells⟩] w λa b=>(∃r:Bool,a=J r/\(r=true↔aw g))/\Gr w b:=by
 refine uc ?_;refine dZ z λa6 l m b c=>?_;have C:=b.t.1;have a7:=b.n.1;have a8:=b.p.1;have a9:g.T=x.tl:=C;have aa:=b.s;rw[S7];generalize F:(_/\_:Prop)=h;have e:∀{a},Gr l a->¬h->(∃r:Bool,J false=J r/\(r=true↔h))/\Gr w a:=λ{k} a d=>⟨⟨false,rfl,⟨λf=>(by cases f),λf=>absurd f d⟩⟩,m.trans a⟩
 refine⟨λI L=>(I=false↔(2<=g.b9.length/\g.b9[0]? =some .empty/\2<=g.prods.length))/\L=l,?_,?_⟩
 ·refine⟨_,_,_,c.c1 sZ,ae (λa=>⟨?_,rfl⟩) λa=>?_⟩
  ·grind
  have o:=hY a;obtain⟨d,p,q,f,k⟩:=b.n.dy (i:=0) U;refine⟨_,_,_,c.c1 sZ,nR f U ⟨d,k _ sZ,?_⟩⟩;rw[GX]
  change br (!decide (d=.empty)) _ _
  refine ae (λn=>⟨?_,rfl⟩) λn=>⟨_,_,_,c.c4 sZ,?_,rfl⟩
  ·simp_all
  grind
 rintro _ ab n⟨N,rfl⟩
 refine ae (λo=>e (Gr.refl _) λhp=>?_) λo=>?_
 ·simp_all
 obtain⟨ac,ad,z3⟩:=N.1 o;obtain⟨d,al,am,P,Q,p,an,q,ao,rfl,ap,s⟩:=b.p.get (i:=0) U;rw[wM] at p;refine⟨_,_,_,c.c4 sZ,nR Q U ⟨_,_,_,_,_,p.at sZ rfl,ag (W.all n) λav az R=>aQ R rfl (by intro f a;simp at a;rcases a with rfl|rfl|rfl<;>rfl) λaB S=>?_⟩⟩;intro t X;have v:=S.drawn X;have a:Gr n t:=v.aS;have f:=v.row;have y:=s.mono a
 have aK:h↔((d.left=(x.tl:Int)/\q=1/\d.right=[g.start]/\d.level=0)/\MC g 1):=by
  rw[<-F]
  constructor
  ·rintro⟨⟨_,_,_,a1,hq,a2,k,Y⟩,a0⟩;rw[P] at hq;cases hq;exact⟨⟨U,by rw[<-s.1,k];rfl,k,Y⟩,a0⟩
  simp_all
 refine⟨λk=>sub (hp t)<|hp k,sZ,_,λY k=>f.cell0 k,_,_,_,λY k=>c.c0<|sub.trans a k,ae (λY=>e a λhp=>?_) λY=>⟨_,_,_,λa0 k=>f.cell k (j:=1) rfl,ae (λa0=>e a λhp=>?_) λa0=>?_⟩⟩
 ·simp_all
 ·simp_all
 have aR:d.left=(x.tl:Int):=η
 have aS:q=1:=G
 obtain⟨k,aV,V,a1,a2⟩:=y.dy (i:=0) U
 have b0:d.right=[k]:=by
  have hl:=y.1
  match hq:d.right,hl,V with
  |[a3],_,V=>simp_all
  |[],hl,_=>simp_all
  |_::_::_,hl,_=>simp_all
 refine⟨_,_,_,λa4 a3=>f.cell a3 (j:=1) rfl,nR a1 U ⟨k,λa4 a3=>a2 _ a3,_,λa4 a3=>c.c3<|sub.trans a a3,ae (λa3=>e a λhp=>?_) λa3=>⟨_,λa5 a4=>f.cell a4 (j:=2) rfl,ae (λa4=>e a λhp=>?_) λa4=>?_⟩⟩⟩
 ·simp_all
 ·simp_all
 have b1:k=x.s:=η
 have b2:d.level=0:=η
 refine⟨_,_,_,_,_,_,_,_,_,_,_,_,_,c.row a,(Fz (x:=x) (b.mono a) A 1 U).mono ?_⟩;rintro _ b3⟨⟨r,rfl,b4⟩,a5⟩;refine⟨_,rfl,⟨r,rfl,?_⟩,m.trans<|a.trans a5⟩
 simp_all
theorem uy(P:gR (hp w) g x)(o:jq g):ρ 81 [.agg ⟨x.cells⟩] w λa b=>(∃r:Bool,a=J r/\(r=true↔aw g))/\Gr w b:=by
 refine Hn ?_;refine dZ P λa8 h p b c=>?_;have Q:=b.t.1;have a9:=b.n.1;have aa:=b.p.1;have ab:g.T=x.tl:=Q;have ac:=b.s;have d:∀{a},Gr h a->¬aw g->(∃r:Bool,J false=J r/\(r=true↔aw g))/\Gr w a:=λ{k} a e=>⟨⟨false,rfl,⟨λf=>G,λf=>absurd f e⟩⟩,p.trans a⟩
 refine⟨λR S=>(R=false↔(g.b9[0]? =some .empty/\yA g 1))/\Gr h S,?_,?_⟩
 ·refine⟨_,_,_,c.c1 sZ,ae (λe=>⟨?_,Gr.refl _⟩) λe=>?_⟩
  ·simp_all
  have m:x.nl≠0:=λa=>η
  obtain⟨a,n,q,f,k⟩:=b.n.dy (i:=0) U;refine⟨_,_,_,c.c1 sZ,nR f U ⟨a,k _ sZ,?_⟩⟩;rw[GX]
  change br (!decide (a=.empty)) _ _
  refine ae (λl=>⟨?_,Gr.refl _⟩) λl=>⟨_,_,_,_,_,_,_,_,_,_,_,_,_,c.row sZ,(MB (x:=x) b o 1 U).mono ?_⟩
  ·simp_all
  simp_all
 rintro _ ad al⟨q,k⟩
 refine ae (λs=>d k λhp=>?_) λs=>?_
 ·have:=q.2 ⟨hp.1,hp.2.1⟩
  simp_all
 obtain⟨am,an⟩:=q.1 s;refine⟨_,_,_,_,_,_,_,_,_,_,_,_,_,c.row k,(BE (x:=x) (b.mono k) o 1 U).mono ?_⟩;rintro _ Y⟨ao,ap,av,az,aB,rfl,t,aK,a0⟩;have v:Gr h Y:=k.trans a0.aS;refine⟨_,_,_,_,rfl,_,_,_,c.c4 v,λy a1=>?_⟩;have a:Gr h y:=v.trans<|Gr.drawn a1;refine⟨λe=>sub (hp y)<|hp e,sZ,ae (λn=>?_) λn=>d a λhp=>?_⟩
 rotate_left
 ·rw[t.2 hp.2.2.1] at n;grind
 have a2:=t.1 n;have e:0<x.pl:=by have:=a2.1;omega
 obtain⟨f,aR,aS,a3,l,z,aV,A,b0,rfl,b1,C⟩:=b.p.get (i:=0) e;rw[wM] at z;have F:=C.mono a;have m:=z.mono a
 have b2:aw g↔(f.left=(x.tl:Int)/\A=1/\f.right=[g.start]/\f.level=0):=by
  unfold aw
  constructor
  ·rintro⟨_,_,_,N,hq,a4,I,L⟩;rw[a3] at hq;cases hq;exact⟨U,by rw[<-C.1,I];rfl,I,L⟩
  simp_all
 refine nR l e ⟨_,λL I=>m.cell0 I,_,_,_,λL I=>c.c0<|sub.trans a I,ae (λI=>?_) λI=>d a λhp=>?_⟩
 rotate_left
 ·simp_all
 have b3:=eq_of_beq I;refine nR l e ⟨_,_,_,λN L=>m.cell L (j:=1) rfl,ae (λa4=>?_) λa4=>d a λhp=>?_⟩
 rotate_left
 ·simp_all
 have b4:A=1:=G
 obtain⟨L,b5,X,a5,a6⟩:=F.dy (i:=0) U
 have b6:f.right=[L]:=by
  have hl:=F.1
  match hq:f.right,hl,X with
  |[N],_,X=>simp_all
  |[],hl,_=>simp_all
  |_::_::_,hl,_=>simp_all
 refine nR l e ⟨_,_,_,λa7 N=>m.cell N (j:=1) rfl,nR a5 U ⟨L,λa7 N=>a6 _ N,_,λa7 N=>c.c3<|sub.trans a N,ae (λN=>?_) λN=>d a λhp=>?_⟩⟩
 rotate_left
 ·simp_all
 have b7:=eq_of_beq N;refine nR l e ⟨_,λb9 a7=>m.cell a7 (j:=2) rfl,⟨_,rfl,?_⟩,p.trans a⟩
 simp_all
end
theorem Y_{α:Sort _}(a:α):∃q,q=a:=⟨a,rfl⟩
theorem Za{h:Hp}{a:vP}{us vs:Ay}(e:aj h a us)(f:aj h (a.add us.length) vs):aj h a (us++vs):=λc d b=>by
 by_cases g:c<us.length
 ·rw[ki g] at b;exact e c d b
 ·rw[kL U] at b
  have:=f _ d b
  simp_all[ke]
theorem Ac{α:Type}{h:Hp}{n:Nat}{f:α->Ay}(hf:∀x,(f x).length=n):∀(ts:List α)(ad:vP),(∀(i:Nat) x,ts[i]? =some x->aj h (ad.add (ew i n)) (f x))->aj h ad (ts.flatMap f)
 |[],ad,_=>λj v hj=>η
 |t::ts,ad,hh=>by
  rw[lC]
  refine Za ?_ ?_
  ·have:=hh 0 t rfl
   simp_all[bh,Nat.zero_mul,Addr.add]
  ·rw[hf]
   refine Ac hf ts _ λi x hx=>?_
   have:=hh (i+1) x hx
   simp_all[ke,bh,pP,Nat.add_comm]
theorem cQ{α:Type}{h:Hp}{n:Nat}{f:α->Ay}(hf:∀x,(f x).length=n):∀(ts:List α)(ad:vP),aj h ad (ts.flatMap f)->∀(i:Nat) x,ts[i]? =some x->aj h (ad.add (ew i n)) (f x)
 |[],ad,_,i,x,hx=>η
 |t::ts,ad,hh,i,x,hx=>by
  rw[lC] at hh
  match i,hx with
  |0,hx=>
   cases hx
   rw[bh,Nat.zero_mul,show ad.add 0=ad from by rfl]
   exact hh.take
  |i+1,hx=>
   have:=cQ hf ts _ hh.drop i x hx
   simp_all[ke,bh,pP,Nat.add_comm]
def Jy(t:ly):Ay:=[.string t.name,O t.level]
def cX(ts:List ly):Ay:=ts.flatMap Jy
def sj(p:(E×Nat)×aD):Ay:=[O p.2.left,T p.1.1 p.2.right.length p.1.2,O p.2.level]
def eV(os:List (E×Nat))(ps:List aD):Ay:=(os.zip ps).flatMap sj
def cJ(os:List (E×Nat))(ps:List aD):List aG:=List.zipWith (λo p=>own 1 o.1 p.right.length o.2 (iv p.right)) os ps
theorem Jz(a:List ly):(cX a).length=a.length*2:=by
 induction a with
 |nil=>rfl
 |cons b c d=>grind[cX,List.length_append,List.length_cons,Jy,List.length_nil]
theorem FD{h:Hp}{a:List ly}{b:vP}{l:Nat}(r:bf h a (some b) l):aj h b (cX a):=
 Ac (f:=Jy) (n:=2) (λ_=>rfl) a b λd c e=>by
  obtain⟨m,g,i,o,j⟩:=r.2 d c e
  cases i
  have k:g=Jy c:=j
  rw[<-k];omega
theorem FF{h:Hp}{b:List ly}{a:E}{l c:Nat}(g:b.length=l)(r:own 2 a l c (cX b) h):bf h b a l:=by
 refine⟨g,λi d j=>?_⟩
 rcases bD r with m|⟨e,rfl,k⟩
 ·grind[Jz,List.getElem?_eq_some_iff]
 ·exact⟨e,Jy d,rfl,cQ (f:=Jy) (n:=2) (λ_=>rfl) b e k i d j,rfl⟩
theorem S8{os:List (E×Nat)}{ps:List aD}{h:Hp}{a:vP}(b:aj h a (eV os ps)){i:Nat}{o:E×Nat}{p:aD}(c:os[i]? =some o)(hp:ps[i]? =some p):aj h (a.add (ew i 3)) [O p.left,T o.1 p.right.length o.2,O p.level]:=
 cQ (f:=sj) (n:=3) (λ_=>rfl) (os.zip ps) a b i (o,p) G
theorem S9{os:List (E×Nat)}{ps:List aD}(h:os.length=ps.length):(eV os ps).length=ps.length*3:=by
 have:∀a:List ((E×Nat)×aD),(a.flatMap sj).length=a.length*3:=λa=>by
  induction a with
  |nil=>rfl
  |cons b c d=>grind[List.length_append,List.length_cons,sj,List.length_nil]
 simp_all[eV,List.length_zip]
theorem GZ{os:List (E×Nat)}{ps:List aD}(h:os.length=ps.length)(o:E×Nat)(p:aD):eV (os++[o]) (ps++[p])=eV os ps++sj (o,p):=by simp_all[eV,List.zip_append]
theorem Dy{os:List (E×Nat)}{ps:List aD}(h:os.length=ps.length)(o:E×Nat)(p:aD):cJ (os++[o]) (ps++[p])=cJ os ps++[own 1 o.1 p.right.length o.2 (iv p.right)]:=by simp_all[cJ,List.zipWith_append]
def AF(g:B)(x:GA)(os:List (E×Nat)):List aG:=[own 3 x.pa g.prods.length x.pc (eV os g.prods),aT (cJ os g.prods),own 2 x.ta g.terms.length x.tc (cX g.terms),own 1 x.na g.b9.length x.nc (g.b9.map λs=>Value.string s),own 1 x.la g.levels.length x.lc (iv g.levels)]
structure Fq(g:B)(x:GA):Prop where
 t:x.tl=g.terms.length
 n:x.nl=g.b9.length
 l:x.ll=g.levels.length
 s:x.s=g.start
 p:x.pl=g.prods.length
theorem FG{L:List aG}{h:Hp}{os:List (E×Nat)}{ps:List aD}{k:Nat}{o:E×Nat}{p:aD}(i:Nat)(c:aL L h)(g:os[k]? =some o)(hp:ps[k]? =some p)(e:tX L i=aT (cJ os ps):=by rfl)(hi:Nat.blt i (B3 L)=true:=by rfl):bf h p.right o.1 p.right.length/\p.right.length<=o.2:=by
 obtain⟨j,d,a⟩:=dN i (by simp_all[iY]) c;rw[e] at a;obtain⟨l,f,b⟩:=iL (A:=own 1 o.1 p.right.length o.2<|iv p.right) (gg (i:=k) (by simp_all[cJ,lE])) a;refine⟨(bA rfl (bD b)).mono (f.trans d),?_⟩;rcases b with⟨_,h,m,_⟩|⟨_,_,_,_,_,_,_,_,h⟩<;>omega
theorem B7{L:List aG}{h:Hp}{A:aG}(i:Nat)(b:aL L h)(e:tX L i=A:=by rfl)(hi:Nat.blt i (B3 L)=true:=by rfl):∃a,sub a h/\A a:=by
 obtain⟨a,c,d⟩:=dN i (by simp_all[iY]) b;exact⟨a,c,e▸d⟩
theorem uz{sz l c:Nat}{a:E}{vs:Ay}{h:Hp}(b:own sz a l c vs h):l<=c:=by
 rcases b with⟨_,rfl,rfl,_⟩|⟨_,_,_,_,_,_,_,_,h⟩
 ·omega
 omega
theorem NY{g:B}{x:GA}{os:List (E×Nat)}{L:List aG}{h:Hp}(r:Fq g x)(N:os.length=g.prods.length)(a:aL (AF g x os++L) h):gR h g x:=by
 obtain⟨P,s,c⟩:=B7 (A:=own 3 x.pa g.prods.length x.pc<|eV os g.prods) 0 a;obtain⟨Q,t,d⟩:=B7 (A:=own 2 x.ta g.terms.length x.tc<|cX g.terms) 2 a;obtain⟨R,v,e⟩:=B7 (A:=own 1 x.na g.b9.length x.nc<|g.b9.map λb=>Value.string b) 3 a;obtain⟨S,w,f⟩:=B7 (A:=own 1 x.la g.levels.length x.lc<|iv g.levels) 4 a;obtain⟨i,j,l,y,m⟩:=r
 refine⟨?_,?_,?_,y,?_,?_,?_,?_,?_⟩
 ·rw[i];exact(FF rfl d).mono t
 ·rw[j];exact(iJ rfl (bD e)).mono v
 ·rw[l];exact(bA rfl (bD f)).mono w
 ·rw[m];refine⟨rfl,λb p hp=>?_⟩;have X:=(gJ.1 hp).1;obtain⟨o,n⟩:∃o,os[b]? =some o:=⟨os[b]'U,gn _⟩
  rcases bD c with q|⟨z,q,C⟩
  ·grind[S9]
  ·obtain⟨F,I⟩:=FG (k:=b) (o:=o) (p:=p) 1 a n hp;exact⟨z,_,q,(S8 C n hp).mono s,o.1,_,o.2,rfl,I,F⟩
 ·rw[i];exact uz d
 ·rw[j];exact uz e
 ·rw[l];exact uz f
 ·rw[m];exact uz c
section
open Go.Shelf Go.Proofs
def WL:Go.Shelf.Ren:=⟨fun|6=>187|15=>186|14=>282|28=>280|29=>281|20=>330|21=>331|22=>332|23=>333|24=>334|25=>335|26=>336|27=>337|46=>373|47=>326|48=>327|49=>374|50=>375|57=>393|n=>n,fun|22=>194|24=>193|25=>338|3=>3|39=>335|0=>0|53=>435|55=>419|4=>4|46=>429|45=>428|50=>360|5=>5|9=>9|66=>467|70=>471|76=>505|77=>391|n=>n,fun|n=>n⟩
theorem yR:Go.Proofs.SlLaysF0.n6 prog WL:={
  mixed:=by rfl,
  f6:=⟨Tryz.f187.name,by rfl,func187.trans<|congrArg some (by rfl)⟩,
  f14:=⟨Tryz.f282.name,by rfl,func282.trans<|congrArg some (by rfl)⟩,
  f15:=func186.trans<|congrArg some (by rfl),
  f20:=⟨Tryz.f330.name,by rfl,func330.trans<|congrArg some (by rfl)⟩,
  f21:=⟨Tryz.f331.name,by rfl,func331.trans<|congrArg some (by rfl)⟩,
  f22:=⟨Tryz.f332.name,by rfl,func332.trans<|congrArg some (by rfl)⟩,
  f23:=⟨Tryz.f333.name,by rfl,func333.trans<|congrArg some (by rfl)⟩,
  f24:=⟨Tryz.f334.name,by rfl,func334.trans<|congrArg some (by rfl)⟩,
  f25:=⟨Tryz.f335.name,by rfl,func335.trans<|congrArg some (by rfl)⟩,
  f26:=⟨Tryz.f336.name,by rfl,func336.trans<|congrArg some (by rfl)⟩,
  f27:=⟨Tryz.f337.name,by rfl,func337.trans<|congrArg some (by rfl)⟩,
  f28:=func280.trans<|congrArg some (by rfl),
  f29:=func281.trans<|congrArg some (by rfl),
  f46:=⟨Tryz.f373.name,by rfl,func373.trans<|congrArg some (by rfl)⟩,
  f47:=func326.trans<|congrArg some (by rfl),
  f48:=func327.trans<|congrArg some (by rfl),
  f49:=⟨Tryz.f374.name,by rfl,func374.trans<|congrArg some (by rfl)⟩,
  f50:=⟨Tryz.f375.name,by rfl,func375.trans<|congrArg some (by rfl)⟩,
  f57:=⟨Tryz.f393.name,by rfl,func393.trans<|congrArg some (by rfl)⟩,
  t0:=Tryz.underlying0,
  a0:=Tryz.isAgg0,
  z0:=Tryz.sizeOf0,
  v0:=Tryz.zeroValue0,
  t3:=Tryz.underlying3,
  a3:=Tryz.isAgg3,
  z3:=Tryz.sizeOf3,
  v3:=Tryz.zeroValue3,
  t4:=Tryz.underlying4,
  a4:=Tryz.isAgg4,
  z4:=Tryz.sizeOf4,
  v4:=Tryz.zeroValue4,
  t5:=Tryz.underlying5,
  a5:=Tryz.isAgg5,
  z5:=Tryz.sizeOf5,
  v5:=Tryz.zeroValue5,
  t9:=Tryz.underlying9,
  a9:=Tryz.isAgg9,
  z9:=Tryz.sizeOf9,
  v9:=Tryz.zeroValue9,
  t22:=Tryz.underlying194,
  a22:=Tryz.isAgg194,
  z22:=Tryz.sizeOf194,
  v22:=Tryz.zeroValue194,
  t25:=Tryz.underlying338,
  a25:=Tryz.isAgg338,
  z25:=Tryz.sizeOf338,
  v25:=Tryz.zeroValue338,
  t39:=Tryz.underlying335,
  a39:=Tryz.isAgg335,
  z39:=Tryz.sizeOf335,
  v39:=Tryz.zeroValue335,
  t45:=Tryz.underlying428,
  a45:=Tryz.isAgg428,
  z45:=Tryz.sizeOf428,
  v45:=Tryz.zeroValue428,
  t46:=Tryz.underlying429,
  a46:=Tryz.isAgg429,
  z46:=Tryz.sizeOf429,
  v46:=Tryz.zeroValue429,
  t50:=Tryz.underlying360,
  a50:=Tryz.isAgg360,
  z50:=Tryz.sizeOf360,
  v50:=Tryz.zeroValue360,
  t53:=Tryz.underlying435,
  a53:=Tryz.isAgg435,
  z53:=Tryz.sizeOf435,
  v53:=Tryz.zeroValue435,
  t55:=Tryz.underlying419,
  a55:=Tryz.isAgg419,
  z55:=Tryz.sizeOf419,
  v55:=Tryz.zeroValue419,
  t66:=Tryz.underlying467,
  a66:=Tryz.isAgg467,
  z66:=Tryz.sizeOf467,
  v66:=Tryz.zeroValue467,
  t70:=Tryz.underlying471,
  a70:=Tryz.isAgg471,
  z70:=Tryz.sizeOf471,
  v70:=Tryz.zeroValue471,
  t76:=Tryz.underlying505,
  a76:=Tryz.isAgg505,
  z76:=Tryz.sizeOf505,
  v76:=Tryz.zeroValue505,
  t77:=Tryz.underlying391,
  a77:=Tryz.isAgg391,
  z77:=Tryz.sizeOf391,
  v77:=Tryz.zeroValue391 }
def WM:Go.Shelf.Ren:=⟨fun|189=>96|125=>186|257=>185|128=>280|129=>281|294=>271|295=>272|296=>273|297=>274|298=>275|299=>276|216=>277|300=>278|301=>279|328=>325|329=>326|330=>327|331=>328|332=>329|215=>283|343=>372|n=>n,fun|28=>24|3=>3|46=>335|0=>0|51=>435|53=>419|4=>4|183=>429|182=>428|131=>360|5=>5|9=>9|218=>467|222=>471|228=>505|229=>391|n=>n,fun|n=>n⟩
theorem yT:Go.Proofs.Lays.n189 prog WM:={
  mixed:=by rfl,
  f125:=func186.trans<|congrArg some (by rfl),
  f128:=func280.trans<|congrArg some (by rfl),
  f129:=func281.trans<|congrArg some (by rfl),
  f189:=func96.trans<|congrArg some (by rfl),
  f215:=func283.trans<|congrArg some (by rfl),
  f216:=func277.trans<|congrArg some (by rfl),
  f257:=func185.trans<|congrArg some (by rfl),
  f294:=func271.trans<|congrArg some (by rfl),
  f295:=func272.trans<|congrArg some (by rfl),
  f296:=func273.trans<|congrArg some (by rfl),
  f297:=func274.trans<|congrArg some (by rfl),
  f298:=func275.trans<|congrArg some (by rfl),
  f299:=func276.trans<|congrArg some (by rfl),
  f300:=func278.trans<|congrArg some (by rfl),
  f301:=func279.trans<|congrArg some (by rfl),
  f328:=func325.trans<|congrArg some (by rfl),
  f329:=func326.trans<|congrArg some (by rfl),
  f330:=func327.trans<|congrArg some (by rfl),
  f331:=func328.trans<|congrArg some (by rfl),
  f332:=func329.trans<|congrArg some (by rfl),
  f343:=func372.trans<|congrArg some (by rfl),
  t0:=Tryz.underlying0,
  a0:=Tryz.isAgg0,
  z0:=Tryz.sizeOf0,
  v0:=Tryz.zeroValue0,
  t3:=Tryz.underlying3,
  a3:=Tryz.isAgg3,
  z3:=Tryz.sizeOf3,
  v3:=Tryz.zeroValue3,
  t4:=Tryz.underlying4,
  a4:=Tryz.isAgg4,
  z4:=Tryz.sizeOf4,
  v4:=Tryz.zeroValue4,
  t5:=Tryz.underlying5,
  a5:=Tryz.isAgg5,
  z5:=Tryz.sizeOf5,
  v5:=Tryz.zeroValue5,
  t9:=Tryz.underlying9,
  a9:=Tryz.isAgg9,
  z9:=Tryz.sizeOf9,
  v9:=Tryz.zeroValue9,
  t28:=Tryz.underlying24,
  a28:=Tryz.isAgg24,
  z28:=Tryz.sizeOf24,
  v28:=Tryz.zeroValue24,
  t46:=Tryz.underlying335,
  a46:=Tryz.isAgg335,
  z46:=Tryz.sizeOf335,
  v46:=Tryz.zeroValue335,
  t51:=Tryz.underlying435,
  a51:=Tryz.isAgg435,
  z51:=Tryz.sizeOf435,
  v51:=Tryz.zeroValue435,
  t53:=Tryz.underlying419,
  a53:=Tryz.isAgg419,
  z53:=Tryz.sizeOf419,
  v53:=Tryz.zeroValue419,
  t131:=Tryz.underlying360,
  a131:=Tryz.isAgg360,
  z131:=Tryz.sizeOf360,
  v131:=Tryz.zeroValue360,
  t182:=Tryz.underlying428,
  a182:=Tryz.isAgg428,
  z182:=Tryz.sizeOf428,
  v182:=Tryz.zeroValue428,
  t183:=Tryz.underlying429,
  a183:=Tryz.isAgg429,
  z183:=Tryz.sizeOf429,
  v183:=Tryz.zeroValue429,
  t218:=Tryz.underlying467,
  a218:=Tryz.isAgg467,
  z218:=Tryz.sizeOf467,
  v218:=Tryz.zeroValue467,
  t222:=Tryz.underlying471,
  a222:=Tryz.isAgg471,
  z222:=Tryz.sizeOf471,
  v222:=Tryz.zeroValue471,
  t228:=Tryz.underlying505,
  a228:=Tryz.isAgg505,
  z228:=Tryz.sizeOf505,
  v228:=Tryz.zeroValue505,
  t229:=Tryz.underlying391,
  a229:=Tryz.isAgg391,
  z229:=Tryz.sizeOf391,
  v229:=Tryz.zeroValue391 }
end
section
open Go.Proofs Go.Sort
theorem S_{X:Type}(P:X->Prop)(f:X->Nat)(h:∃x,P x):∃x,P x/\∀y,P y->f x<=f y:=by
 obtain⟨x,b⟩:=h;generalize c:f x=a
 induction a using Nat.strongRecOn generalizing x with
 |ind d e=>
  grind
open Classical in
noncomputable def XZ{X:Type}(P:X->ga->Prop)(f:X->Nat)(w:ga):Nat:=if h:∃x,P x w then f (S_ (λx=>P x w) f h).choose else 0
theorem Dz{X:Type}{P:X->ga->Prop}{f:X->Nat}{w:ga}(h:∃x,P x w):∃x,P x w/\f x=XZ P f w:=by
 have:=(S_ (λx=>P x w) f h).choose_spec;refine⟨_,this.1,?_⟩
 simp_all[XZ]
theorem B8{X:Type}{P:X->ga->Prop}{f:X->Nat}{w:ga}{x:X}(a:P x w):XZ P f w<=f x:=by
 have b:∃x,P x w:=⟨x,a⟩;have:=(S_ (λx=>P x w) f b).choose_spec
 simp_all[XZ]
section
variable{w:ga}{L:List aG}
theorem po{sz l c k:Nat}{a:E}{vs:Ay}(h:W w (own sz a l c vs::L))(e:k<=l):W w (own sz (f_ a 0 c sz) k c (vs.take (k*sz))::L):=by
 rcases dM h with⟨rfl,rfl,rfl,rfl⟩|⟨b,d,cs,post,rfl,g,i,j,m⟩
 ·simp_all[f_]
 ·have f:f_ (some (⟨b,d.length,none⟩:vP)) 0 c sz=some ⟨b,d.length,none⟩:=by simp[f_,bh,l8]
  have n:k*sz<=l*sz:=nO _ e;rw[f]
  refine fJ (cs:=vs.drop (k*sz)++cs) (post:=post) ?_ ?_ ?_ U
  ·grind[List.append_assoc,List.take_append_drop]
  ·simp_all
  grind
theorem ij{a:E}{len b hi sz:Nat}{k:E->Nat->Nat->Prop}(d:hi<=b)(c:k (f_ a 0 b sz) hi b):mA a len b none (some (hi:Int)) none sz k:=
 ⟨.inl rfl,.inr ⟨V,η⟩,⟨V,V⟩,by simpa using c⟩
theorem aW{w w':ga}(h:drawn w w'):hp w'=hp w:=by rw[show w'=_ from h];rfl
theorem dT{L:List aG}{h:Hp}{a:E}{sz l c:Nat}{vs:Ay}(i:Nat)(b:aL L h)(e:tX L i=own sz a l c vs:=by rfl)(hi:Nat.blt i (B3 L)=true:=by rfl):dX a vs h:=by
 obtain⟨f,g,d⟩:=dN i (by simp_all[iY]) b;rw[e] at d
 grind[dX.mono,bD]
theorem Ik(xs:Az)(i:Nat)(v:Int):(iv xs).set i (O v)=iv (xs.set i v):=by simp[iv]
theorem UY{M:List aG}{n:Nat}(a:n<M.length):M.Perm (M[n]::(M.take n++M.drop (n+1))):=by grind[List.drop_eq_getElem_cons,List.take_append_drop,List.Perm.of_eq,trans,List.perm_middle]
theorem yV{M:List aG}{n:Nat}{A:aG}(a:n<M.length):(M.set n A).Perm (A::(M.take n++M.drop (n+1))):=by simp_all[tO]
theorem W.Zb{A:aG}{M:List aG}(h:W w (A::aT M::L)){n:Nat}(a:n<M.length):W w (aT (M.set n A)::L):=by
 have b:=W.flat.1 h.swap;have c:W w ((M[n]::(M.take n++M.drop (n+1)))++(A::L)):=b.perm<|(UY a).append_right _;have d:W w ((M.take n++M.drop (n+1))++(A::L)):=c.tail;have e:W w ((A::(M.take n++M.drop (n+1)))++L):=d.perm lh;exact W.flat.2 (e.perm<|(yV a).symm.append_right _)
theorem W.Ta{M:List aG}{A:aG}(h:W w (aT M::L)){n:Nat}(a:M[n]? =some A):W w (A::aT (M.take n++M.drop (n+1))::L):=by
 obtain⟨b,rfl⟩:=gJ.1 a;have c:=W.flat.1 h;have d:W w ((M[n]::(M.take n++M.drop (n+1)))++L):=c.perm<|(UY b).append_right _;have e:W w ((M.take n++M.drop (n+1))++(M[n]::L)):=d.perm lh.symm
 grind[W.flat,swap]
theorem DA{A:aG}(hA:∀w L,W w L->W w (A::L)):∀(n:Nat),W w L->W w (aT (List.replicate n A)::L)
 |0,h=>(W.flat (M:=[])).2 h
 |n+1,h=>by
  have h1:=W.flat.1 (DA hA n h)
  simp_all[W.flat,List.replicate]
theorem W.Zc{w:ga}{L M:List aG}{A:aG}{n:Nat}(a:n<M.length)(h:W w (A::aT (M.take n++M.drop (n+1))::L)):W w (aT (M.set n A)::L):=by
 have b:=W.flat.1 h.swap;have c:W w ((A::(M.take n++M.drop (n+1)))++L):=b.perm lh;exact W.flat.2 (c.perm<|(yV a).symm.append_right _)
theorem DB(xs:A0)(i v:Nat):(eh xs).set i (O (v:Int))=eh (xs.set i v):=by simp[eh]
theorem Zd(xs:A0)(v:Nat):eh xs++[O (v:Int)]=eh (xs++[v]):=by simp[eh]
theorem lW{low:A0}{i x:Nat}(h:low[i]? =some x):(eh low)[i]? =some (O (x:Int)):=by grind[eh]
theorem DC{α:Type}{l:List α}{i:Nat}{x:α}(h:l[i]? =some x):l.set i x=l:=by
 obtain⟨a,rfl⟩:=gJ.1 h;simp
end
section
variable{α:Type}[Inhabited α]{w:ga}{L:List aG}{enc:α->ah}{blk:Nat}{d:Array α}
theorem Ad(w:ga)(a m:Nat)(c:Array α)(os:Array Obj)(b:Nat)(o:Obj)(h:w.heap[b]? =some o):
  (sortWorld enc w blk a m c os).heap[b]? =some (if blk=b then onCells (putCells enc a c) o else o):=by grind[Array.getElem?_eq_some_iff,sortWorld,grow,putRow,mapBlock,Sort.ahead,Array.getElem?_append_left]
theorem Ev.sort(w:ga)(a m:Nat)(b:Array α)(os:Array Obj):Ev w (sortWorld enc w blk a m b os):=by
 refine⟨rfl,rfl,rfl,?_,?_,?_⟩
 ·simp[sortWorld,grow,putRow,mapBlock,Sort.ahead]
 ·intro c e d;rw[Ad w a m b os c _ d];split<;>rfl
 ·intro c e d;rw[Ad w a m b os c _ d];split<;>rfl
theorem W.sort{cs:Ay}(h:W w (ax blk cs::L))(a m:Nat)(b:Array α)(os:Array Obj):W (sortWorld enc w blk a m b os) (ax blk (putCells enc a b ⟨cs⟩).toList::L):=by
 obtain⟨c,h⟩:=kg.1 h;have f:=h.get
 have j:∀d e,hp w d=some e->d≠blk->hp (sortWorld enc w blk a m b os) d=some e:=λd e g i=>by
  have:=Ad (enc:=enc) (blk:=blk) w a m b os d e<|tW g;rw[gv (Ne.symm i)] at this
  grind[hp,tW]
 have g:hp (sortWorld enc w blk a m b os) blk=some (.cells (putCells enc a b ⟨cs⟩) c (0,0)):=by
  have:=Ad (enc:=enc) (blk:=blk) w a m b os blk _ f;rw[gD rfl] at this;unfold hp;rw[this];rfl
 refine kg.2 ⟨c,?_⟩;have e:=sJ (h:=hp w) (h':=λd=>if d=blk then some (.cells (putCells enc a b ⟨cs⟩) c (0,0)) else hp w d) (o':=.cells (putCells enc a b ⟨cs⟩) c (0,0)) h (λd i=>G) V;refine mN e λd i k=>?_
 grind
theorem DD(pre post:Ay)(d a:Array α)(b:a.size=d.size):(putCells enc pre.length a ⟨pre++(d.toList.map enc++post)⟩).toList=pre++(a.toList.map enc++post):=by
 have c:(d.toList.map enc).length=d.size:=V
 have e:(a.toList.map enc).length=d.size:=G
 apply kv;intro f;simp only[putCells,Array.toList_mapIdx,List.getElem?_mapIdx]
 grind
theorem FI{a:E}{l c:Nat}(h:W w (own 1 a l c (d.toList.map enc)::L))(n:0<l):
  ∃b e,a=some ⟨b,e,none⟩/\l=d.size/\Holds enc w b e d/\b<w.heap.size/\
   (∀(m:Nat)(os:Array Obj)(f:Array α),f.size=d.size->W (sortWorld enc w b e m f os) (own 1 a l c (f.toList.map enc)::L)):=by
 rcases dM h with⟨_,g,_⟩|⟨b,f,o,p,rfl,e,q,g,r⟩
 ·omega
 ·have i:l=d.size:=η
  refine⟨b,f.length,rfl,i,?_,?_,?_⟩
  ·intro j k;refine⟨?_,e.frozen _ _⟩;rw[e.cell,kL U,mu,ki U,iE,gn U,getElem!_pos d j k];simp
  ·obtain⟨j,h⟩:=kg.1 e;exact(sk.1 h.get).1
  ·intro m os j k;have s:=e.sort (enc:=enc) f.length m j os
   grind[DD,fJ]
end
theorem vC{w:ga}{b o:Nat}:∀(vs:Ay)(i:Nat),nH w ⟨b,0,none⟩ (o+i) vs->nH w ⟨b,o,none⟩ i vs
 |[],i,_=>trivial
 |v::vs,i,⟨h1,h2,h3,h4⟩=>by
  rw[ak] at h2 h3
  refine⟨h1,?_,?_,vC vs (i+1) h4⟩
  ·simp_all[l8]
  simp_all[l8]
theorem vD{b o:Nat}:∀(vs:Ay)(i:Nat)(w:ga),dQ w ⟨b,o,none⟩ i vs=dQ w ⟨b,0,none⟩ (o+i) vs
 |[],i,w=>rfl
 |v::vs,i,w=>by
  simp only[dQ]
  rw[l8,ak,vD vs (i+1)]
  rfl
theorem Il{w:ga}{L:List aG}{sz l c i:Nat}{a:E}{f:vP}{us vs:Ay}{k:ga->Prop}(h:W w (own sz a l c us::L))(g:a=some f)(hi:i+vs.length<=us.length)(n:∀v∈vs,aO v=true)(h0:0<vs.length)
  (o:∀w',W w' (own sz a l c (us.take i++vs++us.drop (i+vs.length))::L)->k w'):bC w (f.add i) vs k:=by
 rcases dM h with⟨rfl,_,_,_⟩|⟨s,b,d,e,rfl,j,t,x,y⟩
 ·cases g
 ·cases g;rw[l8];have m:(b.length+i)+vs.length<=(b++(us++(d++e))).length:=G
  refine⟨vC vs 0<|vy j vs _ m n,λw' p=>?_⟩;subst p;rw[vD];have q:=si vs _ (b.length+i) m j;refine o _ ?_
  have r:(b++(us++(d++e))).take (b.length+i)++vs++(b++(us++(d++e))).drop (b.length+i+vs.length)=b++((us.take i++vs++us.drop (i+vs.length))++(d++e)):=by
   rw[List.take_append,jy U,mu,List.take_append_of_le_length U];rw[show b.length+i+vs.length=b.length+(i+vs.length) from U,List.drop_append,List.drop_of_length_le U,mu,List.drop_append_of_le_length U];simp
  rw[r] at q;have z:(us.take i++vs++us.drop (i+vs.length)).length=us.length:=G
  grind[fJ,List.length_append]
structure aq where
 prod:Int
 dot:Int
deriving DecidableEq
instance:tV aq:={ n:=2,rd:=λ_ x vs=>vs=[O x.prod,O x.dot],mono:=λ_ h=>h,len:=λh=>by simp_all }
def aq.lt(x y:aq):Prop:=x.prod<y.prod\/x.prod=y.prod/\x.dot<y.dot
instance (x y:aq):Decidable (x.lt y):=inferInstanceAs (Decidable (_\/_))
theorem aq.ext'{x y:aq}(a:x.prod=y.prod)(b:x.dot=y.dot):x=y:=by cases x;simp_all
theorem aq.lt_irrefl(x:aq):¬x.lt x:=by simp[aq.lt]
theorem aq.lt_trans{x y z:aq}(a:x.lt y)(b:y.lt z):x.lt z:=by grind[aq.lt]
theorem aq.Ze{x y:aq}(h:x≠y):x.lt y\/y.lt x:=by grind[aq.lt,aq.ext']
abbrev pq(l:List aq):Prop:=l.Pairwise aq.lt
def JA(x:aq):List aq->List aq
 |[]=>[x]
 |y::l=>if x=y then y::l else if x.lt y then x::y::l else y::JA x l
def lay(l:List aq):List aq:=l.foldl (λout x=>JA x out) []
theorem JB{x y:aq}:∀{l:List aq},y∈JA x l↔y=x\/y∈l
 |[]=>by simp[JA]
 |z::l=>by
  unfold JA
  split
  ·simp_all
  ·split
   ·simp
   ·rw[jb,JB,jb]
    grind
theorem Qt{x:aq}:∀{l:List aq},pq l->pq (JA x l)
 |[],_=>by simp[JA]
 |z::l,h=>by
  unfold JA
  have h':=my.1 h
  split
  ·omega
  ·rename_i hne
   split
   ·rename_i hlt
    exact my.2 ⟨λy hy=>by
     rcases jb.1 hy with rfl|hy
     ·omega
     grind[aq.lt_trans],h⟩
   ·rename_i hnl
    refine my.2 ⟨λy hy=>?_,Qt h'.2⟩
    rcases JB.1 hy with rfl|hy
    ·grind[aq.Ze]
    simp_all
theorem yW(l:List aq):∀a,pq a->pq (l.foldl (λb c=>JA c b) a)/\∀y,y∈l.foldl (λb c=>JA c b) a↔y∈a\/y∈l:=by
 induction l with
 |nil=>simp
 |cons a l b=>
  grind[Qt,JA,JB]
theorem py(l:List aq):pq (lay l):=(yW l [] .nil).1
theorem nw{l:List aq}{y:aq}:y∈lay l↔y∈l:=by simp[yW,lay]
theorem pq.nodup{l:List aq}(h:pq l):l.Nodup:=ot.2 (h.imp λh e=>by simp_all[aq.lt_irrefl])
theorem pq.one{l m:List aq}(h:pq l)(h':pq m)(a:∀x,x∈l↔x∈m):l=m:=by
 have b:l.Perm m:=(List.perm_ext_iff_of_nodup h.nodup h'.nodup).2 a
 grind[List.Perm.eq_of_pairwise,aq.lt,absurd,aq.lt_trans,aq.lt_irrefl]
theorem yB{l:List aq}(h:pq l):lay l=l:=(py l).one h λ_=>nw
theorem Tb{l m:List aq}(h:pq m)(a:∀x,x∈m↔x∈l):lay l=m:=(py l).one h λx=>by rw[nw,a]
def xk(g:B)(x:aq):Prop:=0<=x.prod/\0<=x.dot/\∃p,g.prods[x.prod.toNat]? =some p/\x.dot<=p.right.length
def nS(g:B)(x:aq):Int:=
 match g.prods[x.prod.toNat]? with
 |none=>-1
 |some p=>p.right.getD x.dot.toNat (-1)
theorem yC{g:B}{x:aq}{p:aD}(h:g.prods[x.prod.toNat]? =some p):nS g x=p.right.getD x.dot.toNat (-1):=by simp_all[nS]
inductive wS (g:B) (I:List aq):aq->Prop
 |base {x:aq}:x∈I->wS g I x
 |step {y:aq} {i:Nat} {p:aD}:wS g I y->0<=nS g y->g.prods[i]? =some p->p.left=nS g y->wS g I ⟨i,0⟩
def NZ(g:B)(l:List aq):List aq:=((List.range g.prods.length).filter λi=>l.any λy=>decide (0<=nS g y)&&decide ((g.prods[i]?.map aD.left)=some (nS g y))).map λi:Nat=>⟨(i:Int),0⟩
def N0(g:B)(I:List aq):Nat->List aq
 |0=>lay I
 |k+1=>lay (N0 g I k++NZ g (N0 g I k))
def j1(g:B)(I:List aq):List aq:=N0 g I g.prods.length
section
variable{g:B}{I l:List aq}{x y:aq}{k:Nat}
theorem JC:x∈NZ g l↔∃(i:Nat)(p:aD)(y:aq),x=⟨i,0⟩/\g.prods[i]? =some p/\y∈l/\0<=nS g y/\p.left=nS g y:=by
 unfold NZ
 grind
theorem N1:∀k,pq (N0 g I k)
 |0=>py _
 |_+1=>py _
theorem yD:x∈N0 g I (k+1)↔x∈N0 g I k\/x∈NZ g (N0 g I k):=by
 show x∈lay _↔_
 rw[nw,iU]
theorem Fs:∀k x,x∈N0 g I k->wS g I x
 |0,x,h=>.base (nw.1 h)
 |k+1,x,h=>by
  rcases yD.1 h with h|h
  ·exact Fs k x h
  ·obtain⟨i,p,y,rfl,hp,hy,h1,h2⟩:=JC.1 h
   exact .step (Fs k y hy) h1 hp h2
theorem Qu:∀k,∀x∈I,x∈N0 g I k
 |0,x,h=>nw.2 h
 |k+1,x,h=>yD.2 (.inl (Qu k x h))
def Tc(g:B)(I:List aq)(k:Nat):A0:=(List.range g.prods.length).filter λi=>decide ((⟨i,0⟩:aq)∈N0 g I k)
theorem yX:∀{l m:A0},l.Nodup->(∀x∈l,x∈m)->l.length<=m.length
 |[],m,_,_=>gu _
 |a::l,m,h,hs=>by
  obtain⟨m1,m2,rfl⟩:=List.append_of_mem (hs a V)
  rw[kN] at h
  have:=yX (l:=l) (m:=m1++m2) h.2 λx hx=>G
  grind
theorem FK(h:∀x∈NZ g (N0 g I k),x∈N0 g I k):N0 g I (k+1)=N0 g I k:=(N1 _).one (N1 _) λx=>by simp_all[yD]
theorem Zf:∀k,(∀x∈NZ g (N0 g I k),x∈N0 g I k)\/k+1<=(Tc g I (k+1)).length:=by
 have o:∀k,¬(∀x∈NZ g (N0 g I k),x∈N0 g I k)->(Tc g I k).length+1<=(Tc g I<|k+1).length:=by
  intro k b;have⟨x,c⟩:=Classical.not_forall.1 b;have⟨d,e⟩:=Classical.not_imp.1 c;obtain⟨a,p,q,rfl,hp,_⟩:=JC.1 d;have f:a∉Tc g I k:=λh=>e (by have:=(kh.1 h).2;simp_all)
  have:=yX (l:=a::Tc g I k) (m:=Tc g I<|k+1) (kN.2 ⟨f,List.nodup_range.filter _⟩) λr h=>by
   refine kh.2 ?_
   rcases jb.1 h with rfl|i
   ·grind[List.getElem?_eq_some_iff,decide_eq_true,yD]
   ·obtain⟨j,n⟩:=kh.1 i;exact⟨j,kG<|yD.2<|.inl<|gZ n⟩
  omega
 intro k
 induction k with
 |zero=>
  grind
 |succ k a=>
  grind[NZ,N0,FK,absurd]
theorem Td:∀x∈NZ g (j1 g I),x∈j1 g I:=by
 rcases Zf (g:=g) (I:=I) g.prods.length with h|h
 ·exact h
 grind[Tc,List.range,List.length_filter_le,List.length_range]
theorem DE:x∈j1 g I↔wS g I x:=by
 refine⟨Fs _ x,λa=>?_⟩
 induction a with
 |base b=>exact Qu _ _ b
 |step _ b c d e=>exact Td _ (JC.2 ⟨_,_,_,rfl,c,e,b,d⟩)
theorem N2:pq (j1 g I):=N1 _
theorem FM{l:List aq}(a:pq l)(b:∀x,x∈l↔wS g I x):l=j1 g I:=a.one N2 λx=>by rw[b,DE]
def bI(g:B)(I:List aq)(s:Int):List aq:=((j1 g I).filter λx=>decide (nS g x=s)).map λx=>⟨x.prod,x.dot+1⟩
theorem Qv{s:Int}:pq (bI g I s):=by
 unfold bI pq;rw[lF];refine(N2.filter _).imp λh=>?_
 simp_all[aq.lt]
theorem dh{s:Int}:x∈bI g I s↔∃y,wS g I y/\nS g y=s/\x=⟨y.prod,y.dot+1⟩:=by
 unfold bI;rw[iz]
 constructor
 ·rintro⟨y,a,rfl⟩;obtain⟨b,c⟩:=kh.1 a;exact⟨y,DE.1 b,gZ c,rfl⟩
 ·rintro⟨y,a,b,rfl⟩;exact⟨y,kh.2 ⟨DE.2 a,kG b⟩,rfl⟩
end
structure aN where
 sym:Int
 to:Int
deriving DecidableEq
instance:tV aN:={ n:=2,rd:=λ_ x vs=>vs=[O x.sym,O x.to],mono:=λ_ h=>h,len:=λh=>by simp_all }
abbrev dU:=List aq
def yE(st:List dU)(k:dU):List dU:=if k∈st then st else st++[k]
def dr(g:B)(K:dU):A0:=(List.range (g.T+g.N)).filter λs=>decide (bI g K s≠[])
def q_(g:B)(K:dU)(l:A0)(acc:List dU×List aN):List dU×List aN:=
 l.foldl (λ(acc:List dU×List aN)(s:Nat)=>(yE acc.1 (bI g K (s:Int)),acc.2++[⟨(s:Int),(acc.1.idxOf (bI g K (s:Int)):Int)⟩])) acc
def gb(g:B):Nat->List dU×List (List aN)
 |0=>([[⟨0,0⟩]],[])
 |i+1=>match(gb g i).1[i]? with
  |none=>gb g i
  |some K=>((q_ g K (dr g K) ((gb g i).1,[])).1,(gb g i).2++[(q_ g K (dr g K) ((gb g i).1,[])).2])
structure JD(g:B)(st:List dU):Prop where
 nd:st.Nodup
 ne:∀K∈st,K≠[]
 srt:∀K∈st,pq K
 fit:∀K∈st,∀x∈K,xk g x
 dots:∀(j:Nat)(K:dU),st[j]? =some K->∀x∈K,x.dot<=j
section
variable{g:B}{I K k:dU}{st:List dU}{i j s:Nat}{x y:aq}{acc:List dU×List aN}
theorem wS.fit(h:wS g I x)(b:∀x∈I,xk g x):xk g x:=by
 induction h with
 |base h=>simp_all
 | @step c d a _ _ hp _ _=>exact⟨kF _,Int.le_refl _,a,η,V⟩
theorem wS.dot{d:Int}(h:wS g I x)(a:∀x∈I,x.dot<=d)(b:0<=d):x.dot<=d:=by
 induction h with
 |base h=>simp_all
 |step _ _ _ _ _=>omega
theorem JE{s:Int}(h:xk g x)(a:nS g x=s)(b:0<=s):∃p,g.prods[x.prod.toNat]? =some p/\x.dot<p.right.length/\p.right[x.dot.toNat]? =some s:=by
 obtain⟨_,c,p,hp,d⟩:=h
 grind[yC,List.getElem?_eq_some_iff]
theorem Qw{s:Int}(b:∀x∈I,xk g x)(c:0<=s):∀x∈bI g I s,xk g x:=λx d=>by
 obtain⟨i,e,f,rfl⟩:=dh.1 d
 have a:=e.fit b
 obtain⟨h,hp,j,_⟩:=JE a f c
 exact⟨a.1,by have:=a.2.1;grind,h,hp,G⟩
theorem N3:K∈yE st k↔K∈st\/K=k:=by grind[yE,id]
theorem UZ(h:st[i]? =some K):(yE st k)[i]? =some K:=by grind[yE,List.getElem?_append_left,List.getElem?_eq_some_iff]
theorem JD.start(hp:0<g.prods.length):JD g [[⟨0,0⟩]]:=by
 refine⟨V,V,V,λc b d a=>?_,λe c f d a=>?_⟩
 ·simp at b;subst b;simp at a;subst a;exact⟨Int.le_refl _,Int.le_refl _,g.prods[0],gn hp,V⟩
 grind
theorem JD.put(h:JD g st)(hK:st[i]? =some K)(hs:bI g K (s:Int)≠[]):JD g (yE st (bI g K (s:Int))):=by
 have d:=gg hK;have O:=(gJ.1 hK).1
 refine⟨?_,λL u=>?_,λL u=>?_,λL u=>?_,λj L u x J=>?_⟩
 ·unfold yE;split
  ·exact h.nd
  ·rename_i hn;rw[kS];exact⟨h.nd,V,λa ha b hb e=>η⟩
 ·rcases N3.1 u with u|rfl
  ·exact h.ne L u
  omega
 ·rcases N3.1 u with u|rfl
  ·exact h.srt L u
  simp[Qv]
 ·rcases N3.1 u with u|rfl
  ·exact h.fit L u
  ·exact Qw (h.fit K d) (kF _)
 ·unfold yE at u
  split at u
  ·exact h.dots j L u x J
  ·by_cases e:j<st.length
   ·rw[ki e] at u;exact h.dots j L u x J
   ·have hl:=(gJ.1 u).1;rw[jw,pK] at hl;have c:j=st.length:=U
    subst c;rw[kL (gP _),lH] at u;simp at u;subst u;obtain⟨y,W,_,rfl⟩:=dh.1 J;have:=W.dot (h.dots i K hK) (kF _)
    grind
theorem Zg{l:A0}:q_ g K (l++[s]) acc=(yE (q_ g K l acc).1 (bI g K s),(q_ g K l acc).2++[⟨s,(q_ g K l acc).1.idxOf (bI g K s)⟩]):=by simp[q_]
theorem Qx{l:A0}(h:l[j]? =some s):q_ g K (l.take (j+1)) acc=(yE (q_ g K (l.take j) acc).1 (bI g K s),(q_ g K (l.take j) acc).2++[⟨s,(q_ g K (l.take j) acc).1.idxOf (bI g K s)⟩]):=by grind[List.take_add_one,Option.toList_some,Zg]
theorem FP(h:JD g st)(a:st[i]? =some K):∀(l:A0),(∀s∈l,bI g K (s:Int)≠[])->∀es,JD g (q_ g K l (st,es)).1/\(q_ g K l (st,es)).1[i]? =some K:=by
 have f:∀(l:A0),(∀s∈l,bI g K (s:Int)≠[])->∀st es,JD g st->st[i]? =some K->JD g (q_ g K l (st,es)).1/\(q_ g K l (st,es)).1[i]? =some K:=by
  intro l
  induction l with
  |nil=>exactλ_ st es h a=>⟨h,a⟩
  |cons s l d=>
   intro b st es h c;exact d (λe j=>b e G) _ _ (h.put c<|b s V) (UZ c)
 simp_all
theorem yF:∀(l:A0)(st:List dU)(es:List aN)(j:Nat)(L:dU),st[j]? =some L->(q_ g K l (st,es)).1[j]? =some L
 |[],_,_,_,_,h=>h
 |s::l,st,es,j,L,h=>yF l _ _ j L (UZ h)
theorem Qy{st a:List dU}(h:∀(j:Nat)(L:dU),st[j]? =some L->a[j]? =some L):st.length<=a.length:=by
 refine mw λb=>?_;have:=h a.length _ (gn U)
 simp_all
theorem Ae:∀s∈dr g K,bI g K (s:Int)≠[]:=λs a=>gZ (kh.1 a).2
theorem iM(h:(gb g i).1[i]? =some K):gb g (i+1)=((q_ g K (dr g K) ((gb g i).1,[])).1,(gb g i).2++[(q_ g K (dr g K) ((gb g i).1,[])).2]):=by simp_all[gb]
theorem uA(h:(gb g i).1[i]? =none):gb g (i+1)=gb g i:=by simp_all[gb]
theorem ik(hp:0<g.prods.length):∀i,JD g (gb g i).1
 |0=>JD.start hp
 |i+1=>by
  cases h:(gb g i).1[i]? with
  |none=>rw[uA h];exact ik hp i
  |some K=>rw[iM h];exact(FP (ik hp i) h _ Ae _).1
theorem WN(i j:Nat)(L:dU)(h:(gb g i).1[j]? =some L):(gb g (i+1)).1[j]? =some L:=by grind[gb,uA,iM,yF]
theorem DF{i a:Nat}(hi:i<=a)(j:Nat)(L:dU)(h:(gb g i).1[j]? =some L):(gb g a).1[j]? =some L:=by
 induction hi with
 |refl=>omega
 |step _ b=>simp_all[WN]
theorem Te:∀i,i<=(gb g i).1.length->(gb g i).2.length=i
 |0,_=>rfl
 |i+1,h=>by
  cases hi:(gb g i).1[i]? with
  |none=>
   grind[uA,List.getElem?_eq_none_iff]
  |some K=>
   have:=Te i G
   simp_all[iM]
def U0(g:B)(n:Nat):Prop:=(gb g n).1.length=n/\n<=256/\∀i,i<n->i<(gb g i).1.length
def wQ(g:B):Prop:=∃i K k,(gb g i).1[i]? =some K/\(∀j,j<=i->j<(gb g j).1.length)/\256<(q_ g K ((dr g K).take k) ((gb g i).1,[])).1.length
theorem Zh{n m:Nat}(h:U0 g n)(h':U0 g m):n=m:=by
 rcases sF n m with e|e|e
 ·have:=h'.2.2 n e;have:=h.1;omega
 ·omega
 ·have:=h.2.2 m e;have:=h'.1;omega
theorem Zi(l:A0)(k:Nat)(es:List aN):(q_ g K (l.take k) (st,es)).1.length<=(q_ g K l (st,es)).1.length:=by
 have e:q_ g K l (st,es)=q_ g K (l.drop k) (q_ g K (l.take k) (st,es)):=by grind[q_,List.take_append_drop]
 rw[e];exact Qy λj L h=>yF _ _ _ _ _ h
theorem Qz{n:Nat}(h:U0 g n)(h':wQ g):False:=by
 obtain⟨a,K,b,c,d,k⟩:=h'
 have l:a<n:=by
  refine mw λe=>?_;have:=d n U;have:=h.1;omega
 have m:=Zi (g:=g) (K:=K) (st:=(gb g a).1) (dr g K) b [];have e:(gb g<|a+1).1.length<=(gb g n).1.length:=Qy λf i j=>DF U f i j;rw[iM c] at e;have:=h.1;have:=h.2.1
 grind
end
end
section
variable{a b c d:E}{i j k l m n o p:Nat}{A B C q:Int}{w:ga}{R:ah->WP}
theorem Lu(h:new w (ψ a i j b k l c m n A d o p) λa b=>H b [D,O 0,O 0] 76 λb c=>χ c (Z a) λd=>iu 81 [d] c λe d=>br (!e) (bC d (Z b) [D,O 0,O 0] λa=>∃c d e f g,rA a (Z b) 3 [T c d e,O f,O g]/\R (vU [vG [T c d e,O f,O g],O 1]) a) (χ d (Z a) λa=>kV 93 [a] d λd c=>new c (Obj.map (Array.mk []) 0) λa c=>H c [D,O 0,O 0,Value.map (some a)] 190 λa c=>H c [O 0,O 0] 193 λc e=>iC 94 [u (some (Z a)),T (some (Z c)) 1 1] e λf e=>gT 0 e λc f e g=>gp g (Z a) λh i j=>bQ (e<(i:Int)) (gp g (Z a) λh i j=>M h i e 2 λh=>gp g h λi j k=>rE 95 [u d,T i j k] g λd h=>∃i,d=Value.map i/\bg prog (Instr.range 195 (Value.map i)) h λd h=>∃j,d=u j/\τ [(8,jG)] λd k=>d none 0 0 h/\∀(_:ν) h l m n,d h l m n->bg prog (Instr.next (u j) false 0) n λo p=>(o=vU [J false]/\rE 96 [T h l m] p λd j=>d=vU []/\τ [(10,jG),(61,aP)] λd k=>d none 0 0 0 j/\∀(_:ν) j m n o p,d j m n o p->bQ (o<(l:Int)) (M h l o 1 λc=>gX p c λe=>bg prog (Instr.lookup 195 (Value.map i) (O e) false) p λc f=>∃g h i,c=T g h i/\gF 97 [T g h i] f λg h i f=>iC 94 [u (some (Z a)),T g h i] f λg f=>H f [O e,O g] 203 λc e=>iT 197 j m n c e λf g h e=>gp e (Z a) λc i l=>bQ (256<(i:Int)) (bC e (Z b) [D,O 0,O 0] λa=>∃c d e f g,rA a (Z b) 3 [T c d e,O f,O g]/\R (vU [vG [T c d e,O f,O g],O 11]) a) (K (o+1)/\nD d k f g h (o+1) e j m n o p)) (gj p λb d=>gz d (Z a) λh i k=>gF 98 [T j m n] b λj k l b=>d b/\M h i e 2 λa=>gh b (a.add 1) (T j k l) λa=>gx c f e a g))\/∃a b,o=vU [J true,O a,b]/\bg prog (Instr.entry (u j)) p λa b=>∃c e,a=vU [O c,e]/\H b [O c] 3 λa b=>iT 24 h l m a b λc e f b=>nC d k c e f b h l m n) (gp g (Z a) λc d e=>gF 99 [T c d e] g λe f g d=>gh d (Z a) (T e f g) λc=>∃d e f g h,rA c (Z a) 3 [T d e f,O g,O h]/\bC c (Z b) [T d e f,O g,O h] λa=>∃c d e f g,rA a (Z b) 3 [T c d e,O f,O g]/\R (vU [vG [T c d e,O f,O g],O 0]) a))):ρ 41 [φ a i j b k l c m n A d o p] w R:=rv func41 h ⟨[(7,[(6,aP)]),(12,[(8,jG)]),(18,[(10,jG),(61,aP)])],[],[],[]⟩
theorem Tg(h:new w (ψ a i j b k l c m n A d o p) λa b=>∃c d e f g h i j k l m n o,rA b (Z a) 5 [T c d e,T f g h,T i j k,O l,T m n o]/\new b (Obj.map (Array.mk []) 0) λb p=>H p [T c d e,T f g h,T i j k,O l,T m n o,Value.map (some b)] 330 λb c=>hU c a 4 λd e f=>gT 0 c λa f c g=>bQ (c<(e:Int)) (M d e c 3 λd=>∃e h i j k,rA g d 3 [O e,T h i j,O k]/\H g [O 0,D,O 0] 134 λd l=>bC l (Z d) [O e,T h i j,O k] λe=>gj e λh e=>∃i,(∀a,e a->cL a (Addr.add (Z b) 5) (Value.map i))/\gy e (Z d) λj=>∃k,(∀a,e a->cL a (Addr.add (Z b) 5) (Value.map k))/\gy e (Z d) λb=>(bg prog (Instr.lookup 328 (Value.map k) (O b) false) h λb d=>∃h k l,b=T h k l/\e d/\H d [O c] 3 λb d=>e d/\iT 24 h k l b d λh k l d=>e d/\bg prog (Instr.mapUpdate 328 (Value.map i) (O j) (T h k l)) d λ(_:Unit)(b:ga)=>gx a f c b g)/\H h [O c] 3 λd h=>e h/\bg prog (Instr.lookup 328 (Value.map k) (O b) false) h λb h=>∃k l m,b=T k l m/\e h/\iT 24 k l m d h λh k l d=>e d/\bg prog (Instr.mapUpdate 328 (Value.map i) (O j) (T h k l)) d λ(_:Unit)(b:ga)=>gx a f c b g) (R (u (some (Z b))) g)):ρ 93 [φ a i j b k l c m n A d o p] w R:=rv func93 h ⟨[(3,[(13,aP)])],[],[],[]⟩
theorem yH(h:nn a λc=>gX w (c.add 1) λd=>K (d+1)/\nn a λc=>gh w (c.add 1) (O (d+1)) λc=>rE 182 [T b i j] c λc d=>∃e,c=Value.string e/\∃(c:lP []),(gj d λf d=>nn a λg=>∃h,(∀a,d a->cL a (g.add 3) (Value.map h))/\bg prog (Instr.lookup 188 (Value.map h) (Value.string e) false) f λf g=>∃h,f=O h/\oL d g λf=>bQ (0<h) (nn a λd=>gz f d λh j k=>nn a λd=>∃k,(∀a,f a->cL a (d.add 3) (Value.map k))/\M b i 0 2 λb=>rG f b λd i=>bg prog (Instr.lookup 188 (Value.map k) (Value.string e) false) g λb g=>∃k,b=O k/\oL f g λb=>K (k-1)/\M h j (k-1) 2 λf=>gz b f λh j k=>M h j 0 2 λf=>rG b f λh j=>∃f,(∀a,b a->Sem.run prog (sK BinOp.eql 193 (Operand.tmp 41) (Operand.tmp 44) (vG [O h,O j]) (vG [O d,O i])) a=Result.ok f a)/\∃b,f=J b/\br b (nn a λa=>∃b,cL g (a.add 3) (Value.map b)/\bg prog (Instr.lookup 188 (Value.map b) (Value.string e) false) g λa b=>∃c,a=O c/\K (c-1)/\R (O (c-1)) b) (c g)) (c g))/\∀(_:ν) d,c d->nn a λc=>gX d (c.add 2) λf=>K (f+1)/\nn a λc=>gh d (c.add 2) (O (f+1)) λc=>nn a λd=>gp c d λf g h=>H c [T b i j,D] 199 λb c=>iT 74 f g h b c λd f g c=>nn a λb=>gh c b (T d f g) λb=>gj b λc b=>nn a λd=>∃f,(∀a,b a->cL a (d.add 3) (Value.map f))/\nn a λd=>gz b d λg h i=>bg prog (Instr.mapUpdate 188 (Value.map f) (Value.string e) (O (h:Int))) c λ(_:Unit)(b:ga)=>nn a λa=>∃c,cL b (a.add 3) (Value.map c)/\bg prog (Instr.lookup 188 (Value.map c) (Value.string e) false) b λa b=>∃c,a=O c/\K (c-1)/\R (O (c-1)) b):ρ 94 [.pointer a,T b i j] w R:=rv func94 h ⟨[],[(5,[])],[],[]⟩
theorem xm(h:new w (Obj.map (Array.mk []) 0) λc d=>gF 183 [u a,T b i j] d λe f g d=>gT 0 d λb g d h=>bQ (d<(f:Int)) (M e f d 2 λe=>∃f i,rA h e 2 [O f,O i]/\H h [O 0,O 0] 193 λe j=>bC j (Z e) [O f,O i] λf=>∃i j,rA f (Z e) 2 [O i,O j]/\iC 184 [u a,vG [O i,O j]] f λi f=>bQ (0<=i) (bg prog (Instr.lookup 195 (Value.map (some c)) (O i) false) f λa f=>∃j k l,a=T j k l/\gX f (Z e) λa=>i_ f e 1 λm=>K (m+1)/\H f [O a,O (m+1)] 193 λa e=>iT 194 j k l a e λf j k e=>bg prog (Instr.mapUpdate 195 (Value.map (some c)) (O i) (T f j k)) e λ(_:Unit)(a:ga)=>gx b g d a h) (gx b g d f h)) (R (Value.map (some c)) h)):ρ 95 [.pointer a,T b i j] w R:=rv func95 h ⟨[(3,[(14,aP)])],[],[],[]⟩
theorem N5(h:rE 187 [T a i j,vF 188 []] w λb c=>b=vU []/\gF 192 [T a i j] c λc d e b=>gF 191 [T c d e] b λc d e b=>R (T c d e) b):ρ 97 [T a i j] w R:=rv func97 h
theorem kH(h:mA a i j none (some (i:Int)) (some (i:Int)) 2 λ(a:E)(b c:Nat)=>R (T a b c) w):ρ 98 [T a i j] w R:=rv func98 h
theorem js(h:mA a i j none (some (i:Int)) (some (i:Int)) 2 λ(a:E)(b c:Nat)=>R (T a b c) w):ρ 99 [T a i j] w R:=rv func99 h
theorem QB(h:τ [(3,jG),(8,aP)] λb c=>b none 0 0 0 w/\∀(_:ν) d e f g h,b d e f g h->bQ (g<(i:Int)) (M a i g 2 λa=>∃i j,rA h a 2 [O i,O j]/\H h [O 0,O 0] 193 λa k=>bC k (Z a) [O i,O j] λi=>gX i (Z a) λj=>i_ i a 1 λk=>i_ i a 1 λl=>ns 8/\H i [Value.int IntKind.u8 (IntKind.wrap IntKind.u8 j),Value.int IntKind.u8 (IntKind.wrap IntKind.u8 k),Value.int IntKind.u8 (IntKind.wrap IntKind.u8 (bj IntKind.i64 l 8))] 5 λa i=>rS (kR 426 [T d e f,T (some (Z a)) 3 3]) i λa i=>∃j k l,a=T j k l/\K (g+1)/\nD b c j k l (g+1) i d e f g h) (bg prog (convert 426 9 (T d e f)) h λa b=>∃c,a=Value.string c/\R (Value.string c) b)):ρ 182 [T a i j] w R:=rv func182 h ⟨[(3,[(3,jG),(8,aP)])],[],[],[]⟩
theorem xq(h:gF 270 [T b i j] w λd e f c=>new c (Obj.map (Array.mk []) 0) λb c=>τ [(5,jG),(7,aP)] λg h=>g d e f 0 c/\∀(_:ν) c d e f i,g c d e f i->bQ (f<(d:Int)) (M c d f 2 λj=>∃k l,rA i j 2 [O k,O l]/\iC 184 [u a,vG [O k,O l]] i λl k=>bQ (l<0) (K (f+1)/\nD g h c d e (f+1) k c d e f i) (bg prog (Instr.lookup 276 (Value.map (some b)) (O l) false) k λj k=>∃m,j=O m/\bQ (0<m) (K (f+1)/\nD g h c d e (f+1) k c d e f i) (bg prog (Instr.lookup 276 (Value.map (some b)) (O l) false) k λj k=>∃m,j=O m/\K (m+1)/\bg prog (Instr.mapUpdate 276 (Value.map (some b)) (O l) (O (m+1))) k λ(_:Unit)(b:ga)=>nn a λa=>∃j,cL b (a.add 5) (Value.map j)/\bg prog (Instr.lookup 328 (Value.map j) (O l) false) b λa b=>∃j k l,a=T j k l/\τ [(5,jG),(45,aP)] λa l=>a c d e 0 b/\∀(_:ν) b m n o p,a b m n o p->bQ (o<(k:Int)) (M j k o 1 λc=>gX p c λd=>H p [O d,O 0] 193 λc d=>iT 194 b m n c d λe f g d=>K (o+1)/\nD a l e f g (o+1) d b m n o p) (K (f+1)/\nD g h b m n (f+1) p c d e f i)))) (gF 97 [T c d e] i λc d e b=>R (T c d e) b)):ρ 183 [.pointer a,T b i j] w R:=rv func183 h ⟨[(4,[(5,jG),(7,aP)]),(10,[(5,jG),(45,aP)])],[],[],[]⟩
theorem yJ(h:H w [O A,O B] 193 λb c=>gj c λd c=>nn a λa=>gz c (a.add 4) λe f g=>gy c (Z b) λa=>M e f a 3 λa=>gz c (a.add 1) λe f g=>i_ d b 1 λa=>br (a==(f:Int)) (R (O (-1)) d) (i_ d b 1 λa=>M e f a 1 λa=>gX d a λb=>R (O b) d)):ρ 184 [.pointer a,(.agg #[O A,O B])] w R:=rv func184 h
theorem HB(h:H w [O A,O B] 193 λa b=>H b [O C,O q] 193 λb c=>gj c λd c=>gy c (Z a) λe=>gy c (Z b) λf=>jr c a 1 λg=>jr c b 1 λa=>iC 190 [O e,O f] d λe d=>c d/\iC 190 [O g,O a] d λd b=>c b/\H b [O e,O d] 3 λa b=>c b/\iC 189 [T (some (Z a)) 2 2] b λd b=>c b/\R (O d) b):ρ 188 [(.agg #[O A,O B]),(.agg #[O C,O q])] w R:=rv func188 h
theorem HD(h:gT 0 w λb c d e=>bQ (d<(i:Int)) (M a i d 1 λa=>∃f,World.cell? e a=some (O f)/\br (f !=0) (R (O f) e) (gx b c d e e)) (R (O 0) e)):ρ 189 [T a i j] w R:=rv func189 h ⟨[(3,[(8,aP)])],[],[],[]⟩
theorem yL(h:iu 283 [O A] w λc b=>iu 283 [O B] b λd b=>br c (br d (R (O 0) b) (R (O (-1)) b)) (br d (R (O 1) b) (bQ (A<B) (R (O (-1)) b) (bQ (B<A) (R (O 1) b) (R (O 0) b))))):ρ 190 [O A,O B] w R:=rv func190 h
theorem kJ(h:mA a i j none (some (i:Int)) (some (i:Int)) 2 λ(a:E)(b c:Nat)=>R (T a b c) w):ρ 191 [T a i j] w R:=rv func191 h
theorem ja(h:bQ ((i:Int)<2) (R (T a i j) w) (gT 1 w λb c d e=>bQ (d<(i:Int)) (gj e λf g=>M a i d 2 λh=>∃k l,(∀a,g a->iA a h 0 2=some [O k,O l])/\K (d-1)/\M a i (d-1) 2 λh=>∃m n,(∀a,g a->iA a h 0 2=some [O m,O n])/\∃h,(∀a,g a->Sem.run prog (sK BinOp.eql 193 (Operand.tmp 19) (Operand.tmp 24) (vG [O k,O l]) (vG [O m,O n])) a=Result.ok h a)/\∃g,h=J g/\br g (mA a i j (some d) none none 2 λ(b:E)(c _:Nat)=>τ [(3,aP),(5,aP)] λe g=>e d 1 f/\∀(_:ν) d f h,e d f h->bQ (f<(c:Int)) (gj h λj k=>M b c f 2 λl=>∃m n,(∀a,k a->iA a l 0 2=some [O m,O n])/\K (f-1)/\M b c (f-1) 2 λl=>∃o p,(∀a,k a->iA a l 0 2=some [O o,O p])/\∃l,(∀a,k a->Sem.run prog (sK BinOp.neq 193 (Operand.tmp 38) (Operand.tmp 43) (vG [O m,O n]) (vG [O o,O p])) a=Result.ok l a)/\∃k,l=J k/\br k (M b c f 2 λb=>∃c k,iA j b 0 2=some [O c,O k]/\M a i d 2 λa=>bC j a [O c,O k] λa=>K (d+1)/\K (f+1)/\nB e g (d+1) (f+1) a d f h) (K (f+1)/\nB e g d (f+1) j d f h)) (mA a i j (some d) none none 2 λ(b:E)(c e:Nat)=>rS (Builtin.clear_ (Array.mk [194]) 0 (Array.mk [T b c e])) h λ_ b=>mA a i j none (some d) none 2 λ(a:E)(c d:Nat)=>R (T a c d) b)) (gx b c d f e)) (R (T a i j) e))):ρ 192 [T a i j] w R:=rv func192 h ⟨[(4,[(3,aP)]),(9,[(3,aP),(5,aP)])],[],[],[]⟩
theorem jS(h:br (Option.isNone a) (R (D) w) (H w [] 193 λb c=>rS (kR 194 [T (some (Z b)) 0 0,T a i j]) c λa b=>∃c d e,a=T c d e/\R (T c d e) b)):ρ 270 [T a i j] w R:=rv func270 h
end
section
open Go.Proofs Go.Sort
instance:Inhabited aq:=⟨⟨0,0⟩⟩
def fB(x:aq):Ay:=[O x.prod,O x.dot]
def tv(xs:List aq):Ay:=xs.flatMap fB
theorem N6(x:aq)(xs:List aq):tv (x::xs)=O x.prod::O x.dot::tv xs:=rfl
theorem kK:∀xs:List aq,(tv xs).length=xs.length*2
 |[]=>rfl
 |x::xs=>by rw[N6,lQ,lQ,kK xs,lQ];omega
theorem Ft(xs a:List aq):tv (xs++a)=tv xs++tv a:=kr
theorem Zk:∀(xs:List aq)(t:Nat),(tv xs)[t]? =(xs[t/2]?).bind λx=>(fB x)[t%2]?
 |[],t=>by rfl
 |x::xs,0=>rfl
 |x::xs,1=>rfl
 |x::xs,t+2=>by
  rw[N6,qY,qY,Zk xs t,show(t+2)/2=t/2+1 by omega,show(t+2)%2=t%2 by omega,qY]
theorem N7(xs:List aq):(flatK fB 2 xs.toArray).toList=tv xs:=by
 apply kv
 grind[Zk,flatK,fB,get_flatK,Array.getElem?_eq_getElem,List.getElem?_eq_getElem,Array.getElem?_eq_none,List.getElem?_eq_none]
section
variable{w:ga}{L:List aG}
theorem Zl{a:E}{l c:Nat}{xs:List aq}(h:W w (own 2 a l c (tv xs)::L))(s:0<l):
  ∃b d,a=some ⟨b,d,none⟩/\l=xs.length/\HoldsK fB 2 w b d xs.toArray/\b<w.heap.size/\
   (∀(m:Nat)(os:Array Obj)(e:Array aq),e.size=xs.length->W (sortWorldK fB 2 w b d m e os) (own 2 a l c (tv e.toList)::L)):=by
 rcases dM h with⟨_,i,_⟩|⟨b,f,j,k,rfl,e,t,i,n⟩
 ·omega
 ·have o:l=xs.length:=by grind[kK]
  refine⟨b,f.length,rfl,o,?_,?_,?_⟩
  ·intro d g;have p:d<(tv xs).length:=η
   refine⟨?_,e.frozen _ _⟩;rw[e.cell,kL U,mu,ki p,<-N7,vL,Array.getElem?_eq_getElem g,getElem!_pos _ d g];rfl
  ·obtain⟨d,h⟩:=kg.1 e;exact(sk.1 h.get).1
  ·intro m os d p;have g:=e.sort (enc:=id) f.length m (flatK fB 2 d) os;have q:tv xs=(flatK fB 2 xs.toArray).toList.map id:=by simp[N7]
   have r:(flatK fB 2 d).toList.map id=tv d.toList:=by
    have:=N7 d.toList
    simp_all
   rw[q,DD f (j++k) (flatK fB 2 xs.toArray) (flatK fB 2 d) (by simp[p]),r] at g
   refine fJ g ?_ ?_ n
   ·simp_all[kK]
   simp_all[kK]
end
def xr(a b:Int):Int:=if a<b then-1 else if b<a then 1 else 0
def Ti(x y:aq):Int:=if xr x.prod y.prod=0 then xr x.dot y.dot else xr x.prod y.prod
theorem Af(x y:aq):ltOf Ti x y=decide (x.lt y):=by
 have h:Ti x y<0↔x.lt y:=by grind[Ti,xr,aq.lt]
 simp_all[ltOf]
theorem FR:SWO (ltOf Ti):=⟨λx=>by simp[Af,jM,aq.lt_irrefl],λx y z=>by rw[Af,Af,Af];simp only[jV];exact aq.lt_trans,λx y z=>by grind[Af,decide_eq_false_iff_not,aq.lt]⟩
end
section
open Go.Sort Go.Shelf
variable{w:ga}{L:List aG}
theorem Zm(a b:Int):rE AE [O a,O b] w λc d=>c=O (xr a b)/\d=w:=by
 have e:∀a:Int,∀w,rE Du [O a] w λc d=>c=J false/\d=w:=λa w=>qh ⟨V,rfl⟩;refine yL<|(e a w).mono ?_;rintro _ _⟨rfl,rfl⟩;refine⟨_,rfl,(e b _).mono ?_⟩;rintro _ _⟨rfl,rfl⟩
 refine⟨_,rfl,ae (λc=>by cases c) λ_=>ae (λc=>G) λ_=>ae (λc=>?_) λc=>ae (λd=>?_) λd=>?_⟩
 ·have f:=gZ c;unfold xr;simp_all
 ·have f:=hY c;have g:=gZ d;unfold xr;simp_all
 ·have f:=hY c;have g:=hY d;unfold xr;grind
theorem FU{a:E}{x y:Int}(e:bf (hp w) [x,y] a 2):rE Jt [T a 2 2] w λb c=>b=O (if x=0 then y else x)/\c=w:=by
 refine HD ⟨λc d=>∃b:Nat,c=b/\b<=2/\(0<b->x=0)/\(1<b->y=0)/\d=w,λb _=>2-b.toNat,⟨0,rfl,U,U,U,rfl⟩,?_⟩;rintro _ l m⟨c,rfl,n,o,p,f⟩;rw[f]
 refine ae (λg=>?_) λg=>?_
 ·have b:c<2:=G
  obtain⟨d,q,r,h,i⟩:=e.dy b
  refine au h b ⟨d,i _ sZ,ae (λj=>?_) λj=>?_⟩
  ·grind
  ·have k:d=0:=η
   subst k
   refine⟨ξ,⟨c+1,rfl,b,λ_=>?_,λ_=>?_,rfl⟩,bS b⟩
   ·grind
   grind
 grind
theorem FX(x y:aq)(w:ga):ρ fO [.agg (fB x).toArray,.agg (fB y).toArray] w λa b=>a=O (Ti x y)/\∃q a,b=grow (w.drewN q) a:=by
 refine HB ?_;intro a b s f;have t:W b (ax a (fB x)::all w):=(ag (W.all w) λg h c=>c:new w (oC [O x.prod,O x.dot] cP) λd e=>W e<|ax d (fB x)::all w) a b s f;intro c g v h;have z:W g (ax c (fB y)::ax a (fB x)::all w):=(ag t λk l d=>d:new b (oC [O y.prod,O y.dot] cP) λe i=>W i<|ax e (fB y)::ax a (fB x)::all w) c g v h;intro d e;have i:=z.eq<|fM e;have k:aj (hp d) (Z a) (fB x):=af 1 i.l;have l:aj (hp d) (Z c) (fB y):=af 0 i.l;refine⟨λm=>Gr d m,Gr.refl _,x.prod,λn m=>k.cell0 m,y.prod,λn m=>l.cell0 m,x.dot,λn m=>k.cell m (j:=1) rfl,y.dot,λn m=>l.cell m (j:=1) rfl,(Zm _ _).mono ?_⟩;rintro _ _⟨rfl,rfl⟩;refine⟨_,rfl,Gr.refl _,(Zm _ _).mono ?_⟩;rintro _ _⟨rfl,rfl⟩;refine⟨_,rfl,Gr.refl _,?_⟩;intro m n A o;have p:W n (ax m [O (xr x.prod y.prod),O<|xr x.dot y.dot]::all _):=(ag (W.all _) λI L r=>r:new _ (oC [O (xr x.prod y.prod),O<|xr x.dot y.dot] eQ) λC F=>W F<|ax C [O (xr x.prod y.prod),O<|xr x.dot y.dot]::all _) m n A o;have r:=p.aS;refine⟨r,(FU (x:=xr x.prod y.prod) (y:=xr x.dot y.dot)<|bA rfl (.inr ⟨_,rfl,af 0 p.l⟩)).mono ?_⟩;rintro _ _⟨rfl,rfl⟩;refine⟨_,rfl,r,rfl,1,#[oC [O x.prod,O x.dot] cP,oC [O y.prod,O y.dot] cP,oC [O (xr x.prod y.prod),O<|xr x.dot y.dot] eQ],?_⟩;unfold drawn at e;rw[o,e,h,f];rfl
theorem F4{blk a:Nat}{n:Nat}:CmpLays prog fO #[] fB 2 Ti blk a n w:=λd e f g b c=>by
 refine Calls.mono (FX b c _) ?_
 simp_all
theorem Ev.ahf(w:ga)(blk a m:Nat)(b:Array aq)(os:Array Obj):Ev w (sortWorldK fB 2 w blk a m b os):=Ev.sort (enc:=id) (blk:=blk) w a m (flatK fB 2 b) os
theorem F6{a:E}{l c:Nat}{xs:List aq}(h:W w (own 2 a l c (tv xs)::L))(A:l<4611686018427387904):
  rE iZ [T a l c,.func (.func fO) (Array.mk []) (Array.mk [])] w λd e=>d=.tuple (Array.mk [])/\∃b:List aq,b.Perm xs/\b.Pairwise (λf g=>¬g.lt f)/\W e (own 2 a l c (tv b)::L):=by
 have j:=gm h;rw[kK] at j
 by_cases k:0<l
 ·obtain⟨d,e,rfl,m,n,o,p⟩:=Zl h k;subst m;have q:∀b w,(callFunc fO b).run prog w=.ok (.enter fO b) w:=enters_of Hz (by rfl) rfl;refine Calls.mono (AnyQ.slices_SortFunc yR 2 NS NT fB (λ_=>rfl) (λf g b=>by simp[fB] at b;rcases b with rfl|rfl<;>rfl) Ti FR fO #[] d e c xs.toArray w q F4 n o U) ?_;rintro C F⟨rfl,b,f,g,i,r,rfl⟩;have s:b.size=xs.length:=by simpa using i.1
  refine⟨_,rfl,Ev.ahf w d e f _ g,rfl,b.toList,?_,?_,p f g b s⟩
  ·have:=i.2.2
   grind[Array.extract_size]
  ·rw[sd];intro t v x y z;rw[rz] at x y;have:=r t v (gu _) z η
   simp_all[Af,getElem!_pos]
 ·have b:l=0:=U
  subst b;have ex:xs=[]:=j2 U;subst ex;refine Calls.mono (AnyF.slices_SortFunc_none yR a c _ w) ?_;rintro d e⟨rfl,rfl⟩;exact⟨_,rfl,Ev.refl _,rfl,[],.refl _,.nil,h⟩
theorem U1{a:E}{l c:Nat}{b:Az}(h:W w (own 1 a l c (iv b)::L))(j:l<4611686018427387904):
  rE uw [T a l c] w λe f=>e=.tuple (Array.mk [])/\W f (own 1 a l c (iv (b.mergeSort λg i=>decide (g<=i)))::L):=by
 rcases Nat.eq_zero_or_pos l with rfl|k
 ·have e:b=[]:=j2 (by have:=gm h;simp_all[iv]);subst e;refine Calls.mono (Any.slices_Sort_int_none yT a c w) ?_;rintro f g⟨rfl,rfl⟩;exact⟨_,rfl,Ev.refl _,rfl,η⟩
 obtain⟨m,e,rfl,f,n,o,p⟩:=FI (d:=b.toArray) (enc:=Value.int .i64) (by simpa[iv] using h) k;simp only[List.size_toArray] at f;subst f;refine Calls.mono (Any.slices_Sort_int yT m e c b w n o j) ?_;rintro t v⟨rfl,g,i,rfl⟩;refine⟨_,rfl,Ev.sort (enc:=Value.int .i64) w e g _ i,rfl,?_⟩;have:=p g i (b.mergeSort λq r=>decide (q<=r)).toArray V;have q:(b.mergeSort λr s=>decide (r<=s)).toArray.toList.map (Value.int .i64)=iv (b.mergeSort λr s=>decide (r<=s)):=by rfl
 rw[q] at this;exact this
end
section
variable{P:iI}{Ty:aC->Option dL}{w:ga}{L:List aG}
theorem MD(j:fb P Ty){t e ty:aC}{i:dL}{z:ah}(o:ai Ty t=.slice e)(hi:Ty e=some i)(p:i.zero=some z)(N:(cellsOf z).length=i.size)(Q:∀v∈cellsOf z,aO v=true)(h0:0<i.size)
  {a:E} {l c b c2:Nat} {us:Ay} (h:W w (own i.size a l c us::L)) (q:b<=l):
  bg P (Builtin.clear_ (Array.mk [t]) ty (Array.mk [T (f_ a b c i.size) (l-b) c2])) w λv f=>∃d:Ay,d.take (b*i.size)=us.take (b*i.size)/\W f (own i.size a l c d::L):=by
 obtain⟨R,f,r⟩:=dR j o V;rw[fH r] at f;obtain⟨S,X,m⟩:=tY j hi;have s:(zeroValue e).run P w=.ok z w:=nI m.inf (by rw[<-m.zero,p]);have x:=gm h
 by_cases Y:b<l
 ·have y:0<us.length:=by rw[x];exact Nat.mul_pos U h0
  obtain⟨g,rfl⟩:=fk h y;have a0:=bJ h
  have A:f_ (some g) b c i.size=some (g.add<|b*i.size):=by
   unfold f_;rw[gv U,bh];rfl
  obtain⟨d,C⟩:∃n,l-b=n+1:=⟨l-b-1,U⟩;have a1:z.cells=⟨cellsOf z⟩:=by rw[eF]
  have F:(Builtin.zeroCells z.cells<|d+1).toList=(List.replicate (d+1)<|cellsOf z).flatten:=by grind[Builtin.zeroCells,IV,cellsOf,List.size_toArray]
  have a2:∀n,(List.replicate n<|cellsOf z).flatten.length=n*i.size:=λn=>η
  have a3:(d+1)*i.size=l*i.size-b*i.size:=by grind[Nat.sub_mul]
  have a4:b*i.size<=l*i.size:=nO _ q
  have n:=Il (i:=b*i.size) (vs:=(List.replicate (d+1)<|cellsOf z).flatten) (k:=λI=>W I<|own i.size (some g) l c (us.take (b*i.size)++(List.replicate (d+1)<|cellsOf z).flatten++us.drop (b*i.size+(List.replicate (d+1)<|cellsOf z).flatten.length))::L) h rfl
   η (λv I=>η) G λI h=>h
  refine⟨.tuple #[],_,?_,Ev.dQ w _ _ _ _<|Ev.refl _,_,?_,n.2 _ rfl⟩
  ·unfold Builtin.clear_;rw[A,C];simp only;simp[Sem.run_bind,bx f,s,F,lO _ _ _ _ n.1]
  simp_all
 ·have e:l-b=0:=U
  rw[e];refine⟨.tuple #[],w,?_,Ev.refl _,us,rfl,h⟩;unfold Builtin.clear_;cases d:f_ a b c i.size<;>simp[bx f]
end
section
variable{w:ga}{L:List aG}{xs:List aq}{a:E}{l c:Nat}
theorem Zn{h:Hp}{a:vP}(r:aj h a (tv xs)){i:Nat}{x:aq}(e:xs[i]? =some x):aj h (a.add (ew i 2)) (fB x):=λb c d=>by
 have f:b<2:=(gJ.1 d).1
 rw[bh,ke]
 refine r (i*2+b) c ?_
 grind[Zk]
theorem N8{h:Hp}(b:xs.length=l)(r:dX a (tv xs) h):bf h xs a l:=by
 refine⟨b,λg i c=>?_⟩
 rcases r with d|⟨e,rfl,f⟩
 ·have j:=congrArg List.length d
  grind[kK,List.length_nil,List.getElem?_eq_some_iff]
 ·exact⟨e,_,rfl,Zn f c,rfl⟩
theorem DG(h:W w (own 2 a l c (tv xs)::L)):bf (hp w) xs a l:=by
 have b:=gm h;rw[kK] at b;obtain⟨f,d,e⟩:=h.first;exact(N8 U<|bD e).mono d
theorem lY{h:Hp}(r:bf h xs a l){i:Nat}(hi:i<l):∃x b,xs[i]? =some x/\a=some b/\∀c:ga,sub h (hp c)->iA c (b.add (ew i 2)) 0 2=some [O x.prod,O x.dot]:=by
 obtain⟨x,b,g,c,d,e,rfl⟩:=r.get hi;exact⟨x,b,c,d,λj f=>e.at f rfl⟩
theorem F8{i:Nat}{x:aq}(hi:i<xs.length):(tv xs).take (i*2)++[O x.prod,O x.dot]++(tv xs).drop (i*2+2)=tv (xs.set i x):=by
 rw[tO,gD hi];have a:tv xs=tv (xs.take i)++tv (xs.drop i):=by rw[<-Ft,l9]
 have b:tv xs=tv (xs.take<|i+1)++tv (xs.drop<|i+1):=by rw[<-Ft,l9]
 have c:(tv<|xs.take i).length=i*2:=by grind[kK,List.length_take]
 have d:(tv<|xs.take<|i+1).length=i*2+2:=by grind[kK,List.length_take]
 grind[tv,List.take_left',List.drop_left',Ft,N6]
theorem Gg(xs:List aq)(k:Nat):(tv xs).take (k*2)=tv (xs.take k):=by
 by_cases h:k<=xs.length
 ·grind[tv,Ft,List.take_append_drop,List.take_left',kK,List.length_take]
 grind[List.take_of_length_le,kK]
theorem cK{sz:Nat}{vs:Ay}(h:W w (own sz a l c vs::L)):W w (own sz (f_ a 0 l sz) l l vs::L):=by
 rcases dM h with⟨rfl,rfl,rfl,rfl⟩|⟨b,d,cs,post,rfl,g,e,i,j⟩
 ·simp_all[f_]
 ·have f:f_ (some (⟨b,d.length,none⟩:vP)) 0 l sz=some ⟨b,d.length,none⟩:=by simp[f_,bh,l8]
  rw[f];exact fJ (cs:=[]) (post:=cs++post) η e η (gP _)
theorem bZ{a:E}{l c sz:Nat}{k:E->Nat->Nat->Prop}(d:l<=c)(b:k (f_ a 0 l sz) l l):mA a l c none (some (l:Int)) (some (l:Int)) sz k:=
 ⟨.inr ⟨V,V,η⟩,.inr ⟨V,V⟩,⟨V,V⟩,by simpa using b⟩
end
abbrev sS(l:List aq):Prop:=l.Pairwise λx y=>¬y.lt x
theorem sS.at{xs:List aq}(h:sS xs){i j:Nat}{x y:aq}(b:i<j)(hi:xs[i]? =some x)(a:xs[j]? =some y):¬y.lt x:=by
 obtain⟨c,rfl⟩:=gJ.1 hi;obtain⟨d,rfl⟩:=gJ.1 a
 simp_all[sd]
theorem U2{xs:List aq}{n:Nat}{x:aq}(c:xs[n]? =some x)(a:xs[n+1]? =some x):lay (xs.take (n+2))=lay (xs.take (n+1)):=
 Tb (py _) λb=>by
  rw[nw,iw (i:=n+1),a,oB,iU,jA]
  refine⟨.inl,λb=>b.elim id ?_⟩
  rintro rfl
  exact gg (i:=n) η
theorem U4{xs:List aq}(b:sS xs){n:Nat}{x z:aq}(c:xs[n]? =some z)(g:xs[n+1]? =some x)(h:x≠z):lay (xs.take (n+2))=lay (xs.take (n+1))++[x]:=by
 refine Tb ?_ λa=>by grind[nw,List.take_add_one,Option.toList_some]
 rw[pq,List.pairwise_append];refine⟨py _,V,λk d i e=>?_⟩;rw[jA] at e;subst e;rw[nw] at d;obtain⟨a,f⟩:=jR d;have j:a<n+1:=G
 rw[nN,gD j] at f;have l:z.lt i:=(aq.Ze h).resolve_left (b.at (Nat.lt_succ_self n) c g)
 by_cases m:a=n
 ·simp_all
 ·have o:=b.at (show a<n by omega) f c
  grind[aq.lt_trans,aq.Ze]
theorem Zo{xs:List aq}(a:sS xs){n:Nat}{x z:aq}(h:pq (xs.take (n+1)))(b:xs[n]? =some z)(c:xs[n+1]? =some x)(d:x≠z):pq (xs.take (n+2)):=by grind[U4,yB,List.take_add_one,py]
section
variable{w:ga}{L:List aG}
theorem ME(w:ga)(x y:aq):(Op.equalIn (9998+1+1) cP (.agg ⟨fB x⟩) (.agg ⟨fB y⟩)).run prog w=.ok (decide (x=y)) w:=by
 have d:prog.underlying cP=some (.struct<|prog.fieldsOf cP):=by rfl
 have e:prog.underlying eQ=some (.int .i64):=bX;have f:(prog.fieldsOf cP).toList=[{ name:="Prod",type:=eQ,offset:=0,embedded:=false,tag:="",pkgPath:="",byteOffset:=0 },{ name:="Dot",type:=eQ,offset:=1,embedded:=false,tag:="",pkgPath:="",byteOffset:=8 }]:=by rfl
 have g:∀(a b:ah)(w:ga),(part eQ #[a,b] 0).run prog w=.ok a w:=λa b w=>by rfl
 have h:∀(b a:ah)(w:ga),(part eQ #[b,a] 1).run prog w=.ok a w:=λa b w=>by rfl
 have a:∀b c i w,(Op.equalIn (i+1) eQ (O b)<|O c).run prog w=.ok (b==c) w:=λc i b w=>run_equalIn_int w b _ _ _ _ _ e
 have b:decide (x=y)=(x.prod==y.prod&&x.dot==y.dot):=by
  rw[lG];simp only[jV,jn,beq_iff_eq];exact⟨λc=>η,λ⟨c,i⟩=>aq.ext' c i⟩
 unfold fB;rw[run_equalIn_agg w (9998+1) cP _ _ d NR,f,b];unfold Op.eqFields;simp only[ne_eq,String.reduceEq,not_false_eq_true,if_true,Sem.run_bind,g,Result.andThen_ok,a]
 cases c:(x.prod==y.prod)
 ·simp
 ·unfold Op.eqFields;simp only[ne_eq,String.reduceEq,not_false_eq_true,if_true,Sem.run_bind,h,Result.andThen_ok,a,Bool.not_true,o8,if_false]
  cases i:(x.dot==y.dot)
  ·simp
  rfl
theorem Tj(w:ga)(xo yo:St)(x y:aq):Sem.run prog (sK .eql cP xo yo (.agg ⟨fB x⟩) (.agg ⟨fB y⟩)) w=.ok (J (decide (x=y))) w:=by
 unfold sK;rw[Sem.run_bind,run_eqGuard_agg w _ _ _ _ _ _ Dt];simp only[Result.andThen_ok];rw[run_eql_struct]
 show((Op.equalIn (9998+1+1) cP (.agg ⟨fB x⟩)<|.agg ⟨fB y⟩).run prog w).andThen _=_
 simp[ME]
theorem Gi(w:ga)(xo yo:St)(x y:aq):Sem.run prog (sK .neq cP xo yo (.agg ⟨fB x⟩) (.agg ⟨fB y⟩)) w=.ok (J (!decide (x=y))) w:=by
 unfold sK;rw[Sem.run_bind,run_eqGuard_agg w _ _ _ _ _ _ Dt];simp only[Result.andThen_ok];rw[run_neq_struct]
 show((Op.equalIn (9998+1+1) cP (.agg ⟨fB x⟩)<|.agg ⟨fB y⟩).run prog w).andThen _=_
 simp[ME]
end
theorem U5{xs:List aq}{n:Nat}(h:n<=1):pq (xs.take n):=by
 match n,h with
 |0,_=>simp
 |1,_=>cases xs<;>simp
theorem Zp{xs a:List aq}(h:a.Perm xs):lay a=lay xs:=Tb (py _) λb=>by grind[nw]
section
variable{w:ga}{L:List aG}{a:E}{l c:Nat}{xs:List aq}
theorem WQ(h:W w (own 2 a l c (tv xs)::L))(x:sS xs)(aK:l<4611686018427387904):
  ρ 192 [T a l c] w λd e=>∃b c',d=.slice b (lay xs).length c'/\W e (own 2 b (lay xs).length c' (tv (lay xs))::L):=by
 have N:=gm h;rw[kK] at N;have o:=bJ h;have P:xs.length=l:=U
 refine ja (ae (λQ=>?_) λQ=>?_)
 ·have b:l<2:=G
  have d:lay xs=xs:=yB (by have:=U5 (xs:=xs) (n:=l) U;grind)
  grind
 have aR:2<=l:=G
 refine⟨λb d=>∃n:Nat,b=((n+1:Nat):Int)/\n+1<=l/\pq (xs.take<|n+1)/\W d (own 2 a l c (tv xs)::L),λb _=>l-b.toNat,⟨0,rfl,U,U5<|gP _,h⟩,?_⟩;clear h;rintro _ aS aV⟨n,rfl,b0,R,h⟩;refine ae (λS=>?_) λS=>?_
 rotate_left
 ·have b:l=n+1:=G
  have d:lay xs=xs:=yB G
  grind
 have f:n+1<l:=G
 intro X Y;have h:=h.eq<|aW Y;have p:=DG h;obtain⟨q,a0,a1,rfl,y⟩:=lY p f;obtain⟨r,b1,a2,a3,z⟩:=lY p (by omega:n<l);cases a3;have a4:((n+1:Nat):Int)-1=(n:Int):=U
 rw[a4];refine⟨λb=>Gr X b,Gr.refl _,aI rfl f ⟨_,_,y,ξ,aI rfl U ⟨_,_,z,_,λb _=>Tj b _ _ q r,_,rfl,ae (λs=>?_) λs=>?_⟩⟩⟩
 rotate_left
 ·have b:q≠r:=hY s;exact⟨ξ,⟨n+1,V,f,Zo x R a2 a1 b,h⟩,bS f⟩
 have a5:q=r:=gZ s;subst a5;refine dS U o ?_
 refine⟨λe g j=>∃(k b:Nat)(d:List aq),e=(k:Int)/\g=((b+1:Nat):Int)/\n+1<=k/\k<=n+1+b/\n+1+b+1<=l/\d.length=l/\d.drop k=xs.drop k/\d.take k=lay (xs.take<|n+1+b+1)/\W j (own 2 (some a0) l c (tv d)::L),λ_ b _=>l-b.toNat,
  ⟨n+1,0,xs,rfl,rfl,gP _,gP _,U,P,rfl,?_,h⟩,?_⟩
 ·simp_all[U2,yB]
 clear h p y z;rintro _ _ _ b2⟨k,b,e,rfl,rfl,a6,b3,b4,a7,t,A,h⟩;have b5:(tv e).length=l*2:=by grind[kK]
 refine ae (λa8=>?_) λa8=>?_
 rotate_left
 ·have g:l=n+1+b+1:=G
  rw[<-g,jy (show xs.length<=l by omega)] at A;have C:(lay xs).length=k:=G
  have j:=MD (ty:=0) (c2:=c-k) aY (rfl:ai Ty Lo=.slice _) (rfl:Ty cP=some _) rfl rfl (λF v=>by rcases jb.1 v with rfl|d;rfl;rw[jA] at d;subst d;rfl) V h (show k<=l by omega);refine dS U o<|j.mono ?_;rintro _ F⟨d,v,h⟩;refine ij U ?_;have h:=po h (k:=k) U;have I:d.take (k*2)=tv (lay xs):=v.trans (by simp_all[Gg])
  grind
 have v:b+1<l-(n+1):=G
 intro a9 aa;have h:=h.eq<|aW aa;have C:=(DG h).drop (k:=n+1) (m:=c) U o
 have ab:∀d,k<=d->e[d]? =xs[d]?:=λac b6=>by
  have:=congrArg (λl=>l[ac-k]?) t;simp only[kI] at this
  simp_all
 obtain⟨d,b7,ad,g,F⟩:=lY C v;obtain⟨j,b9,al,I,am⟩:=lY C (by omega:b<l-(n+1));rw[g] at I;cases I;rw[kI,ab _ U] at ad al;have an:((b+1:Nat):Int)-1=(b:Int):=U
 have ao:xs[n+1+b+1]? =some d:=U
 have ap:xs[n+1+b]? =some j:=U
 rw[an];refine⟨λav=>Gr a9 av,Gr.refl _,aI g v ⟨_,_,F,ξ,aI g U ⟨_,_,am,_,λav _=>Gi av _ _ d j,_,rfl,ae (λav=>?_) λav=>?_⟩⟩⟩
 rotate_left
 ·have az:d=j:=η
  subst az;refine⟨ξ,⟨k,b+1,e,rfl,V,a6,U,U,a7,t,?_,h⟩,bS U⟩
  grind[U2]
 have az:d≠j:=η
 refine aI g v ⟨_,_,F _<|Gr.refl _,aI rfl U ?_⟩;rw[bh];refine Il (i:=k*2) h rfl G (by simp[aO]) V λba h=>?_;rw[show(k*2+[O d.prod,O d.dot].length)=k*2+2 from rfl,F8 U] at h
 refine⟨ξ,ξ,⟨k+1,b+1,e.set k d,V,V,U,U,U,η,?_,?_,h⟩,bS U⟩
 ·rw[List.drop_set_of_lt U,<-o9 (i:=1),t,o9]
 ·have aB:k<e.length:=U
  rw[show n+1+(b+1)+1=n+1+b+2 by omega,U4 x ap ao az,<-A,iw,sq aB,List.take_set_of_le<|gP _];rfl
theorem Zq(h:W w (own 2 a l c (tv xs)::L))(b:l<4611686018427387904):
  ρ 97 [T a l c] w λe f=>∃d,e=.slice d (lay xs).length (lay xs).length/\W f (own 2 d (lay xs).length (lay xs).length (tv (lay xs))::L):=by
 refine N5<|(F6 h b).mono ?_;rintro _ f⟨rfl,g,hp,d,h⟩;refine⟨rfl,(WQ h d b).mono ?_⟩;rintro _ i⟨j,k,rfl,h⟩;have e:=bJ h;refine⟨_,_,_,rfl,kJ<|bZ e ?_⟩;have h:=cK h;rw[Zp hp] at h ⊢
 grind
end
namespace da
inductive Rc (E:Nat->A0):Nat->Nat->Prop
 |refl (a:Nat):Rc E a a
 |step {a b c:Nat}:b∈E a->Rc E b c->Rc E a c
theorem Rc.trans{E:Nat->A0}{a b c:Nat}(h:Rc E a b):Rc E b c->Rc E a c:=by
 induction h with
 |refl=>simp
 |step h _ d=>exactλk=>.step h (d k)
theorem Rc.one{E:Nat->A0}{a b:Nat}(h:b∈E a):Rc E a b:=.step h (.refl b)
def Good(E:Nat->A0)(gs:A9):Prop:=
 gs.flatten.Nodup/\∀g1 g g2,gs=g1++g::g2->g≠[]/\(∀a∈g,∀b∈g,Rc E a b)/\∀a∈g,∀b∈E a,b∈g\/b∈g1.flatten
theorem Good.nil(E:Nat->A0):Good E []:=⟨V,λb c d a=>by simp at a⟩
theorem Good.snoc{E:Nat->A0}{gs:A9}{g:A0}(h:Good E gs)(k:g≠[])(l:g.Nodup)(m:∀a∈g,a∉gs.flatten)
  (n:∀a∈g,∀b∈g,Rc E a b) (o:∀a∈g,∀b∈E a,b∈g\/b∈gs.flatten):Good E (gs++[g]):=by
 refine⟨?_,?_⟩
 ·rw[List.flatten_append,kS];refine⟨h.1,η,?_⟩
  grind
 ·intro d e f c
  rcases List.eq_nil_or_concat f with rfl|⟨i,p,rfl⟩
  ·obtain⟨rfl,j⟩:=List.append_inj' c rfl
   grind
  ·rw[List.concat_eq_append,<-List.cons_append,<-jT] at c;obtain⟨j,q⟩:=List.append_inj' c rfl;exact h.2 d e i j
theorem QC{gs:A9}(h:gs.flatten.Nodup){b c:A9}{g:A0}(e:gs=b++g::c){a:Nat}(d:a∈g):a∉b.flatten/\a∉c.flatten:=G
abbrev Sc:=Nat×Nat×A0
def aZ:List Sc->A0
 |[]=>[]
 |(n,_,r)::t=>aZ t++n::r
structure Gu(E:Nat->A0)(low:Nat->Nat)(op:A0)(D:Nat->Prop)(b n k:Nat)(r:A0):Prop where
 le:k<=(E n).length
 top:low n<=b+1
 lo:∀v∈r,low n<=low v
 pos:∀v∈n::r,0<low v
 at_:∀v∈r,∀i,op[i]? =some v->low v<=i
 rc:∀v∈r,Rc E n v
 to:∀v∈n::r,∃u,op[low v-1]? =some u/\Rc E v u
 ed:∀v∈r,∀m∈E v,D m\/∃i,op[i]? =some m/\low n<=i+1
 en:∀j m,j<k->(E n)[j]? =some m->D m\/∃i,op[i]? =some m/\low n<=i+1
def OK(E:Nat->A0)(low:Nat->Nat)(op:A0)(D:Nat->Prop):List Sc->Prop
 |[]=>True
 |(n,k,r)::t=>Gu E low op D (aZ t).length n k r/\(∀u k' r' t',t=(u,k',r')::t'->Rc E u n)/\OK E low op D t
theorem di{t:List Sc}{n k:Nat}{r:A0}:(aZ ((n,k,r)::t)).length=(aZ t).length+1+r.length:=by grind[aZ]
theorem OK.mono{E:Nat->A0}{low low':Nat->Nat}{op op':A0}{D D':Nat->Prop}:∀(t:List Sc),OK E low op D t->
  (∀v∈aZ t,low' v=low v)->(∀i v:Nat,op[i]? =some v->op'[i]? =some v\/D' v)->(∀i v:Nat,op'[i]? =some v->v∈aZ t->op[i]? =some v)->(∀i:Nat,i<(aZ t).length->op'[i]? =op[i]?)->op.Nodup->(∀v:Nat,D v->D' v)->
  (∀i:Nat,i<(aZ t).length->op[i]? =(aZ t)[i]?)->OK E low' op' D' t
 |[],_,_,_,_,_,_,_,_=>trivial
 |(n,k,r)::t,⟨s,hu,ht⟩,hl,ho,hb,hi,nd,hD,hp=>by
  have hn:low' n=low n:=hl n (by simp[aZ])
  have hr:∀v∈r,low' v=low v:=λv hv=>hl v (by grind[aZ])
  have hnr:∀v∈n::r,low' v=low v:=λv hv=>hl v (by simp_all[aZ])
  refine⟨⟨s.le,by rw[hn];exact s.top,λv hv=>by rw[hn,hr v hv];exact s.lo v hv,λv hv=>by rw[hnr v hv];exact s.pos v hv,?_,s.rc,?_,?_,?_⟩,hu,?_⟩
  ·intro v hv i h
   rw[hr v hv]
   exact s.at_ v hv i (hb i v h (by grind[aZ]))
  ·intro v hv
   obtain⟨u,h1,h2⟩:=s.to v hv
   refine⟨u,?_,h2⟩
   rw[hnr v hv,hi _ ?_,h1]
   rw[di]
   have hp':=s.pos v hv
   rcases jb.1 hv with rfl|hv
   ·have:=s.top;omega
   ·have hv2:v∈aZ ((n,k,r)::t):=by grind[aZ]
    obtain⟨i,hi1,hi2⟩:=List.getElem_of_mem hv2
    have:=s.at_ v hv i η
    grind[di]
  ·intro v hv m hm
   rcases s.ed v hv m hm with h|⟨i,h1,h2⟩
   ·simp_all
   grind
  ·intro j m hj hm
   rcases s.en j m hj hm with h|⟨i,h1,h2⟩
   ·simp_all
   grind
  ·refine OK.mono t ht (λv hv=>hl v (by simp[aZ,hv])) ho (λi v h hv=>hb i v h (by simp[aZ,hv])) (λi h=>hi i (by rw[di];omega)) nd hD ?_
   intro i h
   rw[hp i (by rw[di];omega)]
   simp only[aZ]
   rw[ki h]
def Im(f:Nat->Nat)(i x:Nat):Nat->Nat:=λj=>if j=i then x else f j
theorem b8(f:Nat->Nat)(i x:Nat):Im f i x i=x:=by simp[Im]
theorem fi{f:Nat->Nat}{i x j:Nat}(h:j≠i):Im f i x j=f j:=by grind[Im]
structure Inv(E:Nat->A0)(N:Nat)(low:Nat->Nat)(S:List Sc)(gs:A9):Prop where
 ok:OK E low (aZ S) (·∈gs.flatten) S
 nd:(aZ S++gs.flatten).Nodup
 lt:∀v∈aZ S++gs.flatten,v<N
 un:∀v,v<N->(low v=0↔v∉aZ S++gs.flatten)
 dn:∀v∈gs.flatten,low v=N+1
 good:Good E gs
theorem Zr:∀(l m:A0),l.Nodup->(∀v∈l,v∈m)->l.length<=m.length
 |[],_,_,_=>gu _
 |a::l,m,h,hs=>by
  have ha:=hs a V
  rw[kN] at h
  have:=Zr l (m.erase a) h.2 (λv hv=>(List.mem_erase_of_ne (λe:v=a=>h.1 (e▸hv))).2 (hs v G))
  grind
theorem Zs{l:A0}{N:Nat}(a:l.Nodup)(b:∀v∈l,v<N):l.length<=N:=by
 have:=Zr l (List.range N) a (λv c=>jY.2<|b v c)
 simp_all
variable{E:Nat->A0}{N:Nat}{low:Nat->Nat}{S t:List Sc}{gs:A9}{D:Nat->Prop}{op:A0}
theorem QD{l:A0}(h:l.Nodup){i j:Nat}{v:Nat}(a:l[i]? =some v)(b:l[j]? =some v):i=j:=by grind[List.getElem?_eq_some_iff,List.getElem_inj]
theorem OK.to:∀(S:List Sc),OK E low op D S->∀v∈aZ S,0<low v/\∃u,op[low v-1]? =some u/\Rc E v u
 |[],_,v,hv=>by simp_all[aZ]
 |(n,k,r)::t,⟨s,_,h⟩,v,hv=>by
  simp only[aZ,iU] at hv
  rcases hv with hv|hv
  ·exact OK.to t h v hv
  ·exact⟨s.pos v hv,s.to v hv⟩
theorem OK.aeC:∀(S:List Sc),OK E low op D S->op.Nodup->(∀i:Nat,i<(aZ S).length->op[i]? =(aZ S)[i]?)->∀v∈aZ S,∀i:Nat,op[i]? =some v->low v<=i+1
 |[],_,_,_,v,hv=>by simp_all[aZ]
 |(n,k,r)::t,⟨s,_,h⟩,nd,hp,v,hv=>by
  intro i hi
  simp only[aZ,iU] at hv
  rcases hv with hv|hv
  ·refine OK.aeC t h nd (λj hj=>?_) v hv i hi
   grind[di,aZ,List.getElem?_append_left]
  ·rcases jb.1 hv with rfl|hv
   ·have h1:op[(aZ t).length]? =some v:=by simp_all[aZ]
    have:=QD nd hi h1
    have:=s.top
    omega
   ·have:=s.at_ v hv i hi
    omega
theorem Inv.ndo(h:Inv E N low S gs):(aZ S).Nodup:=(kS.1 h.nd).1
theorem Inv.len(h:Inv E N low S gs):(aZ S).length<=N:=Zs h.ndo λa b=>h.lt a G
theorem Inv.seen(h:Inv E N low S gs){v:Nat}(a:v<N)(b:low v≠0):v∈aZ S\/v∈gs.flatten:=by
 have:=mt (h.un v a).2 b
 grind
theorem Inv.root(h:Inv E N low [] gs){m:Nat}(d:m<N)(h0:low m=0):Inv E N (Im low m 1) [(m,0,[])] gs:=by
 have a:=(h.un m d).1 h0;simp only[aZ,l7] at a;have e:∀b,b∈gs.flatten->b≠m:=λf b c=>a (c▸b)
 refine⟨⟨⟨V,by simp[aZ,b8],V,?_,V,V,?_,V,V⟩,V,trivial⟩,?_,?_,?_,?_,h.good⟩
 ·simp[b8]
 ·intro b c;simp only[jA] at c;subst c;exact⟨b,by simp[b8,aZ],.refl b⟩
 ·have:=h.nd
  simp_all[aZ]
 ·intro c b;simp only[aZ,l7,List.singleton_append,jb] at b
  rcases b with rfl|f
  ·omega
  ·exact h.lt c η
 ·intro b c;simp only[aZ,l7,List.singleton_append,jb]
  by_cases f:b=m
  ·simp_all[b8]
  ·rw[fi f,h.un b c];grind[aZ]
 ·intro b c;rw[fi (e b c)];exact h.dn b c
theorem Inv.push{n k m:Nat}{r:A0}(h:Inv E N low ((n,k,r)::t) gs)(e:(E n)[k]? =some m)(g:m<N)(h0:low m=0):
  Inv E N (Im low m ((aZ ((n,k,r)::t)).length+1)) ((m,0,[])::(n,k+1,r)::t) gs:=by
 have f:=(h.un m g).1 h0;have i:m∉aZ ((n,k,r)::t):=λa=>f η;have j:m∉gs.flatten:=λa=>f η;have b:aZ ((m,0,[])::(n,k+1,r)::t)=aZ ((n,k,r)::t)++[m]:=rfl
 have l:=OK.mono (low':=Im low m<|(aZ<|(n,k,r)::t).length+1) (op':=aZ ((n,k,r)::t)++[m]) (D':=(·∈gs.flatten)) _ h.ok
  (λd a=>fi λc=>i<|c▸a)
  (λa c d=>Or.inl G)
  (λa c d o=>G)
  (λc a=>ki a) h.ndo (λ_ h=>h) (λ_ _=>rfl)
 obtain⟨a,o,p⟩:=l;have q:k<(E n).length:=(gJ.1 e).1
 refine⟨⟨⟨V,?_,V,?_,V,V,?_,V,V⟩,?_,⟨⟨q,a.top,a.lo,a.pos,a.at_,a.rc,a.to,a.ed,?_⟩,o,p⟩⟩,?_,?_,?_,?_,h.good⟩
 ·rw[b8];exact gP _
 ·simp[b8]
 ·intro c d;simp only[jA] at d;subst d;refine⟨c,?_,.refl c⟩
  simp_all[b8]
 ·grind[Rc.one,List.mem_of_getElem?]
 ·intro c s w d
  by_cases v:c=k
  ·subst v;rw[e] at d;cases d;refine Or.inr ⟨(aZ<|(n,c,r)::t).length,η,?_⟩;have x:=a.top
   grind[aZ,di]
  ·exact a.en c s U d
 ·rw[b];have:=h.nd
  grind
 ·intro d c;rw[b] at c;simp only[iU,jA] at c
  rcases c with(s|rfl)|s
  ·exact h.lt d η
  ·omega
  ·exact h.lt d η
 ·intro c d;rw[b]
  by_cases s:c=m
  ·simp_all[b8]
  ·rw[fi s,h.un c d];grind
 ·intro c d;have s:c≠m:=λv=>j<|v▸d;rw[fi s];exact h.dn c d
theorem Inv.afk{n k:Nat}{r:A0}(h:Inv E N low ((n,k,r)::t) gs):n∉aZ t/\n∉r/\n∉gs.flatten/\(∀v∈r,v∉aZ t):=by
 have:=h.nd;simp only[aZ,kS,kN,iU,jb] at this
 grind
theorem Inv.look{n k m:Nat}{r:A0}(h:Inv E N low ((n,k,r)::t) gs)(c:(E n)[k]? =some m)(i:m<N)(h0:low m≠0):
  Inv E N (Im low n (min (low n) (low m))) ((n,k+1,r)::t) gs:=by
 obtain⟨o,p,q,F⟩:=h.afk;obtain⟨a,s,v⟩:=h.ok;have w:k<(E n).length:=(gJ.1 c).1;have j:∀b∈r,b≠n:=λe b d=>p<|d▸b;have x:=h.len;rw[di] at x;have I:=a.top;have L:=a.pos n V;have d:Im low n (min (low n)<|low m) n<=low n:=by grind[b8]
 have P:m∈gs.flatten->min (low n) (low m)=low n:=λb=>by rw[h.dn m b];omega
 have y:=OK.mono (low':=Im low n<|min (low n)<|low m) (op':=aZ<|(n,k,r)::t) (D':=(·∈gs.flatten)) _ v
  (λf b=>fi λe=>o<|e▸b) (λe f b=>Or.inl b) (λe f b _=>b) (λb e=>rfl) h.ndo (λ_ h=>h)
  (λb e=>by simp_all[aZ,ki])
 refine⟨⟨⟨w,U,?_,?_,?_,a.rc,?_,?_,?_⟩,s,y⟩,h.nd,h.lt,?_,?_,h.good⟩
 ·intro b e;rw[fi (j b e)];exact j3 d (a.lo b e)
 ·intro b e
  by_cases f:b=n
  ·grind[b8]
  ·rw[fi f];exact a.pos b e
 ·intro b e;rw[fi (j b e)];exact a.at_ b e
 ·intro b g
  by_cases e:b=n
  ·subst e;rw[b8]
   by_cases l:low b<=low m
   ·rw[pS l];exact a.to b V
   ·rw[Nat.min_eq_right U]
    rcases h.seen i h0 with f|f
    ·obtain⟨_,z,A,C⟩:=OK.to _ h.ok m f;exact⟨z,A,.step (gg c) C⟩
    grind
  ·rw[fi e];exact a.to b g
 ·intro e f g l
  rcases a.ed e f g l with b|⟨z,b,A⟩
  ·simp_all
  ·exact Or.inr ⟨z,b,j3 d A⟩
 ·intro b z C e
  by_cases A:b=k
  ·subst A;rw[c] at e;cases e
   rcases h.seen i h0 with f|f
   ·obtain⟨g,Q,R⟩:=List.getElem_of_mem f;have l:(aZ<|(n,b,r)::t)[g]? =some m:=η
    refine Or.inr ⟨g,l,?_⟩;have:=OK.aeC _ h.ok h.ndo (λ_ _=>rfl) m f g l
    grind[b8]
   simp_all
  ·rcases a.en b z U e with f|⟨g,f,l⟩
   ·simp_all
   ·exact Or.inr ⟨g,f,j3 d l⟩
 ·intro b e
  by_cases f:b=n
  ·grind[b8,aZ,absurd]
  ·rw[fi f];exact h.un b e
 ·intro b e;have f:b≠n:=λg=>q<|g▸e;rw[fi f];exact h.dn b e
theorem Inv.merge{n k a e:Nat}{r b:A0}(h:Inv E N low ((n,k,r)::(a,e,b)::t) gs)(Y:k=(E n).length)(a0:low n≠(aZ ((a,e,b)::t)).length+1):
  Inv E N (Im low a (min (low a) (low n))) ((a,e,b++n::r)::t) gs:=by
 obtain⟨a1,a2,a3,a4⟩:=h.afk;obtain⟨c,m,d,w,x⟩:=h.ok;have i:aZ ((a,e,b++n::r)::t)=aZ ((n,k,r)::(a,e,b)::t):=by simp[aZ]
 have y:a∉aZ t/\a∉b/\a≠n/\a∉r/\a∉gs.flatten:=by
  have:=h.nd;simp only[aZ,kS,kN,iU,jb] at this
  grind
 obtain⟨z,A,C,F,I⟩:=y;have o:Im low a (min (low a)<|low n) a<=low a:=by grind[b8]
 have L:Im low a (min (low a)<|low n) a<=low n:=by grind[b8]
 have g:∀f,f≠a->Im low a (min (low a)<|low n) f=low f:=λj f=>fi f;have P:Im low a (min (low a)<|low n) n=low n:=g n<|Ne.symm C;have p:∀f∈r,Im low a (min (low a)<|low n) f=low f:=λf j=>g f λl=>F<|l▸j;have q:∀f∈b,Im low a (min (low a)<|low n) f=low f:=λf j=>g f λl=>A<|l▸j;have a5:=c.pos n V;have a6:=d.pos a V
 have Q:=OK.mono (low':=Im low a<|min (low a)<|low n) (op':=aZ<|(n,k,r)::(a,e,b)::t) (D':=(·∈gs.flatten)) _ x
  (λl f=>fi λj=>z<|j▸f) (λj l f=>Or.inl f) (λj l f _=>f) (λf j=>rfl) h.ndo (λ_ h=>h)
  (λf j=>by simp_all[aZ,ki])
 have R:(aZ<|(n,k,r)::(a,e,b)::t)[(aZ<|(a,e,b)::t).length]? =some n:=by simp[aZ]
 refine⟨?_,by rw[i];exact h.nd,by rw[i];exact h.lt,?_,?_,h.good⟩
 ·rw[i]
  refine⟨⟨d.le,j3 o d.top,?_,?_,?_,?_,?_,?_,?_⟩,w,Q⟩
  ·intro j l;simp only[iU,jb] at l
   rcases l with f|rfl|f
   ·rw[q j f];exact j3 o (d.lo j f)
   ·omega
   ·rw[p j f];exact j3 L (c.lo j f)
  ·intro f j
   by_cases s:f=a
   ·grind[b8]
   ·rw[g f s];simp only[iU,jb] at j
    rcases j with l|l|rfl|l
    ·omega
    ·exact d.pos f G
    ·omega
    ·exact c.pos f G
  ·intro j s v l;simp only[iU,jb] at s
   rcases s with f|rfl|f
   ·rw[q j f];exact d.at_ j f v l
   ·rw[P];have:=QD h.ndo l R;have:=c.top;omega
   ·rw[p j f];exact c.at_ j f v l
  ·intro j l;have s:=m a e b t rfl;simp only[iU,jb] at l
   rcases l with f|rfl|f
   ·exact d.rc j f
   ·omega
   ·exact s.trans (c.rc j f)
  ·intro f j
   by_cases l:f=a
   ·subst l;rw[b8]
    by_cases s:low f<=low n
    ·rw[pS s];exact d.to f V
    ·rw[Nat.min_eq_right U];obtain⟨v,S,X⟩:=c.to n V;exact⟨v,S,(m f e b t rfl).trans X⟩
   ·rw[g f l];simp only[iU,jb] at j
    rcases j with s|s|rfl|s
    ·omega
    ·exact d.to f G
    ·exact c.to f V
    ·exact c.to f G
  ·intro s v f j;simp only[iU,jb] at v
   rcases v with l|rfl|l
   ·rcases d.ed s l f j with S|⟨X,S,a7⟩
    ·simp_all
    grind
   ·obtain⟨S,a7,a8⟩:=List.getElem_of_mem j
    rcases c.en S f U η with X|⟨a9,X,aa⟩
    ·simp_all
    grind
   ·rcases c.ed s l f j with S|⟨X,S,a7⟩
    ·simp_all
    grind
  ·intro f j l s
   rcases d.en f j l s with v|⟨S,v,X⟩
   ·simp_all
   grind
 ·intro f j;rw[i]
  by_cases l:f=a
  ·grind[b8,aZ,absurd]
  ·rw[g f l];exact h.un f j
 ·intro f j;rw[g f λl=>I<|l▸j];exact h.dn f j
variable{E:Nat->A0}{N:Nat}{low:Nat->Nat}{S t:List Sc}{gs:A9}
theorem Inv.ah9{n k a b:Nat}{r c:A0}(h:Inv E N low ((n,k,r)::(a,b,c)::t) gs)(e:low n=(aZ ((a,b,c)::t)).length+1):min (low a) (low n)=low a:=by
 obtain⟨f,g,d,i,j⟩:=h.ok;have:=d.top
 grind[di]
theorem Inv.pop{n k:Nat}{r:A0}(h:Inv E N low ((n,k,r)::t) gs)(z:k=(E n).length)(A:low n=(aZ t).length+1):
  Inv E N (λa=>if a∈n::r then N+1 else low a) t (gs++[n::r]):=by
 obtain⟨a,C,i⟩:=h.ok;have d:=h.nd;simp only[aZ,kS,iU] at d;obtain⟨⟨j,l,m⟩,F,o⟩:=d;have p:aZ ((n,k,r)::t)=aZ t++n::r:=rfl;have q:∀(b c:Nat),(aZ<|(n,k,r)::t)[b]? =some c->low n<=b+1->c∈n::r:=G
 have I:∀e:Nat,∀c:Nat,c<e->∀b:Nat,b∈n::r->(aZ<|(n,k,r)::t)[c]? =some b->Rc E b n:=by
  intro s
  induction s with
  |zero=>omega
  |succ L v=>
   intro w P b c x
   rcases jb.1 c with rfl|e
   ·exact .refl _
   ·have Q:=a.at_ b e w x;have R:=a.lo b e;obtain⟨f,g,y⟩:=a.to b c;have S:=a.pos b c;exact y.trans (v (low b-1) U f (q _ f g U) g)
 have g:∀b∈n::r,Rc E b n:=by
  intro b c;obtain⟨e,f,s⟩:=List.getElem_of_mem (show b∈aZ ((n,k,r)::t) by simp_all)
  grind
 have s:∀b∈n::r,Rc E n b:=by
  intro b c
  rcases jb.1 c with rfl|e
  ·simp_all
  ·exact a.rc b e
 have e:Good E (gs++[n::r]):=by
  refine h.good.snoc V l (λb c f=>o b (Or.inr c) b f rfl) (λb c f v=>(g b c).trans (s f v)) ?_;intro f v b c
  rcases jb.1 v with rfl|w
  ·obtain⟨x,L,P⟩:=List.getElem_of_mem c
   rcases a.en x b U η with y|⟨Q,y,R⟩
   ·simp_all
   grind
  ·rcases a.ed f w b c with x|⟨y,x,L⟩
   ·simp_all
   grind
 have y:∀b∈aZ t,b∉n::r:=λb c f=>m b c b f rfl;have b:∀c,c∈(gs++[n::r]).flatten↔c∈gs.flatten\/c∈n::r:=V
 have v:=OK.mono (low':=λc=>if c∈n::r then N+1 else low c) (op':=aZ t) (D':=(·∈(gs++[n::r]).flatten)) _ i
  (λc f=>η)
  (λc f w=>G)
  (λc f w _=>G)
  (λc f=>G) h.ndo (λc f=>(b c).2 (Or.inl f))
  (λc f=>G)
 refine⟨v,?_,?_,?_,?_,e⟩
 ·rw[kS];refine⟨j,e.1,?_⟩
  grind
 ·intro c f;rw[iU,b] at f;refine h.lt c ?_
  grind
 ·intro c f;rw[iU,b]
  by_cases w:c∈n::r
  ·grind
  ·simp only[gv w];rw[h.un c f,p,iU,iU]
   grind
 ·intro c w
  rcases(b c).1 w with f|f
  ·by_cases x:c∈n::r
   ·grind
   ·simp only[gv x];exact h.dn c f
  grind
theorem Inv.start(E:Nat->A0)(N:Nat):Inv E N (λ_=>0) [] []:=⟨trivial,by simp[aZ],by simp[aZ],by simp[aZ],V,Good.nil E⟩
def todo(E:Nat->A0)(N:Nat)(low:Nat->Nat)(S:List Sc):Nat:=
 ((List.range N).map λv=>if low v=0 then(E v).length+2 else 0).sum+(S.map λs=>(E s.1).length+1-s.2.1).sum
theorem Gv{l:A0}{f g:Nat->Nat}(h:∀v∈l,f v<=g v):(l.map f).sum<=(l.map g).sum:=by
 induction l with
 |nil=>simp
 |cons a l b=>
  grind
theorem Gx{l:A0}{f g:Nat->Nat}(h:∀v∈l,f v<=g v){a d:Nat}(b:a∈l)(c:f a+d<=g a):(l.map f).sum+d<=(l.map g).sum:=by
 induction l with
 |nil=>simp_all
 |cons e l i=>
  simp only[kn,List.sum_cons]
  rcases jb.1 b with rfl|j
  ·have:=Gv (l:=l) λv k=>h v G;omega
  grind
theorem WR{n k m:Nat}{r:A0}(h:Inv E N low ((n,k,r)::t) gs)(c:(E n)[k]? =some m)(e:m<N)(h0:low m=0)(x:Nat)(i:x≠0):
  todo E N (Im low m x) ((m,0,[])::(n,k+1,r)::t)<todo E N low ((n,k,r)::t):=by
 have j:k<(E n).length:=(gJ.1 c).1
 have:=Gx (l:=List.range N) (f:=λb=>if Im low m x b=0 then(E b).length+2 else 0) (g:=λb=>if low b=0 then(E b).length+2 else 0) (a:=m) (d:=(E m).length+2)
  (λb _=>by
   by_cases o:b=m
   ·grind
   simp_all[fi]) (jY.2 e) (by simp_all[b8])
 grind[todo]
theorem Fu{low':Nat->Nat}(h:∀v,v<N->(low' v=0↔low v=0)):((List.range N).map λv=>if low' v=0 then(E v).length+2 else 0).sum=((List.range N).map λv=>if low v=0 then(E v).length+2 else 0).sum:=by simp_all[qL]
end da
section
variable{a b c d:E}{i j k l m n o p:Nat}{A:Int}{w:ga}{R:ah->WP}
theorem Lw(h:new w (ψ a i j b k l c m n A d o p) λa b=>χ b (Z a) λc=>kX 100 [c] b λd e f g c=>br (g !=0) (R (vU [D,O g]) c) (χ c (Z a) λb=>kX 101 [b] c λf g h i c=>br (i !=0) (R (vU [D,O i]) c) (τ [(7,jG),(31,aP)] λb h=>b none 0 0 0 c/\∀(_:ν) c i j k l,b c i j k l->bQ (k<(g:Int)) (M f g k 3 λf=>∃g m n o p,rA l f 3 [O g,O m,T n o p]/\H l [O 0,O 0,D] 212 λf q=>bC q (Z f) [O g,O m,T n o p] λg=>gp g (Z a) λm n o=>kV 102 [O (n:Int),D] g λm g=>hU g f 2 λa n o=>gT 0 g λo p g q=>bQ (g<(n:Int)) (M a n g 1 λa=>gX q a λb=>M d e b 1 λa=>gp q a λb c d=>iC 103 [u m,T b c d] q λc b=>gx o p g b q) (gj q λa d=>gy d (Z f) λe=>jr d f 1 λg=>gF 89 [u m] a λm n o f=>d f/\H f [O e,O g,T m n o] 216 λa e=>d e/\iT 100 c i j a e λf g m e=>d e/\K (k+1)/\nD b h f g m (k+1) e c i j k l)) (gF 104 [T c i j] l λc d e b=>R (vU [T c d e,O 0]) b)))):ρ 42 [φ a i j b k l c m n A d o p] w R:=rv func42 h ⟨[(9,[(7,jG),(31,aP)]),(13,[(42,aP)])],[],[],[]⟩
theorem Cb(h:new w (ψ a i j b k l c m n A d o p) λa b=>gj b λc b=>∃d e f g h i j k l m n o p,(∀c,b c->rA c (Z a) 5 [T d e f,T g h i,T j k l,O m,T n o p])/\gF 193 [] c λq r s c=>oL b c λa=>M q r 1 2 λb=>∃q r s t,(∀c,a c->rA c b 2 [vF q r,vF s t])/\kX 194 [vG [vF q r,vF s t],vG [T d e f,T g h i,T j k l,O m,T n o p]] c λd e f g c=>a c/\R (vU [T d e f,O g]) c):ρ 100 [φ a i j b k l c m n A d o p] w R:=rv func100 h
theorem kM(h:mA a i j none (some (i:Int)) (some (i:Int)) 3 λ(a:E)(b c:Nat)=>R (T a b c) w):ρ 104 [T a i j] w R:=rv func104 h
theorem Cd  {w:ga}{R:ah->WP}(h:H w [vF 284 [],vF 285 [],vF 286 [],vF 287 []] 340 λa b=>R (T (some (Z a)) 2 2) b):ρ 193 [] w R:=rv func193 h
theorem tj{F:aM}{e:Ay}{y:aM}{I:Ay}(h:H w [vF F e,vF y I] 340 λf g=>new g (ψ a i j b k l c m n A d o p) λa b=>∃c d,cL b (Z f) (vF c d)/\χ b (Z a) λq=>p9 (Fn c) (kX c (q::d) b λd r s h c=>br (h !=0) (R (vU [D,O h]) c) (∃b h,cL c (Addr.add (Z f) 1) (vF b h)/\χ c (Z a) λa=>p9 (Fn b) (kX b (a::h) c λc t h i b=>br (i !=0) (R (vU [D,O i]) b) (kX 288 [T c t h,T d r s] b λc d v x b=>R (vU [T c d v,O x]) b))))):ρ 194 [(.agg #[(.func (.func F) #[] ⟨e⟩),(.func (.func y) #[] ⟨I⟩)]),φ a i j b k l c m n A d o p] w R:=rv func194 h
abbrev yM:aM:=286
theorem Fy(h:new w (ψ a i j b k l c m n A d o p) λa b=>gj b λc b=>∃d e f g h i j k l m n o p,(∀c,b c->rA c (Z a) 5 [T d e f,T g h i,T j k l,O m,T n o p])/\gF 193 [] c λq r s c=>oL b c λa=>M q r 0 2 λb=>∃q r s t,(∀c,a c->rA c b 2 [vF q r,vF s t])/\kX 194 [vG [vF q r,vF s t],vG [T d e f,T g h i,T j k l,O m,T n o p]] c λd e f g c=>a c/\R (vU [T d e f,O g]) c):ρ 286 [φ a i j b k l c m n A d o p] w R:=rv func286 h
theorem DI(h:H w [T a i j] 71 λa c=>H c [T b k l] 71 λb c=>∃(d:lP [(19,mR)]),(∃e f g,World.cell? c (Z a)=some (T e f g)/\iu 345 [T e f g] c λf e=>br (!f) (d true e) (∃c f g,World.cell? e (Z b)=some (T c f g)/\∃b c g,World.cell? e (Z a)=some (T b c g)/\d ((f:Int) !=(c:Int)) e))/\∀(_:ν) c e,d c e->br c (R (vU [D,O 1]) e) (∃c d f,World.cell? e (Z b)=some (T c d f)/\gT 0 e λf g e h=>bQ (e<(d:Int)) (M c d e 1 λa=>∃b c d,World.cell? h a=some (T b c d)/\iu 126 [T b c d,vF 346 []] h λc b=>br c (R (vU [D,O 1]) b) (gx f g e b h)) (∃c d e,World.cell? h (Z a)=some (T c d e)/\qT (d:Int) (d:Int) 8/\new h (Obj.cells (Array.mk (ir (Int.toNat (d:Int)) [u none])) 178) λc e=>H e [D] 179 λe f=>gh f (Z e) (T (some (Z c)) (Int.toNat (d:Int)) (Int.toNat (d:Int))) λc=>∃d f g,World.cell? c (Z a)=some (T d f g)/\qT (f:Int) (f:Int) 24/\new c (Obj.cells (Array.mk (ir (Int.toNat (f:Int)) [D])) 24) λc d=>H d [D] 71 λd g=>gh g (Z d) (T (some (Z c)) (Int.toNat (f:Int)) (Int.toNat (f:Int))) λc=>∃f g h,World.cell? c (Z a)=some (T f g h)/\rE 347 [T f g h,vF 348 [u (some (Z e)),u (some (Z b)),u (some (Z a)),u (some (Z d))]] c λa b=>a=vU []/\∃a c e,World.cell? b (Z d)=some (T a c e)/\R (vU [T a c e,O 0]) b))):ρ 288 [T a i j,T b k l] w R:=rv func288 h ⟨[(4,[(22,aP)])],[(2,[(19,mR)])],[],[]⟩
theorem DK(h:H w [T a i j] 71 λa b=>∃c d e,World.cell? b (Z a)=some (T c d e)/\iu 380 [T c d e,vF 381 [u (some (Z a))]] b λc b=>R (J !c) b):ρ 345 [T a i j] w R:=rv func345 h
abbrev Ce:aM:=346
theorem yO(h:bQ (A<0) (R (J true) w) (R (J (decide (1024<=A))) w)):ρ 346 [O A] w R:=rv func346 h
theorem FA{a:E}{b c:Nat}{d:aM}{e:Ay}{w:ga}{R:ah->WP}(h:qT (b:Int) (b:Int) 8/\new w (Obj.cells (Array.mk (ir (Int.toNat (b:Int)) [O 0])) 3) λc t=>H t [D] 24 λf g=>gh g (Z f) (T (some (Z c)) (Int.toNat (b:Int)) (Int.toNat (b:Int))) λc=>K ((b:Int)+1)/\H c [D] 24 λc g=>H g [D] 511 λg h=>gT 0 h λi j h k=>bQ (h<(b:Int)) (∃l m n,World.cell? k (Z f)=some (T l m n)/\M l m h 1 λl=>∃m,World.cell? k l=some (O m)/\bQ (0<m) (gx i j h k k) (new k (Obj.map (Array.mk []) 0) λl m=>∃n o p,World.cell? m (Z c)=some (T n o p)/\K ((o:Int)+1)/\bg prog (Instr.mapUpdate 276 (Value.map (some l)) (O h) (O ((o:Int)+1))) m λ(_:Unit)(m:ga)=>rE 383 [O h,u (some (Z c)),u (some (Z f)),u (some (Z g))] m λm n=>m=vU []/\τ [] λm o=>m n/\∀(_:ν) n,m n->∃p q r,World.cell? n (Z g)=some (T p q r)/\bQ (0<(q:Int)) (∃h i j,World.cell? n (Z g)=some (T h i j)/\∃j k p,World.cell? n (Z g)=some (T j k p)/\K ((k:Int)-1)/\M h i ((k:Int)-1) 2 λh=>τ [] λi j=>i n/\∀(_:ν) k,i k->gj k λp q=>gy q (h.add 1) λr=>gy q h λv=>M a b v 1 λx=>gz q x λz y A=>bQ (r<(y:Int)) (gj p λd e=>gy e h λp=>M a b p 1 λa=>gz e a λb p q=>gy e (h.add 1) λa=>M b p a 1 λa=>gy e a λb=>∃a,World.cell? d (h.add 1)=some (O a)/\K (a+1)/\gh d (h.add 1) (O (a+1)) λa=>∃d e p,World.cell? a (Z f)=some (T d e p)/\M d e b 1 λd=>∃e,World.cell? a d=some (O e)/\br (e==0) (∃d e h,World.cell? a (Z c)=some (T d e h)/\K ((e:Int)+1)/\bg prog (Instr.mapUpdate 276 (Value.map (some l)) (O b) (O ((e:Int)+1))) a λ(_:Unit)(a:ga)=>rE 383 [O b,u (some (Z c)),u (some (Z f)),u (some (Z g))] a λa b=>a=vU []/\m b/\o b<o n) (gj a λc a=>gz a (Z f) λd e g=>gy a h λg=>gz a (Z f) λl m n=>gy a h λn=>M l m n 1 λh=>gy a h λl=>gz a (Z f) λh m n=>M h m b 1 λb=>gy a b λs=>M d e g 1 λa=>gh c a (O (if s<l then s else l)) λa=>i a/\j a<j k)) (∃a,World.cell? p h=some (O a)/\∃h i j,World.cell? p (Z g)=some (T h i j)/\∃k q r,World.cell? p (Z g)=some (T k q r)/\K ((q:Int)-1)/\mA h i j none (some ((q:Int)-1)) none 2 λ(h:E)(i j:Nat)=>gh p (Z g) (T h i j) λh=>∃(i:lP []),(∃b c d,World.cell? h (Z g)=some (T b c d)/\bQ (0<(c:Int)) (∃b c d,World.cell? h (Z g)=some (T b c d)/\∃d e j,World.cell? h (Z g)=some (T d e j)/\K ((e:Int)-1)/\M b c ((e:Int)-1) 2 λb=>∃c,World.cell? h b=some (O c)/\gj h λb d=>gz d (Z f) λe g h=>gz d (Z f) λh j k=>M h j c 1 λh=>gy d h λj=>gz d (Z f) λh k l=>M h k a 1 λa=>gy d a λs=>M e g c 1 λa=>gh b a (O (if s<j then s else j)) λa=>i a) (i h))/\∀(_:ν) g,i g->gj g λh g=>gz g (Z f) λi j k=>M i j a 1 λi=>gy g i λj=>bg prog (Instr.lookup 276 (Value.map (some l)) (O a) false) h λh i=>∃k,h=O k/\g i/\br (j==k) (∃g h j,World.cell? i (Z c)=some (T g h j)/\bg prog (Instr.lookup 276 (Value.map (some l)) (O a) false) i λi k=>∃p,i=O p/\K (p-1)/\mA g h j (some (p-1)) none none 1 λ(g:E)(h i:Nat)=>gF 115 [T g h i] k λi j k h=>∃g p q,World.cell? h (Z c)=some (T g p q)/\bg prog (Instr.lookup 276 (Value.map (some l)) (O a) false) h λa h=>∃l,a=O l/\K (l-1)/\mA g p q none (some (l-1)) none 1 λ(a:E)(g l:Nat)=>gh h (Z c) (T a g l) λa=>gT 0 a λc g a h=>bQ (a<(j:Int)) (M i j a 1 λd=>∃e,World.cell? h d=some (O e)/\∃d i j,World.cell? h (Z f)=some (T d i j)/\M d i e 1 λd=>gh h d (O ((b:Int)+1)) λb=>gx c g a b h) (p9 (Fn d) (rE d (T i j k::e) h λa b=>a=vU []/\m b/\o b<o n))) (m i/\o i<o n))) (gx i j h n k))) (R (vU []) k)):ρ 347 [T a b c,(.func (.func d) #[] ⟨e⟩)] w R:=rv func347 h ⟨[(5,[(26,aP)]),(12,[]),(14,[]),(30,[(170,aP)])],[(26,[])],[],[]⟩
abbrev Cf:aM:=348
theorem yQ{d:vP}{e:vP}{f:vP}{g:vP}(h:kV 102 [O 1024,D] w λh c=>gT 0 c λb j c k=>bQ (c<(i:Int)) (M a i c 1 λa=>∃e,World.cell? k a=some (O e)/\∃a f g,World.cell? k d=some (T a f g)/\M a f e 1 λa=>gh k a (u h) λa=>gx b j c a k) (gT 0 k λb c j k=>bQ (j<(i:Int)) (M a i j 1 λa=>∃g,World.cell? k a=some (O g)/\∃a i l,World.cell? k e=some (T a i l)/\M a i g 1 λa=>∃e i l,World.cell? k a=some (T e i l)/\iC 103 [u h,T e i l] k λi e=>∃a i l,World.cell? e f=some (T a i l)/\M a i g 1 λa=>∃f g i,World.cell? e a=some (T f g i)/\gT 0 e λa i e l=>bQ (e<(g:Int)) (M f g e 1 λb=>∃c,World.cell? l b=some (O c)/\∃b f g,World.cell? l d=some (T b f g)/\M b f c 1 λb=>∃f,World.cell? l b=some (u f)/\vY Proofs.YtaoaemnefghnbaaGreatDoor.Ty (λ(a:Sem ah)(b:ah->Prop)=>∃c,Sem.run prog a l=Result.ok c l/\b c) BinOp.neq 178 (Operand.tmp 52) (Operand.tmp 53) f h λb=>br b (∃b f g,World.cell? l d=some (T b f g)/\M b f c 1 λb=>∃c,World.cell? l b=some (u c)/\H l [u c] 178 λb c=>iC 349 [u h,T (some (Z b)) 1 1] c λd c=>gx a i e c l) (gx a i e l l)) (gx b c j l k)) (gF 89 [u h] k λd e f c=>gT 0 c λb h c j=>bQ (c<(i:Int)) (M a i c 1 λa=>∃i,World.cell? j a=some (O i)/\gj j λa k=>gz k g λl m n=>gF 115 [T d e f] a λe f g d=>k d/\M l m i 1 λa=>gh d a (T e f g) λa=>gx b h c a j) (R (vU []) j)))):ρ 348 [T a i j,(.pointer (some d)),(.pointer (some e)),(.pointer (some f)),(.pointer (some g))] w R:=rv func348 h ⟨[(2,[(19,aP)]),(7,[(30,aP)]),(11,[(45,aP)]),(19,[(68,aP)])],[],[],[]⟩
abbrev Cg:aM:=381
theorem yS{d:vP}(h:iu 126 [T a i j,vF 382 [u (some d)]] w λc b=>R (J c) b):ρ 381 [T a i j,(.pointer (some d))] w R:=rv func381 h
abbrev xt:aM:=382
theorem uC{b:vP}(h:bQ (A<0) (R (J true) w) (∃a c d,World.cell? w b=some (T a c d)/\R (J (decide ((c:Int)<=A))) w)):ρ 382 [O A,(.pointer (some b))] w R:=rv func382 h
end
theorem AJ{a:Int}{b c d:vP}{w:ga}{R:ah->WP}(h:∃e f g,World.cell? w b=some (T e f g)/\H w [O a] 3 λh i=>iT 24 e f g h i λg h i f=>gh f b (T g h i) λe=>∃f g h,World.cell? e c=some (T f g h)/\∃c h i,World.cell? e b=some (T c h i)/\M f g a 1 λb=>gh e b (O (h:Int)) λb=>∃c e f,World.cell? b d=some (T c e f)/\H b [O a,O 0] 513 λa b=>iT 511 c e f a b λc e f b=>gh b d (T c e f) λa=>R (vU []) a):ρ 383 [O a,(.pointer (some b)),(.pointer (some c)),(.pointer (some d))] w R:=rv func383 h
def Sl(l:List (Nat×Nat)):Ay:=l.flatMap λx=>[O (x.1:Int),O (x.2:Int)]
theorem N9:∀l,(Sl l).length=l.length*2
 |[]=>rfl
 |x::l=>by
  have:=N9 l
  grind[Sl,List.length_append]
theorem QF(l:List (Nat×Nat))(a b:Nat):Sl l++[O (a:Int),O (b:Int)]=Sl (l++[(a,b)]):=by simp[Sl]
theorem Zt{gs:A9}(h:∀g∈gs,g≠[]):gs.length<=gs.flatten.length:=by
 induction gs with
 |nil=>simp
 |cons g gs a=>
  grind[List.length_pos_iff,List.flatten_cons,List.length_append,List.length_cons]
theorem da.Good.ne{E:Nat->A0}{gs:A9}(h:da.Good E gs):∀g∈gs,g≠[]:=λg a=>by
 obtain⟨b,c,d⟩:=List.append_of_mem a
 exact(h.2 b g c d).1
theorem da.Good.len{E:Nat->A0}{gs:A9}{N:Nat}(h:da.Good E gs)(a:∀v∈gs.flatten,v<N):gs.length<=N/\∀g∈gs,g.length<=N:=by
 have c:=Zt h.ne;have d:=da.Zs h.1 a;refine⟨U,λg b=>?_⟩;obtain⟨e,f,i⟩:=List.append_of_mem b
 grind
section
abbrev Ls:=(E×Nat)×Az
def JG(p:Ls):ah:=T p.1.1 p.2.length p.1.2
def FB(p:Ls):aG:=own 1 p.1.1 p.2.length p.1.2 (iv p.2)
variable{w:ga}{L:List aG}
abbrev AK(ko kl kw bl N:Nat)(oa:E)(oc:Nat)(wa:E)(wc:Nat)(op low:A0)(wk:List (Nat×Nat)):List aG:=
 [ax ko [T oa op.length oc],own 1 oa op.length oc (eh op),ax kl [T (some ⟨bl,0,none⟩) N N],ax bl (eh low),ax kw [T wa wk.length wc],own 2 wa wk.length wc (Sl wk)]
theorem U6{b c d e N n:Nat}{f:E}{g:Nat}{i:E}{j:Nat}{op low:A0}{a:List (Nat×Nat)}
  (h:W w (AK b c d e N f g i j op low a++L)) (s:low.length=N) (k:n<N) (t:op.length<N) (v:a.length<N) (x:N*24<=140737488355328):
  ρ 383 [O (n:Int),u (some (Z b)),u (some (Z c)),u (some (Z d))] w λl m=>l=.tuple (Array.mk [])/\
   ∃o p q r,W m (AK b c d e N o p q r (op++[n]) (low.set n (op.length+1)) (a++[(n,0)])++L):=by
 refine@AJ (n:Int) (Z b) (Z c) (Z d) w _ ?_;refine⟨_,_,_,(af 0 h.l).cell0 sZ,ag h λy z h=>?_⟩;refine(aU aY (rfl:ai Ty _=.slice _) (rfl:ai Ty _=.slice _) rfl rfl rfl (h.pick 7 [0,2,1,3,4,5,6]) rfl (by simp[aO]) G U).mono ?_;rintro _ A⟨l,m,rfl,h⟩;rw[Zd] at h;refine⟨_,_,_,rfl,aX (h.pick 7 [2,0,3,4,5,6]) V λC h=>?_⟩;refine⟨_,_,_,(af 2 h.l).cell0 sZ,_,_,_,(af 0 h.l).cell0 sZ,au rfl k ?_⟩;rw[ak];refine aX (h.pick 6 [3,0,1,2,4,5]) (by simp_all[eh]) λF h=>?_;refine⟨_,_,_,(af 4 h.l).cell0 sZ,ag h λI P h=>?_⟩;refine(aU aY (rfl:ai Ty _=.slice _) (rfl:ai Ty _=.slice _) rfl rfl rfl (h.pick 7 [0,6,1,2,3,4,5]) rfl (by simp[aO]) G U).mono ?_;rintro _ Q⟨o,p,rfl,h⟩;refine⟨_,_,_,rfl,aX (h.pick 7 [6,0,2,3,4,5]) V λR h=>⟨rfl,l,m,o,p,?_⟩⟩;have q:(op++[n]).length=op.length+1:=V
 have r:(a++[(n,0)]).length=a.length+1:=V
 unfold AK;rw[q,r,<-DB,<-QF];exact h.pick 6 [3,4,5,2,0,1]
end
section
variable{w:ga}{L:List aG}
theorem DM{l:List (Nat×Nat)}:∀{i n k:Nat},l[i]? =some (n,k)->(Sl l)[i*2]? =some (O (n:Int))/\(Sl l)[i*2+1]? =some (O (k:Int)):=by
 induction l with
 |nil=>simp
 |cons a l c=>
  intro i n k d;have b:Sl (a::l)=O (a.1:Int)::O (a.2:Int)::Sl l:=rfl;rw[b];cases i with
  |zero=>simp_all
  |succ i=>
   grind
theorem Zu{l:List (Nat×Nat)}:∀{i n k:Nat}(k':Nat),l[i]? =some (n,k)->(Sl l).set (i*2+1) (O (k':Int))=Sl (l.set i (n,k')):=by
 induction l with
 |nil=>simp
 |cons b l c=>
  intro i n k k' a;have d:Sl (b::l)=O (b.1:Int)::O (b.2:Int)::Sl l:=rfl;rw[d];cases i with
  |zero=>simp at a;subst a;rfl
  |succ i=>
   simp only[qY] at a;rw[show(i+1)*2+1=(i*2+1)+1+1 from U,List.set_cons_succ,List.set_cons_succ,c k' a];rfl
theorem W.ahg{M Q L:List aG}(h:W w (M++(Q++L))):W w (Q++(M++L)):=h.perm (by
 rw[<-jT,<-jT];exact List.perm_append_comm.append_right L)
theorem Zv(xs:A0):eh xs=iv (xs.map Int.ofNat):=by simp[eh,iv]
end
def eW(S:List da.Sc):List (Nat×Nat):=(S.map λs=>(s.1,s.2.1)).reverse
theorem ee(n k:Nat)(r:A0)(t:List da.Sc):eW ((n,k,r)::t)=eW t++[(n,k)]:=by simp[eW]
theorem JH:∀(S:List da.Sc),(eW S).length<=(da.aZ S).length
 |[]=>by simp[eW,da.aZ]
 |(n,k,r)::t=>by
  have:=JH t
  grind[ee,da.di,List.length_append]
def lf(low:A0)(v:Nat):Nat:=low.getD v 0
theorem tp{low:A0}{i x:Nat}(h:i<low.length):lf (low.set i x)=da.Im (lf low) i x:=by
 funext j
 unfold lf da.Im
 grind
theorem JI{low:A0}{i:Nat}(h:i<low.length):low[i]? =some (lf low i):=by simp_all[lf]
def Ci(mp:List (Int×ah)):List da.Sc->Prop
 |[]=>True
 |(n,_,_)::t=>iV (n:Int) mp=some (.int .i64 (((da.aZ t).length+1:Nat):Int))/\Ci mp t
theorem Ci.put{mp:List (Int×ah)}{m:Nat}{v:ah}:∀(S:List da.Sc),Ci mp S->(∀s∈S,s.1≠m)->Ci (c_ (m:Int) v mp) S
 |[],_,_=>trivial
 |(n,k,r)::t,⟨h1,h2⟩,hn=>by
  refine⟨?_,Ci.put t h2 λs hs=>hn s G⟩
  have:=hn (n,k,r) V
  rw[fN,gv U]
  omega
theorem Gz{S:List da.Sc}:∀s∈S,s.1∈da.aZ S:=by
 induction S with
 |nil=>simp
 |cons a c d=>
  obtain⟨e,f,g⟩:=a;intro s b
  rcases jb.1 b with rfl|h
  ·simp[da.aZ]
  grind[da.aZ]
def En(es:A7)(n:Nat):A0:=(es.getD n []).map Int.toNat
def JJ(es:A7):Prop:=∀l∈es,∀x∈l,0<=x/\x<(es.length:Int)
theorem Zw{es:A7}{n:Nat}{l:Az}(h:es[n]? =some l):En es n=l.map Int.toNat:=by simp_all[En]
theorem yZ{es:A7}(b:JJ es){n m:Nat}(h:m∈En es n):m<es.length:=by
 unfold En at h;rw[jX] at h;cases a:es[n]? with
 |none=>simp_all
 |some c=>
  rw[a] at h;obtain⟨d,e,rfl⟩:=iz.1 h;have:=b c (gg a) d e;omega
def sr(low:A0)(n:Nat):List da.Sc->A0
 |[]=>low
 |(u,_,_)::_=>low.set u (min (lf low u) (lf low n))
def lZ(x:Nat)(low:A0)(g:A0):A0:=g.foldl (λl m=>l.set m x) low
theorem Cj(x:Nat):∀(g low:A0),(lZ x low g).length=low.length
 |[],_=>rfl
 |m::g,low=>by show(lZ x (low.set m x) g).length=_;rw[Cj x g];simp
theorem QG(x:Nat)(low g:A0)(m:Nat):lZ x low (g++[m])=(lZ x low g).set m x:=by simp[lZ]
theorem MF(x:Nat):∀(g low:A0),(∀m∈g,m<low.length)->lf (lZ x low g)=λv=>if v∈g then x else lf low v
 |[],_,_=>by rfl
 |m::g,low,h=>by
  have:=MF x g (low.set m x) (λy hy=>η)
  grind[lf,lZ,tp,da.Im]
structure WD where
 S:List da.Sc
 low:A0
 gs:A9
 mp:List (Int×ah)
 oa:E
 oc:Nat
 wa:E
 wc:Nat
section
variable{w:ga}{L:List aG}{es:A7}{a:E}{N c l:Nat}{d:aM}{e:Ay}{Q:A9->List aG}
theorem QH{xs:Az}(b:bf (hp w) xs a l)(s:xs.length*8<=140737488355328)(t:xs.length<=9223372036854775807):ρ 115 [T a l c] w λd e=>∃o c',d=T o xs.length c'/\W e (own 1 o xs.length c' (iv xs)::all w):=by
 refine jf ?_;have e:=b.1;cases a with
 |none=>
  have d:xs=[]:=by
   cases xs with
   |nil=>rfl
   |cons f g=>obtain⟨h,_,i,_⟩:=b.2 0 f rfl;grind
  subst d;exact⟨none,0,rfl,aH 1<|W.all w⟩
 |some f=>
  refine ag (W.all w) λg h d=>?_;have i:W h (own 1 (some ⟨g,0,none⟩) 0 0 []::all w):=bq (cs:=[]) d rfl rfl (gP _);have j:=b.mono d.aS
  refine(jH aY (rfl:ai Ty _=.slice _) rfl rfl rfl i (n:=l) (news:=iv xs) (gU aY (rfl:ai Ty _=.slice _) (by rw[dq,e,kA]) (by
    rcases j.iv with v|⟨x,k,m⟩
    ·simp_all
    ·cases k;exact .inr ⟨f,rfl,λp q r=>j5<|m p q r⟩) (by
   intro k hu;obtain⟨m,_,rfl⟩:=iz.1 hu;rfl)) η U).mono ?_
  grind
def rH(ko kl kw bl km N fr:Nat)(es:A7)(Q:A9->List aG)(L:List aG)(x:WD)(w:ga):Prop:=
 x.low.length=N/\da.Inv (En es) N (lf x.low) x.S x.gs/\(∀v,v<=fr->lf x.low v≠0)/\Ci x.mp x.S/\
  W w (AK ko kl kw bl N x.oa x.oc x.wa x.wc (da.aZ x.S) x.low (eW x.S)++(hZ km x.mp::(Q x.gs++L)))
def y5(d:aM)(e:Ay)(es:A7)(Q:A9->List aG):Prop:=
 ∀(gs:A9)(g:A0)(F:List aG)(w:ga)(o:E)(gc:Nat),da.Good (En es) (gs++[g])->(∀v∈(gs++[g]).flatten,v<es.length)->
  W w (own 1 o g.length gc (eh g)::(Q gs++F))->ρ d (T o g.length gc::e) w λv w'=>v=.tuple (Array.mk [])/\W w' (Q (gs++[g])++F)
theorem G0(hfl:Fn d=true)(hD:y5 d e es Q)(hE:∀gs h,aL (Q gs++L) h->bf h es a N)(hR:JJ es)(hB:∀l∈es,l.length*8<=140737488355328)(hb:N*24<=140737488355328)(h:W w (Q []++L)):
  ρ 347 [T a N c,.func (.func d) (Array.mk []) ⟨e⟩] w λv w'=>v=.tuple (Array.mk [])/\∃gs,da.Good (En es) gs/\(∀v,v∈gs.flatten↔v<N)/\W w' (Q gs++L):=by
 refine@FA a N c d e w _ ?_;have hN:es.length=N:=(hE [] _ h.l).1;refine⟨⟨U,rfl,U⟩,ag h λX w1 h=>ag h λkl w2 h=>aX h V λw3 h=>⟨ξ,ag h λko w4 h=>ag h λkw w5 h=>?_⟩⟩
 have h:W w5 (AK ko kl kw X N none 0 none 0 [] (List.replicate N 0) []++(Q []++L)):=by
  have e1:ir (Int.toNat (N:Int)) [O 0]=eh (List.replicate N 0):=by simp[de,eh]
  rw[e1] at h;have h:=aH 2<|aH 1 h;exact h.pick 6 [3,1,4,5,2,0]
 refine⟨λz w'=>∃k:Nat,z=k/\k<=N/\∃gs low oa oc wa wc,low.length=N/\da.Inv (En es) N (lf low) [] gs/\(∀v,v<k->lf low v≠0)/\W w' (AK ko kl kw X N oa oc wa wc [] low []++(Q gs++L)),
  λz _=>N-z.toNat,⟨0,rfl,gu _,[],List.replicate N 0,none,0,none,0,V,?_,λv o=>U,h⟩,?_⟩
 ·have:lf (List.replicate N 0)=λ_=>0:=by grind[lf]
  simp_all[da.Inv.start]
 rintro _ z w6⟨k,rfl,hk,gs,low,oa,oc,wa,wc,hl,hI,hs,h⟩;refine ae (λh1=>?_) λh1=>?_
 rotate_left
 ·have h1:k=N:=G
  subst h1
  refine⟨rfl,gs,hI.good,λv=>⟨λo=>hI.lt v η,λo=>?_⟩,?_⟩
  ·have:=hI.seen o (hs v o)
   simp_all[da.aZ]
  ·exact h.tail.tail.tail.tail.tail.tail
 have h1:k<N:=η
 refine⟨_,_,_,(af 2 h.l).cell0 sZ,au rfl h1 ⟨_,(af 3 h.l).cell sZ (j:=k) (lW<|JI U),?_⟩⟩
 refine ae (λh2=>?_) λh2=>?_
 ·have h2:=gZ h2;refine⟨ξ,⟨k+1,rfl,h1,gs,low,oa,oc,wa,wc,hl,hI,λv o=>?_,h⟩,bS h1⟩
  grind
 have h2:lf low k=0:=η
 refine oW h λkm w7 h=>?_;have h:=eJ (κ:=Int) h;refine⟨_,_,_,(af 1 h.l).cell0 sZ,⟨V,V⟩,(dz (κ:=Int) aY (rfl:ai Ty _=.map _ _) bX h (k:Int) _).mono ?_⟩;rintro _ w8 h;refine(U6 (n:=k) (h.pick 7 [1,2,3,4,5,6,0]) hl h1 G G hb).mono ?_;rintro _ w9⟨rfl,oa,oc,wa,wc,h⟩
 refine⟨rfl,λw'=>∃x,rH ko kl kw X km N k es Q L x w',λw'=>XZ (rH ko kl kw X km N k es Q L) (λx=>da.todo (En es) N (lf x.low) x.S) w',?_,?_⟩
 ·refine⟨⟨[(k,0,[])],low.set k 1,gs,_,oa,oc,wa,wc⟩,G,?_,?_,?_,h⟩
  ·show da.Inv _ _ (lf<|low.set k 1) _ _
   rw[tp U];exact hI.root h1 h2
  ·intro v o
   show lf (low.set k 1) v≠0
   rw[tp U]
   grind[ev,da.b8,da.fi]
  ·exact⟨by simp[iV,da.aZ],trivial⟩
 intro _ dl hw;obtain⟨⟨S,b2,y,mp,oa,oc,wa,wc⟩,⟨c9,a7,c5,hM,h⟩,hm⟩:=Dz hw;simp only at c9 a7 c5 hM h hm;refine⟨_,_,_,(af 4 h.l).cell0 sZ,?_⟩;refine ae (λh3=>?_) λh3=>?_
 rotate_left
 ·have h3:=hY h3;cases S with
  |cons x t=>grind[ee]
  |nil=>
   refine⟨ξ,⟨k+1,rfl,h1,y,b2,oa,oc,wa,wc,c9,a7,λv o=>c5 v U,?_⟩,bS h1⟩;exact h.pick 7 [0,1,2,3,4,5]
 cases S with
 |nil=>have h3:=gZ h3;simp_all[eW]
 |cons x t=>
 obtain⟨n,k0,r⟩:=x;have eR:=a7.len;have g5:=JH<|(n,k0,r)::t;have fd:(eW<|(n,k0,r)::t).length=(eW t).length+1:=by simp[ee]
 have Y:n<N:=a7.lt n (by simp[da.aZ]);obtain⟨f4,aV,_⟩:=cV (h.pick 7 [5,0,1,2,3,4,6]) (j:=(eW t).length*2) (DM (i:=(eW t).length) (n:=n) (k:=k0) (by simp[ee])).1;refine⟨_,_,_,(af 4 h.l).cell0 sZ,_,_,_,(af 4 h.l).cell0 sZ,ξ,?_⟩;have ei:((eW<|(n,k0,r)::t).length:Int)-1=((eW t).length:Int):=U
 rw[ei];refine aI aV U ?_;rw[bh]
 --the steps of one node
 let P2:Nat×A0->ga->Prop:=λp w'=>p.2.length=N/\da.Inv (En es) N (lf p.2) ((n,p.1,r)::t) y/\(∀v,v<=k->lf p.2 v≠0)/\da.todo (En es) N (lf p.2) ((n,p.1,r)::t)<=XZ (rH ko kl kw X km N k es Q L) (λx=>da.todo (En es) N (lf x.low) x.S) dl/\
  W w' (AK ko kl kw X N oa oc wa wc (da.aZ<|(n,p.1,r)::t) p.2 (eW<|(n,p.1,r)::t)++(hZ km mp::(Q y++L)))
 refine⟨λw'=>∃p,P2 p w',λw'=>XZ P2 (λp=>(En es n).length-p.1) w',⟨(k0,b2),c9,a7,c5,by rw[<-hm];simp,h⟩,?_⟩;intro _ f7 hw;obtain⟨⟨j,J⟩,⟨c7,b,cg,az,h⟩,e6⟩:=Dz (f:=λp=>(En es n).length-p.1) hw;simp only at c7 b cg az h e6;intro aa hd;have h:=h.eq<|aW hd;obtain⟨el,aR⟩:∃el,es[n]? =some el:=⟨es[n]'U,gn _⟩;have fC:=Zw aR;have e0:bf (hp aa) es a N:=hE y _ h.tail.tail.tail.tail.tail.tail.tail.l;obtain⟨f2,f5,ev,b3,cx,a9,o6,l6,c6,rfl,eG,b7⟩:=e0.get (i:=n) Y;rw[aR] at b3;cases b3;rw[bh,show n*tV.n Az=n from kA n] at a9;have eL:el.length=l6:=b7.1;have eU:(En es n).length=l6:=η
 have eO:j<=(En es n).length:=b.ok.1.le;have f9:=hB el<|gg aR;have bT:(eW<|(n,j,r)::t)[(eW t).length]? =some (n,j):=by simp[ee]
 have fg:(eW<|(n,j,r)::t).length=(eW t).length+1:=by simp[ee]
 obtain⟨eT,b6,bi⟩:=cV (h.pick 7 [5,0,1,2,3,4,6]) (DM bT).1;obtain⟨e5,a5,b1⟩:=cV (h.pick 7 [5,0,1,2,3,4,6]) (DM bT).2;rw[aV] at b6 a5;cases b6;cases a5;rw[<-ke] at b1;have cw:∀{u:ga}{ad:vP}{v:ah},hp u=hp aa->aa.cell? ad=some v->u.cell? ad=some v:=λhu h=>by grind[cO]
 refine⟨λu=>hp u=hp aa,rfl,(j:Int),λu hu=>cw hu b1,(n:Int),λu hu=>cw hu bi,au cx Y ⟨o6,l6,c6,λu hu=>cw hu<|a9.cell0 sZ,?_⟩⟩
 refine ae (λh4=>?_) λh4=>?_
 ·have h4:j<l6:=η
  intro cm cu;have h:=h.eq<|aW cu;have et:=aW cu;obtain⟨mI,cz⟩:∃mI,el[j]? =some mI:=⟨el[j]'U,gn _⟩;obtain⟨m,rfl⟩:∃m:Nat,mI=(m:Int):=⟨mI.toNat,by have:=hR el (gg aR) mI<|gg cz;omega⟩;have am:(En es n)[j]? =some m:=η
  have a0:m<N:=by have:=yZ hR<|gg am;omega
  obtain⟨eS,cp,e7⟩:=b7.at cz;have cw:∀{u:ga}{ad:vP}{v:ah},hp u=hp cm->aa.cell? ad=some v->u.cell? ad=some v:=λhu h=>cw (hu.trans et) h;refine⟨λu=>hp u=hp cm,rfl,(n:Int),λu hu=>cw hu bi,au cx Y ⟨o6,l6,c6,λu hu=>cw hu<|a9.cell0 sZ,(j:Int),λu hu=>cw hu b1,au cp h4 ⟨(m:Int),λu hu=>e7 u (by simp_all[sub.refl]),(j:Int),cw rfl b1,ξ,?_⟩⟩⟩;rw[ke];refine ib (h.pick 7 [5,0,1,2,3,4,6]) aV (by grind[N9]) λeu h=>?_;have ej:((j:Int)+1)=((j+1:Nat):Int):=by rfl
  rw[ej,Zu (j+1) bT] at h
  have h:W eu (AK ko kl kw X N oa oc wa wc (da.aZ<|(n,j+1,r)::t) J (eW<|(n,j+1,r)::t)++(hZ km mp::(Q y++L))):=by
   have e1:(eW<|(n,j,r)::t).set (eW t).length (n,j+1)=eW ((n,j+1,r)::t):=by simp[ee]
   have e2:(eW<|(n,j+1,r)::t).length=(eW<|(n,j,r)::t).length:=G
   rw[e1] at h;unfold AK;rw[e2];exact h.pick 7 [1,2,3,4,5,0,6]
  have bP:=b.len;have cA:lf J m=0->m∉da.aZ ((n,j,r)::t):=λh0 hm=>(b.un m a0).1 h0 η;refine⟨_,_,_,(af 2 h.l).cell0 sZ,au rfl a0 ⟨_,(af 3 h.l).cell sZ (j:=m) (lW<|JI U),?_⟩⟩
  refine ae (λh5=>?_) λh5=>?_
  ·have h5:lf J m=0:=η
   have bQ:(da.aZ<|(n,j+1,r)::t).length<N:=by
    have h6:=b.push am a0 h5;have h7:=h6.len;have e1:da.aZ ((m,0,[])::(n,j+1,r)::t)=da.aZ ((n,j+1,r)::t)++[m]:=rfl
    grind
   have eM:=JH<|(n,j+1,r)::t;refine⟨_,_,_,(af 0 h.l).cell0 sZ,ξ,(dz (κ:=Int) aY (rfl:ai Ty _=.map _ _) bX (h.pick 7 [6,0,1,2,3,4,5]) (m:Int) _).mono ?_⟩;rintro _ fc h;refine(U6 (n:=m) (h.pick 7 [1,2,3,4,5,6,0]) c7 a0 bQ U hb).mono ?_;rintro _ ci⟨rfl,dW,d9,dk,ea,h⟩
   have g:rH ko kl kw X km N k es Q L ⟨(m,0,[])::(n,j+1,r)::t,J.set m<|(da.aZ<|(n,j+1,r)::t).length+1,y,c_ (m:Int) (O<|((da.aZ<|(n,j+1,r)::t).length:Int)+1) mp,dW,d9,dk,ea⟩ ci:=by
    refine⟨η,?_,?_,⟨?_,?_⟩,?_⟩
    ·show da.Inv _ _ (lf<|J.set m _) _ _
     rw[tp U];exact b.push am a0 h5
    ·intro v o
     show lf (J.set m _) v≠0
     rw[tp U]
     grind[ev,da.b8,da.fi]
    ·show iV _ (c_ _ _ _)=_
     rw[fN,gD rfl];rfl
    ·exact Ci.put ((n,j+1,r)::t) hM λs hs e=>cA h5 (by rw[<-e];exact Gz (S:=(n,j+1,r)::t) s hs)
    ·have e1:eW ((m,0,[])::(n,j+1,r)::t)=eW ((n,j+1,r)::t)++[(m,0)]:=ee _ _ _ _
     show W ci (AK _ _ _ _ _ _ _ _ _ (da.aZ ((n,j+1,r)::t)++[m]) _ (eW<|(m,0,[])::(n,j+1,r)::t)++_)
     rw[e1];exact h
   refine⟨rfl,⟨_,g⟩,?_⟩;have l1:=B8 (f:=λx=>da.todo (En es) N (lf x.low) x.S) g;have l2:=da.WR b am a0 h5 ((da.aZ<|(n,j+1,r)::t).length+1) U
   grind[tp,Nat.lt_of_le_of_lt,Nat.lt_of_lt_of_le]
  ·have h5:lf J m≠0:=λe=>η
   intro c8 d5;have h:=h.eq<|aW d5;have cL:∀u,hp u=hp c8->u.cell? (Z kl)=some (T (some<|Z X) N N):=λu hu=>by rw[cO hu];exact(af 2 h.l).cell0 sZ
   have cI:∀u,hp u=hp c8->∀v,v<N->u.cell? ((Z X).add v)=some (O (lf J v:Int)):=λu hu v o=>by rw[cO hu];exact(af 3 h.l).cell sZ (j:=v) (lW<|JI U)
   have fL:=aW d5;have ck:(eW<|(n,j+1,r)::t)[(eW t).length]? =some (n,j+1):=by simp[ee]
   obtain⟨eK,b5,g8⟩:=cV (h.pick 7 [5,0,1,2,3,4,6]) (DM ck).1;rw[aV] at b5;cases b5;refine⟨λu=>hp u=hp c8,rfl,_,_,_,cL,(n:Int),λu hu=>by grind[cO],_,_,_,cL,(n:Int),λu hu=>by grind[cO],au rfl Y ⟨_,λu hu=>cI u hu n Y,_,_,_,cL,au rfl a0 ⟨_,λu hu=>cI u hu m a0,au rfl Y ?_⟩⟩⟩;rw[ak];have a6:(if(lf J m:Int)<(lf J n:Int) then(lf J m:Int) else(lf J n:Int))=((min (lf J n) (lf J m):Nat):Int):=U
   rw[a6];refine aX (h.pick 7 [3,0,1,2,4,5,6]) (by simp_all[eh]) λd8 h=>?_;rw[DB] at h
   have g:P2 (j+1,J.set n<|min (lf J n)<|lf J m) d8:=by
    have q:=tp (low:=J) (i:=n) (x:=min (lf J n)<|lf J m) U;have d6:=b.look am a0 h5
    refine⟨η,?_,?_,?_,h.pick 7 [1,2,3,0,4,5,6]⟩
    ·simp_all
    ·intro v o
     show lf (J.set n _) v≠0
     rw[q]
     by_cases ev:v=n
     ·simp_all[da.b8]
     simp_all[da.fi]
    ·show da.todo _ _ (lf<|J.set n _) _<=_
     rw[q];refine j3 ?_ az;unfold da.todo
     rw[da.Fu (low:=lf J)]
     ·simp only[kn,List.sum_cons];omega
     ·intro v o
      by_cases ev:v=n
      ·simp_all[da.b8]
      grind[da.fi]
   refine⟨⟨_,g⟩,?_⟩;have l1:=B8 (f:=λp=>(En es n).length-p.1) g
   grind
 ·have h4:j=(En es n).length:=G
  have bP:=b.len;refine⟨(n:Int),bi,_,_,_,(af 4 h.l).cell0 sZ,_,_,_,(af 4 h.l).cell0 sZ,ξ,?_⟩;have ei:((eW<|(n,j,r)::t).length:Int)-1=((eW t).length:Int):=U
  have eP:=bJ<|h.pick 7 [5,0,1,2,3,4,6];rw[ei];refine ij U<|aX (h.pick 7 [4,0,1,2,3,5,6]) V λem h=>?_;have h:=po (h.pick 7 [5,0,1,2,3,4,6]) (k:=(eW t).length) U
  have bz:(Sl<|eW<|(n,j,r)::t).take ((eW t).length*2)=Sl (eW t):=by
   rw[ee,<-QF,<-N9,List.take_left'];rfl
  rw[bz] at h;have h:W em (AK ko kl kw X N oa oc (f_ wa 0 wc 2) wc (da.aZ<|(n,j,r)::t) J (eW t)++(hZ km mp::(Q y++L))):=h.pick 7 [2,3,4,5,1,0,6]
  --the one below takes over
  refine⟨λw'=>W w'<|AK ko kl kw X N oa oc (f_ wa 0 wc 2) wc (da.aZ<|(n,j,r)::t) (sr J n t) (eW t)++(hZ km mp::(Q y++L)),⟨_,_,_,(af 4 h.l).cell0 sZ,?_⟩,?_⟩
  ·refine ae (λh5=>?_) λh5=>?_
   rotate_left
   ·have h5:=hY h5;cases t with
    |nil=>exact h
    |cons x t=>grind[ee]
   ·cases t with
    |nil=>have h5:=gZ h5;simp_all[eW]
    |cons x t=>
    obtain⟨u,ku,ru⟩:=x;have a4:u<N:=b.lt u (by simp[da.aZ]);have eA:(eW<|(u,ku,ru)::t)[(eW t).length]? =some (u,ku):=by simp[ee]
    have eX:(eW<|(u,ku,ru)::t).length=(eW t).length+1:=by simp[ee]
    obtain⟨eI,d0,eB⟩:=cV (h.pick 7 [5,0,1,2,3,4,6]) (DM eA).1;have e3:((eW<|(u,ku,ru)::t).length:Int)-1=((eW t).length:Int):=U
    refine⟨_,_,_,(af 4 h.l).cell0 sZ,_,_,_,(af 4 h.l).cell0 sZ,ξ,?_⟩;rw[e3];refine aI d0 U ?_;rw[bh];refine⟨(u:Int),eB,?_⟩;intro ca ez;have h:=h.eq<|aW ez;have cL:∀v,hp v=hp ca->v.cell? (Z kl)=some (T (some<|Z X) N N):=λu hu=>by rw[cO hu];exact(af 2 h.l).cell0 sZ
    have cI:∀u,hp u=hp ca->∀v,v<N->u.cell? ((Z X).add v)=some (O (lf J v:Int)):=λu hu v o=>by rw[cO hu];exact(af 3 h.l).cell sZ (j:=v) (lW<|JI U)
    refine⟨λu=>hp u=hp ca,rfl,_,_,_,cL,_,_,_,cL,au rfl a4 ⟨_,λv o=>cI v o u a4,_,_,_,cL,au rfl Y ⟨_,λv o=>cI v o n Y,au rfl a4 ?_⟩⟩⟩;rw[ak];have a6:(if(lf J n:Int)<(lf J u:Int) then(lf J n:Int) else(lf J u:Int))=((min (lf J u) (lf J n):Nat):Int):=U
    rw[a6];refine aX (h.pick 7 [3,0,1,2,4,5,6]) (by simp_all[eh]) λf8 h=>?_;rw[DB] at h;exact h.pick 7 [1,2,3,0,4,5,6]
  ·intro _ fW h be e9;have h:=h.eq<|aW e9;obtain⟨g0,g7,fw,fS⟩:=b.afk;have e8:(sr J n t).length=N:=by cases t<;>simp[sr,c7]
   have d4:lf (sr J n t) n=lf J n:=by
    cases t with
    |nil=>rfl
    |cons x t=>
     obtain⟨u,ku,ru⟩:=x;have a4:u<N:=b.lt u (by simp[da.aZ])
     show lf (J.set u _) n=_
     simp_all[tp,da.fi,da.aZ]
   obtain⟨eC,d3⟩:=hM;have lk:=λ{w':ga}{L':List aG}(h:W w' (hZ km mp::L'))=>cM (κ:=Int) (P:=prog) (z:=O 0) aY (rfl:ai Ty dY=.map _ _) bX rfl rfl h (n:Int);rw[eC] at lk;have cL:∀v,hp v=hp be->v.cell? (Z kl)=some (T (some<|Z X) N N):=λu hu=>by rw[cO hu];exact(af 2 h.l).cell0 sZ
   have cI:∀u,hp u=hp be->∀v,v<N->u.cell? ((Z X).add v)=some (O (lf (sr J n t) v:Int)):=λu hu v o=>by rw[cO hu];exact(af 3 h.l).cell sZ (j:=v) (lW<|JI U)
   refine⟨λu=>hp u=hp be,rfl,_,_,_,cL,au rfl Y ⟨_,λv o=>cI v o n Y,(lk<|h.pick 7 [6,0,1,2,3,4,5]).mono ?_⟩⟩;rintro _ cC⟨rfl,rfl⟩;refine⟨_,rfl,rfl,?_⟩;rw[d4];have bQ:(da.aZ<|(n,j,r)::t).length=(da.aZ t).length+1+r.length:=da.di
   refine ae (λh6=>?_) λh6=>?_
   ·have h6:lf J n=(da.aZ t).length+1:=G
    have hP:=b.pop h4 h6;have d7:∀v∈n::r,v<N:=λv o=>b.lt v (by grind[da.aZ])
    have a8:sr J n t=J\/lf (sr J n t)=lf J:=by
     cases t with
     |nil=>exact .inl rfl
     |cons x t=>
      obtain⟨u,ku,ru⟩:=x;have a4:u<N:=b.lt u (by simp[da.aZ]);right
      show lf (J.set u _)=_
      rw[tp U,b.ah9 h6]
      funext v;simp_all[da.Im]
    have a8:lf (sr J n t)=lf J:=G
    have b4:=bJ<|h.pick 7 [1,0,2,3,4,5,6];refine⟨_,_,_,(af 0 h.l).cell0 sZ,(lk<|h.pick 7 [6,0,1,2,3,4,5]).mono ?_⟩;rintro _ e4⟨rfl,rfl⟩;have eb:((((da.aZ t).length+1:Nat):Int)-1)=((da.aZ t).length:Int):=U
    refine⟨_,rfl,ξ,?_⟩;rw[eb];have ek:bf (hp e4) ((da.aZ<|(n,j,r)::t).map Int.ofNat) oa (da.aZ<|(n,j,r)::t).length:=bA V (by rw[<-Zv];exact dT 1 h.l);have cd:=ek.drop (k:=(da.aZ t).length) (m:=oc) U b4;have eg:((da.aZ<|(n,j,r)::t).map Int.ofNat).drop (da.aZ t).length=(n::r).map Int.ofNat:=by simp[da.aZ,List.drop_left']
    rw[eg] at cd;have f6:(da.aZ<|(n,j,r)::t).length-(da.aZ t).length=(n::r).length:=by rw[bQ];grind
    refine dS U b4<|(QH cd G G).mono ?_;rintro _ fs⟨av,aK,rfl,ef⟩;have h:=ef.fy h;have cT:((n::r).map Int.ofNat).length=(n::r).length:=V
    rw[cT,<-Zv] at h;refine⟨_,_,_,by rw[cT],_,_,_,(af 1 h.l).cell0 sZ,(lk<|h.pick 8 [7,0,1,2,3,4,5,6]).mono ?_⟩;rintro _ eY⟨rfl,rfl⟩;refine⟨_,rfl,ξ,?_⟩;rw[eb];refine ij U<|aX (h.pick 8 [1,0,2,3,4,5,6,7]) V λep h=>?_;have h:=po (h.pick 8 [2,0,1,3,4,5,6,7]) (k:=(da.aZ t).length) U;have bz:(eh<|da.aZ<|(n,j,r)::t).take ((da.aZ t).length*1)=eh (da.aZ t):=by simp[eh,da.aZ,List.take_left']
    rw[bz] at h;have h:W ep (own 1 av (n::r).length aK (eh<|n::r)::(AK ko kl kw X N (f_ oa 0 oc 1) oc (f_ wa 0 wc 2) wc (da.aZ t) (sr J n t) (eW t)++(hZ km mp::(Q y++L)))):=h.pick 8 [2,1,0,3,4,5,6,7]
    refine⟨λz w'=>∃i:Nat,z=i/\i<=(n::r).length/\W w' (own 1 av (n::r).length aK (eh<|n::r)::(AK ko kl kw X N (f_ oa 0 oc 1) oc (f_ wa 0 wc 2) wc (da.aZ t) (lZ (N+1) (sr J n t)<|(n::r).take i) (eW t)++(hZ km mp::(Q y++L)))),
     λz _=>(n::r).length-z.toNat,⟨0,rfl,gu _,h⟩,?_⟩
    rintro _ z cF⟨i,rfl,hi,h⟩
    refine ae (λh7=>?_) λh7=>?_
    ·have h7:i<(n::r).length:=G
     obtain⟨v,o⟩:∃v,(n::r)[i]? =some v:=⟨(n::r)[i],gn _⟩;have ey:=d7 v<|gg o;obtain⟨f3,eD,eo⟩:=cV h<|lW o;refine au eD h7 ⟨_,eo,_,_,_,(af 3 h.l).cell0 sZ,au rfl ey ?_⟩;rw[ak];have eN:((N:Int)+1)=((N+1:Nat):Int):=by rfl
     rw[eN];refine aX (h.pick 8 [4,0,1,2,3,5,6,7]) (by grind[eh,Cj]) λfz h=>⟨ξ,⟨i+1,rfl,h7,?_⟩,bS h7⟩;rw[DB] at h;rw[iw,o,oB,QG];exact h.pick 8 [1,2,3,4,0,5,6,7]
    ·have h7:i=(n::r).length:=G
     subst h7;rw[jl] at h;refine bn.2 ⟨hfl,?_⟩;let M':=AK ko kl kw X N (f_ oa 0 oc 1) oc (f_ wa 0 wc 2) wc (da.aZ t) (lZ (N+1) (sr J n t)<|n::r) (eW t)++[hZ km mp]
     have er:(M'++(Q y++L)).Perm (Q y++(M'++L)):=by
      rw[<-jT,<-jT];exact List.perm_append_comm.append_right L
     have h8:W cF (own 1 av (n::r).length aK (eh<|n::r)::(Q y++(M'++L))):=h.perm<|List.Perm.cons _ er;have ch:=hD y (n::r) (M'++L) cF av aK hP.good (λv o=>by rw[hN];exact hP.lt v<|List.mem_append_right _ o) h8;refine ch.mono ?_;rintro _ dF⟨rfl,h⟩
     have bb:lf (lZ (N+1) (sr J n t)<|n::r)=λv=>if v∈n::r then N+1 else lf J v:=by
      rw[MF _ _ _ (λm hm=>G),a8]
     have g:rH ko kl kw X km N k es Q L ⟨t,lZ (N+1) (sr J n t)<|n::r,y++[n::r],mp,f_ oa 0 oc 1,oc,f_ wa 0 wc 2,wc⟩ dF:=by
      refine⟨by grind[lZ,Cj],?_,?_,d3,W.ahg (M:=Q<|y++[n::r]) (Q:=M') (L:=L) h⟩
      ·grind
      ·intro v o
       show lf (lZ _ _ _) v≠0
       rw[bb];simp only
       split
       ·omega
       grind
     refine⟨rfl,⟨_,g⟩,?_⟩;have l1:=B8 (f:=λx=>da.todo (En es) N (lf x.low) x.S) g;refine Nat.lt_of_le_of_lt l1 (Nat.lt_of_lt_of_le ?_ az)
     show da.todo _ _ (lf<|lZ _ _ _) _<_
     rw[bb];unfold da.todo
     rw[da.Fu (low:=lf J)]
     ·grind
     ·intro v o
      show(if v∈n::r then N+1 else lf J v)=0↔lf J v=0
      split
      ·rename_i e;have h9:lf J v≠0:=λh0=>(b.un v o).1 h0 (by simp only[da.aZ,iU];exact Or.inl<|Or.inr e);omega
      rfl
   ·have h6:lf J n≠(da.aZ t).length+1:=λe=>by rw[e] at h6;simp at h6
    cases t with
    |nil=>
     exfalso;have h8:=b.ok.1.top;have h9:=b.ok.1.pos n V;simp[da.aZ] at h8 h6;omega
    |cons x t=>
    obtain⟨u,ku,ru⟩:=x;have a4:u<N:=b.lt u (by simp[da.aZ]);have q:=tp (low:=J) (i:=u) (x:=min (lf J u)<|lf J n) U;have dc:=b.merge h4 h6;have g4:=b.ok.2.2.1.pos u V;have g6:=b.ok.1.pos n V
    have g:rH ko kl kw X km N k es Q L ⟨(u,ku,ru++n::r)::t,sr J n<|(u,ku,ru)::t,y,mp,oa,oc,f_ wa 0 wc 2,wc⟩ cC:=by
     refine⟨e8,?_,?_,d3,?_⟩
     ·show da.Inv _ _ (lf<|J.set u _) _ _
      rw[q];exact dc
     ·intro v o
      show lf (J.set u _) v≠0
      rw[q]
      by_cases ev:v=u
      ·subst ev;rw[da.b8];omega
      ·rw[da.fi ev];exact cg v o
     ·have e1:da.aZ ((u,ku,ru++n::r)::t)=da.aZ ((n,j,r)::(u,ku,ru)::t):=by simp[da.aZ]
      show W cC (AK _ _ _ _ _ _ _ _ _ (da.aZ<|(u,ku,ru++n::r)::t) _ _++_)
      rw[e1];exact h
    refine⟨⟨_,g⟩,?_⟩;have l1:=B8 (f:=λx=>da.todo (En es) N (lf x.low) x.S) g;refine Nat.lt_of_le_of_lt l1 (Nat.lt_of_lt_of_le ?_ az)
    show da.todo _ _ (lf<|J.set u _) _<_
    rw[q];unfold da.todo
    rw[da.Fu (low:=lf J)]
    ·simp only[kn,List.sum_cons];omega
    ·intro v o
     by_cases ev:v=u
     ·subst ev;rw[da.b8];omega
     ·rw[da.fi ev]
section
variable{a b:E}{i j k l:Nat}{A B C:Int}{w:ga}{R:ah->WP}
theorem FE(h:H w [O 0,O 0,D,D,D,O 0,D] 41 λc d=>rE 49 [u a,J true,T b i j] d λa b=>∃d e f g h i j k l m n o p q r s,a=vU [vG [O d,O e,T f g h,T i j k,T l m n,O o,T p q r],O s]/\bC b (Z c) [O d,O e,T f g h,T i j k,T l m n,O o,T p q r] λa=>∃b d e f g h i j k l m n o p q,rA a (Z c) 7 [O b,O d,T e f g,T h i j,T k l m,O n,T o p q]/\R (vU [vG [O b,O d,T e f g,T h i j,T k l m,O n,T o p q],O s]) a):ρ 12 [.pointer a,T b i j] w R:=rv func12 h
theorem Ly{F:Bool}(h:H w [O 0,O 0,D,D,D,O 0,D] 41 λc d=>kV 55 [u a,J F] d λe d=>∃(a:lP [(24,mR)]),br (Option.isNone e) (a true d) (iu 57 [u e,T b i j] d λd c=>a (!d) c)/\∀(_:ν) d f,a d f->br d (bC f (Z c) [O 0,O 0,D,D,D,O 0,D] λa=>∃b d e f g h i j k l m n o p q,rA a (Z c) 7 [O b,O d,T e f g,T h i j,T k l m,O n,T o p q]/\R (vU [vG [O b,O d,T e f g,T h i j,T k l m,O n,T o p q],O 1]) a) (gF 115 [T b i j] f λd f g b=>H b [O 0] 3 λa b=>iT 24 d f g a b λd f g b=>gT 0 b λa g b h=>bQ (b<(f:Int)) (M d f b 1 λd=>gX h d λf=>rE 58 [u e,O f] h λd f=>∃i j,d=vU [J i,O j]/\br (j !=0) (bC f (Z c) [O 0,O 0,D,D,D,O 0,D] λa=>∃b d e f g h i k l m n o p q r,rA a (Z c) 7 [O b,O d,T e f g,T h i k,T l m n,O o,T p q r]/\R (vU [vG [O b,O d,T e f g,T h i k,T l m n,O o,T p q r],O j]) a) (br i (gx a g b f h) (gj f λa d=>nn e λf=>jc d (f.add 2) λg=>nn e λf=>jc d f λh=>kX 116 [u g,J F,u h] a λg h i j f=>d f/\br (j !=0) (bC f (Z c) [O 0,O 0,D,D,D,O 0,D] λa=>∃b d e f g h i k l m n o p q r,rA a (Z c) 7 [O b,O d,T e f g,T h i k,T l m n,O o,T p q r]/\R (vU [vG [O b,O d,T e f g,T h i k,T l m n,O o,T p q r],O j]) a) (gj f λa d=>nn e λf=>jc d f λj=>nn e λf=>jc d (f.add 1) λk=>nn e λe=>gz d (e.add 4) λf l m=>gF 61 [u j] a λj n o e=>d e/\gF 60 [u k] e λk p q e=>d e/\gF 117 [T f l m] e λf l m e=>d e/\bC e (Z c) [O 2,O b,T g h i,T j n o,T k p q,O 0,T f l m] λa=>∃b d e f g h i j k l m n o p q,rA a (Z c) 7 [O b,O d,T e f g,T h i j,T k l m,O n,T o p q]/\R (vU [vG [O b,O d,T e f g,T h i j,T k l m,O n,T o p q],O 0]) a)))) (gj h λa b=>nn e λd=>jc b d λf=>nn e λd=>jc b (d.add 1) λg=>nn e λd=>jc b (d.add 1) λh=>nn e λd=>gz b (d.add 4) λe i j=>gF 61 [u f] a λf k l d=>b d/\gF 60 [u g] d λg m n d=>b d/\iC 118 [u h] d λh d=>b d/\K (h-1)/\gF 117 [T e i j] d λe i j d=>b d/\bC d (Z c) [O 1,O 0,D,T f k l,T g m n,O (h-1),T e i j] λa=>∃b d e f g h i j k l m n o p q,rA a (Z c) 7 [O b,O d,T e f g,T h i j,T k l m,O n,T o p q]/\R (vU [vG [O b,O d,T e f g,T h i j,T k l m,O n,T o p q],O 0]) a))):ρ 49 [.pointer a,J F,T b i j] w R:=rv func49 h ⟨[(5,[(31,aP)])],[(3,[(24,mR)])],[],[]⟩
theorem HI{b:Bool}(h:kV 123 [u a] w λd c=>br (Option.isNone d) (R (u none) c) (kV 124 [O 0] c λe c=>kV 125 [] c λf c=>H c [u e,u f,u d,J b,D,O 0,J false] 149 λa b=>R (u (some (Z a))) b)):ρ 55 [.pointer a,J b] w R:=rv func55 h
theorem DO(h:H w [u a] 141 λa c=>iu 126 [T b i j,vF 127 [u (some (Z a))]] c λc b=>R (J !c) b):ρ 57 [.pointer a,T b i j] w R:=rv func57 h
theorem Cm(h:gj w λb c=>nn a λd=>jc c (d.add 2) λe=>nn a λd=>qd c (d.add 3) λf=>nn a λd=>jc c d λg=>(rE 129 [u e,J f,u g,O A] b λb d=>∃e f g h i j k l,b=vU [vG [J e,T f g h,T i j k],O l]/\c d/\H d [J false,D,D] 245 λb d=>c d/\bC d (Z b) [J e,T f g h,T i j k] λd=>c d/\∃(c:lP [(33,mR)]),br (l !=0) (c true d) (mH d (Z b) λa=>c (!a) d)/\∀(_:ν) d e,c d e->br d (R (vU [J false,O l]) e) (hU e b 1 λc d f=>gT 0 e λb f e g=>bQ (e<(d:Int)) (M c d e 2 λc=>∃d h,rA g c 2 [O d,O h]/\H g [O 0,O 0] 170 λc i=>bC i (Z c) [O d,O h] λd=>∃h i,rA d (Z c) 2 [O h,O i]/\rE 130 [u a,vG [O h,O i],O A] d λa c=>a=vU []/\gx b f e c g) (bQ (0<A) (nn a λb=>gX g (b.add 5) λc=>K (c+1)/\nn a λa=>gh g (a.add 5) (O (c+1)) λa=>R (vU [J true,O 0]) a) (R (vU [J true,O 0]) g))))/\H b [J false,D,D] 245 λb d=>c d/\rE 129 [u e,J f,u g,O A] d λd e=>∃f g h i j k l m,d=vU [vG [J f,T g h i,T j k l],O m]/\c e/\bC e (Z b) [J f,T g h i,T j k l] λd=>c d/\∃(c:lP [(33,mR)]),br (m !=0) (c true d) (mH d (Z b) λa=>c (!a) d)/\∀(_:ν) d e,c d e->br d (R (vU [J false,O m]) e) (hU e b 1 λc d f=>gT 0 e λb f e g=>bQ (e<(d:Int)) (M c d e 2 λc=>∃d h,rA g c 2 [O d,O h]/\H g [O 0,O 0] 170 λc i=>bC i (Z c) [O d,O h] λd=>∃h i,rA d (Z c) 2 [O h,O i]/\rE 130 [u a,vG [O h,O i],O A] d λa c=>a=vU []/\gx b f e c g) (bQ (0<A) (nn a λb=>gX g (b.add 5) λc=>K (c+1)/\nn a λa=>gh g (a.add 5) (O (c+1)) λa=>R (vU [J true,O 0]) a) (R (vU [J true,O 0]) g)))):ρ 58 [.pointer a,O A] w R:=rv func58 h ⟨[(5,[(38,aP)])],[(3,[(33,mR)])],[],[]⟩
theorem yU(h:br (Option.isNone a) (R (D) w) (nn a λa=>gp w a λb c d=>gF 131 [T b c d] w λc d e b=>gT 0 b λa f b g=>bQ (b<(d:Int)) (M c d b 4 λe=>gp g (e.add 3) λh i j=>gF 115 [T h i j] g λi j k h=>M c d b 4 λc=>gh h (c.add 3) (T i j k) λc=>gx a f b c g) (R (T c d e) g))):ρ 60 [.pointer a] w R:=rv func60 h ⟨[(5,[(14,aP)])],[],[],[]⟩
theorem vI(h:br (Option.isNone a) (R (D) w) (gj w λb c=>nn a λd=>gy c d λe=>nn a λa=>gz c (a.add 1) λd f g=>H b [O e] 3 λa b=>c b/\rS (kR 24 [T (some (Z a)) 1 1,T d f g]) b λa b=>∃d e f,a=T d e f/\c b/\gF 132 [T d e f] b λd e f b=>c b/\R (T d e f) b)):ρ 61 [.pointer a] w R:=rv func61 h
theorem vK{F:Bool}(h:iC 128 [u a] w λe d=>τ [(8,jG),(14,aP)] λc f=>c none 0 0 0 d/\∀(_:ν) d g h i j,c d g h i j->bQ (i<e) (rE 129 [u a,J F,u b,O i] j λa b=>∃e k l m n o p q,a=vU [vG [J e,T k l m,T n o p],O q]/\H b [J false,D,D] 245 λa b=>bC b (Z a) [J e,T k l m,T n o p] λb=>br (q !=0) (R (vU [D,O q]) b) (mH b (Z a) λe=>br e (H b [O i] 3 λa b=>iT 24 d g h a b λe k l b=>K (i+1)/\nD c f e k l (i+1) b d g h i j) (K (i+1)/\nD c f d g h (i+1) b d g h i j))) (gF 132 [T d g h] j λc d e b=>R (vU [T c d e,O 0]) b)):ρ 116 [.pointer a,J F,.pointer b] w R:=rv func116 h ⟨[(3,[(8,jG),(14,aP)])],[],[],[]⟩
theorem kO(h:mA a i j none (some (i:Int)) (some (i:Int)) 3 λ(a:E)(b c:Nat)=>R (T a b c) w):ρ 117 [T a i j] w R:=rv func117 h
theorem Co{a:E}{w:ga}{R:ah->WP}(h:br (Option.isNone a) (R (O 0) w) (nn a λa=>gp w a λb c d=>R (O (c:Int)) w)):ρ 118 [.pointer a] w R:=rv func118 h
theorem Oa(h:rE 9 [u a] w λac ad=>∃d e f g h i j k l m n o p,ac=vG [T d e f,T g h i,T j k l,O m,T n o p]/\H ad [D,D,D,O 0,D] 27 λc al=>bC al (Z c) [T d e f,T g h i,T j k l,O m,T n o p] λA=>hU A c 4 λd e f=>br ((e:Int)==0) (R (u none) A) (gj A λd b=>∃e f g h i j k l m n o p q,(∀a,b a->rA a (Z c) 5 [T e f g,T h i j,T k l m,O n,T o p q])/\rE 37 [u a] d λam d=>∃r s t C v w x y z,am=vG [T r s t,T C v w,T x y z]/\b d/\rE 218 [u a] d λa F=>∃d x y z I L N P Q S X Y a0 a1 a2 a3 a4 a5 a6 a7 a8 a9 b8 aa,a=vG [T d x y,T z I L,T N P Q,T S X Y,T a0 a1 a2,T a3 a4 a5,T a6 a7 a8,T a9 b8 aa]/\b F/\H F [T e f g,T h i j,T k l m,O n,T o p q,Value.iface 376 (vG [T r s t,T C v w]),Value.iface 379 (vG [T d x y,T z I L,T N P Q,T S X Y,T a0 a1 a2,T a3 a4 a5,T a6 a7 a8,T a9 b8 aa])] 383 λa ab=>b ab/\R (u (some (Z a))) ab)):ρ 123 [.pointer a] w R:=rv func123 h
theorem LB(h:H w [O A,D,D] 253 λa b=>R (u (some (Z a))) b):ρ 124 [O A] w R:=rv func124 h
theorem Oc  {w:ga}{R:ah->WP}(h:H w [D,D] 251 λa b=>R (u (some (Z a))) b):ρ 125 [] w R:=rv func125 h
theorem yY{b:vP}(h:bQ (A<1) (R (J true) w) (jQ w b λa=>nn a λa=>jQ w (a.add 2) λb=>iC 128 [u b] w λc b=>R (J (decide (c<=A))) b)):ρ 127 [O A,(.pointer (some b))] w R:=rv func127 h
theorem vM(h:nn a λa=>gp w a λb c d=>R (O (c:Int)) w):ρ 128 [.pointer a] w R:=rv func128 h
theorem y7{F:Bool}(h:H w [J false,D,D] 245 λc d=>gj d λe d=>nn a λf=>∃g h i j k l m n o p q r s,(∀a,d a->rA a f 5 [T g h i,T j k l,T m n o,O p,T q r s])/\nn a λf=>∃(t:aC),∃v,(∀a,d a->cL a (f.add 5) (Value.iface t v))/\kV 219 [u b] e λf e=>d e/\H e [u f,T g h i,T j k l,T m n o,O p,T q r s,Value.iface t v,D] 388 λb e=>d e/\∃(d:lP []),br F (nn a λa=>∃(c:aC),∃f,cL e (a.add 6) (Value.iface c f)/\gh e (Addr.add (Z b) 6) (Value.iface c f) λa=>d a) (d e)/\∀(_:ν) a,d a->rE 220 [u (some (Z b)),O A] a λa d=>∃e f,a=vU [J e,O f]/\br (f !=0) (bC d (Z c) [J false,D,D] λa=>∃b d e g h i j,rA a (Z c) 3 [J b,T d e g,T h i j]/\R (vU [vG [J b,T d e g,T h i j],O f]) a) (gj d λa d=>jo d b 7 λf g h=>jc d (Z b) λi=>gF 202 [T f g h] a λf g h b=>d b/\gF 221 [u i] b λi j k b=>d b/\gF 132 [T i j k] b λi j k b=>d b/\bC b (Z c) [J e,T f g h,T i j k] λa=>∃b d e f g h i,rA a (Z c) 3 [J b,T d e f,T g h i]/\R (vU [vG [J b,T d e f,T g h i],O 0]) a)):ρ 129 [.pointer a,J F,.pointer b,O A] w R:=rv func129 h ⟨[],[(4,[])],[],[]⟩
abbrev fP:aM:=130
theorem kP(h:H w [O A,O B] 170 λb c=>gj c λd c=>nn a λe=>gz c (e.add 4) λf g h=>∃e i,(∀a,c a->rA a (Z b) 2 [O e,O i])/\nn a λj=>gy c (j.add 5) λk=>H d [O e,O i,O k] 235 λd e=>c e/\iT 39 f g h d e λf g h e=>c e/\nn a λc=>gh e (c.add 4) (T f g h) λc=>gX c (Z b) λd=>br (d==1) (gj c λd c=>nn a λe=>jc c (e.add 1) λf=>nn a λe=>gy c (e.add 5) λg=>sP 222 [u f,O C,O g] d λf g e=>c e/\gj e λc d=>nn a λa=>jc d a λe=>jr d b 1 λa=>iC 223 [u e,O a,O f] c λc b=>R (vU []) b) (br (d==2) (gj c λd c=>nn a λe=>jc c (e.add 2) λf=>jr c b 1 λe=>sP 224 [u f,O e] d λf g e=>c e/\nn a λc=>jQ e c λd=>kX 225 [u d,O f] e λe f h i d=>gj d λc d=>nn a λi=>jc d (i.add 1) λj=>jr d b 1 λi=>sP 226 [u j,O g,O i,T e f h] c λe f c=>d c/\gj c λb c=>nn a λd=>jc c d λf=>nn a λd=>jc c (d.add 2) λh=>nn a λa=>jc c a λd=>iC 228 [u d] b λd b=>c b/\iC 227 [u h,O d,O g] b λd b=>c b/\iC 223 [u f,O d,O e] b λc b=>R (vU []) b) (br (d==3) (nn a λa=>gh c (a.add 6) (J true) λa=>R (vU []) a) (R (vU []) c)))):ρ 130 [.pointer a,(.agg #[O A,O B]),O C] w R:=rv func130 h
theorem jU(h:br (Option.isNone a) (R (D) w) (H w [] 138 λb c=>rS (kR 38 [T (some (Z b)) 0 0,T a i j]) c λa b=>∃c d e,a=T c d e/\R (T c d e) b)):ρ 131 [T a i j] w R:=rv func131 h
theorem y9(h:br (Option.isNone a) (R (u none) w) (H w [u a,O 0,D] 450 λa b=>rE 303 [u (some (Z a))] b λb c=>b=vU []/\R (u (some (Z a))) c)):ρ 219 [.pointer a] w R:=rv func219 h
theorem za{a:E}{b:Int}{w:ga}{R:ah->WP}(h:∃(k:lP []),∃(o:lN []),k w/\∀(bd:Nat->ah)(l:ga),k l->∃(f:lP [(6,S1.one Cs.ptr)]),(gj l λj c=>nn a λv=>∃(e:aC),∃g,(∀d,c d->cL d (v.add 6) (Value.iface e g))/\nn a λx=>jc c x λm=>(iC 304 [u m] j λn d=>c d/\(∃i p,Sem.run prog (callMethod (Value.iface e g) "presage/trial.action" (Array.mk [O n,O b])) d=Result.ok (Next.enter i (Array.mk p)) d/\rE i p d λy z=>∃q r,y=vG [O q,O r]/\H z [O 0,O 0] 170 λs t=>c t/\bC t (Z s) [O q,O r] λA=>f (some (Z s)) A)/\H d [O 0,O 0] 170 λp i=>c i/\∃q r,Sem.run prog (callMethod (Value.iface e g) "presage/trial.action" (Array.mk [O n,O b])) i=Result.ok (Next.enter q (Array.mk r)) i/\rE q r i λy z=>∃s t,y=vG [O s,O t]/\bC z (Z p) [O s,O t] λA=>f (some (Z p)) A)/\H j [O 0,O 0] 170 λi n=>c n/\iC 304 [u m] n λt d=>c d/\∃p q,Sem.run prog (callMethod (Value.iface e g) "presage/trial.action" (Array.mk [O t,O b])) d=Result.ok (Next.enter p (Array.mk q)) d/\rE p q d λy z=>∃r s,y=vG [O r,O s]/\bC z (Z i) [O r,O s] λA=>f (some (Z i)) A)/\∀(be:Nat->ah)(e:E)(c:ga),f e c->nn e λX=>gX c X λm=>br (m==1) (nn a λn=>jQ c n λp=>iC 305 [u p] c λq g=>bQ (64<=q) (R (vU [J false,O 15]) g) (gj g λr d=>nn a λs=>gz d (s.add 7) λt v x=>nn e λy=>rG d y λz A=>H r [O z,O A] 170 λC i=>d i/\iT 86 t v x C i λF I L j=>d j/\nn a λN=>gh j (N.add 7) (T F I L) λP=>R (vU [J true,O 0]) P)) (br (m==3) (gj c λj d=>nn a λn=>gz d (n.add 7) λp q r=>nn e λs=>rG d s λt v=>H j [O t,O v] 170 λx g=>d g/\iT 86 p q r x g λy z A i=>d i/\nn a λC=>gh i (C.add 7) (T y z A) λF=>R (vU [J true,O 0]) F) (br (m==2) (nn a λY=>gp c (Y.add 7) λbi a0 bl=>bQ (1024<=(a0:Int)) (R (vU [J false,O 15]) c) (gj c λa1 g=>nn a λa2=>gz g (a2.add 7) λa3 a4 a5=>nn e λa6=>rG g a6 λa7 a8=>H a1 [O a7,O a8] 170 λa9 p=>g p/\iT 86 a3 a4 a5 a9 p λaa ab ac q=>g q/\nn a λad=>gh q (ad.add 7) (T aa ab ac) λal=>gj al λam i=>nn a λan=>gz i (Addr.add (an.add 1) 4) λao ap bo=>nn e λav=>gy i (av.add 1) λaz=>M ao ap az 3 λaB=>∃r s t v x,(∀d,i d->rA d aB 3 [O r,T s t v,O x])/\H am [O 0,D,O 0] 134 λn y=>i y/\bC y (Z n) [O r,T s t v,O x] λaK=>gj aK λaR z=>nn a λaS=>jc z aS λaV=>jo z n 1 λbs b0 bu=>iC 306 [u aV,O (b0:Int)] aR λbz b1=>∃(A:lP [(8,aP)]),(gj b1 λb2 d=>nn a λb3=>jc d b3 λb4=>nn a λb5=>∃(C:aC),∃F,(∀j,d j->cL j (b5.add 6) (Value.iface C F))/\nn a λb6=>jc d b6 λb7=>gy d (Z n) λI=>nn a λb9=>gz d (b9.add 1) λbE L bN=>K (I-(L:Int))/\iC 304 [u b7] b2 λba j=>d j/\∃N P,Sem.run prog (callMethod (Value.iface C F) "presage/trial.target" (Array.mk [O ba,O (I-(L:Int))])) j=Result.ok (Next.enter N (Array.mk P)) j/\iC N P j λbb Q=>d Q/\iC 307 [u b4,O bb] Q λbc S=>d S/\A bc S)/\∀(C:Nat->ah)(j:Int)(d:ga),A j d->br (j !=0) (R (vU [J false,O j]) d) (k d/\o d<o l))) (R (vU [J false,O 0]) c)))):ρ 220 [.pointer a,O b] w R:=rv func220 h ⟨[(1,[])],[(2,[(6,(.one .ptr))]),(19,[(8,aP)])],[],[]⟩
theorem tt(h:iu 308 [u a] w λd c=>br (!d) (R (D) c) (gj c λb c=>nn a λd=>jc c d λe=>nn e λd=>gy c d λe=>nn a λd=>jc c d λf=>nn f λd=>gz c (d.add 1) λf g h=>nn a λd=>gz c (d.add 2) λi j k=>(H b [O e] 3 λb d=>c d/\iC 310 [u a] d λe d=>c d/\mA f g h none (some e) none 1 λ(a:E)(e f:Nat)=>H d [T (some (Z b)) 1 1,T a e f,T i j k] 24 λa b=>c b/\gF 309 [T (some (Z a)) 3 3] b λd e f b=>c b/\R (T d e f) b)/\iC 310 [u a] b λd b=>c b/\mA f g h none (some d) none 1 λ(a:E)(d f:Nat)=>H b [O e] 3 λb e=>c e/\H e [T (some (Z b)) 1 1,T a d f,T i j k] 24 λa b=>c b/\gF 309 [T (some (Z a)) 3 3] b λd e f b=>c b/\R (T d e f) b)):ρ 221 [.pointer a] w R:=rv func221 h
theorem AN(h:br (Option.isNone a) (R (vU [O 0,O 1]) w) (bQ (A<0) (R (vU [O 0,O 1]) w) (bQ (B<0) (R (vU [O 0,O 1]) w) (sP 311 [u a,vG [O A,O (-1),O B,D]] w λc d b=>R (vU [O c,O d]) b)))):ρ 222 [.pointer a,O A,O B] w R:=rv func222 h
theorem zc(h:br (Option.isNone a) (R (O 1) w) (nn a λb=>gp w (b.add 1) λc d e=>bQ (64<=(d:Int)) (R (O 15) w) (nn a λb=>gp w (b.add 1) λc d e=>H w [O A] 3 λb f=>iT 24 c d e b f λd e f c=>nn a λb=>gh c (b.add 1) (T d e f) λb=>nn a λc=>gp b (c.add 2) λd e f=>H b [O B] 3 λb c=>iT 24 d e f b c λd e f c=>nn a λa=>gh c (a.add 2) (T d e f) λa=>R (O 0) a))):ρ 223 [.pointer a,O A,O B] w R:=rv func223 h
theorem uE(h:gj w λb c=>nn a λd=>gz c (d.add 4) λe f g=>M e f A 3 λd=>gz c (d.add 1) λe f g=>nn a λa=>gz c (a.add 4) λd e g=>M d e A 3 λa=>gy c a λd=>R (vU [O (f:Int),O d]) b):ρ 224 [.pointer a,O A] w R:=rv func224 h
theorem AP(h:∃(b:lP [(22,mR)]),br (Option.isNone a) (b true w) (bQ (A<0) (b true w) (nn a λa=>gp w (a.add 1) λc d e=>b (decide ((d:Int)<A)) w))/\∀(_:ν) c d,b c d->br c (R (vU [D,O 1]) d) (nn a λb=>gp d (b.add 1) λc e f=>K ((e:Int)-A)/\nn a λb=>gp d (b.add 2) λc f g=>mA c f g (some ((e:Int)-A)) none none 1 λ(b:E)(c f:Nat)=>gF 115 [T b c f] d λd f g c=>gF 132 [T d f g] c λd f g c=>nn a λb=>gp c (b.add 1) λh i j=>mA h i j none (some ((e:Int)-A)) none 1 λ(b:E)(h i:Nat)=>nn a λj=>gh c (j.add 1) (T b h i) λb=>nn a λc=>gp b (c.add 2) λh i j=>mA h i j none (some ((e:Int)-A)) none 1 λ(c:E)(e h:Nat)=>nn a λa=>gh b (a.add 2) (T c e h) λa=>R (vU [T d f g,O 0]) a)):ρ 225 [.pointer a,O A] w R:=rv func225 h ⟨[],[(2,[(22,mR)])],[],[]⟩
theorem AR(h:∃(c:lP [(25,mR)]),br (Option.isNone a) (c true w) (bQ (A<0) (c true w) (bQ (B<0) (c true w) (iu 312 [u a,T b i j] w λd b=>c (!d) b)))/\∀(_:ν) d e,c d e->br d (R (vU [O 0,O 1]) e) (gF 115 [T b i j] e λd e f c=>sP 311 [u a,vG [O A,O B,O 0,T d e f]] c λc d b=>R (vU [O c,O d]) b)):ρ 226 [.pointer a,O A,O B,T b i j] w R:=rv func226 h ⟨[],[(2,[(25,mR)])],[],[]⟩
theorem uG{a:E}{b c:Int}{w:ga}{R:ah->WP}(h:gj w λd e=>nn a λm=>∃(f:aC),∃g,(∀i,e i->cL i (m.add 5) (Value.iface f g))/\nn a λn=>gz e n λp i q=>K (c-(i:Int))/\∃j k,Sem.run prog (callMethod (Value.iface f g) "presage/trial.target" (Array.mk [O b,O (c-(i:Int))])) d=Result.ok (Next.enter j (Array.mk k)) d/\iC j k d λo l=>e l/\R (O o) l):ρ 227 [.pointer a,O b,O c] w R:=rv func227 h
theorem AT(h:br (Option.isNone a) (R (O 0) w) (nn a λb=>gp w (b.add 1) λc d e=>br ((d:Int)==0) (nn a λa=>gX w a λb=>R (O b) w) (gj w λb c=>nn a λd=>gz c (d.add 1) λe f g=>nn a λa=>gz c (a.add 1) λd g h=>K ((g:Int)-1)/\M e f ((g:Int)-1) 1 λa=>gy c a λd=>R (O d) b))):ρ 228 [.pointer a] w R:=rv func228 h
theorem uI(h:iu 308 [u a] w λd c=>br d (nn a λb=>jQ c b λd=>nn d λb=>gp c (b.add 1) λd e f=>nn a λb=>gh c (b.add 1) (O (e:Int)) λb=>nn a λa=>gh b (a.add 2) (D) λa=>R (vU []) a) (R (vU []) c)):ρ 303 [.pointer a] w R:=rv func303 h
theorem xx(h:iu 308 [u a] w λd c=>br (!d) (R (O 0) c) (nn a λb=>gp c (b.add 2) λd e f=>bQ (0<(e:Int)) (gj c λb c=>nn a λd=>gz c (d.add 2) λe f g=>nn a λa=>gz c (a.add 2) λd g h=>K ((g:Int)-1)/\M e f ((g:Int)-1) 1 λa=>gy c a λd=>R (O d) b) (iC 310 [u a] c λd c=>bQ (0<d) (gj c λb c=>nn a λd=>jc c d λe=>nn e λd=>gz c (d.add 1) λe f g=>iC 310 [u a] b λd b=>oL c b λa=>K (d-1)/\M e f (d-1) 1 λc=>gy a c λd=>R (O d) b) (nn a λa=>jQ c a λb=>nn b λa=>gX c a λb=>R (O b) c)))):ρ 304 [.pointer a] w R:=rv func304 h
theorem tw(h:iu 308 [u a] w λd c=>br (!d) (R (O 0) c) (gj c λb c=>nn a λd=>gy c (d.add 1) λe=>nn a λa=>gz c (a.add 2) λd f g=>K (e+(f:Int))/\R (O (e+(f:Int))) b)):ρ 305 [.pointer a] w R:=rv func305 h
theorem xz(h:∃(b:lP [(18,mR)]),(iu 308 [u a] w λe d=>br (!e) (b true d) (bQ (A<0) (b true d) (iC 305 [u a] d λd c=>b (decide (d<A)) c)))/\∀(_:ν) c d,b c d->br c (R (O 1) d) (nn a λb=>gp d (b.add 2) λc e f=>gj d λb c=>nn a λd=>gz c (d.add 2) λf g h=>nn a λd=>gz c (d.add 2) λi j k=>K ((j:Int)-if(e:Int)<A then(e:Int) else A)/\mA f g h none (some ((j:Int)-if(e:Int)<A then(e:Int) else A)) none 1 λ(c:E)(d f:Nat)=>nn a λg=>gh b (g.add 2) (T c d f) λb=>nn a λc=>gX b (c.add 1) λd=>K (A-if(e:Int)<A then(e:Int) else A)/\K (d-(A-if(e:Int)<A then(e:Int) else A))/\nn a λa=>gh b (a.add 1) (O (d-(A-if(e:Int)<A then(e:Int) else A))) λa=>R (O 0) a)):ρ 306 [.pointer a,O A] w R:=rv func306 h ⟨[],[(2,[(18,mR)])],[],[]⟩
theorem vR(h:iu 308 [u a] w λd c=>br (!d) (R (O 1) c) (iC 305 [u a] c λd c=>bQ (64<=d) (R (O 15) c) (nn a λb=>gp c (b.add 2) λd e f=>H c [O A] 3 λb c=>iT 24 d e f b c λd e f c=>nn a λa=>gh c (a.add 2) (T d e f) λa=>R (O 0) a))):ρ 307 [.pointer a,O A] w R:=rv func307 h
theorem uK(h:br (!Option.isNone a) (nn a λa=>jQ w a λb=>R (J !Option.isNone b) w) (R (J false) w)):ρ 308 [.pointer a] w R:=rv func308 h
theorem qp(h:τ [(3,aP),(11,aP)] λb c=>b 0 0 w/\∀(_:ν) d e f,b d e f->bQ (e<(i:Int)) (M a i e 1 λa=>∃g h i,World.cell? f a=some (T g h i)/\K (d+(h:Int))/\bQ (d+(h:Int)<0) False (K (e+1)/\nB b c (d+(h:Int)) (e+1) f d e f)) (gF 359 [D,O d] f λd e f c=>τ [(6,jG),(27,aP)] λb g=>b d e f 0 c/\∀(_:ν) c d e f h,b c d e f h->bQ (f<(i:Int)) (M a i f 1 λa=>∃i j k,World.cell? h a=some (T i j k)/\rS (kR 24 [T c d e,T i j k]) h λa i=>∃j k l,a=T j k l/\K (f+1)/\nD b g j k l (f+1) i c d e f h) (R (T c d e) h))):ρ 309 [T a i j] w R:=rv func309 h ⟨[(3,[(3,aP),(11,aP)]),(11,[(6,jG),(27,aP)])],[],[],[]⟩
theorem uM(h:gj w λb c=>nn a λd=>gy c (d.add 1) λe=>nn a λa=>jc c a λd=>nn d λa=>gz c (a.add 1) λd f g=>R (O (if(f:Int)<e then(f:Int) else e)) b):ρ 310 [.pointer a] w R:=rv func310 h
theorem Cw(h:H w [O A,O B,O C,T b i j] 138 λb c=>gj c λd c=>nn a λe=>gz c e λf g h=>∃e i j k l m,(∀a,c a->rA a (Z b) 4 [O e,O i,O j,T k l m])/\H d [O e,O i,O j,T k l m] 138 λb d=>c d/\iT 38 f g h b d λe f g d=>c d/\nn a λb=>gh d b (T e f g) λb=>nn a λc=>gp b (c.add 1) λd e f=>H b [J false] 4 λb c=>iT 47 d e f b c λd e f c=>nn a λb=>gh c (b.add 1) (T d e f) λb=>nn a λa=>gp b a λc d e=>K ((d:Int)-1)/\R (vU [O ((d:Int)-1),O 0]) b):ρ 311 [.pointer a,(.agg #[O A,O B,O C,T b i j])] w R:=rv func311 h
theorem AX(h:H w [u a] 146 λa c=>iu 126 [T b i j,vF 360 [u (some (Z a))]] c λe d=>br e (R (J false) d) (gT 0 d λc e d f=>bQ (d<(i:Int)) (M b i d 1 λg=>gX f g λh=>jQ f (Z a) λg=>nn g λg=>gp f (g.add 1) λk l m=>M k l h 1 λg=>mH f g λk=>br k (mA b i j none (some d) none 1 λ(b:E)(c _:Nat)=>gT 0 f λd e f g=>bQ (f<(c:Int)) (M b c f 1 λb=>gX g b λc=>jQ g (Z a) λb=>nn b λa=>gp g (a.add 1) λb h i=>M b h c 1 λa=>gh g a (J false) λa=>gx d e f a g) (R (J false) g)) (jQ f (Z a) λb=>nn b λa=>gp f (a.add 1) λb g i=>M b g h 1 λa=>gh f a (J true) λa=>gx c e d a f)) (R (J true) f))):ρ 312 [.pointer a,T b i j] w R:=rv func312 h ⟨[(4,[(14,aP)]),(8,[(30,aP)])],[],[],[]⟩
theorem tA(h:bQ (A<0) False (rS (Builtin.cap_ (Array.mk [24]) 3 (Array.mk [T a i j])) w λb c=>∃d,b=O d/\K (d-(i:Int))/\K (A-(d-(i:Int)))/\bQ (0<A-(d-(i:Int))) (rS (Builtin.cap_ (Array.mk [24]) 3 (Array.mk [T a i j])) c λb c=>∃e,b=O e/\mA a i j none (some e) none 1 λ(a:E)(b e:Nat)=>rS (Builtin.append_ (Array.mk [24,3]) 24 (Array.mk [T a b e,O (A-(d-(i:Int)))])) c λa b=>∃c d e,a=T c d e/\mA c d e none (some (i:Int)) none 1 λ(a:E)(c d:Nat)=>R (T a c d) b) (R (T a i j) c))):ρ 359 [T a i j,O A] w R:=rv func359 h
theorem vX{b:vP}(h:bQ (A<0) (R (J true) w) (jQ w b λa=>nn a λa=>gp w a λc d e=>bQ ((d:Int)<=A) (R (J true) w) (jQ w b λa=>nn a λa=>gp w (a.add 1) λb c d=>M b c A 1 λa=>mH w a λb=>R (J b) w))):ρ 360 [O A,(.pointer (some b))] w R:=rv func360 h
abbrev nU:aM:=420
theorem vZ(h:H w [T a i j,T b k l] 376 λa b=>hU b a 1 λc d e=>M c d A 1 λa=>gp b a λc d e=>M c d B 1 λa=>gX b a λc=>R (O c) b):ρ 420 [(.agg #[T a i j,T b k l]),O A,O B] w R:=rv func420 h
end
abbrev mK:aM:=421
theorem uO{a:E}{b c:Nat}{d:E}{e f:Nat}{g:E}{i j:Nat}{k:E}{l m:Nat}{n:E}{o p:Nat}{q:E}{s t:Nat}{A:E}{v x:Nat}{y:E}{z C:Nat}{F I:Int}{w:ga}{R:ah->WP}(h:H w [T a b c,T d e f,T g i j,T k l m,T n o p,T q s t,T A v x,T y z C] 379 λa b=>H b [O 0,O 0] 170 λb c=>∃d e f g h i j k l m n o p q r s t L v w x y z N,rA c (Z a) 8 [T d e f,T g h i,T j k l,T m n o,T p q r,T s t L,T v w x,T y z N]/\rE 423 [vG [T d e f,T g h i,T j k l,T m n o,T p q r,T s t L,T v w x,T y z N],O F,O I] c λa c=>∃d e,a=vG [O d,O e]/\bC c (Z b) [O d,O e] λa=>∃c d,rA a (Z b) 2 [O c,O d]/\R (vG [O c,O d]) a):ρ 421 [(.agg #[T a b c,T d e f,T g i j,T k l m,T n o p,T q s t,T A v x,T y z C]),O F,O I] w R:=rv func421 h
abbrev mL:aM:=422
theorem uQ{a:E}{b c:Nat}{d:E}{e f:Nat}{g:E}{i j:Nat}{k:E}{l m:Nat}{n:E}{o p:Nat}{q:E}{s t:Nat}{A:E}{v x:Nat}{y:E}{z C:Nat}{F I:Int}{w:ga}{R:ah->WP}(h:H w [T a b c,T d e f,T g i j,T k l m,T n o p,T q s t,T A v x,T y z C] 379 λa b=>∃c d e f g h i j k l m n o p q r s t L v w x y z,rA b (Z a) 8 [T c d e,T f g h,T i j k,T l m n,T o p q,T r s t,T L v w,T x y z]/\iC 424 [vG [T c d e,T f g h,T i j k,T l m n,T o p q,T r s t,T L v w,T x y z],O F,O I] b λc b=>R (O c) b):ρ 422 [(.agg #[T a b c,T d e f,T g i j,T k l m,T n o p,T q s t,T A v x,T y z C]),O F,O I] w R:=rv func422 h
end
def FH(h:Hp)(k:Nat)(st:Az):Prop:=∃o n c r,aj h (Z k) [O 0,T o n c,r]/\bf h st o n/\n<=64/\n<=c
theorem FH.mono{h h':Hp}{k:Nat}{st:Az}(s:sub h h')(r:FH h k st):FH h' k st:=by
 obtain⟨a,b,c,r,d,e,f⟩:=r;exact⟨a,b,c,r,d.mono s,e.mono s,f⟩
def LC(m k kept:Nat)(ab:Az):aG:=Proofs.YtaoaemnefghnbaaGreatDoor.ex λ(x:E×Nat)=>aT [ax m [u (some (Z k)),O (kept:Int),T x.1 ab.length x.2],own 1 x.1 ab.length x.2 (iv ab)]
theorem ny{w:ga}{L:List aG}{m k b:Nat}{a:Az}:W w (LC m k b a::L)↔∃o c,W w (ax m [u (some (Z k)),O (b:Int),T o a.length c]::own 1 o a.length c (iv a)::L):=by simp[LC,W.ex,W.flat]
section
variable{w:ga}{L:List aG}{m k i:Nat}{st r:Az}{a:vP}
theorem Ag(h:w.cell? (Z m)=some (u (some a))):ρ 308 [u (some (Z m))] w λb c=>b=J true/\c=w:=
 uK (gd rfl ⟨_,h,rfl,rfl⟩)
theorem Io(h:W w (LC m k i r::L))(b:∀h,aL L h->FH h k st):ρ 310 [u (some (Z m))] w λa c=>a=O ((min i st.length:Nat):Int)/\hp c=hp w:=by
 refine uM λc d=>?_;have a:=aW d;have h:=h.eq a;obtain⟨s,t,h⟩:=ny.1 h;obtain⟨v,e,x,_⟩:=h.UO;obtain⟨f,g,l,y,n,o,_⟩:=b _ e;have z:=o.1;refine⟨λp=>hp p=hp c,rfl,(i:Int),λp q=>(by rw[ak,cO q,h.cell];rfl:World.cell? p _=_),some<|Z k,λp q=>(by rw[cO q,h.cell];rfl:World.cell? p _=_),f,g,l,λp q=>n.cell η (j:=1) rfl,?_,a⟩
 grind
theorem JL(h:W w (LC m k i r::L))(f:i<=64)(g:r.length<=1000):ρ 305 [u (some (Z m))] w λa b=>a=O ((i+r.length:Nat):Int)/\hp b=hp w:=by
 obtain⟨j,l,h⟩:=ny.1 h;refine tw<|(Ag<|h.cell 0).mono ?_;rintro _ _⟨rfl,rfl⟩;refine⟨_,rfl,bm rfl λb c=>?_⟩;have a:=aW c;have h:=h.eq a;exact⟨λd=>hp d=hp b,rfl,_,λd e=>(by rw[ak,cO e,h.cell];rfl:World.cell? d _=_),_,_,_,λd e=>(by rw[ak,cO e,h.cell];rfl:World.cell? d _=_),ξ,V,a⟩
theorem Zx(h:W w (LC m k i r::L))(b:∀h,aL L h->FH h k st)(X:i<=st.length)(Y:r.length<=1000):ρ 304 [u (some (Z m))] w λa c=>a=O ((0::(st.take i++r)).getLast V)/\hp c=hp w:=by
 have o:=h;obtain⟨p,q,h⟩:=ny.1 h;obtain⟨s,t,a0,_⟩:=h.UO;obtain⟨v,c,x,a1,d,e,a2⟩:=b _ t;have a3:=e.1;refine xx<|(Ag<|h.cell 0).mono ?_;rintro _ _⟨rfl,rfl⟩
 refine⟨_,rfl,bm rfl ⟨_,_,_,(by rw[ak,h.cell];rfl:World.cell? _ _=_),ae (λy=>?_) λy=>?_⟩⟩
 ·have C:0<r.length:=η
  intro g l;have f:=aW l;have a:=h.eq f;obtain⟨F,rfl⟩:=fk a.tail (by simp_all[dq]);have I:=bJ a.tail;refine⟨λn=>hp n=hp g,rfl,_,_,_,λn z=>(by rw[ak,cO z,a.cell];rfl:World.cell? n _=_),_,_,_,λn z=>(by rw[ak,cO z,a.cell];rfl:World.cell? n _=_),ξ,?_⟩;have n:((r.length:Int)-1)=((r.length-1:Nat):Int):=U
  rw[n]
  refine au rfl U ⟨r[r.length-1],λz A=>?_,?_,f⟩
  ·show World.cell? z _=_
   rw[cO A];exact r_ a.tail rfl (by simp[iv])
  grind
 ·have z:r=[]:=j2 η;subst z;refine(Io o b).mono ?_;rintro _ a4⟨rfl,f⟩;have g:min i st.length=i:=U
  rw[g];have l:=h.eq f
  refine⟨_,rfl,ae (λA=>?_) λA=>?_⟩
  ·have a5:0<i:=η
   intro a C;have F:=aW C;have n:=l.eq F;have a6:sub s (hp a):=η
   refine⟨λI=>hp I=hp a,rfl,some<|Z k,λI N=>(by rw[cO N,n.cell];rfl:World.cell? I _=_),v,c,x,λI N=>d.cell η (j:=1) rfl,(Io (ny.2 ⟨p,q,n⟩) b).mono ?_⟩;rintro _ a7⟨rfl,I⟩;rw[g];have N:st[i-1]? =some st[i-1]:=gn U;obtain⟨a8,rfl,P⟩:=e.at N;refine⟨_,rfl,λQ=>hp Q=hp a,I,λR Q=>Q,ξ,?_⟩;have Q:((i:Int)-1)=((i-1:Nat):Int):=U
   rw[Q];have R:i-1<c:=U
   refine au rfl R ⟨_,λS a9=>P S η,?_,η⟩
   grind
  ·have a:i=0:=η
   subst a;exact⟨some<|Z k,(by rw[l.cell];rfl:World.cell? _ _=_),_,d.cell0 η,V,f⟩
end
section
variable{w:ga}{L:List aG}{m k i n:Nat}{st j:Az}{z:Int}
theorem G7(h:W w (LC m k i j::L))(d:i<=64)(e:j.length<=1000):ρ 307 [u (some (Z m)),O z] w λa b=>
  (64<=i+j.length/\a=O 15/\hp b=hp w)\/(i+j.length<64/\a=O 0/\W b (LC m k i (j++[z])::L)):=by
 have f:=h;obtain⟨g,l,h⟩:=ny.1 h;refine vR<|(Ag<|h.cell 0).mono ?_;rintro _ _⟨rfl,rfl⟩;refine⟨_,rfl,bm rfl ((JL f d e).mono ?_)⟩;rintro _ s⟨rfl,n⟩
 refine⟨_,rfl,ae (λo=>?_) λo=>?_⟩
 ·grind
 ·have p:i+j.length<64:=G
  have h:=h.eq n;refine⟨_,_,_,(by rw[ak,h.cell];rfl:World.cell? _ _=_),ag h λt v h=>?_⟩;refine(aU aY (rfl:ai Ty _=.slice _) (rfl:ai Ty _=.slice _) rfl rfl rfl (h.pick 3 [0,2,1]) rfl (by simp[aO]) G U).mono ?_;rintro _ a⟨b,c,rfl,q⟩;refine⟨_,_,_,rfl,?_⟩
  show gh a ((Z m).add 2) _ _
  rw[ak];have r:W a (ax m [u (some<|Z k),O (i:Int),T g j.length l]::own 1 b (j.length+1) c (iv j++[O z])::L):=q.pick 3 [2,0];refine aX r V λx y=>.inr ⟨p,rfl,ny.2 ⟨b,c,?_⟩⟩
  simp_all[iv]
theorem Hm(h:W w (LC m k i j::L))(d:i<=64)(e:j.length<=1000)(x:n<=i+j.length):ρ 306 [u (some (Z m)),O (n:Int)] w λa b=>
  a=O 0/\W b (LC m k (i-(n-j.length)) (j.take (j.length-n))::L):=by
 have f:=h;obtain⟨g,a,h⟩:=ny.1 h
 refine xz ⟨λb c=>b=false/\hp c=hp w,?_,?_⟩
 ·refine(Ag<|h.cell 0).mono ?_;rintro _ _⟨rfl,rfl⟩;refine⟨_,rfl,bm rfl (bm V<|(JL f d e).mono ?_)⟩
  grind
 rintro _ _ y⟨rfl,l⟩;have h:=h.eq l;refine bm rfl ⟨_,_,_,(by rw[ak,h.cell];rfl:World.cell? _ _=_),λb o=>?_⟩;have h:=h.eq<|aW o;have p:(if(j.length:Int)<(n:Int) then(j.length:Int) else(n:Int))=((min n j.length:Nat):Int):=U
 rw[p];have q:(j.length:Int)-((min n j.length:Nat):Int)=((j.length-n:Nat):Int):=U
 have r:(i:Int)-((n:Int)-((min n j.length:Nat):Int))=((i-(n-j.length):Nat):Int):=U
 have z:=bJ h.tail;refine⟨λc=>hp c=hp b,rfl,_,_,_,λc s=>(by rw[ak,cO s,h.cell];rfl:World.cell? c _=_),_,_,_,λc s=>(by rw[ak,cO s,h.cell];rfl:World.cell? c _=_),ξ,?_⟩;rw[q];refine ij U ?_
 show gh b ((Z m).add 2) _ _
 rw[ak];have s:=po (k:=j.length-n) h.swap U;have t:=s.swap;refine aX t V λv c=>?_;refine⟨_,(by rw[ak,c.cell];rfl:World.cell? _ _=_),ξ,ξ,?_⟩;rw[r]
 show gh v ((Z m).add 1) _ _
 rw[ak];refine aX c V λA C=>⟨rfl,ny.2 ⟨f_ g 0 a 1,a,?_⟩⟩
 simp_all[iv,List.map_take]
theorem Ho(h:W w L)(d:∀h,aL L h->FH h k st):ρ 219 [u (some (Z k))] w λa c=>∃b,a=u (some (Z b))/\W c (LC b k st.length []::L):=by
 refine y9 (bm rfl (ag h λb q a=>?_))
 refine(uI<|(Ag<|a.cell 0).mono ?_).mono (R:=λc e=>c=.tuple #[]/\W e (LC b k st.length []::L)) ?_
 ·rintro _ e⟨rfl,rfl⟩;obtain⟨r,f,g,_⟩:=a.freeze;obtain⟨s,t,v,x,i,l,_⟩:=d _ f;have m:=l.1;refine⟨_,rfl,gd rfl ⟨some<|Z k,a.cell 0,_,_,_,i.cell g (j:=1) rfl,?_⟩⟩
  show gh e ((Z b).add 1) _ _
  rw[ak];refine aX a V λn o=>?_
  show gh n ((Z b).add 2) _ _
  rw[ak];refine aX o V λy p=>⟨rfl,ny.2 ⟨none,0,?_⟩⟩;have c:=aH 1 p;rw[<-m] at c;exact c.swap
 simp
end
end Go.Proofs.YtaoaemnefghnbaaGreatDoor
