/- A part of the claim. -/
import Derived.Test.YtaoaemnefghnbaaGreatDoorG6
import Derived.Test.YtaoaemnefghnbaaGreatDoorG4
import Derived.Test.YtaoaemnefghnbaaGreatDoorG2
import Derived.Test.YtaoaemnefghnbaaGreatDoorG5
import Derived.Lib.AppendZerosOnto
import Derived.Lib.Overlaps
set_option linter.unusedVariables false
set_option linter.unusedSectionVars false
set_option maxRecDepth 100000
set_option maxHeartbeats 16000000
namespace Go.Proofs.YtaoaemnefghnbaaGreatDoor
open Tryz
section
variable{α:Type}{k:α->Int}
inductive T3 (k:α->Int) (bs:Nat):List α->Prop
 |last (l:List α):l.length<=bs->oD k l->T3 k bs l
 |more (l m:List α):l.length=bs->oD k l->T3 k bs m->T3 k bs (l++m)
inductive qm (k:α->Int) (bs:Nat):List α->Prop
 |nil:qm k bs []
 |snoc (d l:List α):qm k bs d->l.length=bs->oD k l->qm k bs (d++l)
theorem qm.rns{bs:Nat}{d:List α}(h:qm k bs d):∀e,T3 k bs e->T3 k bs (d++e):=by
 induction h with
 |nil=>simp
 |snoc d a _ b c f=>exactλe u=>by rw[jT];exact f _ (.more a e b c u)
theorem T3.srt{bs:Nat}{l:List α}(h:T3 k bs l)(b:l.length<=bs):oD k l:=by
 cases h with
 |last _ _ a=>omega
 |more c a d e f=>
  have:a=[]:=j2 G
  simp_all
theorem T3.cut{bs:Nat}{l:List α}(h:T3 k bs l)(b:bs<l.length):∃a m,l=a++m/\a.length=bs/\oD k a/\T3 k bs m/\m≠[]:=by
 cases h with
 |last _ c _=>omega
 |more a m c d e=>grind
def LoQ(X Y:List qH)(H s0 s:Nat):Prop:=s=s0\/∃x y,X[s-1]? =some x/\Y[H-s]? =some y/\ji x<=ji y
def HiQ(X Y:List qH)(H r0 r:Nat):Prop:=r=r0\/∃x y,X[r]? =some x/\Y[H-r-1]? =some y/\ji y<ji x
theorem ads{n:Nat}(h:n<=4000000):mD (n:Int)=((n/2:Nat):Int):=by
 have e:IntKind.u64.wrap (n:Int)=(n:Int):=by grind[IntKind.wrap,IntKind.signed,IntKind.bits,Int.emod_eq_of_lt]
 exact(congrArg (bj .u64 · 1) e).trans (Jg (s:=1) V)
end
section
variable{w:ga}{L:List aG}{o:E}{n c:Nat}{d:aM}{e:Ay}
theorem Hb{i j:Nat}(h:i+j<=4000000):mD ((i:Int)+(j:Int))=(((i+j)/2:Nat):Int):=by
 rw[<-ads h];simp
theorem KG(p:u0 d e)(N:Nat):∀{w:ga}{L:List aG}{A X Y C:List qH}{xs:List qH}{a m b:Int}(h:W w (own 3 o n c (gY xs)::L))(ba:xs=A++(X++(Y++C)))(bb:a=A.length)(bc:m=((A.length+X.length:Nat):Int))(bd:b=((A.length+X.length+Y.length:Nat):Int))(be:X≠[])(bi:Y≠[])(bl:X.length+Y.length<=N)
  (hsX:oD ji X) (hsY:oD ji Y) (hs:∀x∈X++Y,Sq x) (hn:xs.length<=1000000),
  ρ 388 [T o n c,O a,O m,O b,.func (.func d) #[] ⟨e⟩] w λa7 a8=>a7=.tuple #[]/\∃S,S.Perm (X++Y)/\oD ji S/\W a8 (own 3 o n c (gY (A++(S++C)))::L):=by
 induction N with
 |zero=>simp_all
 |succ N ih=>
 intro w L A X Y C xs a m b h z a9 aa ab ac ad bo hsX hsY hs hn;have bs:xs.length=A.length+X.length+Y.length+C.length:=G
 have bu:=qW.2 ac;have bz:=qW.2 ad;have bE:=O2 h;have bN:n<=1000000:=U
 have q:∀x∈X,Sq x:=λx f=>hs x G;have r:∀x∈Y,Sq x:=λx f=>hs x G;have s:ns 1:=by simp[ns]
 subst a9 aa ab
 --what stands at a place
 have F:∀f,f<X.length->∃x,X[f]? =some x/\xs[A.length+f]? =some x:=λg f=>by
  refine⟨_,gn f,?_⟩;rw[z,kL U,mu,ki f,gn f]
 have I:∀f,f<Y.length->∃g,Y[f]? =some g/\xs[A.length+X.length+f]? =some g:=λg f=>by
  refine⟨_,gn f,?_⟩;rw[z,kL U,show A.length+X.length+g-A.length=X.length+g by omega,kL U,mu,ki f,gn f]
 have al:(((A.length+X.length:Nat):Int)-A.length==1)=decide (X.length=1):=G
 have am:(((A.length+X.length+Y.length:Nat):Int)-((A.length+X.length:Nat):Int)==1)=decide (Y.length=1):=G
 refine jz ⟨ξ,?_⟩;rw[al]
 refine ae (λP=>?_) λP=>?_
 ·--one on the left
  have R:=gZ P;obtain⟨x,a0⟩:∃x,X=[x]:=List.length_eq_one_iff.1 R;subst a0;obtain⟨_,a1,a2⟩:=F 0 V;cases a1;have a3:Sq x:=q x V;refine⟨λa4 a5 a6=>∃f g:Nat,a4=((A.length+1+f:Nat):Int)/\a5=((A.length+1+g:Nat):Int)/\f<=g/\g<=Y.length/\(∀i,0<f->Y[f-1]? =some i->ji i<ji x)/\(∀i,Y[g]? =some i->ji x<=ji i)/\W a6 (own 3 o n c (gY xs)::L),λf g _=>g.toNat-f.toNat,⟨0,Y.length,V,V,gu _,gP _,λg f=>absurd f U,λf g=>G,h⟩,?_⟩;clear h;rintro _ _ _ b7⟨g,i,rfl,rfl,b9,an,ao,ap,h⟩
  refine ae (λav=>?_) λav=>?_
  ·have b3:g<i:=G
   rw[Hb U];obtain⟨f,b4⟩:∃j,j=(g+i)/2:=⟨_,rfl⟩;have az:(A.length+1+g+(A.length+1+i))/2=A.length+1+f:=U
   rw[az];have b5:f<i:=U
   have aB:g<=f:=U
   obtain⟨j,aK,aR⟩:=I f U;have aS:xs[A.length+1+f]? =some j:=aR;refine⟨ξ,s,ξ,λt aV=>?_⟩;have h:=h.eq<|aW aV;obtain⟨b6,k,b0⟩:=T1 h aS;obtain⟨bO,v,b1⟩:=T1 h a2;rw[k] at v;cases v;refine⟨λl=>Gr t l,Gr.refl _,aI k U ⟨_,_,_,_,_,λy l=>b0.at l rfl,aI k U ⟨_,_,_,_,_,λy l=>b1.at l rfl,bn.2 ⟨p.1,(p.2 j x t (r j<|gg aK) a3).mono ?_⟩⟩⟩⟩;rintro _ bP⟨bT,rfl,y,Q⟩;have h:=h.gr Q
   refine⟨_,rfl,Q,ae (λl=>?_) λl=>?_⟩
   ·have b2:=y.1 (gZ l)
    refine⟨ξ,⟨f+1,i,by rfl,rfl,U,an,λc0 _ c1=>?_,ap,h⟩,?_⟩
    ·grind
    ·show((A.length+1+i:Nat):Int).toNat-(((A.length+1+f:Nat):Int)+1).toNat<((A.length+1+i:Nat):Int).toNat-((A.length+1+g:Nat):Int).toNat
     omega
   ·have c0:¬ji j<ji x:=λb2=>(hY l) (y.2 b2)
    refine⟨⟨g,f,rfl,rfl,aB,U,ao,λb2 c1=>?_,h⟩,?_⟩
    ·grind
    ·show((A.length+1+f:Nat):Int).toNat-((A.length+1+g:Nat):Int).toNat<((A.length+1+i:Nat):Int).toNat-((A.length+1+g:Nat):Int).toNat
     omega
  have az:g=i:=G
  subst az;refine⟨λj k=>∃f:Nat,j=((A.length+f:Nat):Int)/\f<=g/\W k (own 3 o n c (gY<|A++(Y.take f++x::(Y.drop f++C)))::L),λf _=>A.length+g-f.toNat,⟨0,V,gu _,G⟩,?_⟩;clear h;rintro _ _ bO⟨f,rfl,bP,h⟩;refine⟨ξ,ae (λaB=>?_) λaB=>?_⟩
  rotate_left
  ·have k:f=g:=G
   subst k;have l:oD ji (Y.take f++Y.drop f):=by grind[List.take_append_drop]
   refine⟨rfl,Y.take f++x::Y.drop f,?_,OT l (λt j=>?_) (λt j=>?_),G⟩
   ·refine lh.trans ?_;simp
   ·have v:0<f:=mB λe=>G
    rw[sw,k5,show min f Y.length-1=f-1 by omega,nN,gD U] at j
    grind
   ·rw[List.head?_eq_getElem?,kI,Nat.add_zero] at j
    grind
  have bT:f<g:=G
  intro aK aR;have h:=h.eq<|aW aR;obtain⟨j,aS⟩:∃k,Y[f]? =some k:=⟨_,gn U⟩;have c0:Y.drop f=j::Y.drop (f+1):=by grind[List.drop_eq_getElem_cons,List.getElem?_eq_getElem,Option.some.inj]
  obtain⟨l,aV⟩:∃k,k=A++(Y.take f++x::(Y.drop f++C)):=⟨_,rfl⟩;rw[<-aV] at h;have b0:(A++Y.take f).length=A.length+f:=by simp;omega
  have t:l=(A++Y.take f)++x::([]++j::(Y.drop (f+1)++C)):=G
  have b1:l[A.length+f]? =some x:=by grind[wB]
  have b2:l[A.length+f+1]? =some j:=by
   rw[t,show(A++Y.take f)++x::([]++j::(Y.drop (f+1)++C))=((A++Y.take f)++[x])++j::(Y.drop (f+1)++C) by simp]
   grind[wB,List.length_append]
  have c1:=O2 h;have v:A.length+f<n:=U
  have y:A.length+f+1<n:=U
  obtain⟨c2,k,b3⟩:=T1 h b1;obtain⟨c3,Q,b4⟩:=T1 h b2;rw[k] at Q;cases Q;have b5:((A.length+f:Nat):Int)+1=((A.length+f+1:Nat):Int):=V
  rw[b5]
  refine⟨λb6=>hp b6=hp aK,rfl,ξ,ξ,aI k y ⟨_,_,_,_,_,λb6 e=>b4.at (by grind[sub.refl]) rfl,aI k v ⟨_,_,_,_,_,λb6 e=>b3.at (by grind[sub.refl]) rfl,aI k v<|pw (x:=j) h k U λb6 h=>aI k y<|pw (x:=x) h k G λc4 h=>⟨ξ,⟨f+1,rfl,U,?_⟩,?_⟩⟩⟩⟩
  ·have c5:(l.set (A.length+f) j).set (A.length+f+1) x=A++(Y.take (f+1)++x::(Y.drop (f+1)++C)):=by
    rw[t,Eh b0.symm G,iw,aS];simp
   grind
  ·show A.length+g-((A.length+f+1:Nat):Int).toNat<A.length+g-((A.length+f:Nat):Int).toNat
   omega
 have bO:X.length≠1:=hY P;refine⟨ξ,?_⟩;rw[am]
 refine ae (λQ=>?_) λQ=>?_
 ·--one on the right
  have a3:=gZ Q;obtain⟨g,a4⟩:∃f,Y=[f]:=List.length_eq_one_iff.1 a3;subst a4;obtain⟨_,a5,a6⟩:=I 0 V;cases a5;have an:Sq g:=r g V;refine⟨λao ap av=>∃f i:Nat,ao=((A.length+f:Nat):Int)/\ap=((A.length+i:Nat):Int)/\f<=i/\i<=X.length/\(∀x,0<f->X[f-1]? =some x->ji x<=ji g)/\(∀x,X[i]? =some x->ji g<ji x)/\W av (own 3 o n c (gY xs)::L),λf i _=>i.toNat-f.toNat,⟨0,X.length,V,rfl,gu _,gP _,λx f=>absurd f U,λx f=>G,h⟩,?_⟩;clear h;rintro _ _ _ bP⟨i,k,rfl,rfl,bT,v,az,aB,h⟩
  refine ae (λaK=>?_) λaK=>?_
  ·have b2:i<k:=G
   rw[Hb U];obtain⟨f,b3⟩:∃j,j=(i+k)/2:=⟨_,rfl⟩;have R:(A.length+i+(A.length+k))/2=A.length+f:=U
   rw[R];have b4:f<k:=U
   have a0:i<=f:=U
   obtain⟨x,a1,a2⟩:=F f U;refine⟨ξ,s,ξ,λl aR=>?_⟩;have h:=h.eq<|aW aR;obtain⟨b5,j,aS⟩:=T1 h a6;obtain⟨b6,t,aV⟩:=T1 h a2;rw[j] at t;cases t;refine⟨λy=>Gr l y,Gr.refl _,aI j U ⟨_,_,_,_,_,λb0 y=>aS.at y rfl,aI j U ⟨_,_,_,_,_,λb0 y=>aV.at y rfl,bn.2 ⟨p.1,(p.2 g x l an<|q x<|gg a1).mono ?_⟩⟩⟩⟩;rintro _ b7⟨b9,rfl,b0,y⟩;have h:=h.gr y
   refine⟨_,rfl,y,ae (λb1=>?_) λb1=>?_⟩
   ·have c0:¬ji g<ji x:=λc1=>G
    refine⟨ξ,⟨f+1,k,by rfl,rfl,U,v,λc1 _ c2=>?_,aB,h⟩,?_⟩
    ·grind
    ·show((A.length+k:Nat):Int).toNat-(((A.length+f:Nat):Int)+1).toNat<((A.length+k:Nat):Int).toNat-((A.length+i:Nat):Int).toNat
     omega
   ·have c0:ji g<ji x:=b0.1 G
    refine⟨⟨i,f,rfl,rfl,a0,U,az,λc1 c2=>?_,h⟩,?_⟩
    ·grind
    ·show((A.length+f:Nat):Int).toNat-((A.length+i:Nat):Int).toNat<((A.length+k:Nat):Int).toNat-((A.length+i:Nat):Int).toNat
     omega
  have aR:i=k:=G
  subst aR;refine⟨λj l=>∃f:Nat,j=((A.length+f:Nat):Int)/\i<=f/\f<=X.length/\W l (own 3 o n c (gY<|A++(X.take f++g::(X.drop f++C)))::L),λf _=>f.toNat,⟨X.length,rfl,v,gP _,G⟩,?_⟩;clear h;rintro _ _ c0⟨j,rfl,c1,c2,h⟩;refine ae (λaS=>?_) λaS=>?_
  rotate_left
  ·have l:j=i:=G
   subst l;have t:oD ji (X.take j++X.drop j):=by grind[List.take_append_drop]
   refine⟨rfl,X.take j++g::X.drop j,?_,OT t (λx f=>?_) (λx f=>?_),G⟩
   ·refine lh.trans ?_;rw[l9]
    grind[List.perm_append_singleton]
   ·have y:0<j:=mB λe=>G
    rw[sw,k5,show min j X.length-1=j-1 by omega,nN,gD U] at f
    grind
   ·rw[List.head?_eq_getElem?,kI,Nat.add_zero] at f
    grind
  have c3:i<j:=G
  obtain⟨f,rfl⟩:∃l,j=l+1:=⟨j-1,U⟩;intro aV b0;have h:=h.eq<|aW b0;obtain⟨x,b1⟩:∃x,X[f]? =some x:=⟨_,gn U⟩;obtain⟨t,y⟩:∃l,l=A++(X.take (f+1)++g::(X.drop (f+1)++C)):=⟨_,rfl⟩;rw[<-y] at h;have b2:(A++X.take f).length=A.length+f:=by simp;omega
  have R:t=(A++X.take f)++x::([]++g::(X.drop (f+1)++C)):=by rw[y,iw,b1];simp
  have b3:t[A.length+f]? =some x:=by grind[wB]
  have b4:t[A.length+(f+1)]? =some g:=by
   rw[R,show(A++X.take f)++x::([]++g::(X.drop (f+1)++C))=((A++X.take f)++[x])++g::(X.drop (f+1)++C) by simp];exact wB G
  have c4:=O2 h;have a0:A.length+f<n:=U
  have a1:A.length+(f+1)<n:=U
  obtain⟨c5,l,b5⟩:=T1 h b3;obtain⟨c6,a2,b6⟩:=T1 h b4;rw[l] at a2;cases a2;have b7:((A.length+(f+1):Nat):Int)-1=((A.length+f:Nat):Int):=U
  rw[b7]
  refine⟨λb9=>hp b9=hp aV,rfl,ξ,ξ,aI l a0 ⟨_,_,_,_,_,λb9 e=>b5.at (by grind[sub.refl]) rfl,aI l a1 ⟨_,_,_,_,_,λb9 e=>b6.at (by grind[sub.refl]) rfl,aI l a1<|pw (x:=x) h l U λc7 h=>aI l a0<|pw (x:=g) h l G λc8 h=>⟨ξ,⟨f,rfl,U,U,?_⟩,?_⟩⟩⟩⟩
  ·have b9:X.drop f=x::X.drop (f+1):=by grind[List.drop_eq_getElem_cons,List.getElem?_eq_getElem,Option.some.inj]
   have c9:(t.set (A.length+(f+1)) x).set (A.length+f) g=A++(X.take f++g::(X.drop f++C)):=by
    rw[List.set_comm _ _ U,R,Eh b2.symm G,b9];simp
   grind
  ·show((A.length+f:Nat):Int).toNat<((A.length+(f+1):Nat):Int).toNat
   omega
 have b5:Y.length≠1:=hY Q
 --the halves
 obtain⟨i,an⟩:∃f,f=(X.length+Y.length)/2:=⟨_,rfl⟩;have a2:(A.length+(A.length+X.length+Y.length))/2=A.length+i:=U
 have b6:0<i:=U
 have b7:i<X.length+Y.length:=U
 have b9:2*i<=X.length+Y.length:=U
 have bP:X.length+Y.length<=2*i+1:=U
 rw[Hb U,a2];clear an a2
 refine⟨ξ,s,ξ,ξ,λj k l=>∃g f:Nat,j=((A.length+g:Nat):Int)/\k=((A.length+f:Nat):Int)/\g<=f/\f<=X.length/\f<=i/\i-g<=Y.length/\(g=0\/i-g=Y.length)/\(f=X.length\/f=i)/\hp l=hp w,?_,?_⟩
 ·refine ae (λf=>?_) λf=>?_
  ·have g:i<X.length:=G
   exact⟨ξ,i-Y.length,i,U,by rfl,U,U,U,U,U,U,rfl⟩
  ·have g:X.length<=i:=G
   exact⟨0,X.length,V,rfl,gu _,gP _,g,U,.inl rfl,.inl rfl,rfl⟩
 rintro _ _ _ bT⟨R,a0,rfl,rfl,ao,c0,c1,c2,c3,c4,ap⟩;have h:=h.eq ap;obtain⟨c5,c6⟩:∃f,f=A.length+i+(A.length+X.length):=⟨_,rfl⟩;refine⟨ξ,λj k l=>∃f g:Nat,j=((A.length+f:Nat):Int)/\k=((A.length+g:Nat):Int)/\R<=f/\f<=g/\g<=a0/\LoQ X Y i R f/\HiQ X Y i a0 g/\W l (own 3 o n c (gY xs)::L),λf g _=>g.toNat-f.toNat,⟨R,a0,rfl,rfl,gP _,ao,gP _,.inl rfl,.inl rfl,h⟩,?_⟩;clear h;rintro _ _ _ c7⟨f,j,rfl,rfl,bQ,c8,av,a3,a4,h⟩
 refine ae (λaz=>?_) λaz=>?_
 ·have c9:f<j:=G
  rw[Hb U];obtain⟨g,ca⟩:∃k,k=(f+j)/2:=⟨_,rfl⟩;have a6:(A.length+f+(A.length+j))/2=A.length+g:=U
  rw[a6];have cb:g<j:=U
  have aB:f<=g:=U
  have aK:((A.length+i:Nat):Int)+((A.length+X.length:Nat):Int)-1-((A.length+g:Nat):Int)=((A.length+X.length+(i-g-1):Nat):Int):=U
  rw[aK];obtain⟨x,t,aR⟩:=F g U;obtain⟨k,v,aS⟩:=I (i-g-1) U;refine⟨ξ,s,ξ,λy aV=>?_⟩;have h:=h.eq<|aW aV;obtain⟨cc,l,b0⟩:=T1 h aS;obtain⟨cd,a1,b1⟩:=T1 h aR;rw[l] at a1;cases a1;refine⟨λa5=>Gr y a5,Gr.refl _,ξ,aI l U ⟨_,_,_,_,_,λb2 a5=>b0.at a5 rfl,aI l U ⟨_,_,_,_,_,λb2 a5=>b1.at a5 rfl,bn.2 ⟨p.1,(p.2 k x y (r k<|gg v)<|q x<|gg t).mono ?_⟩⟩⟩⟩;rintro _ ce⟨cg,rfl,b2,a5⟩;have h:=h.gr a5
  refine⟨_,rfl,a5,ae (λb3=>?_) λb3=>?_⟩
  ·have b4:¬ji k<ji x:=λch=>G
   refine⟨ξ,⟨g+1,j,by rfl,rfl,U,U,av,.inr ⟨x,k,G,U,U⟩,a4,h⟩,?_⟩
   show((A.length+j:Nat):Int).toNat-(((A.length+g:Nat):Int)+1).toNat<((A.length+j:Nat):Int).toNat-((A.length+f:Nat):Int).toNat
   omega
  ·have b4:ji k<ji x:=b2.1 G;refine⟨⟨f,g,rfl,rfl,bQ,aB,U,a3,.inr ⟨x,k,t,v,b4⟩,h⟩,?_⟩
   show((A.length+g:Nat):Int).toNat-((A.length+f:Nat):Int).toNat<((A.length+j:Nat):Int).toNat-((A.length+f:Nat):Int).toNat
   omega
 have aB:f=j:=G
 subst aB;obtain⟨g,aK⟩:∃k,k=i-f:=⟨_,rfl⟩;have c9:g<=Y.length:=U
 have aR:((A.length+i:Nat):Int)+((A.length+X.length:Nat):Int)-((A.length+f:Nat):Int)=((A.length+X.length+g:Nat):Int):=U
 rw[aR];have t:oD ji (X.take f++X.drop f):=by grind[List.take_append_drop]
 have v:oD ji (Y.take g++Y.drop g):=by grind[List.take_append_drop]
 have y:(X.take f).length=f:=G
 have a5:(X.drop f).length=X.length-f:=V
 have l:(Y.take g).length=g:=G
 have ca:(Y.drop g).length=Y.length-g:=V
 have aS:∀x k,(X.take f).getLast? =some x->(Y.drop g).head? =some k->ji x<=ji k:=λx a6 k a1=>by
  have aV:0<f:=mB λe=>G
  rw[sw,y,nN,gD U] at k;rw[List.head?_eq_getElem?,kI,Nat.add_zero] at a1
  rcases a3 with e|⟨b0,b1,b2,b3,b4⟩
  ·grind
  grind
 have aV:∀x k,(Y.take g).getLast? =some x->(X.drop f).head? =some k->ji x<=ji k:=λx b1 k a1=>by
  have b2:0<g:=mB λe=>G
  rw[sw,l,nN,gD U] at k;rw[List.head?_eq_getElem?,kI,Nat.add_zero] at a1
  rcases a4 with e|⟨b3,b4,a6,b0,cb⟩
  ·grind
  ·rw[a1] at a6;cases a6;rw[<-aK,k] at b0;grind
 have rest:∀k,W k (own 3 o n c (gY<|A++(X.take f++(Y.take g++(X.drop f++(Y.drop g++C)))))::L)->br (decide ((A.length:Int)<((A.length+f:Nat):Int))) (br (decide (((A.length+f:Nat):Int)<((A.length+i:Nat):Int))) (ρ 388 [T o n c,O (A.length:Int),O ((A.length+f:Nat):Int),O ((A.length+i:Nat):Int),.func (.func d) #[] ⟨e⟩] k λa6 a1=>a6=.tuple #[]/\br (decide (((A.length+i:Nat):Int)<((A.length+X.length+g:Nat):Int))) (br (decide (((A.length+X.length+g:Nat):Int)<((A.length+X.length+Y.length:Nat):Int))) (ρ 388 [T o n c,O ((A.length+i:Nat):Int),O ((A.length+X.length+g:Nat):Int),O ((A.length+X.length+Y.length:Nat):Int),.func (.func d) #[] ⟨e⟩] a1 λb0 b1=>b0=.tuple #[]/\((.tuple #[]:ah)=.tuple #[]/\∃S,S.Perm (X++Y)/\oD ji S/\W b1 (own 3 o n c (gY<|A++(S++C))::L))) ((.tuple #[]:ah)=.tuple #[]/\∃S,S.Perm (X++Y)/\oD ji S/\W a1 (own 3 o n c (gY<|A++(S++C))::L))) ((.tuple #[]:ah)=.tuple #[]/\∃S,S.Perm (X++Y)/\oD ji S/\W a1 (own 3 o n c (gY<|A++(S++C))::L)))
   (br (decide (((A.length+i:Nat):Int)<((A.length+X.length+g:Nat):Int))) (br (decide (((A.length+X.length+g:Nat):Int)<((A.length+X.length+Y.length:Nat):Int))) (ρ 388 [T o n c,O ((A.length+i:Nat):Int),O ((A.length+X.length+g:Nat):Int),O ((A.length+X.length+Y.length:Nat):Int),.func (.func d) #[] ⟨e⟩] k λa1 a6=>a1=.tuple #[]/\((.tuple #[]:ah)=.tuple #[]/\∃S,S.Perm (X++Y)/\oD ji S/\W a6 (own 3 o n c (gY<|A++(S++C))::L))) ((.tuple #[]:ah)=.tuple #[]/\∃S,S.Perm (X++Y)/\oD ji S/\W k (own 3 o n c (gY<|A++(S++C))::L))) ((.tuple #[]:ah)=.tuple #[]/\∃S,S.Perm (X++Y)/\oD ji S/\W k (own 3 o n c (gY<|A++(S++C))::L))))
   (br (decide (((A.length+i:Nat):Int)<((A.length+X.length+g:Nat):Int))) (br (decide (((A.length+X.length+g:Nat):Int)<((A.length+X.length+Y.length:Nat):Int))) (ρ 388 [T o n c,O ((A.length+i:Nat):Int),O ((A.length+X.length+g:Nat):Int),O ((A.length+X.length+Y.length:Nat):Int),.func (.func d) #[] ⟨e⟩] k λa1 a6=>a1=.tuple #[]/\((.tuple #[]:ah)=.tuple #[]/\∃S,S.Perm (X++Y)/\oD ji S/\W a6 (own 3 o n c (gY<|A++(S++C))::L))) ((.tuple #[]:ah)=.tuple #[]/\∃S,S.Perm (X++Y)/\oD ji S/\W k (own 3 o n c (gY<|A++(S++C))::L))) ((.tuple #[]:ah)=.tuple #[]/\∃S,S.Perm (X++Y)/\oD ji S/\W k (own 3 o n c (gY<|A++(S++C))::L))):=by
  intro cb h
  --the Z half
  have Z:∀{k:ga}{S1:List qH},S1.Perm (X.take f++Y.take g)->oD ji S1->W k (own 3 o n c (gY<|A++(S1++(X.drop f++(Y.drop g++C))))::L)->br (decide (((A.length+i:Nat):Int)<((A.length+X.length+g:Nat):Int))) (br (decide (((A.length+X.length+g:Nat):Int)<((A.length+X.length+Y.length:Nat):Int))) (ρ 388 [T o n c,O ((A.length+i:Nat):Int),O ((A.length+X.length+g:Nat):Int),O ((A.length+X.length+Y.length:Nat):Int),.func (.func d) #[] ⟨e⟩] k λa1 a6=>a1=.tuple #[]/\((.tuple #[]:ah)=.tuple #[]/\∃S,S.Perm (X++Y)/\oD ji S/\W a6 (own 3 o n c (gY<|A++(S++C))::L))) ((.tuple #[]:ah)=.tuple #[]/\∃S,S.Perm (X++Y)/\oD ji S/\W k (own 3 o n c (gY<|A++(S++C))::L))) ((.tuple #[]:ah)=.tuple #[]/\∃S,S.Perm (X++Y)/\oD ji S/\W k (own 3 o n c (gY<|A++(S++C))::L)):=by
   intro cc S1 a1 b0 h;have b1:S1.length=f+g:=by rw[a1.length_eq,jw,y,l]
   have k:∀{a6:ga}{S2:List qH},S2.Perm (X.drop f++Y.drop g)->oD ji S2->W a6 (own 3 o n c (gY<|A++(S1++(S2++C)))::L)->∃S,S.Perm (X++Y)/\oD ji S/\W a6 (own 3 o n c (gY<|A++(S++C))::L):=λ{b3 S2} a6 b2 h=>by
    obtain⟨b4,cd⟩:=TT t v aS aV a1 b0 a6 b2
    grind[List.take_append_drop,List.append_assoc]
   refine ae (λa6=>?_) λa6=>?_
   rotate_left
   ·have:X.drop f=[]:=j2 G;exact⟨rfl,k (S2:=X.drop f++Y.drop g) (.refl _) G G⟩
   have cd:f<X.length:=G
   refine ae (λb2=>?_) λb2=>?_
   rotate_left
   ·have:Y.drop g=[]:=j2 G;exact⟨rfl,k (S2:=X.drop f++Y.drop g) (.refl _) G G⟩
   have ce:g<Y.length:=G
   refine(ih (A:=A++S1) (X:=X.drop f) (Y:=Y.drop g) (C:=C) h V G G G (λb3=>G) (λb3=>G) U (mi.1 t).2.1 (mi.1 v).2.1 (λcg ch=>?_) (by simp[b1];omega)).mono ?_
   ·grind
   rintro _ ci⟨rfl,S2,b3,b4,h⟩;exact⟨rfl,rfl,k b3 b4 G⟩
  refine ae (λa6=>?_) λa6=>?_
  rotate_left
  ·have:X.take f=[]:=j2 G;exact Z (S1:=X.take f++Y.take g) (.refl _) (by rw[this,l7];exact(mi.1 v).1) G
  have b3:0<f:=G
  refine ae (λb0=>?_) λb0=>?_
  rotate_left
  ·have:Y.take g=[]:=j2 G;exact Z (S1:=X.take f++Y.take g) (.refl _) (by rw[this,jK];exact(mi.1 t).1) G
  have b4:0<g:=G
  refine(ih (A:=A) (X:=X.take f) (Y:=Y.take g) (C:=X.drop f++(Y.drop g++C)) h rfl rfl U U (λk=>by rw[k] at y;simp at y;omega) (λk=>by rw[k] at l;simp at l;omega) U (mi.1 t).1 (mi.1 v).1 (λa1 b1=>?_) (by simp;omega)).mono ?_
  ·rcases iU.1 b1 with k|k
   ·exact q a1 (List.mem_of_mem_take k)
   ·exact r a1 (List.mem_of_mem_take k)
  rintro _ cc⟨rfl,S1,k,b2,h⟩;exact⟨rfl,Z k b2 h⟩
 refine⟨ξ,λk=>W k<|own 3 o n c (gY<|A++(X.take f++(Y.take g++(X.drop f++(Y.drop g++C)))))::L,?_,λ_ k h=>rest k h⟩
 have b0:xs=A++(X.take f++(X.drop f++(Y.take g++(Y.drop g++C)))):=by
  rw[z,<-jT (X.take f),l9,<-jT (Y.take g),l9]
 refine ae (λk=>?_) λk=>?_
 rotate_left
 ·have:X.drop f=[]:=j2 G
  grind
 have b1:f<X.length:=G
 refine ae (λa1=>?_) λa1=>?_
 rotate_left
 ·have:Y.take g=[]:=j2 G
  grind
 have b2:0<g:=G
 refine(aaO (A:=A++X.take f) (X:=X.drop f) (Y:=Y.take g) (C:=Y.drop g++C) h G (by simp;omega) (by simp;omega) (by simp;omega) (λa6=>by rw[a6] at a5;simp at a5;omega) (λa6=>by rw[a6] at l;simp at l;omega) hn).mono ?_;simp
end
section
variable{w:ga}{L:List aG}{o:E}{n c:Nat}{d:aM}{e:Ay}
theorem aaP{xs:List qH}(j:u0 d e)(h:W w (own 3 o n c (gY xs)::L))(z:∀x∈xs,Sq x)(am:n<=100000):
  ρ 357 [T o n c,O (n:Int),.func (.func d) #[] ⟨e⟩] w λS a0=>S=.tuple #[]/\∃a,a.Perm xs/\oD ji a/\W a0 (own 3 o n c (gY a)::L):=by
 have an:=O2 h;refine kW ⟨λf g i=>∃a b:List qH,f=(a.length:Int)/\g=(a.length:Int)+20/\(a++b).Perm xs/\qm ji 20 a/\W i (own 3 o n c (gY<|a++b)::L),λa _ _=>n-a.toNat,⟨[],xs,rfl,rfl,.refl _,.nil,h⟩,?_⟩;clear h;rintro _ _ _ ao⟨f,g,rfl,rfl,hp,m,h⟩;have a1:f.length+g.length=xs.length:=by have:=hp.length_eq;simp_all
 have p:∀x∈g,Sq x:=λx a=>z x (hp.mem_iff.1 G)
 refine ae (λa2=>?_) λa2=>?_
 ·have q:f.length+20<=n:=G
  have b:(g.take 20).length=20:=G
  refine(RK (A:=f) (X:=g.take 20) (C:=g.drop 20) j h V rfl U (λx a=>p x<|List.mem_of_mem_take a) G).mono ?_;rintro _ r⟨rfl,a,i,k,h⟩;have l:a.length=20:=by rw[i.length_eq,b]
  refine⟨rfl,ξ,⟨f++a,g.drop 20,G,G,?_,.snoc f a m l k,η⟩,?_⟩
  ·grind[List.append_assoc,List.Perm.append_left,trans,List.take_append_drop]
  grind
 have a3:n<f.length+20:=G
 refine(RK (A:=f) (X:=g) (C:=[]) j h V rfl U p G).mono ?_;rintro _ ap⟨rfl,i,q,F,h⟩;have a4:i.length=g.length:=q.length_eq;have I:T3 ji 20 (f++i):=m.rns i<|.last i U F;have N:(f++i).Perm xs:=(List.Perm.append_left _ q).trans hp;refine⟨rfl,λk l=>∃(a:Nat)(b:List qH),k=a/\20<=a/\a<=200000/\b.Perm xs/\T3 ji a b/\W l (own 3 o n c (gY b)::L),λa _=>n-a.toNat,⟨20,f++i,rfl,gP _,U,N,I,η⟩,?_⟩;clear h hp m N I q F a4 a1 p a3;rintro _ _ av⟨a,r,rfl,az,aB,hp,s,h⟩;have a5:r.length=n:=by rw[hp.length_eq];omega
 refine ae (λa6=>?_) λa6=>?_
 rotate_left
 ·have b:n<=a:=η
  exact⟨rfl,r,hp,s.srt U,h⟩
 have aK:a<n:=η
 have a7:2*(a:Int)=((2*a:Nat):Int):=V
 rw[a7];refine⟨ξ,λl t v=>∃b k:List qH,l=(b.length:Int)/\t=((b.length+2*a:Nat):Int)/\(b++k).Perm xs/\qm ji (2*a) b/\T3 ji a k/\W v (own 3 o n c (gY<|b++k)::L),λb _ _=>n-b.toNat,⟨[],r,rfl,V,hp,.nil,s,h⟩,?_⟩;clear h hp s a5;rintro _ _ _ aR⟨b,k,rfl,rfl,hp,P,t,h⟩;have aS:b.length+k.length=xs.length:=by have:=hp.length_eq;simp_all
 have Q:∀x∈k,Sq x:=λx l=>z x (hp.mem_iff.1 G)
 refine ae (λa8=>?_) λa8=>?_
 ·have aV:b.length+2*a<=n:=G
  obtain⟨X,l,rfl,b0,a9,y,_⟩:=t.cut U;have b1:a<=l.length:=G
  obtain⟨Y,R,rfl,b2,aa,ab⟩:∃Y v,l=Y++v/\Y.length=a/\oD ji Y/\T3 ji a v:=by
   by_cases e:l.length=a
   ·exact⟨l,[],V,e,y.srt U,.last [] (gu _) .nil⟩
   ·obtain⟨Y,v,ac,ad,al,b3,_⟩:=y.cut U
    grind
  refine⟨ξ,(KG j (X.length+Y.length) (A:=b) (X:=X) (Y:=Y) (C:=R) h V rfl U U (λv=>G) (λv=>G) (gP _) a9 aa (λx b3=>Q x ?_) G).mono ?_⟩
  ·grind
  rintro _ b4⟨rfl,v,ac,ad,h⟩;have al:v.length=2*a:=by rw[ac.length_eq,jw];omega
  refine⟨rfl,ξ,ξ,⟨b++v,R,G,G,?_,.snoc b v P al ad,ab,η⟩,?_⟩
  ·grind
  grind
 have aa:n<b.length+2*a:=G
 have a9:(b.length:Int)+(a:Int)=((b.length+a:Nat):Int):=V
 rw[a9]
 have next:∀{R:ga}{v:List qH},v.Perm k->oD ji v->W R (own 3 o n c (gY<|b++v)::L)->K ((a:Int)*2)/\(∃(l:Nat)(y:List qH),(a:Int)*2=l/\20<=l/\l<=200000/\y.Perm xs/\T3 ji l y/\W R (own 3 o n c (gY y)::L))/\n-((a:Int)*2).toNat<n-(a:Int).toNat:=λ{R l} v y h=>by
  have ab:=v.length_eq;refine⟨ξ,⟨2*a,b++l,U,U,U,(List.Perm.append_left _ v).trans hp,P.rns l<|.last l U y,h⟩,U⟩
 refine⟨ξ,ae (λl=>?_) λl=>?_⟩
 ·have ab:b.length+a<n:=G
  obtain⟨X,Y,rfl,ac,v,y,R⟩:=t.cut U;have ad:Y.length<a:=G
  refine(KG j (X.length+Y.length) (A:=b) (X:=X) (Y:=Y) (C:=[]) h V rfl U G (λal=>G) R (gP _) v (y.srt U) Q G).mono ?_
  grind
 ·exact next (.refl k) (t.srt G) h
theorem aaQ:u0 sC []:=by
 refine⟨rfl,λe f b c d=>?_⟩;obtain⟨g,h⟩:=c;obtain⟨i,k⟩:=d;refine Bl<|ag (W.all b) λl m a=>ag a λn o a=>?_;refine⟨_,(af 1 a.l).cell sZ (j:=1) rfl,_,(af 0 a.l).cell sZ (j:=1) rfl,ξ,_,rfl,?_,aE 2 a.l⟩
 grind
theorem aaR{xs:List qH}(h:W w (own 3 o xs.length c (gY xs)::aT (C4 xs)::L))(b:∀x∈xs,Sq x)(d:xs.length<=100000):
  ρ 298 [T o xs.length c,.func (.func sC) #[] #[]] w λe f=>e=.tuple #[]/\∃a:List qH,a.Perm xs/\oD ji a/\W f (own 3 o xs.length c (gY a)::aT (C4 a)::L):=by
 refine fY<|(aaP aaQ h b d).mono ?_;rintro _ m⟨rfl,g,a,i,h⟩;refine⟨rfl,rfl,g,a,i,?_⟩;have j:=W.flat.1<|h.pick 2 [1,0];have k:=j.perm<|(a.map λl=>bU 1 iv l.2).symm.append_right _;exact(W.flat.2 k).pick 2 [1,0]
end
section
variable{g:B}{nn:At}{ss:List SQ}
theorem M8{q:Nat}{es:List aN}:(sB g q es).length<=es.length:=by simp[sB,mr]
theorem Xi{q:Nat}{K:List aq}:(zD q K).length<=1:=by grind[zD]
theorem M9(h:∀q∈ss,q.2.2.length<=130):∀n,(qI g ss n).length<=n*131
 |0=>by simp[qI]
 |n+1=>by
  rw[Km,jw]
  have h1:=M9 h n
  grind[G9,List.mem_of_getElem?,M8,Xi,List.length_append]
theorem M_{l:jg}{n:Nat}:(zE l n).length<=n:=by grind[zE]
theorem Na{ls:List jg}(h:∀l∈ls,l.tm.length<=65):∀n,(u9 ls n).length<=n*65
 |0=>by simp[u9]
 |n+1=>by
  have h1:=Na h n
  grind[List.take_add_one,u9,Ko,List.length_append,M_,List.mem_of_getElem?]
def aif(g:B)(nn:At)(ss:List SQ)(ps:List (jv×Lq aF)):Prop:=(ps.map Prod.fst).Nodup/\∀q t:Nat,q<ss.length->t<g.T->kQ ⟨(q:Int),(t:Int)⟩ ps=fe g nn ss q t
end
theorem bkT{w:ga}{L:List aG}{ds:List qH}{i:Nat}{b:qH}(h:W w (aT (C4 ds)::L))(d:ds[i]? =some b):bf (hp w) b.2.2 b.2.1.1 b.2.2.length:=by
 have a:(C4 ds)[i]? =some (bU 1 iv b.2):=by simp_all[C4]
 have c:=W.out h a;exact bA rfl (dT 0 c.l)
section
variable{w:ga}{L:List aG}{g:B}{x:GA}
theorem aaS{xs:List aq}{a:E}{l c:Nat}{d e:Int}(o:bf (hp w) xs a l)(R:l<=4611686018427387904):ρ 297 [T a l c,.agg #[O d,O e]] w λs t=>s=J (decide ((⟨d,e⟩:aq)∈xs))/\Gr w t:=by
 have S:=o.1;refine iH<|ag (W.all w) λX f i=>?_;have p:Gr w f:=i.aS;refine⟨_,_,(af 0 i.l).at sZ rfl,?_⟩;clear i;have v:=o.mono p
 have x:ρ 356 [T a l c,.agg #[O d,O e]] f λy z=>∃b:Int,y=O b/\(0<=b↔(⟨d,e⟩:aq)∈xs)/\Gr f z:=by
  refine jP<|ag (W.all f) λA b j=>?_;have k:Gr f b:=j.aS;have C:aj (hp b) (Z A) [O d,O e]:=af 0 j.l;clear j;have F:=v.mono k;refine⟨λh m=>∃g:Nat,h=g/\g<=l/\(⟨d,e⟩:aq)∉xs.take g/\hp m=hp b,λg _=>l-g.toNat,⟨0,rfl,gu _,V,rfl⟩,?_⟩;rintro _ _ Y⟨g,rfl,a0,q,r⟩;refine ae (λI=>?_) λI=>?_
  rotate_left
  ·have m:g=l:=G
   rw[jy U] at q;exact⟨-1,rfl,⟨λh=>U,λh=>absurd h q⟩,k.trans<|Gr.of_eq r⟩
  have h:g<l:=η
  obtain⟨L,a1,a2,rfl,N⟩:=W1 F h;intro P Q;have m:hp P=hp b:=(aW Q).trans r;have sb:∀n:ga,hp n=hp b->sub (hp b) (hp n):=λn e=>by simp_all[sub.refl]
  refine⟨λn=>hp n=hp b,m,_,_,λn e=>C.at (sb n e) rfl,aI rfl h ⟨_,_,λn e=>N.at (sb n e) rfl,_,λn _=>Tj n _ _ ⟨d,e⟩ L,_,rfl,ae (λn=>?_) λn=>?_⟩⟩
  ·have a3:=gZ n;exact⟨g,rfl,⟨λ_=>G,λ_=>kF _⟩,k.trans<|Gr.of_eq m⟩
  ·have a3:=hY n;refine⟨ξ,⟨g+1,V,h,λa4=>?_,m⟩,bS h⟩
   simp_all[iw]
 refine x.mono ?_;rintro _ h⟨b,rfl,j,g⟩;refine⟨b,rfl,?_,p.trans g⟩
 simp_all
theorem aaT(a2:gR (hp w) g x)(a3:jq g)(ap:ec (hp w)):ρ 213 [.agg ⟨x.cells⟩] w λav a4=>∃(ss:List SQ)(c int f:Int)(nn:At)(b:Option Nat)(z:Int),av=.tuple #[.map b,O z,O f]/\G2 g ss c int f/\(f=0->tC g nn)/\Gr w a4/\(f=0->∃(k:Nat)(ps:List (jv×Lq aF)),b=some k/\z=(ss.length:Int)/\aif g nn ss ps/\W a4 (hZ k (mV ps)::aT (mO 2 dE ps)::all w)):=by
 refine Gj<|dZ a2 λcb az C a5 L=>?_;refine⟨_,_,_,_,_,_,_,_,_,_,_,_,_,L.row sZ,(zp a5 a3).mono ?_⟩;rintro _ F⟨a6,aB,ss,N,int,f,rfl,I,P⟩;have aK:Gr az F:=aE 3 P.l;have aR:Q1 (hp F) ss a6:=Iq P.l;clear P;refine⟨_,_,_,_,_,_,rfl,ag (W.all F) λaS cc s=>aQ s rfl (by simp[aO]) λe s=>?_⟩;have a7:Gr F e:=s.aS;have a8:aj (hp e) (Z aS) [T a6 ss.length aB,O N,O int]:=af 0 s.l;clear s;have m:=aK.trans a7
 refine ae (λaV=>?_) λaV=>?_
 ·have c:f≠0:=η
  exact⟨ss,N,int,f,[],none,0,rfl,I,λd=>absurd d c,C.trans m,λd=>absurd d c⟩
 have b0:f=0:=η
 subst b0;obtain⟨Q,R⟩:=I.Sn rfl;have a9:=R.LQ Q;have cd:=R.dn.2.1;obtain⟨b1,ce,cg,_,_,_⟩:=Q.cR;have aa:=a2.t.1;refine⟨_,_,_,_,_,_,_,_,_,_,_,_,_,L.row m,(zs (a5.mono m) a3<|dX.mono (C.trans m) ap).mono ?_⟩;rintro _ ch⟨ci,ck,cl,cm,nn,o,cS,d,rfl,b2,b3,ab,b4⟩;obtain⟨_,b5,_,_,b6,_⟩:=I.one b2;subst b6;rw[MU b5.symm] at ab;have b7:=b3 rfl;refine⟨_,_,_,_,rfl,ae (λc=>η) λ_=>?_⟩;obtain⟨cn,_⟩:=Vw Q R
 have co:d.length<=24832:=by
  have:=congrArg List.length ab
  grind[List.length_map,TQ]
 have b9:∀l∈dD g nn ss,l.tm.length<=65:=λl c=>by
  obtain⟨b,_,rfl⟩:=iz.1 c;exact j3 LV b1
 have ba:=aR.mono a7;have bb:∀q∈ss,q.2.2.length<=130:=λq c=>(a9 q c).2;have ac:∀n,n<=ss.length->(qI g ss n).length<=33536:=λn c=>by grind[M9]
 have bc:∀b∈d,Sq b:=λb p=>by
  have c:zB b∈dD g nn ss:=G
  obtain⟨q,h,_,r,_,i⟩:=Ei c;have v:b.1.2=(h:Int):=congrArg jg.prod i
  grind[Sq]
 refine oW b4 λh ad bd=>?_;have be:W ad (hZ h (mV ([]:List (jv×Lq aF)))::own 3 o d.length cS (gY d)::aT (C4 d)::all e):=eJ bd;have S:W ad (hZ h (mV ([]:List (jv×Lq aF)))::aT (mO 2 dE ([]:List (jv×Lq aF)))::own 3 o d.length cS (gY d)::aT (C4 d)::all e):=((W.flat (M:=[])).2 be).pick 2 [1,0];refine⟨_,_,_,a8.cell0<|aE 4 S.l,λz c=>∃(q:Nat)(ps:List (jv×Lq aF)),z=q/\q<=ss.length/\H7 ps (qI g ss q)/\W c (hZ h (mV ps)::aT (mO 2 dE ps)::own 3 o d.length cS (gY d)::aT (C4 d)::all e),λz _=>ss.length-z.toNat,⟨0,[],rfl,gu _,H7.nil,S⟩,?_⟩;clear S;rintro _ _ cp⟨q,ps,rfl,bi,al,X⟩
 refine ae (λbl=>?_) λbl=>?_
 ·have p:q<ss.length:=η
  obtain⟨c,a1⟩:∃i,ss[q]? =some i:=⟨_,gn p⟩;obtain⟨c1,an,ao,bo,bs⟩:=ba q c a1;have am:=gg a1;have c2:=bb c am;have c3:=(a9 c am).1;have c4:=ac q bi;have c5:qI g ss (q+1)=qI g ss q++(sB g q c.2.2++zD q c.1.2):=by simp_all[Km,G9]
  refine aI an p ⟨_,_,_,_,_,_,ao.at (aE 4 X.l) rfl,ag X λbu c6 v=>aQ v rfl (by simp[aO]) λc7 v=>⟨_,_,_,(af 0 v.l).cell sZ (j:=1) rfl,?_⟩⟩;refine⟨λz i=>∃(k:Nat)(ps:List (jv×Lq aF)),z=k/\k<=c.2.2.length/\H7 ps (qI g ss q++sB g q (c.2.2.take k))/\W i (hZ h (mV ps)::aT (mO 2 dE ps)::ax bu (WX c)::own 3 o d.length cS (gY d)::aT (C4 d)::all e),λz _=>c.2.2.length-z.toNat,⟨0,ps,rfl,gu _,by simp_all[sB],v.pick 3 [1,2,0]⟩,?_⟩;clear v al;rintro _ _ c8⟨k,ps,rfl,c9,Y,y⟩;have bz:=M8 (g:=g) (q:=q) (es:=c.2.2.take k);rw[k5] at bz
  refine ae (λbE=>?_) λbE=>?_
  ·have r:k<c.2.2.length:=η
   obtain⟨A,ca,cq,bN,bO⟩:=qy bs r;have cs:c.2.2.take (k+1)=c.2.2.take k++[A]:=by simp_all[iw]
   refine aI bN r ⟨_,_,bO.at (aE 5 y.l) rfl,ag y λct cu i=>aQ i rfl (by simp[aO]) λcv i=>⟨_,(af 0 i.l).cell0 sZ,_,_,_,L.c0<|sub.trans m<|aE 6 i.l,ae (λa0=>?_) λa0=>?_⟩⟩
   ·have cx:A.sym<(g.T:Int):=by have:=gZ a0;rw[<-aa] at this;exact this
    refine⟨_,(af 0 i.l).cell0 sZ,_,(af 0 i.l).cell sZ (j:=1) rfl,ag i λcy cz bP=>(w_ (q:=q) (t:=A.sym) (a:=⟨1,A.to⟩) (bP.pick 2 [0]) Y G).mono ?_⟩;rintro _ cA⟨rfl,bT,cB,c0⟩;refine⟨rfl,ξ,⟨k+1,bT,V,r,?_,c0⟩,bS r⟩
    simp_all[Kn]
   ·have bP:¬A.sym<(g.T:Int):=by have:=hY a0;rw[<-aa] at this;exact this
    refine⟨ξ,⟨k+1,ps,V,r,?_,i.tail⟩,bS r⟩
    simp_all[Kn,gv]
  have r:k=c.2.2.length:=G
  rw[r,jl] at Y;refine⟨_,_,_,(af 2 y.l).cell0 sZ,(aaS (bo.mono<|aE 5 y.l) U).mono ?_⟩;rintro _ bP⟨rfl,bQ⟩;have A:=y.gr bQ
  refine⟨_,rfl,ae (λa0=>ag A λbT c0 i=>(w_ (q:=q) (t:=0) (a:=⟨3,0⟩) i Y G).mono ?_) λa0=>?_⟩
  ·rintro _ ca⟨rfl,bN,cq,bO⟩;refine⟨rfl,ξ,⟨q+1,bN,V,p,?_,bO.pick 3 [0,1]⟩,bS p⟩;have cs:zD q c.1.2=[(⟨(q:Int),0⟩,⟨3,0⟩)]:=by unfold zD;simp_all
   simp_all
  ·refine⟨ξ,⟨q+1,ps,V,p,?_,A.pick 3 [0,1]⟩,bS p⟩;have bN:zD q c.1.2=[]:=by unfold zD;simp_all
   simp_all
 have bo:q=ss.length:=G
 subst bo;have cq:=ac ss.length<|gP _;refine(aaR (X.pick 4 [2,3,0,1]) bc U).mono ?_;rintro _ cs⟨rfl,c,bs,bu,A⟩;have bz:d.length=c.length:=bs.length_eq.symm;rw[bz] at A ⊢;have bE:(c.map zB).Perm (dD g nn ss):=G
 have ct:oD (·.prod) (c.map zB):=by rw[oD,lF];exact bu
 have bN:∀l∈c.map zB,l.tm.length<=65:=λl i=>b9 l<|bE.mem_iff.1 i;have bO:∀n,n<=c.length->(u9 (c.map zB) n).length<=24832*65:=λn i=>by grind[Na]
 refine⟨rfl,λz p=>∃(i:Nat)(ps:List (jv×Lq aF)),z=i/\i<=c.length/\H7 ps (qI g ss ss.length++u9 (c.map zB) i)/\W p (hZ h (mV ps)::aT (mO 2 dE ps)::own 3 o c.length cS (gY c)::aT (C4 c)::all e),λz _=>c.length-z.toNat,⟨0,ps,rfl,gu _,by simp_all[u9],A.pick 4 [2,3,0,1]⟩,?_⟩;clear A al;rintro _ _ cu⟨i,ps,rfl,bP,Y,a0⟩
 refine ae (λbT=>?_) λbT=>?_
 ·have v:i<c.length:=η
  obtain⟨b,am⟩:∃b,c[i]? =some b:=⟨_,gn v⟩;have an:(c.map zB)[i]? =some (zB b):=η
  have cv:b.2.2.length<=65:=bN (zB b)<|gg an;have cx:=bO i bP;obtain⟨cy,c0,ao⟩:=T1 (a0.pick 3 [2,0,1]) am;refine aI c0 v ⟨_,_,_,_,_,ao.at sZ rfl,ag a0 λc1 cz p=>aQ p rfl (by simp[aO]) λcA p=>⟨_,_,_,(af 0 p.l).cell sZ (j:=2) rfl,?_⟩⟩;refine⟨λz r=>∃(k:Nat)(ps:List (jv×Lq aF)),z=k/\k<=b.2.2.length/\H7 ps ((qI g ss ss.length++u9 (c.map zB) i)++zE (zB b) k)/\W r (hZ h (mV ps)::aT (mO 2 dE ps)::ax c1 (tb b)::own 3 o c.length cS (gY c)::aT (C4 c)::all e),λz _=>b.2.2.length-z.toNat,⟨0,ps,rfl,gu _,by simp_all[zE],p.pick 3 [1,2,0]⟩,?_⟩;clear p Y ao;rintro _ _ cB⟨k,ps,rfl,cC,a1,r⟩
  refine ae (λc2=>?_) λc2=>?_
  ·have y:k<b.2.2.length:=η
   have c3:=bkT (r.pick 5 [4,0,1,2,3]) am;obtain⟨t,cF,c4,c5,c6⟩:=c3.dy y;have cI:=M_ (l:=zB b) (n:=k);refine au c5 y ⟨t,c6 _ sZ,_,(af 2 r.l).cell0 sZ,_,(af 2 r.l).cell sZ (j:=1) rfl,ag r λcR cT c7=>(w_ (q:=b.1.1) (t:=t) (a:=⟨2,b.1.2⟩) c7 a1 G).mono ?_⟩;rintro _ d0⟨rfl,c8,c9,ca⟩;refine⟨rfl,ξ,⟨k+1,c8,V,y,?_,ca⟩,bS y⟩;rw[TU (show(zB b).tm[k]? =some t from c4),<-jT];exact c9
  ·have y:k=b.2.2.length:=G
   refine⟨ξ,⟨i+1,ps,V,v,?_,r.pick 3 [0,1]⟩,bS v⟩;rw[Ko an,<-jT];rw[y] at a1;exact a1
 have r:i=c.length:=G
 subst r;intro v y;have p:=a0.eq (aW y)
 refine⟨λa1=>hp a1=hp v,rfl,_,_,_,λam a1=>a8.cell0 (by rw[a1];exact aE 4 p.l),ss,N,int,0,nn,some h,_,rfl,I,λ_=>b7,C.trans<|sub.trans m<|aE 4 p.l,λ_=>⟨h,ps,rfl,rfl,⟨Y.1,λq t a1 am=>?_⟩,?_⟩⟩
 ·rw[Y.2,show c.length=(c.map zB).length by simp]
  grind[Oz]
 ·exact W.Qf (p.pick 5 [0,1,4]) (bM<|C.trans m)
end
abbrev Hc:=(Int×Int)×Lq aF
def th(b:Hc):Ay:=[O b.1.1,O b.1.2,cf b.2]
def Hd(bs:List Hc):Ay:=bs.flatMap th
def ER(bs:List Hc):List aG:=bs.map λb=>bU 2 dE b.2
def pO(b:Hc):cW:=⟨b.1.1,b.1.2,b.2.2⟩
def ti(b:Hc):jv×Lq aF:=(⟨b.1.1,b.1.2⟩,b.2)
theorem O4(bs:List Hc):(Hd bs).length=bs.length*3:=qu (f:=th) (n:=3) (λ_=>rfl) bs
theorem O5(xs a:List Hc):Hd (xs++a)=Hd xs++Hd a:=kr
theorem RL{α:Type}:∀{l1 l2:List α},l1.Nodup->(∀x∈l1,x∈l2)->∃l3,l2.Perm (l1++l3)
 |[],l2,_,_=>⟨l2,.refl _⟩
 |a::l1,l2,hn,hs=>by
  obtain⟨h1,h2⟩:=kN.1 hn
  obtain⟨s,t,rfl⟩:=List.append_of_mem (hs a V)
  obtain⟨l3,h3⟩:=RL (l2:=s++t) h2 λx hx=>G
  exact⟨l3,lh.trans (.cons a h3)⟩
section
variable{g:B}{nn:At}{ss:List SQ}{least:Nat}{w:ga}{L:List aG}
theorem T4{ds:List Hc}{ps:List (jv×Lq aF)}{n:Nat}(j:ds.map pO=nZ g nn ss least n)(k:∀d∈ds,ti d∈ps)(h:W w (aT (mO 2 dE ps)::L)):W w (aT (ER ds)::L):=by
 have c:(ds.map ti).Nodup:=by
  have a:(ds.map pO).Pairwise cW.lt:=by simp_all[Gf]
  rw[lF] at a;rw[ot,lF];refine a.imp λ{f i} h b=>?_;have l:=congrArg (λe=>e.1.st) b;have m:=congrArg (λe=>e.1.tm) b
  simp_all[cW.lt,pO,ti]
 obtain⟨a,e⟩:=RL c (l2:=ps) λb f=>G
 have hp:(mO 2 dE ps).Perm (ER ds++mO 2 dE a):=by
  have:=e.map λb=>bU 2 dE b.2;rw[jI,nQ] at this;exact this
 have b:=(W.flat.1 h).perm (hp.append_right _);rw[jT] at b;have f:W w (aT (ER ds)::(mO 2 dE a++L)):=W.flat.2 b;have i:W w (mO 2 dE a++(aT (ER ds)::L)):=f.perm lh.symm;exact(W.flat.2 i).tail
theorem Xj(ps:List (jv×Lq aF))(p:jv):∃e:Lq aF,(iV p (mV ps)).getD (D)=cf e/\e.2=kQ p ps/\(e.2≠[]->(p,e)∈ps):=by
 rw[jW];unfold kQ;cases h:gf p ps with
 |none=>exact⟨((none,0),[]),rfl,rfl,λh=>absurd rfl h⟩
 |some e=>exact⟨e,rfl,rfl,λ_=>JO h⟩
end
section
variable{w:ga}{L:List aG}{g:B}{x:GA}
theorem VK{least:Nat}(av:1<=least)(az:least<=10)(t:gR (hp w) g x)(P:jq g)(Q:ec (hp w)):ρ 114 [.agg ⟨x.cells⟩,O (least:Int)] w λR S=>∃(ss:List SQ)(a int f:Int)(nn:At)(o:E)(c:Nat)(ds:List Hc),R=.tuple #[T o ds.length c,O f]/\G2 g ss a int f/\(f=0->tC g nn)/\ds.map pO=n_ g nn ss least/\W S (own 3 o ds.length c (Hd ds)::aT (ER ds)::all w):=by
 refine H6<|dZ t λaB v l X y=>?_;refine⟨_,_,_,_,_,_,_,_,_,_,_,_,_,y.row sZ,(aaT X P<|dX.mono l Q).mono ?_⟩;rintro _ aK⟨ss,z,int,f,nn,aR,aS,rfl,i,Y,a0,a1⟩
 refine⟨_,_,_,rfl,ae (λa2=>?_) λa2=>?_⟩
 ·have a:f≠0:=η
  have b:=i.nil a;subst b;exact⟨[],z,int,f,[],none,0,[],rfl,i,λd=>absurd d a,rfl,aH 3<|(W.flat (M:=[])).2 (W.here<|l.trans a0)⟩
 have a3:f=0:=η
 subst a3;obtain⟨a4,a5⟩:=i.Sn rfl;obtain⟨A,d,rfl,rfl,a6,C⟩:=a1 rfl;have aV:=a5.dn.2.1;obtain⟨a7,b0,b1,_,_,_⟩:=a4.cR;have F:=t.t.1
 have a8:∀n,n<=ss.length->(nZ g nn ss least n).length<=16640:=λn a=>by
  have b:=M4 (g:=g) (nn:=nn) (ss:=ss) (least:=least) (n:=n);have e:n*g.T<=256*65:=Nat.mul_le_mul U a7;omega
 refine⟨λo n c b e=>∃(a:Nat)(ds:List Hc),b=a/\a<=ss.length/\n=ds.length/\ds.map pO=nZ g nn ss least a/\(∀h∈ds,ti h∈d)/\W e (own 3 o n c (Hd ds)::hZ A (mV d)::aT (mO 2 dE d)::all v),λ_ _ _ a _=>ss.length-a.toNat,⟨0,[],rfl,gu _,rfl,rfl,λa b=>η,aH 3 C⟩,?_⟩;clear C;rintro _ b2 _ b3 _ b4⟨a,ds,rfl,a9,rfl,m,p,j⟩;refine ae (λaa=>?_) λaa=>?_
 rotate_left
 ·have b:a=ss.length:=G
  subst b;have e:=T4 m p<|j.pick 3 [2,0];exact⟨ss,z,int,0,nn,_,_,ds,rfl,i,Y,m,W.Qf (e.pick 2 [1,0])<|bM l⟩
 have q:a<ss.length:=η
 have b5:=a8 a a9;refine⟨_,_,_,y.c0<|aE 3 j.l,λo n c e h=>∃(b:Nat)(ds:List Hc),e=b/\b<=g.T/\n=ds.length/\ds.map pO=nZ g nn ss least a++sA g nn ss least a b/\(∀k∈ds,ti k∈d)/\W h (own 3 o n c (Hd ds)::hZ A (mV d)::aT (mO 2 dE d)::all v),λ_ _ _ b _=>g.T-b.toNat,⟨0,ds,rfl,gu _,rfl,by simp_all[sA],p,j⟩,?_⟩;clear j m p;rintro _ b6 _ b7 _ b9⟨b,e,rfl,ba,rfl,I,L,k⟩
 have bb:e.length<=17000:=by
  have h:=congrArg List.length I
  grind[List.length_map,List.length_append,M3]
 refine ae (λr=>?_) λr=>?_
 rotate_left
 ·have h:b=g.T:=by have:=hY r;rw[<-F] at this;have s:g.T=g.terms.length:=rfl;omega
  refine⟨ξ,⟨a+1,e,V,q,rfl,?_,L,k⟩,bS q⟩
  simp_all[CS]
 have h:b<g.T:=by have:=gZ r;rw[<-F] at this;have s:g.T=g.terms.length:=rfl;omega
 obtain⟨ab,ac,N,ad⟩:=Xj d ⟨(a:Int),(b:Int)⟩;rw[a6.2 a b q h] at N;refine(sf (κ:=jv) aY (rfl:ai Ty _=.map _ _) M5 rfl rfl (k.pick 2 [1,0]) ⟨(a:Int),(b:Int)⟩).mono ?_;rintro _ bc⟨rfl,rfl⟩;rw[ac];refine⟨_,_,_,rfl,ae (λal=>?_) λal=>?_⟩
 rotate_left
 ·have s:¬least<=(fe g nn ss a b).length:=η
  refine⟨ξ,⟨b+1,e,V,h,rfl,?_,L,k⟩,bS h⟩
  simp_all[wC,oO,gv]
 have am:least<=(fe g nn ss a b).length:=η
 refine ag k λbd be an=>?_;refine(aU (us:=Hd e) aY (rfl:ai Ty _=.slice _) (rfl:ai Ty _=.slice _) rfl rfl rfl an rfl (by simp[aO]) G U).mono ?_;rintro _ bi⟨bl,bo,rfl,ao⟩
 refine⟨_,_,_,rfl,ξ,⟨b+1,e++[(((a:Int),(b:Int)),ab)],V,h,V,?_,λbs ap=>?_,?_⟩,bS h⟩
 ·rw[jI,I,wC,jT];congr 2;unfold oO;rw[gD am,<-N];rfl
 ·rcases iU.1 ap with s|s
  ·simp_all
  ·rw[jA] at s;subst s;exact ad λbu=>η
 ·rw[O5];exact ao.pick 2 [0]
theorem aaU(b:gR (hp w) g x)(d:jq g)(e:ec (hp w)):ρ 105 [.agg ⟨x.cells⟩] w λh i=>∃(ss:List SQ)(a int f:Int)(nn:At)(o:E)(c:Nat)(ds:List Hc),h=.tuple #[T o ds.length c,O f]/\G2 g ss a int f/\(f=0->tC g nn)/\ds.map pO=n_ g nn ss 1/\W i (own 3 o ds.length c (Hd ds)::aT (ER ds)::all w):=by
 refine Gh<|dZ b λr s a j k=>?_;refine⟨_,_,_,_,_,_,_,_,_,_,_,_,_,k.row sZ,(VK (least:=1) V V j d<|dX.mono a e).mono ?_⟩;rintro _ t⟨ss,l,int,f,nn,o,c,ds,rfl,m,n,p,q⟩;exact⟨_,_,_,_,rfl,ss,l,int,f,nn,o,c,ds,rfl,m,n,p,W.Qf q<|bM a⟩
theorem Xk(b:gR (hp w) g x)(d:jq g)(e:ec (hp w)):ρ 45 [.agg ⟨x.cells⟩] w λh i=>∃(ss:List SQ)(a int f:Int)(nn:At)(o:E)(c:Nat)(ds:List Hc),h=.tuple #[T o ds.length c,O f]/\G2 g ss a int f/\(f=0->tC g nn)/\ds.map pO=n_ g nn ss 2/\W i (own 3 o ds.length c (Hd ds)::aT (ER ds)::all w):=by
 refine Ek<|dZ b λr s a j k=>?_;refine⟨_,_,_,_,_,_,_,_,_,_,_,_,_,k.row sZ,(VK (least:=2) (by decide) (by decide) j d<|dX.mono a e).mono ?_⟩;rintro _ t⟨ss,l,int,f,nn,o,c,ds,rfl,m,n,p,q⟩;exact⟨_,_,_,_,rfl,ss,l,int,f,nn,o,c,ds,rfl,m,n,p,W.Qf q<|bM a⟩
end
theorem adt{g:B}{nn:At}{ss a:List SQ}(h:cN ss=cN a)(b:ss.map (·.1.2)=a.map (·.1.2))(q t:Nat):fe g nn ss q t=fe g nn a q t:=by
 have d:Vy ss q t=Vy a q t:=by grind[Vy,J4]
 have e:Xe ss q t=Xe a q t:=by
  have f:=congrArg (λc=>c[q]?) b
  grind[Xe,Option.some.inj]
 grind[fe,MU]
theorem aaV{g:B}{nn:At}{ss a:List SQ}{least:Nat}(h:cN ss=cN a)(b:ss.map (·.1.2)=a.map (·.1.2)):n_ g nn ss least=n_ g nn a least:=by
 unfold n_ nZ sA oO
 grind[OE,adt]
instance:tV cW:={ n:=3,rd:=λh x vs=>∃(a:E)(c:Nat),vs=[O x.st,O x.tm,T a x.acts.length c]/\bf h x.acts a x.acts.length,mono:=λs ⟨a,c,e,r⟩=>⟨a,c,e,r.mono s⟩,len:=λ⟨_,_,e,_⟩=>by simp_all }
section
variable{h:Hp}{w:ga}{L:List aG}{o:E}{l i c:Nat}
theorem Er{xs:List aF}{a:E}(d:xs.length=l)(r:dX a (dE xs) h):bf h xs a l:=by
 refine⟨d,λe b f=>?_⟩
 rcases r with g|⟨c,rfl,i⟩
 ·have j:=congrArg List.length g
  grind[pI,List.length_nil,List.getElem?_eq_some_iff]
 ·exact⟨c,bR b,rfl,cQ (n:=2) (λ_=>rfl) xs c i e b f,rfl⟩
theorem KH{xs:List aF}{a:E}(r:bf h xs a l)(hi:i<l):∃x b,xs[i]? =some x/\a=some b/\aj h (b.add (ew i 2)) (bR x):=by
 obtain⟨x,c,d,e,f,b,g⟩:=r.get hi;rw[show d=bR x from g] at b;exact⟨x,c,e,f,b⟩
end
structure jk(n:Nat)(K:Nat->List aN)(r:gk):Prop where
 lb:r.bs.length=n
 lv:r.vs.length=r.os.length
 own:∀(k:Nat)(o:Int),r.os[k]? =some o->o=-1\/∃i<n,o=(i:Int)/\∃e∈K i,(k:Int)=r.bs.getD i 0+e.sym/\r.vs[k]? =some e.to
 has:∀i<n,∀e∈K i,∃k:Nat,(k:Int)=r.bs.getD i 0+e.sym/\r.os[k]? =some (i:Int)/\r.vs[k]? =some e.to
section
variable{n i b:Nat}{K:Nat->List aN}{r:gk}{e:aN}{l:List aN}
theorem jk.new(n:Nat):jk n (λ_=>[]) ⟨List.replicate n 0,[],[]⟩:=⟨V,rfl,λk o h=>G,λi _ e h=>G⟩
theorem jk.base(h:jk n K r)(l:K i=[])(b:Int):jk n K { r with bs:=r.bs.set i b }:=by
 have m:∀a c,c∈K a->(r.bs.set i b).getD a 0=r.bs.getD a 0:=λa c d=>G
 refine⟨by simpa using h.lb,h.lv,λa c d=>?_,λe f g j=>?_⟩
 ·rcases h.own a c d with k|⟨o,p,k,q,s,t,v⟩
  ·omega
  grind
 ·obtain⟨k,o,p,q⟩:=h.has e f g j
  grind
theorem jk.ext(h:jk n K r):jk n K { r with os:=r.os++[-1],vs:=r.vs++[0] }:=by
 refine⟨h.lb,by simp[h.lv],λa c e=>?_,λf g i j=>?_⟩
 ·have d:(r.os++[-1])[a]? =some c:=e
  rcases sF a r.os.length with b|b|b
  ·rw[ki b] at d
   rcases h.own a c d with k|⟨l,m,k,o,p,q,s⟩
   ·omega
   grind
  ·simp_all
  grind
 ·obtain⟨b,d,k,l⟩:=h.has f g i j
  grind
theorem jk.put(h:jk n K r)(hi:i<n){k:Nat}(p:(k:Int)=r.bs.getD i 0+e.sym)(h0:r.os[k]? =some (-1)):jk n (λa=>if a=i then K i++[e] else K a) { r with os:=r.os.set k (i:Int),vs:=r.vs.set k e.to }:=by
 have j:=(gJ.1 h0).1;have q:k<r.vs.length:=by rw[h.lv];omega
 refine⟨h.lb,by simp[h.lv],λd f l=>?_,λa m b s=>?_⟩
 ·have c:(r.os.set k (i:Int))[d]? =some f:=l
  by_cases g:k=d
  ·subst g;rw[sq j] at c;cases c
   grind
  ·rw[qV g] at c
   rcases h.own d f c with o|⟨t,v,o,w,x,y,z⟩
   ·omega
   grind
 ·have o:b∈K a->∃c:Nat,(c:Int)=r.bs.getD a 0+b.sym/\(r.os.set k (i:Int))[c]? =some (a:Int)/\(r.vs.set k e.to)[c]? =some b.to:=λc=>by
   obtain⟨g,t,v,w⟩:=h.has a m b c;have x:k≠g:=λy=>η
   grind
  grind
theorem jk.at(h:jk n K r)(hi:i<n)(s:0<=r.bs.getD i 0)(k:∀e∈K i,0<=e.sym)(v:∀e∈K i,∀a∈K i,e.sym=a.sym->e=a)(t:Int):
  (∃e∈K i,e.sym=t/\atR r i t=some e.to)\/((∀e∈K i,e.sym≠t)/\atR r i t=none):=by
 have l:Ol r=r.os.length:=by unfold Ol;rw[h.lv];omega
 by_cases b:∃e∈K i,e.sym=t
 ·obtain⟨e,a,rfl⟩:=b;refine .inl ⟨e,a,rfl,?_⟩;obtain⟨f,g,c,j⟩:=h.has i hi e a;have m:=(gJ.1 c).1;have d:=k e a;have o:FN r (i:Int)=r.bs.getD i 0:=rfl;have p:Oj r i e.sym=false:=by simp[Oj,h.lb,hi,d]
  have q:LO r i e.sym=false:=by
   unfold LO
   grind
  grind[atR,Int.toNat_natCast]
 ·have m:∀e∈K i,e.sym≠t:=λe a c=>b ⟨e,a,c⟩;refine .inr ⟨m,?_⟩;unfold atR;rw[gD];rw[kj];refine mw λc=>?_;simp only[not_or,Bool.not_eq_true] at c;obtain⟨d,a⟩:=c;unfold Oj at d;unfold LO at a;simp only[Bool.or_eq_false_iff,tQ,Classical.not_not] at d a;have o:FN r (i:Int)=r.bs.getD i 0:=rfl;rw[o,l] at a;obtain⟨w,x,y,f⟩:=a;obtain⟨g,p⟩:∃j:Nat,r.bs.getD i 0+t=j:=⟨(r.bs.getD i 0+t).toNat,U⟩;rw[p,je,jX] at f;have j:g<r.os.length:=U
  rw[gn j,Option.getD_some] at f
  rcases h.own g _ (gn j) with q|⟨z,_,q,e,A,C,_⟩
  ·omega
  grind
end
def xV(a:aF):Int:=if a.kind=1 then 1+a.to else if a.kind=2 then-1-a.to else if a.kind=3 then-1 else 0
def Gq(n:Nat)(a:aF):Prop:=a.kind=0/\a.to=0\/a.kind=1/\0<=a.to/\a.to<n\/a.kind=2/\1<=a.to/\a.to<=96\/a.kind=3/\a.to=0\/a.kind=4/\a.to=0
theorem adu{n:Nat}{a:aF}(h:Gq n a)(h0:a.kind≠0):OU (xV a)=a:=by
 obtain⟨e,to⟩:=a
 rcases h with⟨c,b⟩|⟨c,b,d⟩|⟨c,b,d⟩|⟨c,b⟩|⟨c,b⟩<;>dsimp only at c b<;>subst c
 ·simp_all
 ·rw[show xV ⟨1,to⟩=1+to by rfl];unfold OU
  grind
 ·dsimp only at d;rw[show xV ⟨2,to⟩=-1-to by rfl];unfold OU
  grind
 ·subst b;rfl
 ·subst b;rfl
def T5(by_:Int)(t:Nat)(a:aF):List aN:=if a.kind≠0/\(a.kind≠2\/a.to≠by_) then[⟨(t:Int),xV a⟩] else[]
def LZ(by_:Int)(l:List aF):List aN:=(List.range l.length).flatMap λt=>T5 by_ t (l.getD t ⟨0,0⟩)
def VL(to:Int)(q:Nat)(x:Int):List aN:=if 0<=x/\x≠to then[⟨(q:Int),x⟩] else[]
def L0(to:Int)(l:Az):List aN:=(List.range l.length).flatMap λq=>VL to q (l.getD q 0)
theorem qN{b:Int}{l:List aF}{e:aN}:e∈LZ b l↔∃(t:Nat)(a:aF),l[t]? =some a/\a.kind≠0/\(a.kind≠2\/a.to≠b)/\e=⟨(t:Int),xV a⟩:=by
 unfold LZ T5
 grind
theorem vk{to:Int}{l:Az}{e:aN}:e∈L0 to l↔∃(q:Nat)(x:Int),l[q]? =some x/\0<=x/\x≠to/\e=⟨(q:Int),x⟩:=by
 unfold L0 VL
 grind
structure RM(rows:List (List aN))(r:gk):Prop where
 c:jk rows.length (λi=>rows.getD i []) r
 b0:∀b∈r.bs,0<=b
structure He(As:List (List aF))(Gs:A7)(N:Nat)(p:dO):Prop where
 d1:p.df.length=As.length
 d2:∀(q:Nat)(l:List aF),As[q]? =some l->p.df.getD q 0=-1\/∃a∈l,a.kind=2/\a.to=p.df.getD q 0
 ac:RM ((List.range As.length).map λq=>LZ (p.df.getD q 0) (As.getD q [])) p.ac
 t1:p.tg.length=N
 t2:∀n<N,p.tg.getD n 0=-1\/∃l∈Gs,l.getD n 0=p.tg.getD n 0/\0<=p.tg.getD n 0
 gt:RM ((List.range N).map λn=>L0 (p.tg.getD n 0) (Gs.map λl=>l.getD n 0)) p.gt
section
variable{j:List (List aF)}{k:A7}{N:Nat}{p:dO}
theorem RM.at{a:List (List aN)}{r:gk}(h:RM a r){i:Nat}(hi:i<a.length)(c:∀e∈a.getD i [],0<=e.sym)(d:∀e∈a.getD i [],∀b∈a.getD i [],e.sym=b.sym->e=b)(t:Int):
  (∃e∈a.getD i [],e.sym=t/\atR r i t=some e.to)\/((∀e∈a.getD i [],e.sym≠t)/\atR r i t=none):=by
 refine h.c.at hi ?_ c d t;rw[jX,gn (by rw[h.c.lb];omega),Option.getD_some];exact h.b0 _ (pL _)
theorem He.act(h:He j k N p){q t:Nat}{l:List aF}{a:aF}(hl:j[q]? =some l)(ha:l[t]? =some a)(hm:∀a∈l,Gq j.length a):
  (a.kind≠0/\bB p q t=a)\/(a.kind=0/\(bB p q t=⟨0,0⟩\/∃b∈l,b.kind=2/\bB p q t=b)):=by
 have hq:=(gJ.1 hl).1;have er:((List.range j.length).map λq=>LZ (p.df.getD q 0)<|j.getD q []).getD q []=LZ (p.df.getD q 0) l:=η
 have U:=h.ac.at (i:=q) η (by rw[er];intro e O;obtain⟨t,_,_,_,_,rfl⟩:=qN.1 O;simp)
  (by
   rw[er];intro e O e' a0 a4;obtain⟨t,a,ha,_,_,rfl⟩:=qN.1 O;obtain⟨Z,a',u,_,_,rfl⟩:=qN.1 a0
   grind) (t:Int)
 rw[er] at U
 have J:atR p.ac q t=none->bB p q t=(if 0<p.df.getD q 0 then⟨2,p.df.getD q 0⟩ else⟨0,0⟩):=λe=>by
  unfold bB;rw[e,je]
  grind
 by_cases Y:a.kind=0
 ·refine .inr ⟨Y,?_⟩
  rcases U with⟨e,O,X,_⟩|⟨_,W⟩
  ·exfalso;obtain⟨Z,a',u,V,_,rfl⟩:=qN.1 O
   grind
  ·rw[J W]
   split
   ·rename_i hp
    rcases h.d2 q l hl with V|⟨b,hb,V,h5⟩
    ·omega
    ·exact .inr ⟨b,hb,V,by rw[<-h5,<-V]⟩
   simp
 ·refine .inl ⟨Y,?_⟩
  rcases U with⟨e,O,X,W⟩|⟨X,W⟩
  ·obtain⟨Z,a',u,V,_,rfl⟩:=qN.1 O;have:Z=t:=G
   subst this;rw[ha] at u;cases u;unfold bB;rw[W];exact adu (hm a<|gg ha) Y
  ·have hb:a.kind=2/\a.to=p.df.getD q 0:=mw λhn=>by
    refine X ⟨(t:Int),xV a⟩ (qN.2 ⟨t,a,ha,Y,?_,rfl⟩) rfl;omega
   rw[J W,gD]
   ·cases a;grind
   ·have:=hm a<|gg ha;rw[<-hb.2];rcases this with⟨U,_⟩|⟨U,_⟩|⟨_,X,_⟩|⟨U,_⟩|⟨U,_⟩<;>omega
theorem He.tgt(h:He j k N p){q n:Nat}{l:Az}{x:Int}(e:k[q]? =some l)(o:n<N)(r:l.getD n 0=x)(h0:0<=x):cD p q n=x:=by
 have s:=(gJ.1 e).1;have a:((List.range N).map λn=>L0 (p.tg.getD n 0)<|k.map λl=>l.getD n 0).getD n []=L0 (p.tg.getD n 0) (k.map λl=>l.getD n 0):=η
 have f:(k.map λl=>l.getD n 0)[q]? =some x:=η
 have b:=h.gt.at (i:=n) η (by rw[a];intro d c;obtain⟨g,_,_,_,_,rfl⟩:=vk.1 c;simp)
  (by
   rw[a];intro g c m d t;obtain⟨v,w,y,_,_,rfl⟩:=vk.1 c;obtain⟨z,A,C,_,_,rfl⟩:=vk.1 d
   grind) (q:Int)
 rw[a] at b;unfold cD
 rcases b with⟨t,g,c,d⟩|⟨c,d⟩
 ·obtain⟨m,v,w,y,_,rfl⟩:=vk.1 g
  grind
 ·have v:x=p.tg.getD n 0:=mw λm=>c ⟨(q:Int),x⟩ (vk.2 ⟨q,x,f,h0,m,rfl⟩) rfl;rw[d,je];dsimp only;rw[gD ⟨kF _,by rw[h.t1];omega⟩];omega
end
section
variable{a b:E}{i j k l:Nat}{A:Int}{w:ga}{R:ah->WP}
theorem cE(h:mA a i j none (some (i:Int)) (some (i:Int)) 2 λ(a:E)(b c:Nat)=>R (T a b c) w):ρ 202 [T a i j] w R:=rv func202 h
theorem fx{d:aM}{e:Ay}(h:iC 292 [T a i j,vF d e] w λc b=>R (J (decide (0<=c))) b):ρ 203 [T a i j,(.func (.func d) #[] ⟨e⟩)] w R:=rv func203 h
theorem g_(h:mA a i j none (some (i:Int)) (some (i:Int)) 1 λ(a:E)(b c:Nat)=>R (T a b c) w):ρ 250 [T a i j] w R:=rv func250 h
theorem iB(h:br (Option.isNone a) (R (D) w) (H w [] 170 λb c=>rS (kR 86 [T (some (Z b)) 0 0,T a i j]) c λa b=>∃c d e,a=T c d e/\R (T c d e) b)):ρ 251 [T a i j] w R:=rv func251 h
theorem h_(h:mA a i j (some A) none none 2 λ(_:E)(_ _:Nat)=>br ((k:Int)==0) (R (T a i j) w) (br (A==(i:Int)) (rS (kR 86 [T a i j,T b k l]) w λa b=>∃c d e,a=T c d e/\R (T c d e) b) (K ((i:Int)+(k:Int))/\rS (Builtin.cap_ (Array.mk [86]) 3 (Array.mk [T a i j])) w λc d=>∃e,c=O e/\bQ (e<(i:Int)+(k:Int)) (mA a i j none (some A) none 2 λ(c:E)(e f:Nat)=>K ((i:Int)+(k:Int))/\K ((i:Int)+(k:Int)-A)/\rS (Builtin.append_ (Array.mk [86,3]) 86 (Array.mk [T c e f,O ((i:Int)+(k:Int)-A)])) d λc d=>∃e f g,c=T e f g/\mA e f g (some A) none none 2 λ(c:E)(h m:Nat)=>rS (Builtin.copy_ (Array.mk [86,86]) 3 (Array.mk [T c h m,T b k l])) d λb c=>∃d,b=O d/\gj c λb c=>K (A+(k:Int))/\mA e f g (some (A+(k:Int))) none none 2 λ(c:E)(d h:Nat)=>mA a i j (some A) none none 2 λ(a:E)(i j:Nat)=>rS (Builtin.copy_ (Array.mk [86,86]) 3 (Array.mk [T c d h,T a i j])) b λa b=>∃c,a=O c/\R (T e f g) b) (K ((i:Int)+(k:Int))/\mA a i j none (some ((i:Int)+(k:Int))) none 2 λ(a:E)(c e:Nat)=>K (A+(k:Int))/\mA a c e (some (A+(k:Int))) none none 2 λ(f:E)(g h:Nat)=>wi prog 350 [T b k l,T f g h] d λd f=>∃g,d=J g/\br (!g) (gj f λd f=>K (A+(k:Int))/\mA a c e (some (A+(k:Int))) none none 2 λ(f:E)(g h:Nat)=>mA a c e (some A) none none 2 λ(i:E)(j m:Nat)=>rS (Builtin.copy_ (Array.mk [86,86]) 3 (Array.mk [T f g h,T i j m])) d λd f=>∃g,d=O g/\mA a c e (some A) none none 2 λ(d:E)(g h:Nat)=>rS (Builtin.copy_ (Array.mk [86,86]) 3 (Array.mk [T d g h,T b k l])) f λb d=>∃f,b=O f/\R (T a c e) d) (mA a c e (some (i:Int)) none none 2 λ(d:E)(g h:Nat)=>rS (Builtin.copy_ (Array.mk [86,86]) 3 (Array.mk [T d g h,T b k l])) f λb d=>∃f,b=O f/\mA a c e (some A) none none 2 λ(b:E)(f g:Nat)=>rE 351 [T b f g,O (k:Int)] d λb d=>b=vU []/\R (T a c e) d))))):ρ 291 [T a i j,O A,T b k l] w R:=rv func291 h
theorem gi{d:aM}{e:Ay}(h:gT 0 w λb c f g=>bQ (f<(i:Int)) (M a i f 2 λa=>∃h i,iA g a 0 2=some [O h,O i]/\p9 (Fn d) (iu d (vG [O h,O i]::e) g λe d=>br e (R (O f) d) (gx b c f d g))) (R (O (-1)) g)):ρ 292 [T a i j,(.func (.func d) #[] ⟨e⟩)] w R:=rv func292 h ⟨[(2,[(8,aP)])],[],[],[]⟩
end
theorem IA{α:Type}{p:α->Bool}{xs:List α}{j:Nat}{x:α}(h0:(xs.take j).any p=false)(a:xs[j]? =some x)(h:p x=false):(xs.take (j+1)).any p=false:=by simp_all[iw,List.any_append]
section
variable{w:ga}{a:E}{n c:Nat}{d:aM}{e:Ay}
theorem adv{xs:List aN}{p:aN->Bool}(h:bf (hp w) xs a n)(l:Fn d=true)(m:∀x∈xs,∀b,Gr w b->ρ d (.agg ⟨[O x.sym,O x.to]⟩::e) b λf g=>f=J (p x)/\Gr b g)(N:n<=1000000):
  ρ 354 [T a n c,.func (.func d) #[] ⟨e⟩] w λo q=>o=J (xs.any p)/\Gr w q:=by
 have r:ρ 386 [T a n c,.func (.func d) #[] ⟨e⟩] w λs t=>∃b:Int,s=O b/\decide (0<=b)=xs.any p/\Gr w t:=by
  refine iy ⟨λf g=>∃b:Nat,f=b/\b<=n/\(xs.take b).any p=false/\Gr w g,λb _=>n-b.toNat,⟨0,rfl,gu _,V,Gr.refl w⟩,?_⟩;rintro _ _ v⟨f,rfl,P,i,b⟩
  refine ae (λy=>?_) λy=>?_
  ·have g:f<n:=η
   obtain⟨x,Q,z,j,A,C,F⟩:=(h.mono b).get g;have I:z=[O x.sym,O x.to]:=F;subst I;refine aI A g ⟨_,_,C.at sZ rfl,bn.2 ⟨l,(m x (gg j) v b).mono ?_⟩⟩;rintro _ R⟨rfl,k⟩;refine⟨_,rfl,ae (λS=>⟨_,rfl,?_,b.trans k⟩) λL=>⟨ξ,⟨f+1,V,U,IA i j L,b.trans k⟩,bS g⟩⟩
   grind
  ·have g:f=n:=G
   subst g;rw[jy (by rw[h.1];omega)] at i
   simp_all
 refine gq<|r.mono ?_;simp
theorem af3{xs:List aF}{p:aF->Bool}(h:bf (hp w) xs a n)(l:Fn d=true)(m:∀x∈xs,∀b,Gr w b->ρ d (.agg ⟨bR x⟩::e) b λf g=>f=J (p x)/\Gr b g)(N:n<=1000000):
  ρ 203 [T a n c,.func (.func d) #[] ⟨e⟩] w λo q=>o=J (xs.any p)/\Gr w q:=by
 have r:ρ 292 [T a n c,.func (.func d) #[] ⟨e⟩] w λs t=>∃b:Int,s=O b/\decide (0<=b)=xs.any p/\Gr w t:=by
  refine gi ⟨λf g=>∃b:Nat,f=b/\b<=n/\(xs.take b).any p=false/\Gr w g,λb _=>n-b.toNat,⟨0,rfl,gu _,V,Gr.refl w⟩,?_⟩;rintro _ _ v⟨f,rfl,P,i,b⟩
  refine ae (λy=>?_) λy=>?_
  ·have g:f<n:=η
   obtain⟨x,Q,z,j,A,C,F⟩:=(h.mono b).get g;have I:z=bR x:=F;subst I;refine aI A g ⟨_,_,C.at sZ rfl,bn.2 ⟨l,(m x (gg j) v b).mono ?_⟩⟩;rintro _ R⟨rfl,k⟩;refine⟨_,rfl,ae (λS=>⟨_,rfl,?_,b.trans k⟩) λL=>⟨ξ,⟨f+1,V,U,IA i j L,b.trans k⟩,bS g⟩⟩
   grind
  ·have g:f=n:=G
   subst g;rw[jy (by rw[h.1];omega)] at i
   simp_all
 refine fx<|r.mono ?_;simp
theorem T6{xs:Az}{p:Int->Bool}(h:bf (hp w) xs a n)(l:Fn d=true)(m:∀x∈xs,∀b,Gr w b->ρ d (O x::e) b λf g=>f=J (p x)/\Gr b g)(F:n<=1000000):
  ρ 126 [T a n c,.func (.func d) #[] ⟨e⟩] w λo q=>o=J (xs.any p)/\Gr w q:=by
 have r:ρ 90 [T a n c,.func (.func d) #[] ⟨e⟩] w λs t=>∃b:Int,s=O b/\decide (0<=b)=xs.any p/\Gr w t:=by
  refine bW ⟨λf g=>∃b:Nat,f=b/\b<=n/\(xs.take b).any p=false/\Gr w g,λb _=>n-b.toNat,⟨0,rfl,gu _,V,Gr.refl w⟩,?_⟩;rintro _ _ v⟨f,rfl,I,i,b⟩
  refine ae (λy=>?_) λy=>?_
  ·have g:f<n:=η
   obtain⟨x,L,j,z,A⟩:=(h.mono b).dy g;refine au z g ⟨_,A _ sZ,bn.2 ⟨l,(m x (gg j) v b).mono ?_⟩⟩;rintro _ N⟨rfl,k⟩;refine⟨_,rfl,ae (λP=>⟨_,rfl,?_,b.trans k⟩) λC=>⟨ξ,⟨f+1,V,U,IA i j C,b.trans k⟩,bS g⟩⟩
   grind
  ·have g:f=n:=G
   subst g;rw[jy (by rw[h.1];omega)] at i
   simp_all
 refine cr<|r.mono ?_;simp
theorem adw{xs:List (List aN)}{p:(List aN)->Bool}(h:bf (hp w) xs a n)(q:Fn d=true)(r:∀x∈xs,∀b,Gr w b->∀f g i,bf (hp b) x f g->ρ d (T f g i::e) b λj k=>j=J (p x)/\Gr b k)(Q:n<=1000000):
  ρ 207 [T a n c,.func (.func d) #[] ⟨e⟩] w λs t=>s=J (xs.any p)/\Gr w t:=by
 have v:ρ 293 [T a n c,.func (.func d) #[] ⟨e⟩] w λy z=>∃b:Int,y=O b/\decide (0<=b)=xs.any p/\Gr w z:=by
  refine gK ⟨λf g=>∃b:Nat,f=b/\b<=n/\(xs.take b).any p=false/\Gr w g,λb _=>n-b.toNat,⟨0,rfl,gu _,V,Gr.refl w⟩,?_⟩;rintro _ _ A⟨f,rfl,R,i,b⟩
  refine ae (λC=>?_) λC=>?_
  ·have g:f<n:=η
   obtain⟨x,S,X,j,F,I,L⟩:=(h.mono b).get g;obtain⟨k,l,m,rfl,Y,N⟩:=L;refine aI F g ⟨k,l,m,I.cell0 sZ,bn.2 ⟨q,(r x (gg j) A b k l m N).mono ?_⟩⟩;rintro _ a0⟨rfl,o⟩;refine⟨_,rfl,ae (λa1=>⟨_,rfl,?_,b.trans o⟩) λP=>⟨ξ,⟨f+1,V,U,IA i j P,b.trans o⟩,bS g⟩⟩
   grind
  ·have g:f=n:=G
   subst g;rw[jy (by rw[h.1];omega)] at i
   simp_all
 refine fR<|v.mono ?_;simp
end
section
variable{a:E}{i j:Nat}{A B C:Int}{w:ga}{R:ah->WP}
theorem k_{d:aM}{e:Ay}(h:rE 294 [T a i j,O (i:Int),vF d e] w λa b=>a=vU []/\R (vU []) b):ρ 210 [T a i j,(.func (.func d) #[] ⟨e⟩)] w R:=rv func210 h
theorem oq{a:E}{b c:Nat}{d:Int}{e:aM}{f:Ay}{w:ga}{R:ah->WP}(h:τ [(7,aP),(8,aP)] λg h=>g 0 20 w/\∀(_:ν) i j k,g i j k->bQ (j<=d) (rE 352 [T a b c,O i,O j,vF e f] k λa b=>a=vU []/\K (j+20)/\nB g h j (j+20) b i j k) (rE 352 [T a b c,O i,O d,vF e f] k λg h=>g=vU []/\gT 20 h λg i h j=>bQ (h<d) (K (2*h)/\τ [(7,aP),(8,aP)] λk l=>k 0 (2*h) j/\∀(_:ν) m n o,k m n o->bQ (n<=d) (K (m+h)/\rE 353 [T a b c,O m,O (m+h),O n,vF e f] o λa b=>a=vU []/\K (2*h)/\K (n+2*h)/\nB k l n (n+2*h) b m n o) (K (m+h)/\bQ (m+h<d) (rE 353 [T a b c,O m,O (m+h),O d,vF e f] o λa b=>a=vU []/\K (h*2)/\nA g i (h*2) b h j) (K (h*2)/\nA g i (h*2) o h j))) (R (vU []) j))):ρ 294 [T a b c,O d,(.func (.func e) #[] ⟨f⟩)] w R:=rv func294 h ⟨[(2,[(7,aP),(8,aP)]),(7,[(6,aP)]),(9,[(7,aP),(8,aP)])],[],[],[]⟩
theorem jB{f:aM}{g:Ay}(h:K (A+1)/\gT (A+1) w λb c d e=>bQ (d<B) (gT d e λh j k l=>gj l λm n=>bQ (A<k) (M a i k 1 λo=>gy n o λp=>K (k-1)/\M a i (k-1) 1 λo=>gy n o λq=>p9 (Fn f) (iC f (O p::O q::g) m λm g=>n g/\bQ (m<0) (gj g λb c=>K (k-1)/\K (k-1)/\M a i (k-1) 1 λd=>gy c d λe=>M a i k 1 λd=>gy c d λf=>M a i k 1 λc=>gh b c (O e) λb=>M a i (k-1) 1 λa=>gh b a (O f) λa=>K (k-1)/\nA h j (k-1) a k l) (gx b c d g e))) (gx b c d m e)) (R (vU []) e)):ρ 352 [T a i j,O A,O B,(.func (.func f) #[] ⟨g⟩)] w R:=rv func352 h ⟨[(1,[(8,aP)]),(4,[(9,aP)])],[],[],[]⟩
theorem mJ{F:aM}{g:Ay}(h:K (B-A)/\br (B-A==1) (τ [(10,aP),(11,aP)] λb c=>b B C w/\∀(_:ν) d e f,b d e f->bQ (d<e) (K (d+e)/\ns 1/\K (mD (d+e))/\gj f λl h=>M a i (mD (d+e)) 1 λj=>gy h j λm=>M a i A 1 λa=>gy h a λi=>p9 (Fn F) (iC F (O m::O i::g) l λi k=>h k/\bQ (i<0) (K (mD (d+e)+1)/\nB b c (mD (d+e)+1) e k d e f) (nB b c d (mD (d+e)) k d e f))) (gT A f λb c e f=>K (d-1)/\bQ (e<d-1) (gj f λd k=>K (e+1)/\K (e+1)/\M a i (e+1) 1 λh=>gy k h λj=>M a i e 1 λh=>gy k h λl=>M a i e 1 λm=>gh d m (O j) λd=>M a i (e+1) 1 λa=>gh d a (O l) λa=>gx b c e a f) (R (vU []) f))) (K (C-B)/\br (C-B==1) (τ [(14,aP),(15,aP)] λb c=>b A B w/\∀(_:ν) d e f,b d e f->bQ (d<e) (K (d+e)/\ns 1/\K (mD (d+e))/\gj f λl h=>M a i B 1 λj=>gy h j λm=>M a i (mD (d+e)) 1 λa=>gy h a λi=>p9 (Fn F) (iC F (O m::O i::g) l λi k=>h k/\br (!decide (i<0)) (K (mD (d+e)+1)/\nB b c (mD (d+e)+1) e k d e f) (nB b c d (mD (d+e)) k d e f))) (gT B f λb c e f=>bQ (d<e) (gj f λd k=>K (e-1)/\K (e-1)/\M a i (e-1) 1 λh=>gy k h λj=>M a i e 1 λh=>gy k h λl=>M a i e 1 λm=>gh d m (O j) λd=>M a i (e-1) 1 λa=>gh d a (O l) λa=>K (e-1)/\nA b c (e-1) a e f) (R (vU []) f))) (K (A+C)/\ns 1/\K (mD (A+C))/\K (mD (A+C)+B)/\∃(b:lP [(20,aP),(21,aP)]),bQ (mD (A+C)<B) (K (mD (A+C)+B-C)/\b (mD (A+C)+B-C) (mD (A+C)) w) (b A B w)/\∀(_:ν) c d e,b c d e->K (mD (A+C)+B-1)/\τ [(20,aP),(21,aP)] λb f=>b c d e/\∀(_:ν) c d e,b c d e->bQ (c<d) (K (c+d)/\ns 1/\K (mD (c+d))/\gj e λl h=>K (mD (A+C)+B-1-mD (c+d))/\M a i (mD (A+C)+B-1-mD (c+d)) 1 λj=>gy h j λm=>M a i (mD (c+d)) 1 λa=>gy h a λi=>p9 (Fn F) (iC F (O m::O i::g) l λi k=>h k/\br (!decide (i<0)) (K (mD (c+d)+1)/\nB b f (mD (c+d)+1) d k c d e) (nB b f c (mD (c+d)) k c d e))) (K (mD (A+C)+B-c)/\∃(b:lP []),bQ (c<B) (bQ (B<mD (A+C)+B-c) (rE 385 [T a i j,O c,O B,O (mD (A+C)+B-c),vF F g] e λa c=>a=vU []/\b c) (b e)) (b e)/\∀(_:ν) d,b d->bQ (A<c) (bQ (c<mD (A+C)) (rE 353 [T a i j,O A,O c,O (mD (A+C)),vF F g] d λb d=>b=vU []/\bQ (mD (A+C)<mD (A+C)+B-c) (bQ (mD (A+C)+B-c<C) (rE 353 [T a i j,O (mD (A+C)),O (mD (A+C)+B-c),O C,vF F g] d λa b=>a=vU []/\R (vU []) b) (R (vU []) d)) (R (vU []) d)) (bQ (mD (A+C)<mD (A+C)+B-c) (bQ (mD (A+C)+B-c<C) (rE 353 [T a i j,O (mD (A+C)),O (mD (A+C)+B-c),O C,vF F g] d λa b=>a=vU []/\R (vU []) b) (R (vU []) d)) (R (vU []) d))) (bQ (mD (A+C)<mD (A+C)+B-c) (bQ (mD (A+C)+B-c<C) (rE 353 [T a i j,O (mD (A+C)),O (mD (A+C)+B-c),O C,vF F g] d λa b=>a=vU []/\R (vU []) b) (R (vU []) d)) (R (vU []) d)))))):ρ 353 [T a i j,O A,O B,O C,(.func (.func F) #[] ⟨g⟩)] w R:=rv func353 h ⟨[(3,[(10,aP),(11,aP)]),(9,[(13,aP)]),(15,[(14,aP),(15,aP)]),(21,[(17,aP)]),(33,[(20,aP),(21,aP)])],[(32,[(20,aP),(21,aP)]),(41,[])],[],[]⟩
theorem ox{F:aM}{g:Ay}(h:K (B-A)/\K (C-B)/\τ [(10,aP),(11,aP)] λb c=>b (B-A) (C-B) w/\∀(_:ν) d e f,b d e f->br (d !=e) (bQ (e<d) (K (B-d)/\rE 396 [T a i j,O (B-d),O B,O e,vF F g] f λa k=>a=vU []/\K (d-e)/\nB b c (d-e) e k d e f) (K (B-d)/\K (B+e)/\K (B+e-d)/\rE 396 [T a i j,O (B-d),O (B+e-d),O d,vF F g] f λa k=>a=vU []/\K (e-d)/\nB b c d (e-d) k d e f)) (K (B-d)/\rE 396 [T a i j,O (B-d),O B,O d,vF F g] f λa b=>a=vU []/\R (vU []) b)):ρ 385 [T a i j,O A,O B,O C,(.func (.func F) #[] ⟨g⟩)] w R:=rv func385 h ⟨[(2,[(10,aP),(11,aP)])],[],[],[]⟩
theorem mz{F:aM}{e:Ay}(h:gT 0 w λf g b c=>bQ (b<C) (gj c λk d=>K (A+b)/\K (B+b)/\K (B+b)/\M a i (B+b) 1 λh=>gy d h λj=>K (A+b)/\M a i (A+b) 1 λh=>gy d h λl=>M a i (A+b) 1 λm=>gh k m (O j) λn=>M a i (B+b) 1 λa=>gh n a (O l) λa=>gx f g b a c) (R (vU []) c)):ρ 396 [T a i j,O A,O B,O C,(.func (.func F) #[] ⟨e⟩)] w R:=rv func396 h ⟨[(1,[(10,aP)])],[],[],[]⟩
end
def C5(o:E)(n c:Nat)(L:List aG)(xs:Az)(w:ga):Prop:=∃ys,ys.Perm xs/\W w (own 1 o n c (iv ys)::L)
section
variable{w:ga}{L:List aG}{o:E}{n c i j:Nat}{xs k:Az}
theorem adx(hi:i<k.length)(a:j<k.length):((k.set i (k.getD j 0)).set j (k.getD i 0)).Perm k:=G
theorem sD(h:W w (own 1 o n c (iv k)::L)):k.length=n:=by grind[gm,dq]
theorem Hf(f:k.Perm xs)(h:W w (own 1 o n c (iv k)::L))(hi:i<n)(d:j<n):∃b,o=some b/\(∀a,sub (hp w) (hp a)->a.cell? (b.add i)=some (O (k.getD i 0)))/\(∀a,sub (hp w) (hp a)->a.cell? (b.add j)=some (O (k.getD j 0)))/\
  ∀K:ga->Prop,(∀w',C5 o n c L xs w'->K w')->M o n (i:Int) 1 λg=>gh w g (O (k.getD j 0)) λw'=>M o n (j:Int) 1 λl=>gh w' l (O (k.getD i 0)) K:=by
 have t:=sD h;obtain⟨m,a,p⟩:=qq (ic h) hi;obtain⟨v,e,q⟩:=qq (ic h) d;rw[a] at e;cases e;refine⟨m,a,p,q,λK r=>au a hi<|ib h a (by simp_all[dq]) λw' h=>au a d<|ib h a (by simp_all[dq]) λs h=>r s ⟨_,(adx (i:=i) (j:=j) U U).trans f,?_⟩⟩
 simp_all[iv]
end
def u6(d:aM)(e:Ay)(H:Hp)(S:Int->Prop):Prop:=Fn d=true/\∀(x y:Int)(u:ga),S x->S y->sub H (hp u)->ρ d (O x::O y::e) u λv u'=>∃z:Int,v=O z/\lU z/\Gr u u'
section
variable{w:ga}{L:List aG}{o:E}{n c:Nat}{xs:Az}{d:aM}{e:Ay}{H:Hp}{S:Int->Prop}
theorem O6{p q k:Nat}(h:C5 o n c L xs w)(C:p+k<=n)(F:q+k<=n)(I:n<=1000000):
  ρ 396 [T o n c,O (p:Int),O (q:Int),O (k:Int),.func (.func d) #[] ⟨e⟩] w λg l=>g=.tuple #[]/\C5 o n c L xs l:=by
 refine mz ⟨λa b=>∃i:Nat,a=i/\i<=k/\C5 o n c L xs b,λa _=>k-a.toNat,⟨0,rfl,gu _,h⟩,?_⟩;clear h;rintro _ _ N⟨i,rfl,P,m,a,h⟩;refine ae (λQ=>?_) λb=>⟨rfl,m,a,h⟩;have b:i<k:=η
 intro r s;have h:=h.drawn s;obtain⟨R,f,t,v,x⟩:=Hf (i:=p+i) (j:=q+i) a h U U;have y:(p:Int)+i=((p+i:Nat):Int):=by rfl
 have z:(q:Int)+i=((q+i:Nat):Int):=by rfl
 rw[y,z];exact⟨λA=>sub (hp r)<|hp A,sZ,ξ,ξ,ξ,au f U ⟨_,v,ξ,au f U ⟨_,t,x _ λA h=>⟨ξ,⟨i+1,by rfl,b,h⟩,bS b⟩⟩⟩⟩
theorem aaW{p m q:Nat}(h:C5 o n c L xs w)(y:p<m)(z:m<q)(A:q<=n)(f:n<=1000000):
  ρ 385 [T o n c,O (p:Int),O (m:Int),O (q:Int),.func (.func d) #[] ⟨e⟩] w λg i=>g=.tuple #[]/\C5 o n c L xs i:=by
 refine ox ⟨ξ,ξ,λj k l=>∃a b:Nat,j=a/\k=b/\0<a/\0<b/\a<=m/\m+b<=n/\C5 o n c L xs l,λa b _=>a.toNat+b.toNat,⟨m-p,q-m,U,U,U,U,U,U,h⟩,?_⟩;clear h;rintro _ _ _ C⟨a,b,rfl,rfl,j,k,l,r,h⟩;have s:(m:Int)-a=((m-a:Nat):Int):=U
 rw[s]
 refine ae (λt=>?_) λt=>?_
 ·have F:a≠b:=G
  refine ae (λv=>?_) λv=>?_
  ·have x:b<a:=η
   refine⟨ξ,(O6 h U U f).mono ?_⟩;rintro _ I⟨rfl,h⟩;exact⟨rfl,ξ,⟨a-b,b,U,rfl,U,k,U,r,h⟩,G⟩
  ·have I:a<b:=G
   have x:(m:Int)+b-a=((m+b-a:Nat):Int):=U
   rw[x];refine⟨ξ,ξ,ξ,(O6 h U U f).mono ?_⟩;rintro _ N⟨rfl,h⟩;exact⟨rfl,ξ,⟨a,b-a,rfl,U,j,U,l,U,h⟩,η⟩
 ·have v:a=b:=G
  refine⟨ξ,(O6 h U U f).mono ?_⟩;simp
theorem u7(b:∀x∈xs,S x){a:Az}(c:a.Perm xs){i:Nat}(hi:i<a.length):S (a.getD i 0):=by
 refine b _ (c.mem_iff.1 ?_)
 simp_all
theorem RN{p q:Nat}(b:u6 d e H S)(t:∀h,aL L h->sub H h)(f:∀x∈xs,S x)(h:C5 o n c L xs w)(Y:p<=n)(a0:q<=n)(a1:n<=1000000):
  ρ 352 [T o n c,O (p:Int),O (q:Int),.func (.func d) #[] ⟨e⟩] w λv y=>v=.tuple #[]/\C5 o n c L xs y:=by
 refine jB ⟨ξ,λa g=>∃i:Nat,a=i/\p+1<=i/\C5 o n c L xs g,λa _=>q-a.toNat,⟨p+1,by rfl,gP _,h⟩,?_⟩;clear h;rintro _ _ a2⟨i,rfl,a3,h⟩;refine ae (λa4=>?_) λa=>⟨rfl,h⟩;have a5:i<q:=η
 refine⟨λa g=>∃j:Nat,a=j/\p<=j/\j<=i/\C5 o n c L xs g,λa _=>a.toNat,⟨i,rfl,U,gP _,h⟩,?_⟩;clear h;rintro _ _ a6⟨j,rfl,a7,a8,g,a,h⟩ k z;have h:=h.drawn z;have a9:=sD h;have l:∀{m:ga},C5 o n c L xs m->K ((i:Int)+1)/\(∃r:Nat,(i:Int)+1=r/\p+1<=r/\C5 o n c L xs m)/\q-((i:Int)+1).toNat<q-(i:Int).toNat:=λh=>⟨ξ,⟨i+1,by rfl,U,h⟩,U⟩;refine⟨λm=>sub (hp k)<|hp m,sZ,ae (λaa=>?_) λm=>l ⟨g,a,h⟩⟩;have ab:p<j:=η
 have A:(j:Int)-1=((j-1:Nat):Int):=U
 rw[A];obtain⟨ac,m,C,F,_⟩:=Hf (i:=j) (j:=j-1) a h U U;refine au m U ⟨_,C,ξ,au m U ⟨_,F,bn.2 ⟨b.1,(b.2 _ _ k (u7 f a U) (u7 f a U)<|t _ h.tail.l).mono ?_⟩⟩⟩;rintro _ ad⟨al,rfl,_,r⟩;have h:=h.gr r;refine⟨_,rfl,r,ae (λam=>?_) λs=>l ⟨g,a,h⟩⟩;intro I N;have h:=h.drawn N;obtain⟨an,s,P,Q,R⟩:=Hf (i:=j) (j:=j-1) a h U U;exact⟨λX=>sub (hp I)<|hp X,sZ,ξ,ξ,au s U ⟨_,Q,au s U ⟨_,P,R _ λX h=>⟨ξ,⟨j-1,rfl,U,U,h⟩,G⟩⟩⟩⟩
end
section
variable{L:List aG}{o:E}{n c:Nat}{xs:Az}{d:aM}{e:Ay}{H:Hp}{S:Int->Prop}
theorem AS(v:u6 d e H S)(I:∀h,aL L h->sub H h)(y:∀x∈xs,S x)(P:n<=1000000)(N:Nat):∀{w:ga}{p m q:Nat},C5 o n c L xs w->p<m->m<q->q<=n->q-p<=N->
  ρ 353 [T o n c,O (p:Int),O (m:Int),O (q:Int),.func (.func d) #[] ⟨e⟩] w λQ R=>Q=.tuple #[]/\C5 o n c L xs R:=by
 induction N with
 |zero=>omega
 |succ N ih=>
 intro w p m q h am an ao ap;have l:ns 1:=by simp[ns]
 --a comparison of two that stand there
 have t:∀{f:ga}{i j:Nat}{k:ah->ga->Prop}{b:Az},b.Perm xs->W f (own 1 o n c (iv b)::L)->i<n->j<n->(∀r g,C5 o n c L xs g->sub (hp f) (hp g)->k (O r) g)->
   p9 (Fn d) (ρ d (O (b.getD i 0)::O (b.getD j 0)::e) f k):=λ{g i j A k} b h C F r=>by
  have X:=sD h;refine bn.2 ⟨v.1,(v.2 _ _ g (u7 y b U) (u7 y b U)<|I _ h.tail.l).mono ?_⟩;rintro _ s⟨z,rfl,_,f⟩;exact r z s ⟨k,b,h.gr f⟩ f
 refine mJ ⟨ξ,ae (λX=>?_) λX=>?_⟩
 ·--one on the left
  have a3:m=p+1:=G
  refine⟨λi j g=>∃b f:Nat,i=b/\j=f/\m<=b/\b<=f/\f<=q/\C5 o n c L xs g,λi j _=>j.toNat-i.toNat,⟨m,q,rfl,rfl,U,U,U,h⟩,?_⟩;clear h;rintro _ _ _ a4⟨i,j,rfl,rfl,a5,a6,a7,r,f,h⟩
  refine ae (λs=>?_) λs=>?_
  ·have a1:i<j:=η
   rw[Hb U];obtain⟨b,k⟩:∃g,g=(i+j)/2:=⟨_,rfl⟩;rw[<-k];have a2:i<=b:=U
   have a8:b<j:=U
   refine⟨ξ,l,ξ,λz A=>?_⟩;have h:=h.drawn A;obtain⟨a9,g,C,F,_⟩:=Hf (i:=b) (j:=p) f h U U
   refine⟨λY=>sub (hp z)<|hp Y,sZ,au g U ⟨_,C,au g U ⟨_,F,t f h U U λaa ab h Y=>⟨_,rfl,Y,ae (λa0=>?_) λa0=>?_⟩⟩⟩⟩
   ·exact⟨ξ,⟨b+1,j,by rfl,rfl,U,U,U,h⟩,G⟩
   grind
  ·refine⟨λg k=>∃b:Nat,g=b/\p<=b/\C5 o n c L xs k,λb _=>i-b.toNat,⟨p,rfl,gP _,r,f,h⟩,?_⟩;clear h f;rintro _ _ a8⟨b,rfl,a9,z,g,h⟩;refine⟨ξ,ae (λaa=>?_) λk=>⟨rfl,z,g,h⟩⟩;have ab:b+1<i:=G
   intro A C;have h:=h.drawn C;obtain⟨ac,k,F,Y,a0⟩:=Hf (i:=b) (j:=b+1) g h U U;have a1:(b:Int)+1=((b+1:Nat):Int):=by rfl
   rw[a1];exact⟨λa2=>sub (hp A)<|hp a2,sZ,ξ,ξ,au k U ⟨_,Y,au k U ⟨_,F,a0 _ λa2 h=>⟨ξ,⟨b+1,rfl,U,h⟩,G⟩⟩⟩⟩
 refine⟨ξ,ae (λY=>?_) λY=>?_⟩
 ·--one on the right
  have a4:q=m+1:=G
  refine⟨λi j g=>∃b f:Nat,i=b/\j=f/\p<=b/\b<=f/\f<=m/\C5 o n c L xs g,λi j _=>j.toNat-i.toNat,⟨p,m,rfl,rfl,U,U,U,h⟩,?_⟩;clear h;rintro _ _ _ a5⟨i,j,rfl,rfl,a6,a7,a8,r,f,h⟩
  refine ae (λs=>?_) λs=>?_
  ·have a2:i<j:=η
   rw[Hb U];obtain⟨b,k⟩:∃g,g=(i+j)/2:=⟨_,rfl⟩;rw[<-k];have a3:i<=b:=U
   have a9:b<j:=U
   refine⟨ξ,l,ξ,λz A=>?_⟩;have h:=h.drawn A;obtain⟨aa,g,C,F,_⟩:=Hf (i:=m) (j:=b) f h U U
   refine⟨λa0=>sub (hp z)<|hp a0,sZ,au g U ⟨_,C,au g U ⟨_,F,t f h U U λab ac h a0=>⟨_,rfl,a0,ae (λa1=>?_) λa1=>?_⟩⟩⟩⟩
   ·exact⟨ξ,⟨b+1,j,by rfl,rfl,U,U,U,h⟩,G⟩
   grind
  ·refine⟨λg k=>∃b:Nat,g=b/\b<=m/\C5 o n c L xs k,λb _=>b.toNat,⟨m,rfl,gP _,r,f,h⟩,?_⟩;clear h f;rintro _ _ a9⟨b,rfl,aa,z,g,h⟩;refine ae (λab=>?_) λk=>⟨rfl,z,g,h⟩;have ac:i<b:=η
   intro A C;have h:=h.drawn C;obtain⟨ad,k,F,a0,a1⟩:=Hf (i:=b) (j:=b-1) g h U U;have a2:(b:Int)-1=((b-1:Nat):Int):=U
   rw[a2];exact⟨λa3=>sub (hp A)<|hp a3,sZ,ξ,ξ,au k U ⟨_,a0,au k U ⟨_,F,a1 _ λa3 h=>⟨ξ,⟨b-1,rfl,U,h⟩,G⟩⟩⟩⟩
 rw[Hb U];obtain⟨b,a0⟩:∃f,f=(p+q)/2:=⟨_,rfl⟩;rw[<-a0];have av:p<b:=U
 have az:b<q:=U
 have aB:p+q<=2*b+1/\2*b<=p+q:=U
 refine⟨ξ,l,ξ,ξ,λk r s=>∃f g:Nat,k=f/\r=g/\(b<m->b+m<=f+q/\g<=b/\f<=b)/\(¬b<m->p<=f/\g<=m/\f<=m)/\C5 o n c L xs s,ae (λa1=>?_) λa1=>?_,?_⟩
 ·have f:b<m:=G
  exact⟨ξ,b+m-q,b,U,rfl,λ_=>⟨U,U,U⟩,λg=>absurd f g,h⟩
 ·grind
 clear h;rintro _ _ _ aK⟨a2,a3,rfl,rfl,z,A,h⟩;refine⟨ξ,λk r s=>∃f g:Nat,k=f/\r=g/\(b<m->b+m<=f+q/\g<=b/\f<=b)/\(¬b<m->p<=f/\g<=m/\f<=m)/\C5 o n c L xs s,λf g _=>g.toNat-f.toNat,⟨a2,a3,rfl,rfl,z,A,h⟩,?_⟩;clear h z A;rintro _ _ _ a4⟨f,r,rfl,rfl,aR,aS,a5,s,h⟩
 refine ae (λa6=>?_) λa6=>?_
 ·have aV:f<r:=η
  rw[Hb U];obtain⟨g,a7⟩:∃k,k=(f+r)/2:=⟨_,rfl⟩;rw[<-a7];have b0:f<=g:=U
  have b1:g<r:=U
  obtain⟨C,a8⟩:∃k:Nat,(b:Int)+m-1-g=k:=⟨b+m-1-g,U⟩;have k:C<n/\g<n:=U
  rw[a8];refine⟨ξ,l,ξ,λa9 aa=>?_⟩;have h:=h.drawn aa;obtain⟨b2,F,ab,ac,_⟩:=Hf (i:=C) (j:=g) s h k.1 k.2
  refine⟨λad=>sub (hp a9)<|hp ad,sZ,ξ,au F k.1 ⟨_,ab,au F k.2 ⟨_,ac,t s h k.1 k.2 λb3 b4 h ad=>⟨_,rfl,ad,ae (λal=>?_) λal=>?_⟩⟩⟩⟩
  ·exact⟨ξ,⟨g+1,r,by rfl,rfl,λb5=>U,λb5=>U,h⟩,G⟩
  grind
 have g:C5 o n c L xs a4:=⟨a5,s,h⟩;clear h s;obtain⟨k,C⟩:∃F:Nat,(b:Int)+m-f=F:=⟨b+m-f,U⟩;have a8:k<=q/\m<=b+m-f/\f<=m:=U
 rw[C]
 refine⟨ξ,λF=>C5 o n c L xs F,ae (λa9=>ae (λaa=>?_) λ_=>g) λ_=>g,?_⟩
 ·have F:f<m:=η
  have a7:m<k:=η
  refine(aaW g F a7 U P).mono ?_;simp
 clear g;intro _ F h
 refine ae (λa7=>ae (λab=>(ih h η G U U).mono ?_) λ_=>?_) λ_=>?_
 ·rintro _ ac⟨rfl,h⟩;refine⟨rfl,ae (λad=>ae (λal=>(ih h G η U U).mono ?_) λ_=>⟨rfl,h⟩) λ_=>⟨rfl,h⟩⟩;simp
 ·refine ae (λac=>ae (λad=>(ih h G η U U).mono ?_) λ_=>⟨rfl,h⟩) λ_=>⟨rfl,h⟩;simp
 ·refine ae (λac=>ae (λad=>(ih h G η U U).mono ?_) λ_=>⟨rfl,h⟩) λ_=>⟨rfl,h⟩;simp
theorem aaX{w:ga}(g:u6 d e H S)(i:∀h,aL L h->sub H h)(j:∀x∈xs,S x)(y:n<=100000)(h:W w (own 1 o n c (iv xs)::L)):
  ρ 210 [T o n c,.func (.func d) #[] ⟨e⟩] w λr s=>r=.tuple #[]/\C5 o n c L xs s:=by
 refine k_<|(@oq _ _ _ _ _ _ w (λa b=>a=.tuple #[]/\C5 o n c L xs b) ?_).mono λa b h=>⟨h.1,rfl,h.2⟩;have l:C5 o n c L xs w:=⟨xs,.refl _,h⟩;clear h;refine⟨λb f k=>∃a:Nat,b=a/\f=(a:Int)+20/\a<=n/\C5 o n c L xs k,λa _ _=>n-a.toNat,⟨0,rfl,rfl,gu _,l⟩,?_⟩;clear l;rintro _ _ _ z⟨f,rfl,rfl,k,h⟩;have m:(f:Int)+20=((f+20:Nat):Int):=by rfl
 refine ae (λp=>?_) λp=>?_
 ·have a:f+20<=n:=G
  rw[m];refine(RN g i j h k a U).mono ?_;rintro _ b⟨rfl,h⟩;exact⟨rfl,ξ,⟨f+20,rfl,rfl,a,h⟩,G⟩
 refine(RN g i j h k (gP _) U).mono ?_;rintro _ A⟨rfl,h⟩;refine⟨rfl,λb q=>∃a:Nat,b=a/\20<=a/\a<=200000/\C5 o n c L xs q,λa _=>n-a.toNat,⟨20,rfl,gP _,U,h⟩,?_⟩;clear h p m k f;rintro _ _ C⟨a,rfl,F,I,h⟩;refine ae (λN=>?_) λb=>⟨rfl,h⟩;have P:a<n:=η
 refine⟨ξ,λq t v=>∃b:Nat,q=b/\t=((b+2*a:Nat):Int)/\b<=n/\C5 o n c L xs v,λb _ _=>n-b.toNat,⟨0,rfl,U,gu _,h⟩,?_⟩;clear h;rintro _ _ _ Q⟨b,rfl,rfl,R,h⟩;have t:(b:Int)+a=((b+a:Nat):Int):=by rfl
 rw[t]
 refine ae (λv=>?_) λv=>?_
 ·have q:b+2*a<=n:=G
  refine⟨ξ,(AS g i j U _ h U U q<|gP _).mono ?_⟩;rintro _ X⟨rfl,h⟩;exact⟨rfl,ξ,ξ,⟨b+2*a,rfl,by rfl,q,h⟩,G⟩
 ·have X:n<b+2*a:=G
  refine⟨ξ,ae (λY=>?_) λq=>⟨ξ,⟨a*2,by rfl,U,U,h⟩,G⟩⟩;have q:b+a<n:=G
  refine(AS g i j U _ h U q (gP _)<|gP _).mono ?_;rintro _ a0⟨rfl,h⟩;exact⟨rfl,ξ,⟨a*2,by rfl,U,U,h⟩,G⟩
end
def O7(os:Az)(base:Nat)(e:aN):Bool:=decide ((base:Int)+e.sym<os.length)&&decide (0<=os.getD ((base:Int)+e.sym).toNat 0)
structure CP where
 b:E
 cb:Nat
 v:E
 cv:Nat
 o:E
 co:Nat
abbrev qo(r:gk)(x:CP):Ay:=[T x.b r.bs.length x.cb,T x.v r.vs.length x.cv,T x.o r.os.length x.co]
abbrev X4(k:Nat)(r:gk)(x:CP)(L:List aG):List aG:=ax k (qo r x)::own 1 x.b r.bs.length x.cb (iv r.bs)::own 1 x.v r.vs.length x.cv (iv r.vs)::own 1 x.o r.os.length x.co (iv r.os)::L
section
variable{w:ga}{L:List aG}{k n c i:Nat}{r:gk}{x:CP}{o:E}{es:List aN}{base:Nat}
theorem adB{e:aN}{p q:vP}(c:∀a,sub (hp w) (hp a)->a.cell? p=some (O base))(d:∀a,sub (hp w) (hp a)->a.cell? q=some (u (some (Z k))))(m:aj (hp w) (Z k) (qo r x))(n:bf (hp w) r.os x.o r.os.length)(h0:0<=e.sym)(L:e.sym<=1000000)(N:base<=1000000):
  ρ 355 [.agg ⟨[O e.sym,O e.to]⟩,.pointer (some p),.pointer (some q)] w λo s=>o=J (O7 r.os base e)/\Gr w s:=by
 refine xE<|ag (W.all w) λP Q t f v=>?_;have g:=t.drawn v;have a:Gr w f:=g.aS;have h:=af 0 g.l;have l:=m.mono a
 refine⟨λb=>Gr f b,Gr.refl _,base,λb y=>c b<|sub.trans a y,e.sym,λy b=>h.cell0 b,ξ,some<|Z k,λb y=>d b<|sub.trans a y,_,_,_,λy b=>l.cell b (j:=2) rfl,ae (λb=>?_) λb=>?_⟩
 ·have R:=gZ b;obtain⟨y,z⟩:∃A:Nat,(base:Int)+e.sym=A:=⟨((base:Int)+e.sym).toNat,U⟩;obtain⟨S,A,C⟩:=qq (n.mono a) (i:=y) U;refine⟨some<|Z k,λF I=>d F<|sub.trans a I,_,_,_,λI F=>l.cell F (j:=2) rfl,base,λF I=>c F<|sub.trans a I,e.sym,λI F=>h.cell0 F,ξ,?_⟩;rw[z];refine au A U ⟨_,λF I=>C F I,?_,a⟩
  simp_all[O7,kG]
 ·have y:=hY b
  simp_all[O7,jM,Bool.false_and]
theorem af4(h:aj (hp w) (Z k) (qo r x))(i:bf (hp w) r.os x.o r.os.length)(j:bf (hp w) es o n)(l:n<=1000000)(f:∀e∈es,0<=e.sym/\e.sym<=1000000)(m:base<=1000000):
  ρ 295 [u (some (Z k)),O base,T o n c] w λp q=>p=J (!es.any (O7 r.os base))/\Gr w q:=by
 refine Cy<|ag (W.all w) λz A a=>ag a λC s a=>?_;have b:Gr w s:=a.tail.aS;have t:=af 0 a.l;have v:=af 1 a.l;refine(adv (j.mono b) rfl (λe g F d=>adB (k:=k) (base:=base) (r:=r) (x:=x) (λI y=>t.cell0<|sub.trans d y) (λI y=>v.cell0<|sub.trans d y) (h.mono<|b.trans d) (i.mono<|b.trans d) (f e g).1 (f e g).2 m) l).mono ?_;rintro _ g⟨rfl,d⟩;exact⟨_,rfl,rfl,b.trans d⟩
theorem adC(a:∀e∈es,0<=e.sym/\e.sym<=1000000)(h:r.os.length<=base):es.any (O7 r.os base)=false:=by grind[List.any_eq_false,O7,decide_eq_false]
def Es(os:Az)(k:Int):Prop:=∀t:Nat,(t:Int)=k->t<os.length->os[t]? =some (-1)
theorem aaY{K:Nat->List aN}{N:Nat}(c:jk N K r)(h:(!es.any (O7 r.os base))=true):∀e∈es,Es r.os ((base:Int)+e.sym):=by
 intro e d a f g;have h:es.any (O7 r.os base)=false:=η
 rw[List.any_eq_false] at h;have h:=h e d;have b:=gn g;unfold O7 at h;rw[<-f,kG U,je,jX,b] at h;have h:¬0<=r.os[a]:=η
 rcases c.own a _ b with i|⟨j,_,i,_⟩
 ·simp_all
 omega
theorem Es.ext{os:Az}{k:Int}(h:Es os k):Es (os++[-1]) k:=λb c d=>by
 rcases Nat.lt_or_ge b os.length with a|a
 ·rw[ki a];exact h b c a
 simp_all
theorem Es.set{os:Az}{k:Int}{m:Nat}{z:Int}(h:Es os k)(c:(m:Int)≠k):Es (os.set m z) k:=λa b d=>by
 rw[qV U]
 exact h a b η
structure ve(N:Nat)(K:Nat->List aN)(bs:Az)(M base:Nat)(fr:List aN)(k k3:Nat)(e0:Ay)(L:List aG)(y:gk×CP)(u:ga):Prop where
 c:jk N K y.1
 bs:y.1.bs=bs
 l:y.1.os.length<=M
 fr:∀e∈fr,Es y.1.os ((base:Int)+e.sym)
 v:∀z∈y.1.vs,-1000000<=z/\z<=1000000
 s:W u (ax k3 e0::X4 k y.1 y.2 L)
abbrev T7(K:Nat->List aN)(i:Nat)(l:List aN):Nat->List aN:=λj=>if j=i then l else K j
theorem ahA{K:Nat->List aN}{N:Nat}(v:jk N K r)(hi:i<N)(aa:K i=[])(F:∀h,aL L h->bf h es o n)(bo:n<=100000)(bu:∀e∈es,0<=e.sym/\e.sym<256)(bz:(es.map (·.sym)).Nodup)(bE:∀b∈r.bs,0<=b)(bN:r.os.length<=500000)(ab:∀z∈r.vs,-1000000<=z/\z<=1000000)(bO:∀e∈es,-1000000<=e.to/\e.to<=1000000)(h:W w (X4 k r x L)):
  ρ 212 [u (some (Z k)),O (i:Int),T o n c] w λac ad=>ac=.tuple #[]/\∃r' x',jk N (T7 K i es) r'/\(∀b∈r'.bs,0<=b)/\r'.os.length<=r.os.length+257/\(∀z∈r'.vs,-1000000<=z/\z<=1000000)/\W ad (X4 k r' x' L):=by
 have al:∀e∈es,0<=e.sym/\e.sym<=1000000:=λe d=>G
 refine DZ ⟨λz d=>∃b:Nat,z=b/\b<=r.os.length/\W d (X4 k r x L),λz _=>r.os.length-z.toNat,⟨0,rfl,gu _,h⟩,?_⟩;clear h;rintro _ _ bP⟨d,rfl,bT,h⟩;refine(af4 (af 0 h.l) (ic<|h.pick 4 [3]) ((F _ h.tail.tail.tail.tail.l)) U al U).mono ?_;rintro _ c0⟨rfl,am⟩;have h:=h.gr am
 refine⟨_,rfl,ae (λy=>?_) λy=>?_⟩
 ·have g:d≠r.os.length:=λe=>by simp_all[adC]
  exact⟨ξ,⟨d+1,rfl,U,h⟩,bS U⟩
 have I:=aaY v (by simpa using y);clear y;have c1:r.bs.length=N:=v.lb;refine⟨_,_,_,h.cell 0,?_⟩;obtain⟨c2,P⟩:=fk h.tail (by grind[dq]);refine au P U (ib h.swap P (by grind[dq]) λan h=>?_)
 have h:W an (X4 k { r with bs:=r.bs.set i d } x L):=by
  have e:(iv r.bs).set i (O d)=iv (r.bs.set i d):=by simp[iv]
  rw[e] at h;have h:=h.swap
  grind
 have ao:=v.base aa d;have c3:∀b∈r.bs.set i (d:Int),0<=b:=λb g=>G
 have c4:(r.bs.set i (d:Int)).getD i 0=d:=η
 have Q:jk N (T7 K i<|es.take 0) { r with bs:=r.bs.set i (d:Int) }:=by
  have:T7 K i (es.take 0)=K:=G
  simp_all
 obtain⟨ap,av⟩:∃g:gk,g={ r with bs:=r.bs.set i (d:Int) }:=⟨_,rfl⟩;refine⟨λz l=>∃(j:Nat)(g:gk)(m:CP),z=j/\j<=n/\jk N (T7 K i<|es.take j) g/\g.bs=r.bs.set i (d:Int)/\g.os.length<=r.os.length+257/\(∀e∈es.drop j,Es g.os<|(d:Int)+e.sym)/\(∀z∈g.vs,-1000000<=z/\z<=1000000)/\W l (X4 k g m L),λz _=>n-z.toNat,⟨0,_,x,rfl,gu _,Q,rfl,V,λe g=>I e η,ab,h⟩,?_⟩;clear h Q ao I av ap;rintro _ _ c5⟨j,az,aB,rfl,c6,A,R,S,X,Y,h⟩;have a0:=F _ h.tail.tail.tail.tail.l;refine ae (λaK=>?_) λaK=>?_
 rotate_left
 ·have g:j=n:=G
  subst g;rw[jy (by rw[a0.1];omega)] at A
  grind
 have q:j<n:=η
 obtain⟨e,c7,vs,a1,aR,aS,aV⟩:=a0.get q;have b0:vs=[O e.sym,O e.to]:=aV;subst b0;have c8:=gg a1;obtain⟨l,b1⟩:∃g:Nat,e.sym=g:=⟨e.sym.toNat,G⟩;have c9:l<256:=G
 refine aI aR q ⟨_,_,aS.at sZ rfl,ag h λm ca h=>aQ h rfl (by simp[aO]) λb2 h=>?_⟩;rw[b1] at h;have a2:ve N (T7 K i<|es.take j) (r.bs.set i (d:Int)) (r.os.length+257) d (es.drop j) k m [O l,O e.to] L (az,aB) b2:=⟨A,R,S,X,Y,h⟩;refine⟨λg=>∃p,ve N (T7 K i<|es.take j) (r.bs.set i (d:Int)) (r.os.length+257) d (es.drop j) k m [O l,O e.to] L p g,XZ (ve N (T7 K i<|es.take j) (r.bs.set i (d:Int)) (r.os.length+257) d (es.drop j) k m [O l,O e.to] L) λg=>d+l+1-g.1.os.length,⟨_,a2⟩,?_⟩;clear h A R S X Y a2;intro _ cb a3;obtain⟨b3,⟨s,C,b4,t,b5,h⟩,cc⟩:=Dz (f:=λg:gk×CP=>d+l+1-g.1.os.length) a3;clear a3;obtain⟨g,p⟩:=b3;dsimp only at s C b4 t b5 h;have cd:g.vs.length=g.os.length:=s.lv;intro b6 b7;have h:=h.drawn b7
 refine⟨λa4=>Gr b6 a4,Gr.refl _,_,_,_,λa5 a4=>by rw[ak];exact(af 1 h.l).cell a4 (j:=2) rfl,_,λa5 a4=>(af 0 h.l).cell0 a4,ξ,ae (λb9=>?_) λb9=>?_⟩
 ·--a place more
  have bd:g.os.length<=d+l:=G
  refine⟨_,_,_,by rw[ak];exact h.tail.cell 2,ag h λbe bQ h=>?_⟩;refine(aU (us:=iv g.os) (vs:=[O (-1)]) aY (rfl:ai Ty _=.slice _) (rfl:ai Ty _=.slice _) rfl rfl rfl (h.pick 6 [0,5,1,2,3,4]) rfl (by simp[aO]) G U).mono ?_;rintro _ bi⟨a4,a5,rfl,h⟩;refine⟨_,_,_,rfl,?_⟩
  show gh _ ((Z k).add _) _ _
  rw[ak];refine aX (i:=2) (h.pick 6 [3,0,2,4,5]) V λbl h=>?_;refine⟨_,_,_,by rw[ak];exact h.cell 1,ag h λce cg h=>?_⟩;refine(aU (us:=iv g.vs) (vs:=[O 0]) aY (rfl:ai Ty _=.slice _) (rfl:ai Ty _=.slice _) rfl rfl rfl (h.pick 6 [0,5,1,2,3,4]) rfl (by simp[aO]) G U).mono ?_;rintro _ ch⟨a6,a7,rfl,h⟩;refine⟨_,_,_,rfl,?_⟩
  show gh _ ((Z k).add _) _ _
  rw[ak];refine aX (i:=1) (h.pick 6 [2,0,3,4,5]) V λa8 h=>?_;have ba:=s.ext
  have bb:W a8 (ax m [O l,O e.to]::X4 k { g with os:=g.os++[-1],vs:=g.vs++[0] } ⟨p.b,p.cb,a6,a7,a4,a5⟩ L):=by
   have a9:iv (g.os++[-1])=iv g.os++[O (-1)]:=by simp[iv]
   have bc:iv (g.vs++[0])=iv g.vs++[O 0]:=by simp[iv]
   unfold X4 qo;dsimp only;rw[a9,bc,jw,jw];exact h.pick 5 [3,0,4,1,2]
  have a9:ve N (T7 K i<|es.take j) (r.bs.set i (d:Int)) (r.os.length+257) d (es.drop j) k m [O l,O e.to] L ({ g with os:=g.os++[-1],vs:=g.vs++[0] },⟨p.b,p.cb,a6,a7,a4,a5⟩) a8:=by
   refine⟨ba,C,G,λe bc=>(t e bc).ext,λz bc=>?_,bb⟩
   grind
  refine⟨⟨_,a9⟩,?_⟩;have ci:=B8 (f:=λbc:gk×CP=>d+l+1-bc.1.os.length) a9
  grind
 ·--it is laid
  have a4:d+l<g.os.length:=G
  intro ce a9;have h:=h.drawn a9;obtain⟨cg,a5⟩:=fk (h.pick 5 [4,0,1,2,3]) (by grind[dq]);obtain⟨ch,a6⟩:=fk (h.pick 5 [3,0,1,2,4]) (by grind[dq]);have ba:(d:Int)+l=((d+l:Nat):Int):=by rfl
  refine⟨λa7=>aj (hp a7) (Z m) [O l,O e.to]/\aj (hp a7) (Z k) (qo g p),⟨af 0 h.l,af 1 h.l⟩,_,_,_,λa8 a7=>by rw[ak];exact a7.2.cell sZ (j:=2) rfl,_,λa8 a7=>a7.1.cell0 sZ,ξ,_,_,_,λa8 a7=>by rw[ak];exact a7.2.cell sZ (j:=1) rfl,_,λa8 a7=>a7.1.cell0 sZ,ξ,_,λa8 a7=>a7.1.cell sZ (j:=1) rfl,?_⟩;rw[ba];refine au a5 a4<|ib (h.pick 5 [4,0,1,2,3]) a5 (by grind[dq]) λci h=>⟨⟨af 1 h.l,af 2 h.l⟩,au a6 U<|ib (h.pick 5 [4,0,1,2,3]) a6 (by grind[dq]) λck h=>?_⟩;have bb:=t e (by grind[List.drop_eq_getElem_cons,List.getElem?_eq_getElem,List.mem_cons_self]) (d+l) U a4;have a7:=s.put (e:=e) hi (k:=d+l) G bb
  have bc:(λj'=>if j'=i then T7 K i (es.take j) i++[e] else T7 K i (es.take j) j')=T7 K i (es.take<|j+1):=by
   funext j'
   unfold T7
   split
   ·rw[gD rfl,iw,a1];rfl
   rfl
  rw[bc] at a7;have bd:(j:Int)+1=((j+1:Nat):Int):=by rfl
  refine⟨ξ,⟨j+1,_,p,bd,q,a7,C,G,λa8 be=>?_,λz cl=>?_,?_⟩,bS q⟩
  ·refine(t a8 ?_).set ?_
   ·grind[List.drop_eq_getElem_cons,List.mem_cons_of_mem]
   ·intro cm;obtain⟨bi,bl⟩:=jR be;rw[kI] at bl;have cn:(es.map (·.sym))[j]? =some e.sym:=η
    have co:(es.map (·.sym))[j+1+bi]? =some a8.sym:=η
    grind[List.getElem?_inj,List.getElem?_eq_some_iff]
  ·grind
  ·have bi:(iv g.os).set (d+l) (O (i:Int))=iv (g.os.set (d+l) (i:Int)):=by simp[iv]
   have bl:(iv g.vs).set (d+l) (O e.to)=iv (g.vs.set (d+l) e.to):=by simp[iv]
   rw[bi,bl] at h;unfold X4 qo;rw[ky,ky];exact h.pick 5 [3,4,0,1]
end
def AU:Ay:=List.replicate 256 (J false)
noncomputable abbrev AV:=Ty
theorem ahB:fb prog AV:=aY
theorem rvA{i:aM}{fn:Func}(b:prog.funcs[i]? =some fn)(A:a_){args:Ay}{w:ga}{R:ah->ga->Prop}{a:Prop}(e:fnV prog AV Fn Ev A fn args w R=a)(h:a):ρ i args w R:=YE ahB YH qa b A (e▸h)
def KI:a_:={ rngs:=[],loops:=[(3,[(8,(.one (.int .i64)))])],joins:=[],blocks:=[] }
def L3(a:E)(b c:Nat)(w:ga)(R:ah->WP):Prop:=  new w (oC AU 443) λc d=>gT 0 d λe f d g=>br (decide (d<(↑b:Int))) (M a b d 2 λa=>∃b h,iA g a 0 2=some [O b,O h]/\H g [O 0,O 0] 203 λa i=>bC i (Z a) [O b,O h] λb=>∃h,World.cell? b (Z a)=some (O h)/\br (decide (h<0)) (R (J false) b) (∃h,World.cell? b (Z a)=some (O h)/\br (decide (256<=h)) (R (J false) b) (∃h,World.cell? b (Z a)=some (O h)/\M (some (Z c)) 256 h 1 λh=>∃i,World.cell? b h=some (J i)/\br i (R (J false) b) (∃h,World.cell? b (Z a)=some (O h)/\M (some (Z c)) 256 h 1 λa=>gh b a (J true) λa=>gx e f d a g)))) (R (J true) g)
theorem KJ(a:E)(b c:Nat)(w:ga)(R:ah->WP)(h:L3 a b c w R):ρ 209 [(T a b c)] w R:=rvA func209 KI (by kernel_rfl) h
structure Xl(es:List aN):Prop where
 s:∀e∈es,0<=e.sym/\e.sym<256
 d:(es.map (·.sym)).Nodup
 v:∀e∈es,-1000000<=e.to/\e.to<=1000000
 n:es.length<=256
section
variable{w:ga}{L:List aG}{n c:Nat}{o:E}{es:List aN}{h:List (List aN)}
theorem adE(hes:bf (hp w) es o n)(hE:Xl es):ρ 209 [T o n c] w λv w'=>v=J true/\Gr w w':=by
 refine KJ _ _ _ w _<|ag (W.all w) λk1 w1 h=>?_;have e0:AU=bv (List.replicate 256 false):=by rfl
 rw[e0] at h;have hn:n<=256:=by rw[<-hes.1];exact hE.n
 refine⟨λz u=>∃(j:Nat)(bs:At),z=j/\j<=n/\bs.length=256/\(∀t:Nat,bs[t]? =some true->∃e∈es.take j,e.sym=t)/\W u (ax k1 (bv bs)::all w),λz _=>n-z.toNat,⟨0,_,rfl,gu _,V,λt ht=>?_,h⟩,?_⟩
 ·grind
 clear h e0;rintro _ _ w2⟨j,bs,rfl,hj,hl,hb,h⟩;refine ae (λb=>?_) λb=>⟨rfl,h.aS⟩;have b:j<n:=η
 obtain⟨e,a5,vs,hx,X,f,a⟩:=(hes.mono h.aS).get b;have a:vs=[O e.sym,O e.to]:=a;subst a;have d:=gg hx;obtain⟨s,Y⟩:∃s:Nat,e.sym=s:=⟨e.sym.toNat,by have:=hE.s e d;omega⟩;have g:s<256:=by have:=hE.s e d;omega
 refine aI X b ⟨_,_,f.at sZ rfl,ag h λk2 w3 h=>aQ h rfl (by simp[aO]) λw4 h=>?_⟩;rw[Y] at h
 have a0:bs[s]? =some false:=by
  rw[gn U];cases hv:bs[s] with
  |false=>rfl
  |true=>
   exfalso;obtain⟨e',Z,a4⟩:=hb s η;obtain⟨m,hm⟩:=jR Z;rw[nN] at hm
   split at hm
   ·rename_i hmj;have h5:(es.map (·.sym))[j]? =some e.sym:=η
    have h6:(es.map (·.sym))[m]? =some e'.sym:=η
    have:=(vJ (gJ.1 h5).1 hE.d).1 (h5.trans (by rw[h6];simp_all));omega
   simp_all
 refine⟨_,h.cell 0,bm V ⟨_,h.cell 0,bm G ⟨_,h.cell 0,au rfl g ⟨false,?_,bm rfl ⟨_,h.cell 0,au rfl g ?_⟩⟩⟩⟩⟩
 ·exact(af 1 h.l).cell sZ (by simp_all[bv])
 rw[ak]
 refine aX h.swap (by simp_all[bv]) λw5 h=>⟨ξ,⟨j+1,bs.set s true,V,b,η,λt ht=>?_,?_⟩,bS b⟩
 ·grind[List.take_add_one,List.getElem?_set_ne]
 ·have e1:(bv bs).set s (J true)=bv (bs.set s true):=by simp[bv]
  rw[e1] at h;exact h.pick 3 [0,2]
theorem aaZ(a:bf (hp w) es o n)(b:Xl es):ρ 208 [T o n c] w λd e=>d=J false/\Gr w e:=by
 refine HL<|(adE a b).mono ?_;simp
theorem ahC{H:Hp}{p:vP}(d:bf H h o n)(e:∀es∈h,Xl es)(f:∀a,sub H (hp a)->a.cell? p=some (T o n c)):u6 LK [.pointer (some p)] H λg=>0<=g/\g<n:=by
 refine⟨rfl,λj k I L N P=>HN λl q=>?_⟩;have a:sub H (hp l):=by grind[aW]
 obtain⟨i,rfl⟩:∃i:Nat,j=i:=⟨j.toNat,U⟩;obtain⟨r,rfl⟩:∃i:Nat,k=i:=⟨k.toNat,U⟩;obtain⟨s,Q,R,t,b,v,S,X,Y,rfl,_,w⟩:=(d.mono a).get (i:=i) U;obtain⟨x,a0,a1,y,m,z,a2,a3,a4,rfl,_,A⟩:=(d.mono a).get (i:=r) U;rw[b] at m;cases m;have a5:=(e s<|gg t).n;have a6:=(e x<|gg y).n;have a7:=w.1;have a8:=A.1;refine⟨λC=>Gr l C,Gr.refl _,_,_,_,λC F=>f C<|sub.trans a F,aI b U ⟨_,_,_,λF C=>z.cell0 C,_,_,_,λC F=>f C<|sub.trans a F,aI b U ⟨_,_,_,λF C=>v.cell0 C,ξ,_,rfl,ξ,Gr.of_eq<|aW q⟩⟩⟩
def qO(h:List (List aN))(l:Az)(i:Nat):List aN:=if(i:Int)∈l then h.getD i [] else[]
theorem AW(C:bf (hp w) h o n)(F:∀es∈h,Xl es)(bo:n<=256):ρ 111 [T o n c] w λad al=>∃(r:gk)(x:CP),ad=.tuple #[.agg #[T x.b r.bs.length x.cb,T x.v r.vs.length x.cv,T x.o r.os.length x.co],O 0]/\
  RM h r/\r.os.length<=100000/\(∀z∈r.vs,-1000000<=z/\z<=1000000)/\W al (own 1 x.b r.bs.length x.cb (iv r.bs)::own 1 x.v r.vs.length x.cv (iv r.vs)::own 1 x.o r.os.length x.co (iv r.os)::all w):=by
 have bs:=C.1
 refine Og (ag (W.all w) λt bu f=>ag f λg bz f=>⟨λa b=>a=false/\W b (ax g [D,D,D]::ax t [T o n c]::all w),⟨_,_,_,f.tail.cell 0,bm G ⟨_,_,_,f.tail.cell 0,?_⟩⟩,?_⟩)
 ·refine(adw (p:=λ_=>false) (C.mono f.tail.aS) rfl (λes a e i j k m b=>?_) U).mono ?_
  ·exact aaZ b (F es a)
  ·rintro _ q⟨rfl,d⟩;exact⟨_,rfl,V,f.gr d⟩
 clear f;rintro _ _ bE⟨rfl,am⟩;obtain⟨e,I,an,ao⟩:=am.freeze;have j:aj e (Z t) [T o n c]:=af 0 I;have ap:sub (hp w) e:=aE 1 I;have L:=C.mono ap;refine bm rfl ⟨_,_,_,j.cell0 an,⟨U,rfl,U⟩,?_⟩;rw[je,de];refine ag ao λk bN P=>?_;have a2:List.replicate n (O 0)=iv ((List.range 0).map (λ(a:Nat)=>(a:Int))++List.replicate (n-0) 0):=by simp[iv]
 rw[a2] at P;refine⟨λz b=>∃a:Nat,z=a/\a<=n/\W b (ax k (iv<|(List.range a).map (λ(d:Nat)=>(d:Int))++List.replicate (n-a) 0)::ax g [D,D,D]::[has e]),λz _=>n-z.toNat,⟨0,rfl,gu _,P⟩,?_⟩;clear P a2;rintro _ _ av⟨a,rfl,az,a3⟩
 refine ae (λaB=>?_) λaB=>?_
 ·have b:a<n:=η
  refine au rfl b ?_;rw[ak];refine aX a3 (by simp_all[dq]) λi m=>⟨ξ,⟨a+1,V,b,?_⟩,bS b⟩
  have q:(iv<|(List.range a).map (λ(d:Nat)=>(d:Int))++List.replicate (n-a) 0).set a (O (a:Int))=iv ((List.range<|a+1).map (λ(d:Nat)=>(d:Int))++List.replicate (n-(a+1)) 0):=by
   rw[Ik];congr 1;rw[show n-a=(n-(a+1))+1 from U,oH,o7 _ _ V,jO,oT,lH,List.set_cons_zero,k8,jI,jT];rfl
  simp_all
 have aK:a=n:=G
 subst aK;rw[lH,List.replicate_zero,jK] at a3;have a4:W av (own 1 (some<|Z k) a a (iv<|(List.range a).map λ(b:Nat)=>(b:Int))::ax g [D,D,D]::[has e]):=bq (cs:=[]) η (by simp[dq]) (by simp[dq]) (gP _)
 refine(aaX (ahC (p:=Z t) L F λd b=>j.cell0 b) (λd b=>aE 1 b) (λx bO=>?_) U a4).mono ?_
 ·grind
 rintro _ bP⟨rfl,b,aR,Q⟩;have bT:=sD Q;have bQ:b.Nodup:=aR.nodup_iff.2<|lF.2<|List.nodup_range.imp λd i=>d U;have aS:∀z∈b,∃d:Nat,z=d/\d<a:=λz d=>G
 refine⟨rfl,_,_,_,j.cell0<|aE 2 Q.l,⟨U,rfl,U⟩,?_⟩;rw[je,de];refine ag Q λaV c0 m=>ag m λa5 b0 m=>?_;have a6:List.replicate a (O 0)=iv (List.replicate a 0):=by simp[iv]
 rw[a6] at m;have b1:∀d,aL (own 1 (some<|Z k) a a (iv b)::ax g [D,D,D]::[has e]) d->sub e d:=λi d=>aE 2 d
 have a7:W b0 (X4 a5 ⟨List.replicate a 0,[],[]⟩ ⟨some<|Z aV,a,none,0,none,0⟩<|own 1 (some<|Z k) a a (iv b)::ax g [D,D,D]::[has e]):=by
  have d:=bq (sz:=1) (l:=a) (c:=a) (cs:=[]) (by rw[jK];exact m.swap) G G<|gP _;have i:=aH 1<|aH 1 d;unfold X4 qo;dsimp only;rw[oF];exact i.pick 7 [3,2,0,1,4,5,6]
 have b2:qO h (b.take 0)=λ_=>[]:=by rfl
 refine⟨λz i=>∃(d:Nat)(r:gk)(x:CP),z=d/\d<=a/\jk a (qO h<|b.take d) r/\(∀q∈r.bs,0<=q)/\r.os.length<=d*257/\(∀z∈r.vs,-1000000<=z/\z<=1000000)/\W i (X4 a5 r x<|own 1 (some<|Z k) a a (iv b)::ax g [D,D,D]::[has e]),λz _=>a-z.toNat,⟨0,_,_,rfl,gu _,by simp_all[jk.new],λd i=>η,V,λz d=>G,a7⟩,?_⟩;clear m a7 b2 a6 a4 az;rintro _ _ R⟨d,r,x,rfl,c1,S,X,c2,Y,i⟩;have v:sub e (hp R):=aE 6 i.l
 refine ae (λb3=>?_) λb3=>?_
 ·have q:d<a:=η
  obtain⟨b4,a8⟩:∃s,b[d]? =some s:=⟨_,gn U⟩;obtain⟨y,rfl,s⟩:=aS b4<|gg a8;obtain⟨es,c3,c4,a9,a0,a1,b5,aa,c5,rfl,_,b6⟩:=(L.mono v).get s
  have b7:bf e es b5 aa:=by
   obtain⟨ba,bb,bc,A,ab,ac,bd,be,bi,b9,_,bl⟩:=L.get s;rw[a9] at A;cases A;rw[a0] at ab;cases ab;have c6:=a1.cell0 (w:=R) sZ;rw[b9] at ac;have c7:=ac.cell0 (w:=R) v
   simp_all
  have A:=F es<|gg a9;have c6:es.length=aa:=b6.1
  have b9:qO h (b.take d) y=[]:=by
   unfold qO;rw[gv]
   grind[List.getElem?_of_mem,List.getElem?_inj]
  have ab:T7 (qO h<|b.take d) y es=qO h (b.take<|d+1):=by
   funext i'
   unfold T7 qO;rw[iw,a8]
   grind
  have ba:(iv b)[d]? =some (O (y:Int)):=by simp_all[iv]
  refine au rfl q ⟨_,r_ (i.pick 5 [4,0,1,2,3]) rfl ba,_,_,_,j.cell0 v,aI a0 s ⟨_,_,_,a1.cell0 sZ,ae (λbb=>?_) λbb=>?_⟩⟩
  ·refine⟨_,_,_,j.cell0 v,aI a0 s ⟨_,_,_,a1.cell0 sZ,(ahA S s b9 (λac bc=>b7.mono<|b1 ac bc) (by have:=A.n;omega) A.s A.d X U Y A.v i).mono ?_⟩⟩;rintro _ c7⟨rfl,bc,bd,ac,be,c8,bi,bl⟩;rw[ab] at ac;exact⟨rfl,ξ,⟨d+1,bc,bd,V,q,ac,be,U,bi,bl⟩,bS q⟩
  ·have bc:es=[]:=j2 η;have ac:T7 (qO h<|b.take d) y es=qO h (b.take d):=G
   rw[ab] at ac;exact⟨ξ,⟨d+1,r,x,V,q,η,X,U,Y,i⟩,bS q⟩
 have y:d=a:=G
 subst y;rw[jy U] at S
 have A:qO h b=λq=>h.getD q []:=by
  funext q
  unfold qO
  grind
 rw[A] at S;refine⟨_,_,_,_,_,_,_,_,_,(af 0 i.l).at sZ rfl,?_⟩;refine aQ (i.pick 6 [5,1,2,3]) rfl (by simp[aO]) λq s=>⟨_,_,_,_,_,_,_,_,_,(af 0 s.l).at sZ rfl,r,x,rfl,⟨η,X⟩,U,Y,?_⟩;have a0:W q ([own 1 x.b r.bs.length x.cb (iv r.bs),own 1 x.v r.vs.length x.cv<|iv r.vs,own 1 x.o r.os.length x.co<|iv r.os]++[has e]):=s.tail;have a1:W q (own 1 x.b r.bs.length x.cb (iv r.bs)::own 1 x.v r.vs.length x.cv (iv r.vs)::own 1 x.o r.os.length x.co (iv r.os)::[ax t [T o d c],has<|hp w]):=W.on (N:=[_,_,_]) a0 I;exact a1.pick 4 [0,1,2]
end
section
variable{g:B}{nn:At}{ss:List SQ}
def qs(g:B)(p:Nat):Int:=match g.prods[p]? with
 |some x=>x.level
 |none=>0
def tn(g:B)(t:Nat):Int:=match g.terms[t]? with
 |some x=>x.level
 |none=>0
def vg(g:B)(l:Int):Int:=match g.levels[(l-1).toNat]? with
 |some x=>x
 |none=>0
def qP(g:B)(p t:Nat):Int:=
 if qs g p=0\/tn g t=0 then 0 else if tn g t<qs g p then 2 else if qs g p<tn g t then 1
 else if vg g (qs g p)=1 then 2 else if vg g (qs g p)=2 then 1 else 3
theorem af6(a:aw g){p:Nat}{x:aD}(h:g.prods[p]? =some x):0<=x.level/\x.level<=g.levels.length:=by
 obtain⟨_,_,b,d,e,_,_,f⟩:=a;cases p with
 |zero=>
  simp_all
 |succ p=>
  have c:x∈g.prods.drop 1:=by
   refine gg (i:=p) ?_
   simp_all
  exact(b.2.2.1 x c).1.2.2
theorem af7(a:aw g){l:Int}(d:1<=l)(e:l<=g.levels.length):∃v,g.levels[(l-1).toNat]? =some v/\vg g l=v/\1<=v/\v<=3:=by
 obtain⟨_,b,_⟩:=a;obtain⟨v,c⟩:∃v,g.levels[(l-1).toNat]? =some v:=⟨_,gn U⟩;have:=b.2.2.2.2.2.2.1 _ v c
 simp_all[vg]
theorem aa0(p t:Nat):0<=qP g p t/\qP g p t<=3:=by grind[qP]
def Nb(n:Nat)(a:aF):Int:=if a.kind=1/\0<=a.to then 0 else if a.kind=3/\a.to=0 then 1 else if a.kind=2/\0<a.to/\a.to<n then 1+a.to else-1
def RO(n:Nat):Int->List aF->Prop
 |_,[]=>True
 |last,a::l=>last<Nb n a/\RO n (Nb n a) l
def RP(n:Nat)(l:List aF):Prop:=RO n (-1) l
theorem RQ{n:Nat}:∀{l:List aF}{last:Int},RO n last l->∀x∈l,last<Nb n x
 |[],_,_,x,h=>G
 |a::l,last,ho,x,h=>by
  rcases jb.1 h with rfl|h
  ·exact ho.1
  ·have:=RQ ho.2 x h
   have:=ho.1
   omega
theorem af8{n:Nat}{l:List aF}(h:RP n l){x:aF}(a:x∈l):x.kind=1/\0<=x.to\/x.kind=3/\x.to=0\/x.kind=2/\0<x.to/\x.to<n:=by
 have h:=RQ h x a
 grind[Nb]
theorem O9{n:Nat}:∀{l m:List aF}{last:Int},RO n last l->(∀x∈l,∀y∈m,Nb n x<Nb n y)->(∀y∈m,last<Nb n y)->RO n last m->RO n last (l++m)
 |[],m,last,_,_,_,hm=>hm
 |a::l,m,last,hl,h,h2,hm=>⟨hl.1,O9 hl.2 (λx hx=>h x G) (λy hy=>h a V y hy) (by
   cases m with
   |nil=>trivial
   |cons b m=>exact⟨h a V b V,hm.2⟩)⟩
theorem IB{n:Nat}:∀{l:List aF}{last:Int},(∀x∈l,last<Nb n x)->l.Pairwise (λx y=>Nb n x<Nb n y)->RO n last l
 |[],_,_,_=>trivial
 |a::l,last,h,hp=>by
  obtain⟨h1,h2⟩:=my.1 hp
  exact⟨h a V,IB h1 h2⟩
theorem aa1(f:aw g)(h:bG g ss)(q t:Nat):RP g.prods.length (fe g nn ss q t):=by
 unfold RP fe
 have i:∀a∈Vy ss q t,Nb g.prods.length a=0:=λc a=>by
  obtain⟨d,b⟩:=Rw a;have:=(eZ f h b).1
  simp_all[Nb]
 have j:∀a∈Xe ss q t,Nb g.prods.length a=1:=λb a=>by
  obtain⟨rfl,_⟩:=Rx a;rfl
 have k:∀a∈Ps (dD g nn ss) q t,1<Nb g.prods.length a/\Nb g.prods.length a=1+a.to:=λa b=>by
  obtain⟨l,m,c,_,d,_⟩:=Ry b;obtain⟨n,e,_,o,p,rfl⟩:=Ei c;have r:(e:Int)=a.to:=d;unfold Nb;omega
 have c:∀{a:List aF},a.length<=1->a.Pairwise (λb d=>Nb g.prods.length b<Nb g.prods.length d):=λ{a} b=>by
  match a,b with
  |[],_=>simp
  |[d],_=>simp
 rw[jT]
 refine O9 (IB (λa b=>η)<|c<|Vz q t) (λd e a b=>?_) (λa b=>?_) (O9 (IB (λl m=>η)<|c<|VA q t) (λd e a b=>?_) (λa b=>?_)<|IB (λd e=>?_) ?_)
 ·grind
 ·grind
 ·grind
 ·grind
 ·grind
 grind[List.Pairwise.imp_of_mem,VB]
def Pv(g:B)(t:Nat)(x:aF):Int:=if x.kind=2 then qP g x.to.toNat t else 0
theorem af9(t:Nat)(x:aF):0<=Pv g t x/\Pv g t x<=3:=by
 unfold Pv
 split
 ·simp[aa0]
 omega
def Xm(g:B)(t:Nat)(x:aF):Bool:=decide (Pv g t x≠2/\Pv g t x≠3)
def IC(g:B)(t:Nat)(x:aF):Bool:=decide (Pv g t x=0\/Pv g t x=2)
def X5(g:B)(t:Nat)(x:aF):Bool:=decide (Pv g t x=3)
def gl(g:B)(t:Nat):List aF->List aF×Bool
 |[]=>([],false)
 |a::r=>if a.kind=1 then((if r.all (Xm g t)=true then[a] else[])++r.filter (IC g t),r.any (X5 g t)) else(a::r,false)
def Et:List aF×Bool->aF
 |(a::_,_)=>a
 |([],true)=>⟨4,0⟩
 |([],false)=>⟨0,0⟩
def qQ(l:List aF):List aF:=if 2<=l.length then l else[]
theorem sE{t:Nat}{a:aF}{r:List aF}(h:a.kind=1):gl g t (a::r)=((if r.all (Xm g t)=true then[a] else[])++r.filter (IC g t),r.any (X5 g t)):=by
 show(if a.kind=1 then _ else _)=_
 simp_all
theorem Au{t:Nat}{a:aF}{r:List aF}(h:¬a.kind=1):gl g t (a::r)=(a::r,false):=by
 show(if a.kind=1 then _ else _)=_
 simp_all
theorem Xn{t:Nat}{l:List aF}:(gl g t l).1.length<=l.length:=by
 cases l with
 |nil=>exact gP _
 |cons a r=>
  by_cases h:a.kind=1
  ·grind[sE,Xm,IC,List.length_filter_le,List.length_append,List.length_cons]
  simp_all[Au]
theorem Nc{t:Nat}{l:List aF}{x:aF}(h:x∈(gl g t l).1):x∈l:=by
 cases l with
 |nil=>exact h
 |cons b c=>
  by_cases a:b.kind=1
  ·rw[sE a] at h
   rcases iU.1 h with h|h
   ·split at h
    ·simp at h;subst h;exact List.mem_cons_self
    ·cases h
   ·exact ou _ (kh.1 h).1
  ·rw[Au a] at h;exact h
noncomputable def oU(g:B)(nn:At)(ss:List SQ)(q t:Nat):aF:=Et (gl g t (fe g nn ss q t))
noncomputable def Eu(g:B)(nn:At)(ss:List SQ):List (List aF):=(List.range ss.length).map λq=>(List.range g.T).map (oU g nn ss q)
def Gt(g:B)(ss:List SQ):A7:=(List.range ss.length).map λq=>(List.range g.N).map λj=>D5 ss q ((g.T+j:Nat):Int)
def Xo(g:B)(c:cW):List cW:=if 2<=(gl g c.tm.toNat c.acts).1.length then[⟨c.st,c.tm,(gl g c.tm.toNat c.acts).1⟩] else[]
noncomputable def T8(g:B)(nn:At)(ss:List SQ):List cW:=(n_ g nn ss 1).flatMap (Xo g)
def O_(g:B)(n:Nat)(cs:List cW)(A:List (List aF)):Prop:=A.length=n/\∀(q:Nat) r,A[q]? =some r->r.length=g.T/\∀(t:Nat) a,r[t]? =some a->(∀c∈cs,c.st=(q:Int)->c.tm=(t:Int)->a=Et (gl g t c.acts))/\((∀c∈cs,¬(c.st=(q:Int)/\c.tm=(t:Int)))->a=⟨0,0⟩)
theorem O_.zero{n:Nat}:O_ g n [] (List.replicate n (List.replicate g.T ⟨0,0⟩)):=by
 refine⟨V,λa b c=>?_⟩
 grind
theorem O_.put{n q t:Nat}{cs:List cW}{A:List (List aF)}{r:List aF}{c:cW}(h:O_ g n cs A)(b:A[q]? =some r)(j:c.st=(q:Int))(k:c.tm=(t:Int))(l:∀d∈cs,¬(d.st=(q:Int)/\d.tm=(t:Int))):O_ g n (cs++[c]) (A.set q (r.set t (Et (gl g t c.acts)))):=by
 obtain⟨m,o⟩:=h;have e:=(gJ.1 b).1;refine⟨G,λf p a=>?_⟩;rw[q8] at a
 by_cases i:q=f
 ·subst i;rw[gD rfl,gD e] at a
  grind
 grind
theorem O_.all{A:List (List aF)}(h:O_ g ss.length (n_ g nn ss 1) A):A=Eu g nn ss:=by
 obtain⟨r,k⟩:=h;unfold Eu;refine kv λa=>?_;rw[iE]
 by_cases d:a<ss.length
 ·rw[pC d];obtain⟨c,e⟩:∃b,A[a]? =some b:=⟨_,gn U⟩;rw[e];obtain⟨s,l⟩:=k a c e
  show some c=some _
  congr 1;refine kv λb=>?_;rw[iE]
  by_cases f:b<g.T
  ·rw[pC f];obtain⟨i,j⟩:∃m,c[b]? =some m:=⟨_,gn U⟩;rw[j];obtain⟨m,n⟩:=l b i j
   show some i=some (oU g nn ss a b)
   congr 1;unfold oU
   by_cases o:1<=(fe g nn ss a b).length
   ·exact m ⟨(a:Int),(b:Int),fe g nn ss a b⟩ (pW.2 ⟨a,b,d,f,o,rfl⟩) rfl rfl
   ·have p:fe g nn ss a b=[]:=j2 U;rw[n λt q v=>?_,p];rfl;obtain⟨w,x,_,_,y,rfl⟩:=pW.1 q
    grind
  grind
 simp_all
end
section
variable{P:iI}{w w':ga}{L:List aG}{b:Nat}{us vs:Ay}{e e':aC}{A B C D:aG}{Ty:aC->Option dL}
theorem Pa(d:fb P Ty){t ty:aC}(f:ai Ty t=.slice e)(a:E)(l c:Nat)(w:ga):(Builtin.cap_ (Array.mk [t]) ty (Array.mk [T a l c])).run P w=.ok (O (c:Int)) w:=by
 obtain⟨h,b,g⟩:=dR d f V;rw[fH g] at b;simp[Builtin.cap_,run_underlying b,goInt]
theorem RR{a:E}{len b sz:Nat}{k:E->Nat->Nat->Prop}(c:len<=b)(d:k a len b):mA a len b (some (0:Int)) none none sz k:=by
 refine dS (lo:=0) (gu _) c ?_;rw[ZJ];exact d
theorem ID(q:fb P Ty){t tx ty:aC}{i:dL}(A:ai Ty t=.slice e)(hi:Ty e=some i)(a6:0<i.size)
  {a p:E} {l c k n sl c2 dl dc:Nat} {news:Ay} (h:W w (own i.size a l c us::L)) (r:news.length=n*i.size) (C:dX p news (hp w)) (a7:∀b∈news,aO b=true) (h0:0<n) (F:k+n<=l) (I:Nat.min sl dl=n):
  bg P (Builtin.copy_ (Array.mk [t,tx]) ty (Array.mk [T (f_ a k c i.size) dl dc,T p sl c2])) w λN Q=>N=O (n:Int)/\W Q (own i.size a l c (us.take (k*i.size)++news++us.drop (k*i.size+news.length))::L):=by
 obtain⟨a8,s,R⟩:=dR q A V;rw[fH R] at s;obtain⟨S,a9,v⟩:=tY q hi;have aa:0<news.length:=η
 rcases dM h with⟨_,rfl,_,_⟩|⟨j,d,f,g,rfl,m,X,ab,ac⟩
 ·omega
 obtain⟨x,rfl,Y⟩:∃b,p=some b/\∀y z,news[y]? =some z->wR (hp w) (b.add y)=some z:=by
  rcases C with b|⟨y,e,b⟩
  ·simp_all
  simp_all
 have z:k*i.size+news.length<=us.length:=by
  rw[r,X,<-Nat.add_mul];exact nO _ F
 obtain⟨b,a0⟩:∃y,y=k*i.size:=⟨_,rfl⟩
 have a1:f_ (some ⟨j,d.length,none⟩) k c i.size=some ⟨j,d.length+b,none⟩:=by
  unfold f_;rw[gv U]
  grind[Addr.add,ew,bh,l8]
 rw[a1];rw[<-a0] at z ⊢;have ad:(d++(us++(f++g))).length=d.length+us.length+(f++g).length:=G
 have a2:(Builtin.firstCells S.size n<|T (some x) sl c2).run P w=.ok news.toArray w:=run_firstCells_some (P:=P) w _ n x sl c2 news (by rw[r,v.size]) (λy a3 a4=>j5<|Y y a3 a4)
 have a3:=run_storeCells_cells (P:=P) j (d.length+b) news 0 w (λy a4=>by
   rw[m.cell,gn U];rfl) (λy a4=>m.frozen _ _) (λy a4=>by simp_all[Nx])
 have ev:∀(news:Ay)(w0 w:ga)(o:Nat),Ev w0 w->Ev w0 (w.setCells j o news):=by
  intro news
  induction news with
  |nil=>exactλ_ _ _ h=>h
  |cons y a5 a4=>exactλw0 w o h=>a4 w0 _ (o+1) (h.trans<|Ev.setCell w _ y)
 refine⟨O (n:Int),w.setCells j (d.length+b) news,?_,ev news w w _<|Ev.refl w,rfl,?_⟩
 ·simp[Builtin.copy_,run_underlying s,Builtin.lenOf,sizeOf,typeInfo,v.inf,I,a2,a3,goInt]
 ·have a4:d++(us++(f++g))=(d++us.take b)++(us.drop b++(f++g)):=by grind[List.append_assoc,List.take_append_drop]
  rw[a4] at m;have y:=m.setCells news (d++us.take b) (us.drop b++(f++g)) G;rw[jw,k5,pS U] at y;have a5:d++us.take b++news++(us.drop b++(f++g)).drop news.length=d++((us.take b++news++us.drop (b+news.length))++(f++g)):=by grind[List.length_drop,List.drop_drop,List.append_assoc]
  rw[a5] at y;have al:(us.take b++news++us.drop (b+news.length)).length=us.length:=G
  grind[fJ,List.length_append]
theorem Nd(d:fb P Ty){t f ty:aC}{i:dL}{z:ah}(p:ai Ty t=.slice e)(q:ai Ty f=.int .i64)(hi:Ty e=some i)(r:i.zero=some z)(s:(cellsOf z).length=i.size)(v:0<i.size)
  {a:E} {c m:Nat} (h:W w L) (h0:0<m) (X:c<m) (x:m*i.bytes<=140737488355328) (Y:m<=9223372036854775807):
  bg P (Builtin.append_ (Array.mk [t,f]) ty (Array.mk [T a 0 c,O (m:Int)])) w λy A=>∃(o:E)(c':Nat)(us:Ay),y=T o m c'/\us.length=m*i.size/\W A (own i.size o m c' us::L):=by
 obtain⟨a0,j,C⟩:=dR d p V;rw[fH C] at j;obtain⟨a1,k,F⟩:=dR d q V;rw[SE F] at k;obtain⟨g,a2,b⟩:=tY d hi;have I:z.cells.size=g.size:=by rw[<-b.size,<-s,eF];simp
 rw[b.size] at*;rw[b.bytes] at x
 have N:(Builtin.firstCells g.size 0<|T a 0 c).run P w.drew=.ok ([]:Ay).toArray w.drew:=by
  cases a with
  |none=>rfl
  |some a=>grind[run_firstCells_some]
 have l:=Lib.run_append_grow_zeros (P:=P) w t f ty e g z .i64 .i64 j k b.inf (by rw[<-b.zero,r]) a 0 c [] N m h0 v U U U (by simp_all[growslice_fits]);rw[lS] at l;have Q:=grownCap_ge w m c e;refine⟨_,_,l,(Ev.drew w _).trans (Ev.push _ _),_,_,(Builtin.zeroCells z.cells m).toList,rfl,by grind[size_zeroCells],?_⟩;have R:W w.drew L:=h.same rfl;have n:=R.push (.cells (([]:Ay).toArray++Builtin.zeroCells z.cells m++Builtin.zeroCells z.cells (grownCap w m c e-m)) e)
 have S:W (w.drew.alloc<|.cells (([]:Ay).toArray++Builtin.zeroCells z.cells m++Builtin.zeroCells z.cells (grownCap w m c e-m)) e) (ax w.heap.size ((Builtin.zeroCells z.cells m).toList++(Builtin.zeroCells z.cells<|grownCap w m c e-m).toList)::L):=by
  have:(([]:Ay).toArray++Builtin.zeroCells z.cells m++Builtin.zeroCells z.cells (grownCap w m c e-m))=⟨(Builtin.zeroCells z.cells m).toList++(Builtin.zeroCells z.cells<|grownCap w m c e-m).toList⟩:=V
  rw[this] at n ⊢;exact kg.2 ⟨_,n⟩
 refine bq S (by grind[size_zeroCells]) ?_ Q;rw[jw,rz,rz,size_zeroCells,size_zeroCells,I,<-Nat.add_mul]
 simp_all
theorem aa2{sz l c m:Nat}{a:E}(h:W w (own sz a l c vs::L))(d:l+m<=c):∃us,us.length=m*sz/\W w (own sz a (l+m) c (vs++us)::L):=by
 rcases dM h with⟨rfl,rfl,rfl,rfl⟩|⟨k,n,b,e,rfl,f,g,i,o⟩
 ·simp_all
 ·have p:m*sz<=b.length:=by
   rw[jw,g] at i;have:=nO sz d
   grind
  have j:vs++(b++e)=(vs++b.take (m*sz))++(b.drop (m*sz)++e):=by grind[List.append_assoc,List.take_append_drop]
  rw[j] at f
  refine⟨b.take<|m*sz,η,fJ f ?_ ?_ d⟩
  ·grind
  simp_all
theorem af_{k:Nat}(h:W w (ax k us::ax b vs::L)):k≠b:=by
 rintro rfl;obtain⟨e,f,a,g,i,⟨j,l⟩,m,n,o,c,p,⟨q,d⟩,_⟩:=h
 rcases a k with h|h
 ·simp_all
 ·rw[c _ _ d] at h;grind
theorem RS(f:fb P Ty){g:aM}{fn:Func}{a tR:aC}{i:dL}(l:P.funcs[g]? =some fn)(m:(fn.name=="runtime.NumGoroutine")=false)(n:fn.body.isNone=true)(p:Extern.findNext fn=none)(q:Extern.find fn=some (Extern.SlicesOverlaps.overlaps #[a,a] #[tR]))
  (r:ai Ty a=.slice e) (hi:Ty e=some i) {k l2 c2 c d o:Nat} (h:W w (ax k us::ax b vs::L)) (F:vs≠[]) {K:ah->ga->Prop} (s:K (J false) w):
  wi P g [T (some ⟨k,0,none⟩) l2 c2,T (some ⟨b,o,none⟩) c d] w K:=by
 obtain⟨I,j,t⟩:=dR f r V;rw[fH t] at j;obtain⟨v,N,x⟩:=tY f hi;obtain⟨y,z⟩:=kg.1 h;obtain⟨A,C⟩:=kg.1 h.tail;have Q:=z.get;have R:=C.get;refine⟨J false,w,?_,Ev.refl w,s⟩
 rw[run_callFunc_extern l m n p q,show(Extern.SlicesOverlaps.overlaps #[a,a] #[tR]) (Array.mk [T (some ⟨k,0,none⟩) l2 c2,T (some ⟨b,o,none⟩) c d])=(Extern.SlicesOverlaps.overlaps #[a,a] #[tR]) #[T (some ⟨k,0,none⟩) l2 c2,T (some ⟨b,o,none⟩) c d] from rfl,
  Lib.run_overlaps_apart w a tR e j v.size (λw=>db x.inf) ⟨k,0,none⟩ ⟨b,o,none⟩ l2 c2 c d (af_ h) y A us.length vs.length (by grind[World.shape?]) (by grind[World.shape?]) η (h.frozen 0 none) (h.frozen _ _)]
 rfl
end
section
variable{a b c d e:E}{i j k l m n o p q r:Nat}{A B C:Int}{w:ga}{R:ah->WP}
theorem CW(h:new w (ψ a i j b k l c m n A d o p) λa b=>H b [D,D,D] 96 λb c=>χ c (Z a) λd=>kX 105 [d] c λe f g h d=>br (h !=0) (bC d (Z b) [D,D,D] λa=>∃c d e f g i j k l,rA a (Z b) 3 [T c d e,T f g i,T j k l]/\R (vU [vG [T c d e,T f g i,T j k l],O h]) a) (χ d (Z a) λc=>rE 41 [c] d λc d=>∃g h i j k l,c=vU [vG [T g h i,O j,O k],O l]/\H d [D,O 0,O 0] 76 λc d=>bC d (Z c) [T g h i,O j,O k] λd=>H d [D,D,D] 96 λd g=>gp g (Z c) λh i j=>gT 0 g λc j g k=>bQ (g<(i:Int)) (M h i g 2 λb=>∃e f h i l m,rA k b 2 [T e f h,T i l m]/\H k [D,D] 199 λb n=>bC n (Z b) [T e f h,T i l m] λe=>hU e a 1 λf h i=>qT (h:Int) (h:Int) 8/\new e (Obj.cells (Array.mk (ir (Int.toNat (h:Int)) [O 0])) 3) λe f=>gT 0 f λi l f m=>bQ (f<(↑(Int.toNat (h:Int)):Int)) (M (some (Z e)) (Int.toNat (h:Int)) f 1 λa=>gh m a (O (-1)) λa=>gx i l f a m) (hU m b 1 λf i l=>gT 0 m λb l m n=>bQ (m<(i:Int)) (M f i m 2 λc=>∃d f,rA n c 2 [O d,O f]/\H n [O 0,O 0] 203 λc g=>bC g (Z c) [O d,O f] λd=>gX d (Z c) λf=>gp d (Z a) λg i j=>bQ ((i:Int)<=f) (gX d (Z c) λf=>gp d (Z a) λg i j=>K (f-(i:Int))/\i_ d c 1 λa=>M (some (Z e)) (Int.toNat (h:Int)) (f-(i:Int)) 1 λc=>gh d c (O a) λa=>gx b l m a n) (gx b l m d n)) (gj n λb f=>gz f (Z d) λi l m=>gz f (Z a) λn o p=>qT (o:Int) (o:Int) 16/\new b (Obj.cells (Array.mk (ir (Int.toNat (o:Int)) [O 0,O 0])) 170) λa b=>f b/\H b [T (some (Z a)) (Int.toNat (o:Int)) (Int.toNat (o:Int))] 86 λa b=>f b/\iT 92 i l m a b λi l m b=>f b/\gh b (Z d) (T i l m) λa=>hU a d 1 λb f i=>H a [T (some (Z e)) (Int.toNat (h:Int)) (Int.toNat (h:Int))] 24 λa e=>iT 71 b f i a e λe f h b=>gh b (Addr.add (Z d) 1) (T e f h) λa=>gx c j g a k))) (gT 0 k λc g h i=>bQ (h<(f:Int)) (M e f h 3 λb=>∃e f j k l,rA i b 3 [O e,O f,T j k l]/\H i [O 0,O 0,D] 90 λb m=>bC m (Z b) [O e,O f,T j k l] λe=>χ e (Z a) λa=>∃f j k l m,rA e (Z b) 3 [O f,O j,T k l m]/\rE 106 [a,vG [O f,O j,T k l m]] e λa e=>∃f j k l m,a=vU [vG [O f,O j],T k l m]/\H e [O 0,O 0] 170 λa e=>bC e (Z a) [O f,O j] λe=>gj e λf e=>gz e (Z d) λj n o=>gy e (Z b) λo=>M j n o 1 λj=>gz e j λn o p=>jr e b 1 λj=>∃p q,(∀b,e b->rA b (Z a) 2 [O p,O q])/\M n o j 2 λa=>bC f a [O p,O q] λa=>bQ (0<(l:Int)) (hU a d 2 λe f j=>gX a (Z b) λn=>i_ a b 1 λo=>H a [O n,O o,T k l m] 90 λa b=>iT 83 e f j a b λe f j b=>gh b (Addr.add (Z d) 2) (T e f j) λa=>gx c g h a i) (gx c g h a i)) (∃a c e f g h j k l,rA i (Z d) 3 [T a c e,T f g h,T j k l]/\bC i (Z b) [T a c e,T f g h,T j k l] λa=>∃c d e f g h i j k,rA a (Z b) 3 [T c d e,T f g h,T i j k]/\R (vU [vG [T c d e,T f g h,T i j k],O 0]) a)))):ρ 43 [φ a i j b k l c m n A d o p] w R:=rv func43 h ⟨[(7,[(36,aP)]),(11,[(46,aP)]),(16,[(56,aP)]),(25,[(99,aP)])],[],[],[]⟩
theorem Br(h:new w (ψ a i j b k l c m n A d o p) λa b=>H b [O B,O C,T e q r] 90 λb c=>H c [O 0,O 0] 170 λc d=>χ d (Z a) λa=>i_ d b 1 λe=>hU d b 2 λf g h=>sN 201 [a,O e,T f g h] d λd e f g b=>bQ (1<(e:Int)) (gj b λa b=>M d e 0 2 λg=>rG b g λh i=>gF 202 [T d e f] a λe f g d=>b d/\bC d (Z c) [O h,O i] λa=>∃b d,rA a (Z c) 2 [O b,O d]/\R (vU [vG [O b,O d],T e f g]) a) (br ((e:Int)==1) (M d e 0 2 λa=>∃d e,rA b a 2 [O d,O e]/\bC b (Z c) [O d,O e] λa=>∃b d,rA a (Z c) 2 [O b,O d]/\R (vU [vG [O b,O d],D]) a) (br g (bC b (Z c) [O 4,O 0] λa=>∃b d,rA a (Z c) 2 [O b,O d]/\R (vU [vG [O b,O d],D]) a) (bC b (Z c) [O 0,O 0] λa=>∃b d,rA a (Z c) 2 [O b,O d]/\R (vU [vG [O b,O d],D]) a)))):ρ 106 [φ a i j b k l c m n A d o p,(.agg #[O B,O C,T e q r])] w R:=rv func106 h
theorem Gw(h:new w (ψ a i j b k l c m n A d o p) λa b=>∃(c:lP [(23,mR)]),br ((q:Int)==0) (c true b) (M e q 0 2 λa=>gX b a λd=>c (d !=1) b)/\∀(_:ν) b d,c b d->br b (gF 251 [T e q r] d λc d e b=>R (vU [T c d e,J false]) b) (mA e q r (some 1) none none 2 λ(b:E)(c _:Nat)=>τ [(8,mR),(9,mR),(10,jG),(29,aP)] λf g=>f true false none 0 0 0 d/\∀(_:ν) d h i j k l m,f d h i j k l m->bQ (l<(c:Int)) (M b c l 2 λb=>∃c e,rA m b 2 [O c,O e]/\H m [O 0,O 0] 170 λb n=>bC n (Z b) [O c,O e] λc=>gX c (Z b) λe=>br (e==2) (χ c (Z a) λa=>i_ c b 1 λe=>iC 290 [a,O e,O B] c λe c=>br (e==3) (K (l+1)/\f false true i j k (l+1) c/\g false true i j k (l+1) c<g d h i j k l m) (br (e==2) (∃a e,rA c (Z b) 2 [O a,O e]/\H c [O a,O e] 170 λa b=>iT 86 i j k a b λc e n b=>K (l+1)/\f false h c e n (l+1) b/\g false h c e n (l+1) b<g d h i j k l m) (br (e==0) (∃a e,rA c (Z b) 2 [O a,O e]/\H c [O a,O e] 170 λa b=>iT 86 i j k a b λc e n b=>K (l+1)/\f d h c e n (l+1) b/\g d h c e n (l+1) b<g d h i j k l m) (K (l+1)/\f d h i j k (l+1) c/\g d h i j k (l+1) c<g d h i j k l m)))) (br (0==3) (K (l+1)/\f false true i j k (l+1) c/\g false true i j k (l+1) c<g d h i j k l m) (br (0==2) (∃a e,rA c (Z b) 2 [O a,O e]/\H c [O a,O e] 170 λa b=>iT 86 i j k a b λc e n b=>K (l+1)/\f false h c e n (l+1) b/\g false h c e n (l+1) b<g d h i j k l m) (br (0==0) (∃a e,rA c (Z b) 2 [O a,O e]/\H c [O a,O e] 170 λa b=>iT 86 i j k a b λc e n b=>K (l+1)/\f d h c e n (l+1) b/\g d h c e n (l+1) b<g d h i j k l m) (K (l+1)/\f d h i j k (l+1) c/\g d h i j k (l+1) c<g d h i j k l m))))) (br d (M e q 0 2 λa=>∃b c,rA m a 2 [O b,O c]/\H m [O b,O c] 170 λa b=>gF 291 [T i j k,O 0,T (some (Z a)) 1 1] b λc d e b=>R (vU [T c d e,J h]) b) (R (vU [T i j k,J h]) m)))):ρ 201 [φ a i j b k l c m n A d o p,O B,T e q r] w R:=rv func201 h ⟨[(7,[(8,mR),(9,mR),(10,jG),(29,aP)])],[(2,[(23,mR)])],[],[]⟩
theorem Gy(h:new w (ψ a i j b k l c m n A d o p) λa b=>H b [O 0,O 0,O 0,O 0] 490 λb c=>bC c (Z b) [O 0,O 2,O 1,O 3] λc=>hU c a 4 λd e f=>M d e B 3 λd=>gX c (d.add 2) λe=>gp c (Z a) λd f g=>M d f C 2 λd=>gX c (d.add 1) λf=>br (e==0) (R (O 0) c) (br (f==0) (R (O 0) c) (bQ (f<e) (R (O 2) c) (bQ (e<f) (R (O 1) c) (hU c a 2 λd f g=>K (e-1)/\M d f (e-1) 1 λa=>gX c a λd=>M (some (Z b)) 4 d 1 λa=>gX c a λb=>R (O b) c))))):ρ 290 [φ a i j b k l c m n A d o p,O B,O C] w R:=rv func290 h
end
theorem aa3{h:Hp}{xs:List aF}{a:E}{l:Nat}(r:bf h xs a l):dX a (dE xs) h:=by
 cases xs with
 |nil=>exact .inl rfl
 |cons d m=>
  obtain⟨b,o,rfl,_⟩:=r.2 0 d rfl;refine .inr ⟨b,rfl,Ac (n:=2) (λ_=>rfl) _ b λe c f=>?_⟩;obtain⟨p,g,i,j,k⟩:=r.2 e c f;cases i;rw[show g=bR c from k] at j;omega
theorem VM(xs:List aF):∀v∈dE xs,aO v=true:=λv b=>by
 obtain⟨d,_,c⟩:=lR.1 b
 rcases jb.1 c with rfl|a
 ·rfl
 ·rw[jA] at a;subst a;rfl
section
variable{w:ga}{L:List aG}{g:B}{x:GA}
theorem RT{xs:List aF}{a:E}{l c:Nat}(b:bf (hp w) xs a l)(n:l*16<=140737488355328):ρ 251 [T a l c] w λg h=>∃o c',g=T o l c'/\W h (own 2 o l c' (dE xs)::all w):=by
 have d:=b.1
 refine iB (ae (λi=>?_) λi=>?_)
 ·have e:a=none:=η
  subst e
  have f:xs=[]:=by
   cases xs with
   |nil=>rfl
   |cons j _=>obtain⟨k,_,m,_⟩:=b.2 0 j rfl;grind
  subst f;have:l=0:=d.symm;subst this;exact⟨_,_,rfl,aH 2<|W.all w⟩
 ·refine ag (W.all w) λj e f=>?_;have k:Gr w e:=f.aS;have m:W e (own 2 (some<|Z j) 0 0 []::all w):=bq (cs:=[]) f rfl rfl (gP _);refine(Oq (us:=[]) (news:=dE xs) aY (rfl:ai Ty _=.slice _) (rfl:ai Ty _=.slice _) rfl rfl rfl m (by rw[pI,d]) V (aa3<|b.mono k) (VM xs) η U).mono ?_
  grind
theorem Xp{xs:List aF}{y:aF}{o:E}{c k:Nat}(h:W w (ax k (bR y)::own 2 o xs.length c (dE xs)::L))(z:xs.length<=100000):
  ρ 291 [T o xs.length c,O 0,T (some (Z k)) 1 1] w λA C=>∃o' c',A=T o' (xs.length+1) c'/\W C (own 2 o' (xs.length+1) c' (dE (y::xs))::L):=by
 obtain⟨n,p⟩:∃n,n=xs.length:=⟨_,rfl⟩;have f:(dE xs).length=n*2:=by rw[pI,p]
 have q:=bJ<|h.pick 2 [1];have F:dE (y::xs)=bR y++dE xs:=rfl;have a3:0<xs.length->xs≠[]:=λh a=>η
 rw[<-p] at h q z ⊢;rw[F];have g:∀a∈bR y,aO a=true:=by simp[bR,aO]
 have j:=VM xs;have a4:dX (some<|Z k) (bR y) (hp w):=.inr ⟨_,rfl,af 0 h.l⟩;obtain⟨a,I⟩:∃b,b=dE xs:=⟨_,rfl⟩;rw[<-I] at h f j ⊢
 refine h_ (RR q<|bm V<|ae (λN=>?_) λN=>?_)
 ·have b:n=0:=G
  subst b;have d:a=[]:=j2 U;subst d;refine(aU (us:=[]) aY (rfl:ai Ty _=.slice _) (rfl:ai Ty _=.slice _) rfl rfl rfl h rfl g V U).mono ?_;rintro _ e⟨o',c',rfl,h⟩;exact⟨_,_,_,rfl,o',c',rfl,by rw[jK];exact h.pick 2 [0]⟩
 have r:0<n:=G
 have l:K ((n:Int)+((1:Nat):Int)):=ξ
 refine⟨l,⟨_,w,Pa aY (rfl:ai Ty _=.slice _) o n c w,Ev.refl w,_,rfl,ae (λP=>?_) λP=>?_⟩⟩
 ·have v:c=n:=G
  subst v;refine ij (hi:=0) (gu _) ⟨l,ξ,?_⟩;have x:(c:Int)+((1:Nat):Int)-0=((c+1:Nat):Int):=by rfl
  rw[x];refine(Nd (i:=_) aY (rfl:ai Ty _=.slice _) (rfl:ai Ty _=.int .i64) rfl rfl rfl V h U U G U).mono ?_;rintro _ Q⟨d,b,us,rfl,R,h⟩;have a2:us.length=(c+1)*2:=R;have h:W Q (own 2 d (c+1) b us::ax k (bR y)::own 2 o c c a::L):=h;have e:=bJ h;refine⟨_,_,_,rfl,RR e ?_⟩;have s:=ID (k:=0) (n:=1) (news:=bR y) (t:=bH) (tx:=bH) (ty:=eQ) aY (rfl:ai Ty _=.slice _) rfl V h rfl (.inr ⟨Z k,rfl,af 1 h.l⟩) g V U (sl:=1) (dl:=c+1) (c2:=1) (dc:=b) (pS U);rw[ZJ] at s;refine s.mono ?_;rintro _ a5⟨rfl,h⟩;refine⟨_,rfl,λa6 S=>?_⟩;have h:=h.drawn S;refine⟨λ_=>True,trivial,ξ,?_⟩;rw[show(0:Int)+((1:Nat):Int)=((1:Nat):Int) from rfl];refine dS (lo:=1) U e<|RR (gP _) ?_;have X:=ID (k:=1) (n:=c) (news:=a) (t:=bH) (tx:=bH) (ty:=eQ) aY (rfl:ai Ty _=.slice _) rfl V h f (dT 2 h.l) j r U (sl:=c) (dl:=c+1-1) (c2:=c) (dc:=b-1) V;refine X.mono ?_;rintro _ Y⟨rfl,h⟩;refine⟨_,rfl,d,b,rfl,?_⟩;have h:W Y (own 2 d (c+1) b ((us.take (0*2)++bR y++us.drop (0*2+(bR y).length)).take (1*2)++a++(us.take (0*2)++bR y++us.drop (0*2+(bR y).length)).drop (1*2+a.length))::ax k (bR y)::own 2 o c c a::L):=h;have a0:(us.take (0*2)++bR y++us.drop (0*2+(bR y).length)).take (1*2)=bR y:=by rfl
  have a1:(us.take (0*2)++bR y++us.drop (0*2+(bR y).length)).drop (1*2+a.length)=[]:=List.drop_eq_nil_of_le G;rw[a0,a1,jK] at h;exact h.pick 3 [0]
 have b:n+1<=c:=G
 obtain⟨us,a5,h⟩:=aa2 (m:=1) (h.pick 2 [1,0]) b;refine⟨l,ij (hi:=n+1) b ⟨ξ,?_⟩⟩;rw[ZJ,show(0:Int)+((1:Nat):Int)=((1:Nat):Int) from rfl];refine dS (lo:=1) U b ?_
 rcases dM h with⟨_,a6,_,_⟩|⟨d,e,a7,a8,rfl,s,_,_,_⟩
 ·omega
 have v:f_ (some ⟨d,e.length,none⟩) 1 c 2=some ⟨d,e.length+2,none⟩:=by
  unfold f_;rw[gv U];rfl
 rw[v];refine RS (tR:=4) aY mG (by rfl) (by rfl) (by kernel_rfl) (by kernel_rfl) (rfl:ai Ty bH=.slice _) rfl (s.pick 2 [1,0]) (λx=>η) ⟨_,rfl,gd rfl λQ R=>?_⟩;clear s v;have h:=h.drawn R;refine⟨λ_=>True,trivial,ξ,dS (lo:=1) U b<|RR b ?_⟩
 have S:dX (some ⟨d,e.length,none⟩) a (hp Q):=by
  rcases dT 0 h.l with x|⟨X,x,Y⟩
  ·simp_all
  ·exact .inr ⟨X,x,λa0 a1 a2=>Y a0 a1 G⟩
 have X:=ID (k:=1) (n:=n) (news:=a) (t:=bH) (tx:=bH) (ty:=eQ) aY (rfl:ai Ty _=.slice _) rfl V h f S j r U (sl:=n+1) (dl:=n+1-1) (c2:=c) (dc:=c-1) V;refine X.mono ?_;rintro _ Y⟨rfl,h⟩;refine⟨_,rfl,RR b ?_⟩;have h:W Y (own 2 (some ⟨d,e.length,none⟩) (n+1) c ((a++us).take (1*2)++a++(a++us).drop (1*2+a.length))::ax k (bR y)::L):=h;have a0:(a++us).drop (1*2+a.length)=[]:=List.drop_eq_nil_of_le U;rw[a0,jK] at h;have x:=ID (k:=0) (n:=1) (news:=bR y) (t:=bH) (tx:=bH) (ty:=eQ) aY (rfl:ai Ty _=.slice _) rfl V h rfl (.inr ⟨Z k,rfl,af 1 h.l⟩) g V U (sl:=1) (dl:=n+1) (c2:=1) (dc:=c) (pS U);rw[ZJ] at x;refine x.mono ?_;rintro _ a1⟨rfl,h⟩;refine⟨_,rfl,_,c,rfl,?_⟩;have h:W a1 (own 2 (some ⟨d,e.length,none⟩) (n+1) c (((a++us).take (1*2)++a).take (0*2)++bR y++((a++us).take (1*2)++a).drop (0*2+(bR y).length))::ax k (bR y)::L):=h
 have a2:((a++us).take (1*2)++a).drop (0*2+(bR y).length)=a:=by
  have:((a++us).take (1*2)).length=2:=G
  simp_all[bR]
 rw[a2,Nat.zero_mul,List.take_zero,l7] at h;exact h.pick 2 [0]
theorem Xq{h:Hp}{b:List ly}{a:E}{l i:Nat}(r:bf h b a l)(hi:i<l):∃t c,b[i]? =some t/\a=some c/\aj h (c.add (ew i 2)) [.string t.name,O t.level]:=by
 obtain⟨t,c,d,e,f,g,j⟩:=r.get hi;exact⟨t,c,e,f,(show d=_ from j)▸g⟩
theorem Xr{h:Hp}{d:List aD}{a:E}{l i:Nat}(r:bf h d a l)(hi:i<l):∃t e b m c,d[i]? =some t/\a=some e/\aj h (e.add (ew i 3)) [O t.left,T b m c,O t.level]/\m<=c/\bf h t.right b m:=by
 obtain⟨t,e,p,f,g,j,b,m,c,k,n,o⟩:=r.get hi;subst k;exact⟨t,e,b,m,c,f,g,j,n,o⟩
theorem aga{p t:Nat}(m:aw g)(A:gR (hp w) g x)(a5:p<g.prods.length)(a6:t<g.T):ρ 290 [.agg ⟨x.cells⟩,O (p:Int),O (t:Int)] w λC F=>C=O (qP g p t)/\Gr w F:=by
 refine Gy<|dZ A λa7 s I L n=>ag (W.all s) λv a8 d=>aQ d rfl (by simp[aO]) λo d=>?_;have e:Gr s o:=d.aS;have q:aj (hp o) (Z v) [O 0,O 2,O 1,O 3]:=af 0 d.l;clear d;have a:=L.mono e;have h:=I.trans e;have a9:=a.p.1;have aa:=a.t.1;have ab:=a.l.1;have ac:g.T=g.terms.length:=rfl;obtain⟨b,ad,_,_,_,N,P,Q,_,_⟩:=Xr a.p (i:=p) U;obtain⟨f,al,am,R,S⟩:=Xq a.t (i:=t) U;have an:qs g p=b.level:=by simp_all[qs]
 have ao:tn g t=f.level:=by simp_all[tn]
 obtain⟨ap,X⟩:=af6 m N;refine⟨_,_,_,n.c4 e,aI P U ⟨_,Q.cell sZ (j:=2) rfl,_,_,_,n.c0 e,aI R U ⟨_,S.cell sZ (j:=1) rfl,?_⟩⟩⟩;have k:∀c:Int,c=qP g p t->(O c:ah)=O (qP g p t)/\Gr w o:=λr c=>⟨by rw[c],h⟩
 refine ae (λY=>k _ ?_) λY=>ae (λa0=>k _ ?_) λa0=>ae (λy=>k _ ?_) λy=>ae (λr=>k _ ?_) λr=>?_
 ·have c:b.level=0:=η
  simp_all[qP]
 ·have c:f.level=0:=η
  simp_all[qP]
 ·have c:¬b.level=0:=η
  have z:¬f.level=0:=η
  simp_all[gZ,qP]
 ·have c:¬b.level=0:=η
  have z:¬f.level=0:=η
  have a1:=gZ r
  simp_all[qP,gv]
 have av:¬b.level=0:=η
 have az:¬f.level=0:=η
 have aB:=hY y;have aK:=hY r;obtain⟨c,z,ev,aR,aS⟩:=af7 m (l:=b.level) U X;obtain⟨a1,a2,rv⟩:=a.l.at z;have a3:qP g p t=if c=1 then 2 else if c=2 then 1 else 3:=by simp_all[qP,gv]
 have aV:=(gJ.1 z).1;have b0:=Jw m.2.1;refine⟨_,_,_,n.c2 e,ξ,a1,a2,U,U,c,rv _ sZ,Z v,rfl,U,U,?_⟩;rw[a3];have a4:c=1\/c=2\/c=3:=U
 rcases a4 with rfl|rfl|rfl
 ·exact⟨2,q.cell sZ (j:=1) rfl,rfl,h⟩
 ·exact⟨1,q.cell sZ (j:=2) rfl,rfl,h⟩
 ·exact⟨3,q.cell sZ (j:=3) rfl,rfl,h⟩
end
section
variable{w:ga}{L:List aG}
theorem Av{b i:Nat}{us vs:Ay}{k:ga->Prop}(h:W w (ax b us::L))(hi:i+vs.length<=us.length)(a:∀v∈vs,aO v=true)(c:∀w',W w' (ax b (us.take i++vs++us.drop (i+vs.length))::L)->k w'):bC w ((Z b).add i) vs k:=by
 rw[ak];refine⟨vC vs 0<|vy h vs _ hi a,λw' d=>?_⟩;subst d;rw[vD];exact c _ (si vs _ i hi h)
theorem RU{κ:Type}[DecidableEq κ]{k:κ}{v:ah}:∀{m:List (κ×ah)},iV k m=some v->(k,v)∈m
 |(a,u)::m,h=>by
  unfold iV at h
  split at h
  ·simp_all
  ·exact ou _ (RU h)
theorem VN{κ:Type}[DecidableEq κ]{k a:κ}{u v:ah}:∀{m:List (κ×ah)},(a,u)∈c_ k v m->(a=k/\u=v)\/(a,u)∈m
 |[],h=>by
  unfold c_ at h
  simp_all
 |(b,z)::m,h=>by
  unfold c_ at h
  split at h
  ·grind
  ·rcases jb.1 h with h|h
   ·simp_all
   ·rcases VN h with h|h
    ·simp_all
    simp_all
end
def KM(S:Int->Prop)(B:Nat)(m:List (Int×ah)):Prop:=∀p∈m,S p.1/\∃z:Int,p.2=O z/\0<=z/\z<=B
theorem KM.get{S:Int->Prop}{B:Nat}{m:List (Int×ah)}(h:KM S B m)(k:Int):∃z:Int,(iV k m).getD (O 0)=O z/\0<=z/\z<=B:=by
 cases a:iV k m with
 |none=>simp
 |some b=>
  obtain⟨_,z,c,d,e⟩:=h _ (RU a)
  simp_all
theorem KM.put{S:Int->Prop}{B:Nat}{m:List (Int×ah)}(h:KM S B m){k z:Int}(a:S k)(h0:0<=z)(b:z<=(B+1:Nat)):KM S (B+1) (c_ k (O z) m):=by
 rintro⟨c,d⟩ hp
 rcases VN hp with⟨rfl,rfl⟩|hp
 ·simp_all
 ·obtain⟨e,f,g,i,j⟩:=h _ hp
  grind
theorem KM.up{S:Int->Prop}{B:Nat}{m:List (Int×ah)}(h:KM S B m):KM S (B+1) m:=λa hp=>by
 obtain⟨b,c,d,e,f⟩:=h a hp
 grind
structure xg(As:List (List aF))(Gs:A7)(T N:Nat):Prop where
 n1:1<=As.length
 n2:As.length<=256
 g:Gs.length=As.length
 t1:1<=T
 t2:T<=65
 s1:1<=N
 s2:N<=65
 a:∀l∈As,l.length=T/\∀a∈l,Gq As.length a
 t:∀l∈Gs,l.length=N/\∀z∈l,-1<=z/\z<As.length
section
variable{w:ga}{L:List aG}{a o:E}{n c:Nat}{m:List (Int×ah)}{S:Int->Prop}{B:Nat}
theorem VO{a:Nat}{f:Int}{R:ah->WP}(n:KM S B m)(h:W w (hZ a m::L))(a7:∀z b,(z=f\/S z)->W b (hZ a m::L)->R (O z) b):
  bg prog (Instr.range dY (Value.map (some a))) w λt v=>∃i,t=u i/\τ [(8,aP)] λd b=>d f v/\∀(a8:ν) n8 w9,d n8 w9->bg prog (Instr.next (u i) false 0) w9 λo p=>o=vT (Array.mk [J false])/\R (O n8) p\/∃x y,o=vT (Array.mk [J true,O x,y])/\bg prog (Instr.entry (u i)) p λA C=>∃e j,A=vT (Array.mk [O e,O j])/\bg prog (Instr.lookup dY (Value.map (some a)) (O n8) false) C λF k=>∃g,F=O g/\br (decide (g<j)) (d e k/\b e k<b n8 w9) (bg prog (Instr.lookup dY (Value.map (some a)) (O n8) false) k λq c=>∃l,q=O l/\br (j==l) (br (decide (e<n8)) (d e c/\b e c<b n8 w9) (d n8 c/\b n8 c<b n8 w9)) (d n8 c/\b n8 c<b n8 w9)):=by
 refine(MI aY (rfl:ai Ty _=.map _ _) h).mono ?_;rintro _ a9⟨c,rfl,h⟩;refine⟨_,rfl,λz g=>(z=f\/S z)/\∃l:Az,W g<|uR a c m l::L,λ_=>XZ (λ(g:Az) l=>W l<|uR a c m g::L) λg=>m.length-g.length,⟨.inl rfl,[],h⟩,?_⟩;clear h;rintro _ z w9⟨aa,I⟩;obtain⟨ab,h,N⟩:=Dz (P:=λ(g:Az) l=>W l<|uR a c m g::L) (f:=λg:Az=>m.length-g.length) I;refine(QR h).mono ?_
 rintro _ ac (⟨rfl,_,h⟩|⟨l,Q,X,rfl,ad,h⟩)
 ·simp_all
 obtain⟨Y,q,a0,_⟩:=n _ X;have a1:Q=O q:=a0;subst a1;refine .inr ⟨l,_,rfl,(MJ h).mono ?_⟩;rintro _ r⟨rfl,rfl⟩;have h:=MG h;have s:=cM (κ:=Int) (P:=prog) (z:=O 0) aY (rfl:ai Ty dY=.map _ _) bX rfl rfl (MH h) z;obtain⟨a2,a3,_⟩:=n.get z
 have a4:∀g,(g=f\/S g)->((g=f\/S g)/\∃a5:Az,W r<|uR a c m a5::L)/\XZ (λ(a5:Az) a6=>W a6<|uR a c m a5::L) (λa5=>m.length-a5.length) r<XZ (λ(a5:Az) a6=>W a6<|uR a c m a5::L) (λa5=>m.length-a5.length) w9:=λal g=>by
  refine⟨⟨g,_,h⟩,?_⟩;rw[<-N];refine Nat.lt_of_le_of_lt (B8 (P:=λ(a5:Az) a6=>W a6<|uR a c m a5::L) (f:=λa5:Az=>m.length-a5.length) h) ?_
  grind
 refine⟨l,q,rfl,s.mono ?_⟩;rintro _ g⟨rfl,rfl⟩;refine⟨a2,a3,ae (λ_=>a4 l<|.inr Y) λ_=>s.mono ?_⟩;rintro _ a5⟨rfl,rfl⟩
 simp_all[ae]
theorem ahD{x:aF}{a:ga}:ρ zf [.agg ⟨bR x⟩] a λc d=>c=.tuple #[O x.to,J (x.kind==2)]/\Gr a d:=by
 refine FJ<|ag (W.all a) λi k e f g=>?_;have b:=e.drawn g;exact⟨λh=>Gr f h,Gr.refl _,_,λl h=>(af 0 b.l).cell h (j:=1) rfl,_,λl h=>(af 0 b.l).cell0 h,rfl,b.aS⟩
theorem adG{l:List aF}(j:bf (hp w) l a n)(Q:n<=1000):ρ 108 [T a n c,.func (.func zf) #[] #[],O (-1)] w λk m=>∃z:Int,k=O z/\(z=-1\/∃x∈l,x.kind=2/\x.to=z)/\Gr w m:=by
 refine nW<|oW (W.all w) λo S p=>?_;have i:=eJ (κ:=Int) p;refine⟨λz e=>∃(b:Nat)(d:List (Int×ah)),z=b/\b<=n/\KM (λz=>∃x∈l,x.kind=2/\x.to=z) b d/\W e (hZ o d::all w),λz _=>n-z.toNat,⟨0,[],rfl,gu _,λb hp=>G,i⟩,?_⟩;clear i;rintro _ _ X⟨f,q,rfl,Y,d,g⟩;refine ae (λa0=>?_) λh=>VO (R:=λb e=>∃z:Int,b=O z/\(z=-1\/∃x∈l,x.kind=2/\x.to=z)/\Gr w e) d g λz r b e=>⟨z,rfl,b,e.aS⟩;have b:f<n:=η
 obtain⟨x,a1,r,s,t,v,y⟩:=(j.mono g.aS).get b;have A:r=bR x:=y;subst A;refine aI t b ⟨_,_,v.at sZ rfl,ag g λa2 a3 e=>aQ e rfl (by simp[aO]) λa4 e=>⟨_,_,(af 0 e.l).at sZ rfl,bn.2 ⟨rfl,(ahD (x:=x)).mono ?_⟩⟩⟩;rintro _ a5⟨rfl,C⟩;have h:=(e.gr C).tail;refine⟨_,_,rfl,ae (λa6=>?_) λF=>⟨ξ,⟨f+1,q,V,b,d.up,h⟩,bS b⟩⟩;have F:x.kind=2:=η
 obtain⟨I,L,a7,a8⟩:=d.get x.to;refine(cM (κ:=Int) (P:=prog) (z:=O 0) aY (rfl:ai Ty dY=.map _ _) bX rfl rfl h x.to).mono ?_;rintro _ a9⟨rfl,rfl⟩;refine⟨I,L,ξ,(dz (κ:=Int) aY (rfl:ai Ty dY=.map _ _) bX h x.to _).mono ?_⟩;intro _ aa N;exact⟨ξ,⟨f+1,_,V,b,d.put ⟨x,gg s,F,rfl⟩ U U,N⟩,bS b⟩
theorem agb{l:Az}{i d:Nat}{p:vP}{a:ga}(h:bf (hp a) l o n)(r:a.cell? p=some (O (i:Int)))(b:∀z,hp z=hp a->z.cell? p=some (O (i:Int)))(hi:i<n):ρ zh [T o n c,.pointer (some p)] a λj k=>j=.tuple #[O (l.getD i 0),J (decide (0<=l.getD i 0))]/\Gr a k:=by
 refine FL λs m=>?_;have e:=aW m;obtain⟨t,f,g⟩:=qq h hi;refine⟨λz=>hp z=hp a,e,_,λz q=>b z q,au f hi ⟨_,λz q=>g z (by simp_all[sub.refl]),_,λz q=>b z q,au f hi ⟨_,λz q=>g z (by simp_all[sub.refl]),rfl,Gr.of_eq e⟩⟩⟩
theorem adH{e:A7}{i:Nat}{p:vP}(r:bf (hp w) e a n)(a1:n<=1000)(hi:∀l∈e,i<l.length)(m:∀z,sub (hp w) (hp z)->z.cell? p=some (O (i:Int))):ρ 112 [T a n c,.func (.func zh) #[] #[.pointer (some p)],O (-1)] w λs t=>∃z:Int,s=O z/\(z=-1\/∃l∈e,l.getD i 0=z/\0<=z)/\Gr w t:=by
 refine wb<|oW (W.all w) λv a2 x=>?_;have o:=eJ (κ:=Int) x;refine⟨λz g=>∃(b:Nat)(f:List (Int×ah)),z=b/\b<=n/\KM (λz=>∃l∈e,l.getD i 0=z/\0<=z) b f/\W g (hZ v f::all w),λz _=>n-z.toNat,⟨0,[],rfl,gu _,λp hp=>G,o⟩,?_⟩;clear o;rintro _ _ a3⟨j,y,rfl,a4,h,f⟩;refine ae (λa5=>?_) λk=>VO (R:=λb g=>∃z:Int,b=O z/\(z=-1\/∃l∈e,l.getD i 0=z/\0<=z)/\Gr w g) h f λz q b g=>⟨z,rfl,b,g.aS⟩;have b:j<n:=η
 obtain⟨g,a6,a7,A,C,F,a8,I,a9,rfl,_,q⟩:=(r.mono f.aS).get b;have L:i<I:=by rw[<-q.1];grind
 refine aI C b ⟨_,_,_,F.cell0 sZ,bn.2 ⟨rfl,(agb (d:=0) q (m _ f.aS) (λz k=>m z (by rw[k];exact f.aS)) L).mono ?_⟩⟩;rintro _ aa⟨rfl,N⟩;have k:=f.gr N;refine⟨_,_,rfl,ae (λQ=>?_) λS=>⟨ξ,⟨j+1,y,V,b,h.up,k⟩,bS b⟩⟩;have S:0<=g.getD i 0:=gZ Q;obtain⟨X,Y,ab,ac⟩:=h.get<|g.getD i 0;refine(cM (κ:=Int) (P:=prog) (z:=O 0) aY (rfl:ai Ty dY=.map _ _) bX rfl rfl k (g.getD i 0)).mono ?_;rintro _ ad⟨rfl,rfl⟩;refine⟨X,Y,ξ,(dz (κ:=Int) aY (rfl:ai Ty dY=.map _ _) bX k (g.getD i 0) _).mono ?_⟩;intro _ al a0;exact⟨ξ,⟨j+1,_,V,b,h.put ⟨g,gg A,rfl,S⟩ U U,a0⟩,bS b⟩
theorem agc{x:aF}{N:Nat}(k:Gq N x)(l:N<=1000):ρ G1 [.agg ⟨bR x⟩] w λc d=>c=O (xV x)/\Gr w d:=by
 refine LH<|ag (W.all w) λm n a=>?_;have b:=a.aS;unfold xV
 refine⟨_,a.cell 0,ae (λe=>?_) λe=>ae (λf=>?_) λf=>ae (λg=>?_) λg=>?_⟩
 ·have h:x.kind=1:=η
  rw[gD h];have:0<=x.to/\x.to<=1000:=by grind[Gq]
  exact⟨_,a.cell 1,ξ,rfl,b⟩
 ·have h:¬x.kind=1:=η
  have i:x.kind=2:=η
  rw[gv h,gD i];have:0<=x.to/\x.to<=1000:=by grind[Gq]
  exact⟨_,a.cell 1,ξ,rfl,b⟩
 ·have h:¬x.kind=1:=η
  have i:¬x.kind=2:=η
  have j:x.kind=3:=η
  rw[gv h,gv i,gD j];exact⟨rfl,b⟩
 ·have h:¬x.kind=1:=η
  have i:¬x.kind=2:=η
  have j:¬x.kind=3:=η
  rw[gv h,gv i,gv j];exact⟨rfl,b⟩
theorem ahE{x:aF}{N:Nat}(c:Gq N x):ρ 205 [.agg ⟨bR x⟩,O (N:Int)] w λd e=>d=J true/\Gr w e:=by
 refine Oi<|ag (W.all w) λh i a=>?_;have b:=a.aS;have j:=c;unfold Gq at c
 refine⟨_,a.cell 0,ae (λf=>?_) λf=>ae (λg=>?_) λg=>?_⟩
 ·have k:x.kind=1:=η
  exact⟨_,a.cell 1,gd (kG U) ⟨_,a.cell 1,η,b⟩⟩
 ·have k:¬x.kind=1:=η
  have l:x.kind=2:=η
  exact⟨_,a.cell 1,gd (kG U) ⟨_,a.cell 1,η,b⟩⟩
 ·have k:¬x.kind=1:=η
  have l:¬x.kind=2:=η
  have m:x.to=0:=U
  exact⟨_,a.cell 0,gd (kG U) ⟨_,a.cell 0,gd (kG U) ⟨_,a.cell 1,η,b⟩⟩⟩
theorem adI{t:List (List aF)}{v:A7}{x N c' n':Nat}{m:E}(o:bf (hp w) t a n)(q:bf (hp w) v m n')(a1:xg t v x N):ρ 107 [.agg #[T a n c,T m n' c']] w λa2 a3=>a2=J true/\Gr w a3:=by
 have a4:=o.1;have b4:=q.1;obtain⟨b5,b6,b7,b9,ba,bb,bc,a5,a6⟩:=a1;refine JN<|ag (W.all w) λa7 bd b=>⟨_,_,_,b.cell 0,ag b λa8 be b=>aX b V λd b=>?_⟩;have g:∀{e:ga},Gr d e->e.cell? (Z a8)=some (O (n:Int)):=λe=>(af 0 b.l).cell0 e;have f:∀{e:ga},Gr d e->aj (hp e) (Z a7) [T a n c,T m n' c']:=λe=>(af 1 b.l).mono e;have h:Gr w d:=b.tail.aS;clear b;refine⟨λe k=>e=false/\Gr d k,⟨_,g<|Gr.refl _,bm (jM U) ⟨_,g<|Gr.refl _,bm (jM U) ⟨_,_,_,(f<|Gr.refl _).cell sZ (j:=1) rfl,_,g<|Gr.refl _,η,Gr.refl _⟩⟩⟩,?_⟩;rintro _ _ bi⟨rfl,a9⟩;refine bm rfl λy aa=>?_;have k:Gr d y:=a9.trans<|Gr.drawn aa;obtain⟨bl,bo,bs,ab,z,A,bu,ac,bz,rfl,_,C⟩:=(o.mono<|h.trans k).get (i:=0) U;obtain⟨bE,bN,bO,ad,F,I,bP,al,bT,rfl,_,L⟩:=(q.mono<|h.trans k).get (i:=0) U;have am:ac=x:=by rw[<-C.1];grind
 have an:al=N:=by rw[<-L.1];grind
 subst am an;refine⟨λe=>Gr y e,Gr.refl _,_,_,_,λl e=>(f k).cell0 e,aI (i:=0) z U ⟨_,_,_,λl e=>A.cell0 e,_,_,_,λl e=>(f k).cell e (j:=1) rfl,aI (i:=0) F U ⟨_,_,_,λl e=>I.cell0 e,λe l=>e=false/\Gr d l,bm (jM U) ⟨jM U,k⟩,?_⟩⟩⟩;rintro _ _ c0⟨rfl,P⟩;refine bm rfl ⟨_,g P,λe l=>∃j:Nat,e=j/\j<=n/\Gr d l,λe _=>n-e.toNat,⟨0,rfl,gu _,P⟩,?_⟩;clear A I C L ab ad z F;rintro _ _ ao⟨j,rfl,c1,e⟩;refine ae (λc2=>?_) λl=>⟨rfl,h.trans e⟩;have l:j<n:=η
 obtain⟨ap,c3,c4,av,Q,R,c5,c6,c7,rfl,_,S⟩:=(o.mono<|h.trans e).get (i:=j) l;obtain⟨az,c8,c9,aB,X,Y,ca,cb,cc,rfl,_,a0⟩:=(q.mono<|h.trans e).get (i:=j) U;have aK:=a5 ap<|gg av;have cd:=a6 az<|gg aB;have ce:=S.1;have cg:=a0.1;refine⟨λr s=>r=false/\s=ao,⟨_,_,_,(f e).cell0 sZ,aI Q l ⟨_,_,_,R.cell0 sZ,bm η ⟨_,_,_,(f e).cell sZ (j:=1) rfl,aI X U ⟨_,_,_,Y.cell0 sZ,η,rfl⟩⟩⟩⟩,?_⟩;rintro _ _ ch⟨rfl,rfl⟩
 refine bm rfl ⟨_,_,_,(f e).cell0 sZ,aI Q l ⟨_,_,_,R.cell0 sZ,(af3 (p:=λ_=>false) S rfl (λaR aS aV b0=>?_) U).mono ?_⟩⟩
 ·refine DV<|ag (W.all aV) λb1 b2 r=>⟨_,_,(af 0 r.l).at sZ rfl,_,g<|(e.trans b0).trans r.aS,?_⟩;rw[<-a4];refine(ahE<|aK.2 aR aS).mono ?_;rintro _ b3⟨rfl,s⟩;exact⟨_,rfl,rfl,r.aS.trans s⟩
 rintro _ b1⟨rfl,r⟩;have s:Gr d b1:=e.trans r
 refine⟨_,rfl,bm V ⟨_,_,_,(f s).cell sZ (j:=1) rfl,aI X U ⟨_,_,_,(Y.mono r).cell0 sZ,(T6 (p:=λ_=>false) (a0.mono r) rfl (λci ck cl b2=>?_) U).mono ?_⟩⟩⟩
 ·refine DX (bm (jM η) ⟨_,g<|s.trans b2,η,Gr.refl _⟩)
 rintro _ cm⟨rfl,b3⟩;exact⟨_,rfl,bm V ⟨ξ,⟨j+1,V,l,s.trans b3⟩,bS l⟩⟩
end
section
variable{g:B}
theorem agd{n:Nat}(b:1<=n)(a:aF):Nb n a<=n:=by grind[Nb]
theorem RV{n:Nat}(hn:1<=n):∀{l:List aF}{last:Int},RO n last l->l=[]\/(l.length:Int)+last<=n
 |[],_,_=>.inl rfl
 |a::l,last,h=>by
  right
  have h1:=h.1
  have h2:=agd hn a
  rcases RV hn h.2 with rfl|h3
  ·grind
  grind
theorem adJ{n:Nat}(a:1<=n){l:List aF}(h:RP n l):l.length<=n+1:=by
 rcases RV a h with rfl|h
 ·simp
 omega
end
section
variable{w:ga}{L:List aG}{g:B}{x:GA}
theorem age{xs:List aF}{a:E}{c t:Nat}(N:aw g)(a4:gR (hp w) g x)(a5:bf (hp w) xs a xs.length)(P:xs.length<=c)(Q:RP g.prods.length xs)(a6:t<g.T):ρ 201 [.agg ⟨x.cells⟩,O (t:Int),T a xs.length c] w λa7 a8=>∃(o:E)(c':Nat),a7=.tuple #[.slice o (gl g t xs).1.length c',J (gl g t xs).2]/\W a8 (own 2 o (gl g t xs).1.length c' (dE (gl g t xs).1)::all w):=by
 obtain⟨b6,b7,b9,bQ,_,_⟩:=N.cR;have ba:=adJ U Q;refine Gw<|dZ a4 λbb e p a9 aa=>?_;have q:=a5.mono p
 refine⟨λb d=>e=d/\(b=false↔∃y f,xs=y::f/\y.kind=1),ae (λab=>⟨rfl,?_⟩) λab=>?_,?_⟩
 ·simp_all
 ·have b:0<xs.length:=G
  obtain⟨y,h,i,rfl,d⟩:=KH q b
  obtain⟨l,n⟩:∃f,xs=y::f:=by
   cases xs with
   |nil=>simp_all
   |cons f r=>simp_all
  rw[show(ew 0 2)=0 from rfl] at d;refine nR rfl b ⟨_,by simpa[Addr.add] using d.cell0 sZ,rfl,?_⟩
  simp_all
 rintro _ bc _⟨rfl,R⟩
 refine ae (λr=>(RT q U).mono ?_) λr=>?_
 ·rintro _ f⟨o,c',rfl,b⟩;subst r
  have d:gl g t xs=(xs,false):=by
   cases xs with
   |nil=>rfl
   |cons y h=>exact Au λi=>η
  rw[d];exact⟨_,_,_,rfl,o,c',rfl,W.fy b<|bM p⟩
 obtain⟨f,b,rfl,ac⟩:=R.1 r;clear R r;rw[sE ac];have bd:(f::b).length=b.length+1:=rfl;have ad:bf (hp e) b (f_ a 1 c 2) ((f::b).length-1):=q.drop (k:=1) (m:=c) V P;refine dS (lo:=1) V P ?_;have S:∀d,((b.take d).filter (IC g t)).length<=b.length:=λd=>G
 refine⟨λi l o h c' n s=>∃d:Nat,n=d/\d<=b.length/\i=(b.take d).all (Xm g t)/\l=(b.take d).any (X5 g t)/\h=((b.take d).filter (IC g t)).length/\W s (own 2 o h c' (dE<|(b.take d).filter (IC g t))::all e),λ_ _ _ _ _ d _=>b.length-d.toNat,⟨0,rfl,gu _,rfl,rfl,rfl,aH 2<|W.all e⟩,?_⟩;rintro _ l h s _ v _ al⟨d,rfl,be,z,I,rfl,n⟩;have X:Gr e al:=aE 1 n.l;refine ae (λam=>?_) λam=>?_
 rotate_left
 ·have A:d=b.length:=G
  rw[A,jl] at z I n;have Y:=S b.length;rw[jl] at Y;rw[A,jl]
  refine ae (λi=>?_) λi=>?_
  ·obtain⟨y,C,F,rfl,L⟩:=KH (q.mono X) (show 0<(f::b).length by simp);simp only[sL,Option.some.injEq] at F;subst F;rw[show(ew 0 2)=0 from rfl,show C.add 0=C from by rfl] at L;refine nR rfl V ⟨_,_,L.at sZ rfl,ag n λa3 an a0=>(Xp (y:=f) a0 U).mono ?_⟩;rintro _ ao⟨a1,c',rfl,a2⟩;rw[i] at z;rw[gD z.symm,I];exact⟨_,_,_,rfl,a1,c',rfl,W.fy a2<|bM p⟩
  ·rw[i] at z;rw[gv η,I,l7];exact⟨_,_,rfl,W.fy n<|bM p⟩
 have A:d<b.length:=η
 obtain⟨y,bi,an,ao,ap⟩:=KH (ad.mono X) (show d<(f::b).length-1 by omega);have av:y∈f::b:=ou _<|gg an;have bl:b.take (d+1)=b.take d++[y]:=by simp_all[iw]
 have bo:=S d;have az:Pv g t y=if y.kind=2 then qP g y.to.toNat t else 0:=rfl
 --the four ends of a round
 have Y:∀{C:ga}(F L:Bool),W C (own 2 s ((b.take d).filter (IC g t)).length v (dE<|(b.take d).filter (IC g t))::all e)->IC g t y=false->F=(l&&Xm g t y)->L=(h||X5 g t y)->
   K ((d:Int)+1)/\(∃i:Nat,(d:Int)+1=i/\i<=b.length/\F=(b.take i).all (Xm g t)/\L=(b.take i).any (X5 g t)/\((b.take d).filter (IC g t)).length=((b.take i).filter (IC g t)).length/\W C (own 2 s ((b.take d).filter (IC g t)).length v (dE<|(b.take i).filter (IC g t))::all e))/\b.length-((d:Int)+1).toNat<b.length-(d:Int).toNat:=λ{C} F L a0 a1 a2 a3=>by
  have i:(b.take<|d+1).filter (IC g t)=(b.take d).filter (IC g t):=η
  exact⟨ξ,⟨d+1,V,A,η,η,by rw[i],η⟩,bS A⟩
 have L:∀{F:ga}{k:Nat}(a0 a1:Bool),W F (ax k (bR y)::own 2 s ((b.take d).filter (IC g t)).length v (dE<|(b.take d).filter (IC g t))::all e)->IC g t y=true->a0=(l&&Xm g t y)->a1=(h||X5 g t y)->
   bg prog (Builtin.append_ (Array.mk [bH,bH]) bH<|Array.mk [.slice s ((b.take d).filter (IC g t)).length v,T (some<|Z k) 1 1]) F λaB aK=>∃a2 C a3,aB=T a2 C a3/\K ((d:Int)+1)/\(∃i:Nat,(d:Int)+1=i/\i<=b.length/\a0=(b.take i).all (Xm g t)/\a1=(b.take i).any (X5 g t)/\C=((b.take i).filter (IC g t)).length/\W aK (own 2 a2 C a3 (dE<|(b.take i).filter (IC g t))::all e))/\b.length-((d:Int)+1).toNat<b.length-(d:Int).toNat:=λ{a3 k} aR aS i aV b0 b1=>by
  have C:(b.take<|d+1).filter (IC g t)=(b.take d).filter (IC g t)++[y]:=η
  refine(aU (us:=dE<|(b.take d).filter (IC g t)) aY (rfl:ai Ty _=.slice _) (rfl:ai Ty _=.slice _) rfl rfl rfl i rfl (by simp[bR,aO]) G U).mono ?_;rintro _ b2⟨b3,b4,rfl,a2⟩;refine⟨_,_,_,rfl,ξ,⟨d+1,V,A,η,η,η,?_⟩,bS A⟩;rw[C,VD];exact a2.pick 2 [0]
 refine aI ao U ⟨_,_,ap.at sZ rfl,ag n λaB bs i=>aQ i rfl (by simp[aO]) λa0 i=>?_⟩;have C:aj (hp a0) (Z aB) (bR y):=af 0 i.l;have a1:Gr e a0:=aE 2 i.l;have aK:=C.cell0 sZ
 refine⟨_,aK,ae (λaR=>?_) λaR=>?_⟩
 ·have aS:y.kind=2:=G
  obtain⟨bu,bz⟩:0<y.to/\y.to<g.prods.length:=by
   rcases af8 Q av with⟨F,_⟩|⟨F,_⟩|⟨_,F⟩
   ·omega
   ·omega
   omega
  obtain⟨aV,hp⟩:∃F:Nat,y.to=F:=⟨y.to.toNat,U⟩;have b0:Pv g t y=qP g aV t:=by rw[az,gD aS,hp,je]
  refine⟨_,_,_,_,_,_,_,_,_,_,_,_,_,aa.row a1,_,C.cell sZ (j:=1) rfl,?_⟩;rw[hp];refine(aga N (a9.mono a1) U a6).mono ?_;rintro _ bE⟨rfl,a2⟩;have F:=i.gr a2;have a3:=C.mono a2;rw[<-b0];have bN:=af9 (g:=g) t y
  refine⟨_,rfl,ae (λb1=>?_) λb1=>ae (λb2=>?_) λb2=>ae (λb3=>?_) λb3=>?_⟩
  ·have b4:Pv g t y=3:=G
   exact Y false true (F.pick 2 [1]) (jM U) (by grind[Xm,decide_eq_false]) (by grind[X5,decide_eq_true])
  ·have bO:¬Pv g t y=3:=G
   have b4:Pv g t y=2:=G
   refine⟨_,_,a3.at sZ rfl,ag (F.pick 2 [1]) λbP bT b5=>L false h b5 (kG<|.inr b4) (by grind[Xm,decide_eq_false]) (by grind[X5,decide_eq_false])⟩
  ·have b4:Pv g t y=0:=G
   refine⟨_,_,a3.at sZ rfl,ag (F.pick 2 [1]) λbO bP b5=>L l h b5 (kG<|.inl b4) (by grind[Xm,decide_eq_true]) (by grind[X5,decide_eq_false])⟩
  ·have b4:¬Pv g t y=3:=G
   have b5:¬Pv g t y=2:=G
   have bO:¬Pv g t y=0:=G
   exact Y l h (F.pick 2 [1]) (jM U) (by grind[Xm,decide_eq_true]) (by grind[X5,decide_eq_false])
 ·have a3:¬y.kind=2:=G
  have F:Pv g t y=0:=U
  refine bm rfl (bm rfl (gd rfl ⟨_,_,C.at sZ rfl,ag (i.pick 2 [1]) λaS aV a2=>L l h a2 (kG<|.inl F) (by rw[show Xm g t y=true from kG ξ];simp) (by rw[show X5 g t y=false from jM U];simp)⟩))
theorem Xs{xs:List aF}{a:E}{c t:Nat}{st:Int}(F:aw g)(I:gR (hp w) g x)(L:bf (hp w) xs a xs.length)(N:xs.length<=c)(P:RP g.prods.length xs)(Q:t<g.T):ρ 106 [.agg ⟨x.cells⟩,.agg #[O st,O (t:Int),T a xs.length c]] w λR S=>∃(o:E)(c':Nat),R=.tuple #[.agg ⟨bR (Et (gl g t xs))⟩,.slice o (qQ (gl g t xs).1).length c']/\W S (own 2 o (qQ (gl g t xs).1).length c' (dE (qQ (gl g t xs).1))::all w):=by
 refine Br<|dZ I λaa i e X Y=>ag (W.all i) λq ab f=>ag f λa0 r f=>?_;have k:Gr i r:=aE 2 f.l;have s:aj (hp r) (Z q) [O st,O (t:Int),T a xs.length c]:=af 1 f.l;refine⟨_,_,_,_,_,_,_,_,_,_,_,_,_,Y.row k,_,s.cell sZ (j:=1) rfl,_,_,_,s.cell sZ (j:=2) rfl,(age F (X.mono k) (L.mono<|e.trans k) N P Q).mono ?_⟩;obtain⟨l,a1⟩:∃b,b=gl g t xs:=⟨_,rfl⟩;rw[<-a1];rintro _ v⟨o,c',rfl,y⟩;have d:W v (own 2 o l.1.length c' (dE l.1)::ax a0 [O 0,O 0]::ax q [O st,O (t:Int),T a xs.length c]::all i):=W.fy y f.l;clear y;obtain⟨b,z⟩:=l;have ac:∀{h:ga}{n:List aG}{m:Hp},W h (n++[has m])->sub m (hp h):=λh=>W.gone h
 refine⟨_,_,_,_,rfl,ae (λa2=>?_) λa2=>ae (λa3=>?_) λa3=>ae (λm=>?_) λm=>?_⟩
 ·have ad:1<b.length:=G
  have a4:qQ b=b:=by unfold qQ;grind
  intro A a5;have h:=d.drawn a5
  obtain⟨n,p,rfl⟩:∃C a6,b=C::a6:=by
   cases b with
   |nil=>simp_all
   |cons C a6=>simp
  obtain⟨a6,rfl⟩:=fk h (by simp[pI])
  have a7:aj (hp A) a6 (bR n):=aj.take (vs:=dE p) (by
   rcases dT 0 h.l with C|⟨a9,C,a8⟩
   ·grind[dE,bR]
   ·cases C;exact a8)
  refine⟨λC=>Gr A C,Gr.refl _,nR rfl V ⟨_,_,λa8 C=>a7.at C rfl,?_⟩⟩;have a8:=bJ h;refine cE<|bZ a8 ⟨_,_,_,rfl,Gr.refl _,?_⟩;refine aQ ((cK h).pick 2 [1,0]) rfl (by simp[aO]) λa9 C=>⟨_,_,(af 0 C.l).at sZ rfl,?_⟩
  show∃(o:E)(c':Nat),_/\W a9 (own 2 o (qQ<|n::p).length c' (dE<|qQ<|n::p)::all w)
  rw[a4];exact⟨_,_,rfl,W.fy (C.pick 3 [1])<|bM e⟩
 ·have a6:¬1<b.length:=G
  have n:b.length=1:=G
  have p:qQ b=[]:=by simp_all[qQ]
  obtain⟨A,rfl⟩:∃h,b=[h]:=by
   match b,n with
   |[h],_=>simp
  obtain⟨C,rfl⟩:=fk d (by simp[pI])
  have a4:aj (hp v) C (bR A):=by
   rcases dT 0 d.l with h|⟨a7,h,a5⟩
   ·grind[dE,bR]
   ·cases h;exact a5
  refine nR rfl V ⟨_,_,a4.at sZ rfl,aQ (d.pick 2 [1]) rfl (by simp[aO]) λa5 h=>⟨_,_,(af 0 h.l).at sZ rfl,none,0,?_,?_⟩⟩
  ·rfl
  ·rw[p];exact aH 2 (W.here<|sub.trans e<|aE 2 h.l)
 ·have A:¬1<b.length:=G
  have C:¬b.length=1:=G
  have n:b=[]:=j2 U;subst n;have p:z=true:=m;subst p;refine aQ (d.pick 2 [1]) rfl (by simp[aO]) λa4 h=>⟨_,_,(af 0 h.l).at sZ rfl,none,0,rfl,aH 2<|W.here<|sub.trans e<|aE 2 h.l⟩
 ·have A:¬1<b.length:=G
  have C:¬b.length=1:=G
  have n:b=[]:=j2 U;subst n;have p:z=false:=m;subst p;refine aQ (d.pick 2 [1]) rfl (by simp[aO]) λa4 h=>⟨_,_,(af 0 h.l).at sZ rfl,none,0,rfl,aH 2<|W.here<|sub.trans e<|aE 2 h.l⟩
end
theorem AY{α:Type}{f:α->Ay}{n:Nat}(hf:∀x,(f x).length=n):∀(xs:List α)(i:Nat)(y:α),i<xs.length->(xs.flatMap f).take (i*n)++f y++(xs.flatMap f).drop (i*n+n)=(xs.set i y).flatMap f
 |[],i,y,h=>G
 |x::xs,0,y,_=>η
 |x::xs,i+1,y,h=>by
  have hx:=hf x
  have ih:=AY hf xs i y η
  simp_all[List.set_cons_succ,pP,Nat.add_comm,List.take_append,List.drop_append,jy,List.drop_of_length_le]
theorem agf{w:ga}{L:List aG}{n c i:Nat}{o:E}{ds:List Hc}{b:Hc}(h:W w (own 3 o n c (Hd ds)::L))(e:ds[i]? =some b):∃a,o=some a/\aj (hp w) (a.add (ew i 3)) (th b):=by
 rcases dT 0 h.l with a|⟨d,a,f⟩
 ·have g:=congrArg List.length a
  grind[O4,List.length_nil,List.getElem?_eq_some_iff]
 ·exact⟨d,a,cQ (n:=3) (λ_=>rfl) ds d f i b e⟩
section
variable{w:ga}{L:List aG}{g:B}{x:GA}
theorem VP{ss:List SQ}{nn:At}{a i f:Int}{l:Nat}(b:G2 g ss a i f):(n_ g nn ss l).length<=16640:=by
 by_cases c:f=0
 ·obtain⟨d,e⟩:=b.Sn c;have j:=e.dn.2.1;obtain⟨h,_⟩:=d.cR;have k:=M4 (g:=g) (nn:=nn) (ss:=ss) (least:=l) (n:=ss.length);have m:ss.length*g.T<=256*65:=Nat.mul_le_mul U h
  grind[n_]
 ·rw[b.nil c];exact gu _
end
section
variable{g:B}{nn:At}{ss i:List SQ}{w:ga}{L:List aG}
def KN(g:B)(es:List aN):Az:=(List.range g.N).map λj=>match es.find? λe=>decide (e.sym=((g.T+j:Nat):Int)) with
 |some e=>e.to
 |none=>-1
theorem aa6{es:List aN}:(KN g es).length=g.N:=by simp[KN]
theorem aa7:KN g []=List.replicate g.N (-1):=by
 show(List.range g.N).map (λ_=>(-1:Int))=_
 rw[List.map_const',oT]
theorem Nf{es:List aN}{e:aN}(c:∀x∈es,x.sym≠e.sym)(d:e.sym<g.T+g.N):KN g (es++[e])=if(g.T:Int)<=e.sym then(KN g es).set (e.sym-g.T).toNat e.to else KN g es:=by
 refine kv λa=>?_
 have b:∀es:List aN,(KN g es)[a]? =if a<g.N then some (match es.find? λe=>decide (e.sym=((g.T+a:Nat):Int)) with|some e=>e.to|none=>-1) else none:=λes=>by
  unfold KN
  grind
 have f:e.sym=((g.T+a:Nat):Int)->es.find? (λe=>decide (e.sym=((g.T+a:Nat):Int)))=none:=λh=>η
 rw[b,List.find?_append]
 by_cases h:e.sym=((g.T+a:Nat):Int)
 ·grind
 grind
def L4(g:B)(ss:List SQ)(q:Nat):Az:=(List.range g.N).map λj=>D5 ss q ((g.T+j:Nat):Int)
theorem aa8{q:Nat}{r:SQ}(a:ss[q]? =some r):KN g r.2.2=L4 g ss q:=by grind[KN,L4,List.map_congr_left,D5,uZ,decide]
theorem adK(h:cN ss=cN i):Gt g ss=Gt g i:=by grind[Gt,OE,List.map_congr_left,D5,J4]
theorem VQ:∀n,ir n [O 0,O 0]=dE (List.replicate n ⟨0,0⟩)
 |0=>rfl
 |n+1=>by
  rw[oH]
  show[O 0,O 0]++ir n _=bR ⟨0,0⟩++dE (List.replicate n ⟨0,0⟩)
  rw[VQ n];rfl
def AZ(oa:E)(ca:Nat)(og:E)(cg:Nat)(oc:E)(cc:Nat)(AL:List (Lq aF))(GL:List (Lq Int))(CL:List Hc):List aG:=
 [own 1 oa AL.length ca (AL.map cf),aT (AL.map (bU 2 dE)),own 1 og GL.length cg (GL.map cf),aT (GL.map (bU 1 iv)),own 3 oc CL.length cc (Hd CL),aT (ER CL)]
def aih(g:B)(w:ga)(v:ah)(w':ga):Prop:=∃(ss:List SQ)(ask int f:Int)(nn:At)(oa:E)(ca:Nat)(og:E)(cg:Nat)(oc:E)(cc:Nat)(AL:List (Lq aF))(GL:List (Lq Int))(CL:List Hc),
 v=.tuple #[.agg #[T oa AL.length ca,T og GL.length cg,T oc CL.length cc],O f]/\G2 g ss ask int f/\(f=0->tC g nn)/\AL.map (·.2)=Eu g nn ss/\GL.map (·.2)=Gt g ss/\CL.map pO=T8 g nn ss/\W w' (AZ oa ca og cg oc cc AL GL CL++all w)
theorem ahF{ds:List Hc}{i:Nat}{b:Hc}(h:W w (aT (ER ds)::L))(d:ds[i]? =some b):b.2.2.length<=b.2.1.2/\bf (hp w) b.2.2 b.2.1.1 b.2.2.length:=by
 have c:(ER ds)[i]? =some (bU 2 dE b.2):=by simp_all[ER]
 have a:=W.out h c;exact⟨bJ a,Er rfl (dT 0 a.l)⟩
theorem ahG{n c q t:Nat}{o:E}{a:List (Lq aF)}{b:Lq aF}{y:aF}{X:ga->Prop}(g:a[q]? =some b)(d:t<b.2.length)(h:W w (own 1 o n c (a.map cf)::aT (a.map (bU 2 dE))::L))
  (j:∀w',W w' (own 1 o n c ((a.set q (b.1,b.2.set t y)).map cf)::aT ((a.set q (b.1,b.2.set t y)).map (bU 2 dE))::L)->X w'):M b.1.1 b.2.length (t:Int) 2 λk=>bC w k [O y.kind,O y.to] X:=by
 have s:=(gJ.1 g).1;have l:(a.map<|bU 2 dE)[q]? =some (bU 2 dE b):=η
 have h:=W.Ta (h.pick 2 [1,0]) l;have h:W w (own 2 b.1.1 b.2.length b.1.2 (dE b.2)::aT ((a.map<|bU 2 dE).take q++(a.map<|bU 2 dE).drop (q+1))::own 1 o n c (a.map cf)::L):=h;obtain⟨v,e⟩:=fk h (by grind[pI]);refine aI e d ?_;rw[bh];refine Il (i:=t*2) h e (by grind[pI]) (by simp[aO]) V λw' h=>j w' ?_;have m:=AY (f:=bR) (n:=2) (λ_=>rfl) b.2 t y d;have h:W w' (own 2 b.1.1 b.2.length b.1.2 ((b.2.flatMap bR).take (t*2)++bR y++(b.2.flatMap bR).drop (t*2+2))::aT ((a.map<|bU 2 dE).take q++(a.map<|bU 2 dE).drop (q+1))::own 1 o n c (a.map cf)::L):=h;rw[m] at h;have p:bU 2 dE (b.1,b.2.set t y)=own 2 b.1.1 b.2.length b.1.2 ((b.2.set t y).flatMap bR):=by unfold bU;rw[ky];rfl
 rw[<-p] at h;have r:(a.set q (b.1,b.2.set t y)).map cf=a.map cf:=by simp_all[DC,cf]
 rw[r,kf];exact(W.Zc (M:=a.map<|bU 2 dE) (n:=q) η h).swap
end
structure Pb(AL:List (Lq aN))(n:Nat)(F:Nat->List aN):Prop where
 l:AL.length=n
 e:∀(i:Nat)(b:Lq aN),AL[i]? =some b->b.2=F i
section
variable{w:ga}{L:List aG}{j:List (Lq aN)}{n q k:Nat}{F:Nat->List aN}
theorem Pb.new(n:Nat):Pb (List.replicate n ((none,0),[])) n λ_=>[]:=⟨V,λi b h=>G⟩
theorem Pb.set(h:Pb j n F){o:E}{c:Nat}{l:List aN}:Pb (j.set q ((o,c),l)) n λi=>if i=q then l else F i:=⟨by rw[ky];exact h.l,λi b hb=>by
 rw[q8] at hb
 split at hb
 ·grind
 ·rename_i e
  rw[gv (λx=>e x.symm)]
  exact h.e i b hb⟩
theorem Pb.ext(h:Pb j n F){a:Nat->List aN}(c:∀i<n,F i=a i):Pb j n a:=⟨h.l,λi d b=>by rw[h.e i d b];exact c i (by have:=(gJ.1 b).1;rw[<-h.l];omega)⟩
theorem Pb.map(h:Pb j n F):j.map (·.2)=(List.range n).map F:=by
 refine kv λa=>?_;rw[iE,iE]
 by_cases b:a<n
 ·rw[gn (by rw[h.l];omega),pC b];exact congrArg some (h.e a _<|gn (by rw[h.l];omega))
 ·rw[lA (by rw[h.l];omega),lA η];rfl
theorem A1(h:W w (ax k (j.map cf)::aT (j.map (bU 2 rh))::L)):bf (hp w) (j.map (·.2)) (some (Z k)) j.length:=by
 refine⟨V,λa m b=>?_⟩;rw[iE] at b;cases c:j[a]? with
 |none=>simp_all
 |some d=>
  rw[c] at b;cases b;have g:(j.map<|bU 2 rh)[a]? =some (bU 2 rh d):=G
  have e:=W.out h.tail g;have i:=cQ (f:=λl:Lq aN=>[cf l]) (n:=1) (λ_=>rfl) j (Z k) (by have:=af 0 h.l;rwa [<-List.map_eq_flatMap] ) a d c;exact⟨_,_,rfl,i,_,_,_,rfl,bJ e,Vb rfl (dT 0 e.l)⟩
theorem Pc:∀n,ir n [D]=(List.replicate n (((none,0),[]):Lq aN)).map cf
 |0=>rfl
 |n+1=>by
  rw[oH,kn,<-Pc n]
  rfl
theorem VR(h:W w L):∀n,W w (aT ((List.replicate n (((none,0),[]):Lq aN)).map (bU 2 rh))::L):=λn=>by simp_all[Lq,bU,rh,List.map_replicate,DA,aH]
end
def Ex(by_:Int)(l:List aF)(t:Nat):List aN:=(List.range t).flatMap λt=>T5 by_ t (l.getD t ⟨0,0⟩)
theorem T9(a:Int)(l:List aF)(t:Nat):Ex a l (t+1)=Ex a l t++T5 a t (l.getD t ⟨0,0⟩):=by simp[Ex,k8]
def Hg(to:Int)(l:Az)(t:Nat):List aN:=(List.range t).flatMap λq=>VL to q (l.getD q 0)
theorem T_(to:Int)(l:Az)(t:Nat):Hg to l (t+1)=Hg to l t++VL to t (l.getD t 0):=by simp[Hg,k8]
theorem Ey{α β:Type}(f:α->List β)(h1:∀x,(f x).length<=1):∀l:List α,(l.flatMap f).length<=l.length
 |[]=>V
 |x::l=>by have:=Ey f h1 l;grind
theorem agh(b:Int)(t:Nat)(a:aF):(T5 b t a).length<=1:=by grind[T5]
theorem agi(b:Int)(t:Nat)(a:Int):(VL b t a).length<=1:=by grind[VL]
theorem RW(b:Int)(l:List aF)(t:Nat):(Ex b l t).length<=t:=by
 have:=Ey (λt=>T5 b t<|l.getD t ⟨0,0⟩) (λx=>agh ..)<|List.range t;rw[oT] at this;exact this
theorem RX(b:Int)(l:Az)(t:Nat):(Hg b l t).length<=t:=by
 have:=Ey (λt=>VL b t<|l.getD t 0) (λx=>agi ..)<|List.range t;rw[oT] at this;exact this
theorem RY{f:Nat->List aN}(a:∀x,f x=[]\/∃z,f x=[⟨(x:Int),z⟩])(n:Nat):(((List.range n).flatMap f).map (·.sym)).Nodup/\∀e∈(List.range n).flatMap f,0<=e.sym/\e.sym<n:=by
 induction n with
 |zero=>simp
 |succ n b=>
  rw[k8,kr,jI,kS];simp only[lC,List.flatMap_nil,jK]
  rcases a n with e|⟨z,e⟩
  ·grind
  grind
theorem agj{n:Nat}{a:aF}(h:Gq n a)(b:n<=1000):-1000000<=xV a/\xV a<=1000000:=by grind[xV,Gq]
theorem adL{b:Int}{l:List aF}{N:Nat}(e:∀a∈l,Gq N a)(g:N<=1000)(i:l.length<=65):Xl (LZ b l):=by
 have c:=RY (f:=λd=>T5 b d<|l.getD d ⟨0,0⟩) (λd=>by unfold T5;grind) l.length;refine⟨λd h=>by have:=c.2 d h;omega,c.1,λj d=>?_,by have:=RW b l l.length;grind[Ex,LZ]⟩;obtain⟨k,a,h,_,_,rfl⟩:=qN.1 d;exact agj (e a<|gg h) g
theorem adM{b:Int}{l:Az}{N:Nat}(e:∀a∈l,a<N)(h:N<=1000)(i:l.length<=256):Xl (L0 b l):=by
 have c:=RY (f:=λd=>VL b d<|l.getD d 0) (λd=>by unfold VL;grind) l.length;refine⟨λd g=>by have:=c.2 d g;omega,c.1,λj d=>?_,by have:=RX b l l.length;grind[Hg,L0]⟩;obtain⟨k,a,g,m,_,rfl⟩:=vk.1 d;have:=e a (gg g)
 grind
section
variable{w:ga}{L:List aG}{k:List (Lq aN)}{n q r:Nat}{b:Lq aN}
theorem VS{a:Nat}{y:aN}{I:ga->Prop}{K:ga->Prop}(g:k[q]? =some b)(z:k.length=n)(A:b.2.length<=1000)(h:W w (ax a [O y.sym,O y.to]::ax r (k.map cf)::aT (k.map (bU 2 rh))::L))
  (j:∀c,aj (hp c) (Z r) (k.map cf)->aL L (hp c)->I c) (l:∀c o' c',W c (ax r ((k.set q ((o',c'),b.2++[y])).map cf)::aT ((k.set q ((o',c'),b.2++[y])).map (bU 2 rh))::L)->K c):
  bg prog (ft BD (Array.mk [T b.1.1 b.2.length b.1.2,T (some (Z a)) 1 1])) w λm c=>∃d e f,m=T d e f/\I c/\M (some (Z r)) n (q:Int) 1 λo=>gh c o (T d e f) K:=by
 have C:=(gJ.1 g).1;have p:(k.map<|bU 2 rh)[q]? =some (bU 2 rh b):=G
 have h:=W.Ta (h.pick 3 [2,0,1]) p;have h:W w (own 2 b.1.1 b.2.length b.1.2 (rh b.2)::aT ((k.map<|bU 2 rh).take q++(k.map<|bU 2 rh).drop (q+1))::ax a [O y.sym,O y.to]::ax r (k.map cf)::L):=h;refine(aU (us:=rh b.2) (vs:=[O y.sym,O y.to]) aY (rfl:ai Ty _=.slice _) (rfl:ai Ty _=.slice _) rfl rfl rfl (h.pick 4 [2,0,3,1]) rfl (by simp[aO]) G U).mono ?_;rintro _ s⟨o',c',rfl,h⟩;refine⟨_,_,_,rfl,j s (af 2 h.l) h.tail.tail.tail.tail.l,au rfl U ?_⟩;rw[ak];refine aX (i:=q) (h.pick 4 [2,0,3]) η λt h=>l t o' c' ?_
 have v:(k.map cf).set q (T o' (b.2.length+1) c')=(k.set q ((o',c'),b.2++[y])).map cf:=by
  rw[kf];congr 1
  show _=Value.slice o' (b.2++[y]).length c'
  simp
 have x:bU 2 rh ((o',c'),b.2++[y])=own 2 o' (b.2.length+1) c' (rh b.2++[O y.sym,O y.to]):=by simp[bU,rh,WW]
 rw[v,<-x] at h;rw[show(k.set q ((o',c'),b.2++[y])).map (bU 2 rh)=(k.map<|bU 2 rh).set q (bU 2 rh ((o',c'),b.2++[y])) from kf];exact(W.Zc (M:=k.map<|bU 2 rh) (n:=q) η<|h.pick 3 [1,2,0]).swap
theorem A2{x:aF}{t N c:Nat}{e:ga}{K:ga->Prop}(f:k[q]? =some b)(P:k.length=n)(Q:b.2.length<=1000)(R:Gq N x)(S:N<=1000)(h:W e (ax c (bR x)::ax r (k.map cf)::aT (k.map (bU 2 rh))::L))
  (X:∀a o' c',W a (ax r ((k.set q ((o',c'),b.2++[⟨(t:Int),xV x⟩])).map cf)::aT ((k.set q ((o',c'),b.2++[⟨(t:Int),xV x⟩])).map (bU 2 rh))::L)->K a):
  ∀d,drawn e d->∃(a:ga->Prop),a d/\M (some (Z r)) n (q:Int) 1 λY=>∃g i l,(∀m,a m->World.cell? m Y=some (T g i l))/\∃m o,(∀p,a p->iA p (Z c) 0 2=some [O m,O o])/\jm prog Ev G1 [vA (Array.mk [O m,O o])] d λa0 p=>∃s,a0=O s/\a p/\new p (oC [O (t:Int),O s] Ql) λa1 w=>a w/\bg prog (ft BD (Array.mk [T g i l,T (some (Z a1)) 1 1])) w λa2 z=>∃A C F,a2=T A C F/\a z/\M (some (Z r)) n (q:Int) 1 λa3=>gh z a3 (T A C F) K:=by
 intro a7 a4;have h:=h.drawn a4;have a8:=(gJ.1 f).1;refine⟨λI=>aj (hp I) (Z r) (k.map cf)/\aj (hp I) (Z c) (bR x),⟨af 1 h.l,af 0 h.l⟩,au rfl U ⟨_,_,_,λa5 I=>I.1.cell sZ (j:=q) (v:=cf b) η,_,_,λa5 I=>I.2.at sZ rfl,(agc R S).mono ?_⟩⟩;rintro _ a9⟨rfl,I⟩;have h:=h.gr I;refine⟨_,rfl,⟨af 1 h.l,af 0 h.l⟩,ag h λaa ab h=>⟨⟨af 2 h.l,af 1 h.l⟩,?_⟩⟩;exact VS (y:=⟨(t:Int),xV x⟩) (L:=ax c (bR x)::L) f P Q (h.pick 4 [0,2,3,1]) (λac a5 a6=>⟨a5,af 0 a6⟩) λa5 o' c' h=>X a5 o' c' (h.pick 3 [0,1])
end
abbrev vi(p:dO)(x:PA)(L:List aG):List aG:=
 own 1 x.d.1 x.d.2.1 x.d.2.2 (iv p.df)::own 1 x.a1.1 x.a1.2.1 x.a1.2.2 (iv p.ac.bs)::own 1 x.a2.1 x.a2.2.1 x.a2.2.2 (iv p.ac.vs)::own 1 x.a3.1 x.a3.2.1 x.a3.2.2 (iv p.ac.os)::
 own 1 x.t.1 x.t.2.1 x.t.2.2 (iv p.tg)::own 1 x.g1.1 x.g1.2.1 x.g1.2.2 (iv p.gt.bs)::own 1 x.g2.1 x.g2.2.1 x.g2.2.2 (iv p.gt.vs)::own 1 x.g3.1 x.g3.2.1 x.g3.2.2 (iv p.gt.os)::L
structure A3(p:dO):Prop where
 a1:p.ac.os.length<=100000
 a2:∀z∈p.ac.vs,-1000000<=z/\z<=1000000
 g1:p.gt.os.length<=100000
 g2:∀z∈p.gt.vs,-1000000<=z/\z<=1000000
abbrev z8:Ay:=[D,D,D,D,D,D,D,D]
theorem aa_{α:Type}{l m:List α}{i:Nat}{z:α}(h:i<l.length):(l++m).getD i z=l.getD i z:=G
section
variable{w:ga}{a d:E}{n c e f:Nat}{k:List (List aF)}{Q:A7}{R N:Nat}
theorem agk(hA:bf (hp w) k a n)(hG:bf (hp w) Q d e)(hD:xg k Q R N):ρ 44 [.agg #[T a n c,T d e f]] w λv w'=>∃(p:dO)(x:PA),v=.tuple #[.agg ⟨x.cells⟩,O 0]/\He k Q N p/\A3 p/\W w' (vi p x (all w)):=by
 have eA:=hA.1;have eG:=hG.1;have e8:=hD;obtain⟨n1,n2,eg,t1,t2,s1,s2,ha,ht⟩:=hD;refine LF<|ag (W.all w) λk1 w1 h=>ag h λk2 w2 h=>⟨_,_,_,_,_,_,(af 1 h.l).at sZ rfl,?_⟩;have gw:Gr w w2:=h.tail.aS;refine(adI (hA.mono gw) (hG.mono gw) e8).mono ?_;rintro _ w3⟨rfl,g3⟩;have h:=h.gr g3;obtain⟨h0,c8,s0,h⟩:=h.freeze;have b1:aj h0 (Z k1) [T a n c,T d e f]:=af 0 c8;have e2:sub (hp w) h0:=aE 1 c8;have ep:=hA.mono e2;have ch:=hG.mono e2;refine⟨_,rfl,bm rfl (ag h λI w5 h=>⟨_,_,_,b1.cell0<|aE 2 h.l,⟨U,rfl,U⟩,?_⟩)⟩;rw[je,Pc];refine ag h λk26 w6 h=>?_;have h:=VR h n;have h:W w6 (ax k26 ((List.replicate n (((none,0),[]):Lq aN)).map cf)::aT ((List.replicate n (((none,0),[]):Lq aN)).map (bU 2 rh))::ax I z8::own 1 none 0 0 (iv [])::ax k2 z8::[has h0]):=(aH 1 h).pick 6 [2,1,3,0,4,5]
 refine⟨_,_,_,b1.cell0<|aE 5 h.l,λz u=>∃(q:Nat)(df:Az)(AL:List (Lq aN))(o:E)(c:Nat),z=q/\q<=n/\df.length=q/\Pb AL n (λi=>if i<q then LZ (df.getD i 0) (k.getD i []) else[])/\(∀(i:Nat)(l:List aF),i<q->k[i]? =some l->df.getD i 0=-1\/∃a∈l,a.kind=2/\a.to=df.getD i 0)/\
  W u (ax k26 (AL.map cf)::aT (AL.map<|bU 2 rh)::ax I [T o q c,D,D,D,D,D,D,D]::own 1 o q c (iv df)::ax k2 z8::[has h0]),λz _=>n-z.toNat,⟨0,[],_,none,0,rfl,gu _,rfl,(Pb.new n).ext λi _=>V,λi l hi=>absurd hi U,h⟩,?_⟩
 clear h;rintro _ _ w7⟨q,df,AL,o,cc,rfl,hq,eM,hF,ef,h⟩
 refine ae (λh1=>?_) λh1=>?_
 ·have h1:q<n:=η
  have s7:sub h0 (hp w7):=aE 5 h.l;obtain⟨l,ad,vs,hl,cd,b3,f3,a0,eU,rfl,_,aR⟩:=ep.get h1;have cx:=gg hl;obtain⟨ez,cC⟩:=ha l cx;have cT:a0=R:=by rw[<-aR.1];omega
  subst cT;have dk:k.getD q []=l:=η
  refine aI cd h1 ⟨_,_,_,b3.cell0 s7,(adG (aR.mono s7) U).mono ?_⟩;rintro _ w8⟨bz,rfl,fL,g8⟩;have h:=h.gr g8;refine⟨_,rfl,_,_,_,(af 2 h.l).cell0 sZ,ag h λeO w9 h=>?_⟩;refine(aU (us:=iv df) (vs:=[O bz]) aY (rfl:ai Ty _=.slice _) (rfl:ai Ty _=.slice _) rfl rfl rfl (h.pick 5 [0,4,1,2,3]) rfl (by simp[aO]) G U).mono ?_;rintro _ eR⟨a7,a8,rfl,h⟩;refine⟨_,_,_,rfl,aX (i:=0) (h.pick 5 [4,0,2,3]) V λeX h=>?_⟩;have e0:iv df++[O bz]=iv (df++[bz]):=by simp[iv]
  rw[e0] at h;obtain⟨F,bb⟩:∃F:Nat->List aN,F=λi=>if i<q then LZ (df.getD i 0) (k.getD i []) else[]:=⟨_,rfl⟩
  rw[<-bb] at hF;have c7:F q=[]:=η
  refine⟨λz u=>∃(t:Nat)(AL:List (Lq aN)),z=t/\t<=a0/\Pb AL n (λi=>if i=q then Ex bz l t else F i)/\
   W u (ax k26 (AL.map cf)::aT (AL.map<|bU 2 rh)::ax I [T a7 (q+1) a8,D,D,D,D,D,D,D]::own 1 a7 (q+1) a8 (iv<|df++[bz])::ax k2 z8::[has h0]),λz _=>a0-z.toNat,⟨0,AL,rfl,gu _,hF.ext λi hi=>by
    try dsimp only
    split
    ·rename_i e;rw[e,c7];rfl
    rfl,h.pick 6 [2,3,0,1,4,5]⟩,?_⟩
  clear h hF;rintro _ _ et⟨t,AL,rfl,bl,hF,h⟩;have eb:sub h0 (hp et):=aE 5 h.l
  refine ae (λh2=>?_) λh2=>?_
  ·have h2:t<a0:=η
   obtain⟨x,eP,vs,hx,cz,c9,ca⟩:=(aR.mono eb).get h2;have ca:vs=bR x:=ca;subst ca;have er:l.getD t ⟨0,0⟩=x:=η
   have ck:=cC x<|gg hx;obtain⟨b,hb⟩:∃b,AL[q]? =some b:=⟨_,gn (by rw[hF.l];omega)⟩;have e7:b.2=Ex bz l t:=by have:=hF.e q b hb;simp_all
   have az:b.2.length<=1000:=by grind[RW]
   have Y:=T9 bz l t;rw[er] at Y;refine aI cz h2 ⟨_,_,c9.at sZ rfl,ag h λeS fc h=>aQ h rfl (by simp[aO]) λeC h=>⟨_,(af 0 h.l).cell0 sZ,?_⟩⟩
   have skip:T5 bz t x=[]->K ((t:Int)+1)/\(∃(t':Nat)(AL:List (Lq aN)),(t:Int)+1=t'/\t'<=a0/\Pb AL n (λi=>if i=q then Ex bz l t' else F i)/\W eC (ax k26 (AL.map cf)::aT (AL.map<|bU 2 rh)::ax I [T a7 (q+1) a8,D,D,D,D,D,D,D]::own 1 a7 (q+1) a8 (iv<|df++[bz])::ax k2 z8::[has h0]))/\a0-((t:Int)+1).toNat<a0-(t:Int).toNat:=λhe=>by
    rw[he,jK] at Y;exact⟨ξ,⟨t+1,AL,V,h2,G,h.tail⟩,bS h2⟩
   have bP:T5 bz t x=[⟨(t:Int),xV x⟩]->∀u o' c',W u (ax k26 ((AL.set q ((o',c'),b.2++[⟨(t:Int),xV x⟩])).map cf)::aT ((AL.set q ((o',c'),b.2++[⟨(t:Int),xV x⟩])).map (bU 2 rh))::ax I [T a7 (q+1) a8,D,D,D,D,D,D,D]::own 1 a7 (q+1) a8 (iv<|df++[bz])::ax k2 z8::[has h0])->K ((t:Int)+1)/\(∃(t':Nat)(AL:List (Lq aN)),(t:Int)+1=t'/\t'<=a0/\Pb AL n (λi=>if i=q then Ex bz l t' else F i)/\W u (ax k26 (AL.map cf)::aT (AL.map<|bU 2 rh)::ax I [T a7 (q+1) a8,D,D,D,D,D,D,D]::own 1 a7 (q+1) a8 (iv<|df++[bz])::ax k2 z8::[has h0]))/\a0-((t:Int)+1).toNat<a0-(t:Int).toNat:=λhe u o' c' h=>by
    rw[he] at Y;refine⟨ξ,⟨t+1,_,V,h2,(hF.set (q:=q) (o:=o') (c:=c') (l:=b.2++[⟨(t:Int),xV x⟩])).ext λi hi=>?_,h⟩,bS h2⟩
    grind
   refine ae (λh3=>⟨_,(af 0 h.l).cell0 sZ,ae (λh4=>?_) λh4=>⟨_,(af 0 h.l).cell sZ (j:=1) rfl,ae (λh5=>?_) λh5=>?_⟩⟩) λh3=>?_
   ·have h3:x.kind≠0:=G
    have h4:x.kind≠2:=G
    exact A2 (x:=x) (t:=t) hb hF.l az ck U h λu o' c' h=>bP (by unfold T5;grind) u o' c' h
   ·have h3:x.kind≠0:=G
    have h5:x.to≠bz:=G
    exact A2 (x:=x) (t:=t) hb hF.l az ck U h λu o' c' h=>bP (by unfold T5;grind) u o' c' h
   ·have h4:x.kind=2:=G
    have h5:x.to=bz:=G
    exact skip (by unfold T5;grind)
   ·have h3:x.kind=0:=G
    exact skip (by unfold T5;grind)
  ·have h2:t=a0:=G
   subst h2
   refine⟨ξ,⟨q+1,df++[bz],AL,a7,a8,V,h1,η,hF.ext λi hi=>?_,λi l' hi f4=>?_,h⟩,bS h1⟩
   ·rw[bb]
    rcases sF i q with a4|a4|a4
    ·grind
    ·subst a4;rw[gD rfl,gD U,dk];have:(df++[bz]).getD i 0=bz:=η
     rw[this,<-ez];rfl
    grind
   grind
 --the actions' rows are laid
 have h1:n=q:=G
 subst h1
 have bi:AL.map (·.2)=(List.range k.length).map λi=>LZ (df.getD i 0) (k.getD i []):=by
  rw[hF.map,eA]
  simp_all
 have am:=A1 (L:=_) h;rw[hF.l] at am
 refine(AW am (λes b5=>?_) U).mono ?_
 ·rw[bi] at b5;obtain⟨i,hi,rfl⟩:=iz.1 b5;have hi:=jY.1 hi;have hl:k[i]? =some k[i]:=gn hi;have e1:k.getD i []=k[i]:=η
  rw[e1];obtain⟨q1,q2⟩:=ha _<|pL hi;exact adL q2 U U
 rintro _ e3⟨m,J,rfl,dF,eo,ej,dl⟩;rw[bi] at dF;have h:=W.on (N:=[_,_,_]) dl h.l;clear dl am;have h:W e3 (ax I [T o n cc,D,D,D,D,D,D,D]::own 1 J.b m.bs.length J.cb (iv m.bs)::own 1 J.v m.vs.length J.cv (iv m.vs)::own 1 J.o m.os.length J.co (iv m.os)::own 1 o n cc (iv df)::ax k2 z8::[has h0]):=W.pick h 9 [5,0,1,2,6,7,8];refine⟨_,_,_,_,_,_,_,_,_,_,rfl,Av (i:=1) h V (by simp[aO]) λd3 h=>?_⟩;have h:W d3 (ax I [T o n cc,T J.b m.bs.length J.cb,T J.v m.vs.length J.cv,T J.o m.os.length J.co,D,D,D,D]::own 1 J.b m.bs.length J.cb (iv m.bs)::own 1 J.v m.vs.length J.cv (iv m.vs)::own 1 J.o m.os.length J.co (iv m.os)::own 1 o n cc (iv df)::ax k2 z8::[has h0]):=h;have d6:sub h0 (hp d3):=aE 6 h.l;obtain⟨l0,f9,vs,eK,d7,c6,fg,C,eY,rfl,_,eI⟩:=ch.get (i:=0) U;have dW:C=N:=by rw[<-eI.1];grind
 subst dW;refine⟨_,_,_,b1.cell d6 (j:=1) rfl,aI (i:=0) d7 U ⟨_,_,_,c6.cell0 d6,⟨U,rfl,U⟩,?_⟩⟩;rw[je,Pc];refine ag h λav el h=>?_;have h:=VR h C;obtain⟨M,hM⟩:∃M:List aG,M=own 1 J.b m.bs.length J.cb (iv m.bs)::own 1 J.v m.vs.length J.cv (iv m.vs)::own 1 J.o m.os.length J.co (iv m.os)::own 1 o n cc (iv df)::ax k2 z8::[has h0]:=⟨_,rfl⟩;obtain⟨pc,c5⟩:∃pc:E->Nat->Nat->Ay,pc=λo' n' c'=>[T o n cc,T J.b m.bs.length J.cb,T J.v m.vs.length J.cv,T J.o m.os.length J.co,T o' n' c',D,D,D]:=⟨_,rfl⟩
 have b7:∀{u:ga}{X:List aG},W u (X++M)->sub h0 (hp u):=λ{u X} hh=>by
  rw[hM] at hh
  induction X with
  |nil=>exact aE 5 hh.l
  |cons A X ih=>exact ih hh.tail
 have h:W el (ax av ((List.replicate C (((none,0),[]):Lq aN)).map cf)::aT ((List.replicate C (((none,0),[]):Lq aN)).map (bU 2 rh))::ax I (pc none 0 0)::own 1 none 0 0 (iv [])::M):=by
  rw[hM,c5];exact(aH 1 h).pick 10 [2,1,3,0,4,5,6,7,8,9]
 refine⟨λz u=>∃(i:Nat)(tg:Az)(AL:List (Lq aN))(o:E)(c:Nat),z=i/\i<=C/\tg.length=i/\Pb AL C (λj=>if j<i then L0 (tg.getD j 0) (Q.map λl=>l.getD j 0) else[])/\(∀j<i,tg.getD j 0=-1\/∃l∈Q,l.getD j 0=tg.getD j 0/\0<=tg.getD j 0)/\
  W u (ax av (AL.map cf)::aT (AL.map<|bU 2 rh)::ax I (pc o i c)::own 1 o i c (iv tg)::M),λz _=>C-z.toNat,⟨0,[],_,none,0,rfl,gu _,rfl,(Pb.new C).ext λi _=>V,λj hj=>absurd hj U,h⟩,?_⟩
 clear h;rintro _ _ eN⟨i,tg,aV,o2,c2,rfl,hi,bl,b2,d9,h⟩
 refine ae (λh1=>?_) λh1=>?_
 ·have h1:i<C:=η
  refine ag h λa9 fs h=>aX h V λcg h=>?_;have h:W cg (ax a9 [O (i:Int)]::ax av (aV.map cf)::aT (aV.map<|bU 2 rh)::ax I (pc o2 i c2)::own 1 o2 i c2 (iv tg)::M):=h;have dc:sub h0 (hp cg):=b7 (X:=[_,_,_,_,_]) h;have be:∀z,sub (hp cg) (hp z)->z.cell? (Z a9)=some (O (i:Int)):=λz g=>(af 0 h.l).cell0 g;refine⟨_,_,_,b1.cell dc (j:=1) rfl,(adH (i:=i) (ch.mono dc) U (λl hl=>G) be).mono ?_⟩;rintro _ em⟨to,rfl,fC,d5⟩;have h:=h.gr d5;have be:∀z,sub (hp em) (hp z)->z.cell? (Z a9)=some (O (i:Int)):=λz g=>be z<|sub.trans d5 g;have e4:∀o' n' c',(pc o' n' c')[4]? =some (T o' n' c'):=λo' n' c'=>G
  have e5:∀o' n' c' cI cA d8,(pc o' n' c').set 4 (T cI cA d8)=pc cI cA d8:=λ_ _ _ _ _ _=>by rw[c5];rfl
  have e6:∀o' n' c',4<(pc o' n' c').length:=λ_ _ _=>G
  refine⟨_,rfl,_,_,_,(af 3 h.l).cell sZ (e4 ..),ag h λf5 f8 h=>?_⟩;refine(aU (us:=iv tg) (vs:=[O to]) aY (rfl:ai Ty _=.slice _) (rfl:ai Ty _=.slice _) rfl rfl rfl (h.pick 6 [0,5,1,2,3,4]) rfl (by simp[aO]) G U).mono ?_;rintro _ fd⟨a6,a5,rfl,h⟩;refine⟨_,_,_,rfl,?_⟩;rw[ak];refine aX (i:=4) (h.pick 6 [5,0,2,3,4]) (e6 ..) λea h=>?_;have e0:iv tg++[O to]=iv (tg++[to]):=by simp[iv]
  rw[e0,e5] at h;have h:W ea (ax av (aV.map cf)::aT (aV.map<|bU 2 rh)::ax a9 [O (i:Int)]::ax I (pc a6 (i+1) a5)::own 1 a6 (i+1) a5 (iv<|tg++[to])::M):=h.pick 5 [3,4,2,0,1];obtain⟨F,bb⟩:∃F:Nat->List aN,F=λj=>if j<i then L0 (tg.getD j 0) (Q.map λl=>l.getD j 0) else[]:=⟨_,rfl⟩
  rw[<-bb] at b2;have c7:F i=[]:=G
  obtain⟨aa,bQ⟩:∃aa,aa=Q.map λl=>l.getD i 0:=⟨_,rfl⟩
  refine⟨_,_,_,b1.cell (b7 (X:=[_,_,_,_,_]) h) (j:=1) rfl,λz u=>∃(t:Nat)(AL:List (Lq aN)),z=t/\t<=e/\Pb AL C (λj=>if j=i then Hg to aa t else F j)/\
   W u (ax av (AL.map cf)::aT (AL.map<|bU 2 rh)::ax a9 [O (i:Int)]::ax I (pc a6 (i+1) a5)::own 1 a6 (i+1) a5 (iv<|tg++[to])::M),λz _=>e-z.toNat,⟨0,aV,rfl,gu _,b2.ext λj hj=>by
    try dsimp only
    split
    ·rename_i e;rw[e,c7];rfl
    rfl,h⟩,?_⟩
  clear h b2;rintro _ _ cu⟨t,AL,rfl,fS,hF,h⟩;have bT:sub h0 (hp cu):=b7 (X:=[_,_,_,_,_]) h
  refine ae (λh2=>?_) λh2=>?_
  ·have h2:t<e:=G
   obtain⟨l,ad,vs,hl,cd,b3,fw,ey,f6,rfl,_,aR⟩:=ch.get h2;have cx:=gg hl;have cm:C=ey:=by rw[<-aR.1];grind
   subst cm;have ci:aa.getD t 0=l.getD i 0:=by rw[bQ,jX,iE,hl];rfl
   obtain⟨fz,b6,aK⟩:=qq aR h1;obtain⟨x,hx⟩:∃x,x=l.getD i 0:=⟨_,rfl⟩;rw[<-hx] at ci aK;obtain⟨b,hb⟩:∃b,AL[i]? =some b:=⟨_,gn (by rw[hF.l];omega)⟩;have e7:b.2=Hg to aa t:=by have:=hF.e i b hb;grind
   have az:b.2.length<=1000:=by grind[RX]
   have Y:=T_ to aa t;rw[ci] at Y
   have skip:VL to t x=[]->K ((t:Int)+1)/\(∃(t':Nat)(AL:List (Lq aN)),(t:Int)+1=t'/\t'<=e/\Pb AL C (λj=>if j=i then Hg to aa t' else F j)/\W cu (ax av (AL.map cf)::aT (AL.map<|bU 2 rh)::ax a9 [O (i:Int)]::ax I (pc a6 (i+1) a5)::own 1 a6 (i+1) a5 (iv<|tg++[to])::M))/\e-((t:Int)+1).toNat<e-(t:Int).toNat:=λhe=>by
    rw[he,jK] at Y;exact⟨ξ,⟨t+1,AL,V,h2,by rw[Y];omega,h⟩,bS h2⟩
   refine aI cd h2 ⟨_,_,_,b3.cell0 bT,_,(af 2 h.l).cell0 sZ,au b6 h1 ⟨_,aK _ bT,ae (λh3=>⟨_,(af 2 h.l).cell0 sZ,au b6 h1 ⟨_,aK _ bT,ae (λh4=>?_) λh4=>?_⟩⟩) λh3=>?_⟩⟩
   ·have h3:0<=x:=gZ h3;have h4:x≠to:=G
    have he:VL to t x=[⟨(t:Int),x⟩]:=by unfold VL;grind
    rw[he] at Y;intro f2 hd;have h:=h.drawn hd;have eL:i<AL.length:=G
    refine⟨λu=>aj (hp u) (Z av) (AL.map cf)/\aj (hp u) (Z a9) [O (i:Int)]/\sub h0 (hp u),⟨af 0 h.l,af 2 h.l,b7 (X:=[_,_,_,_,_]) h⟩,_,λu r=>r.2.1.cell0 sZ,_,λu r=>r.2.1.cell0 sZ,au rfl h1 ⟨_,_,_,λu r=>r.1.cell sZ (j:=i) (v:=cf b) (by rw[iE,hb];rfl),_,λu r=>r.2.1.cell0 sZ,au b6 h1 ⟨_,λu r=>aK u r.2.2,ag h λeT f7 h=>⟨⟨af 1 h.l,af 3 h.l,b7 (X:=[_,_,_,_,_,_]) h⟩,?_⟩⟩⟩⟩
    refine VS (y:=⟨(t:Int),x⟩) (L:=ax a9 [O (i:Int)]::ax I (pc a6 (i+1) a5)::own 1 a6 (i+1) a5 (iv<|tg++[to])::M) hb hF.l az h (λu r s=>⟨r,af 0 s,?_⟩) λu o' c' h=>?_
    ·rw[hM] at s;exact aE 8 s
    ·refine⟨ξ,⟨t+1,_,V,h2,(hF.set (q:=i) (o:=o') (c:=c') (l:=b.2++[⟨(t:Int),x⟩])).ext λj hj=>?_,h⟩,bS h2⟩
     try dsimp only
     split
     ·grind
     rfl
   ·have h4:x=to:=G
    exact skip (by unfold VL;grind)
   ·have h3:=hY h3;exact skip (by unfold VL;grind)
  ·have h2:e=t:=G
   subst h2
   refine⟨ξ,⟨i+1,tg++[to],AL,a6,a5,V,h1,G,hF.ext λj hj=>?_,λj hj=>?_,h.pick 5 [0,1,3,4]⟩,bS h1⟩
   ·rw[bb]
    rcases sF j i with a4|a4|a4
    ·rw[gv U,gD U]
     grind
    ·subst a4;rw[gD rfl,gD U,<-bQ];have:(tg++[to]).getD j 0=to:=by rw[<-bl];simp
     rw[this];have eD:aa.length=e:=G
     rw[<-eD];rfl
    ·rw[gv U,gv U]
     grind
   ·rcases Nat.lt_or_ge j i with a4|a4
    ·rw[aa_ U];exact d9 j a4
    ·have:j=i:=U
     subst this;have:(tg++[to]).getD j 0=to:=by rw[<-bl];simp
     rw[this];omega
 --the gotos' rows are laid
 have h1:C=i:=G
 subst h1
 have b4:aV.map (·.2)=(List.range C).map λj=>L0 (tg.getD j 0) (Q.map λl=>l.getD j 0):=by
  rw[b2.map];exact qL λj hj=>η
 have am:=A1 (L:=_) h;rw[b2.l] at am
 refine(AW am (λes b5=>?_) U).mono ?_
 ·rw[b4] at b5;obtain⟨j,hj,rfl⟩:=iz.1 b5;have hj:=jY.1 hj;refine adM (N:=k.length) (λz hz=>?_) U G;obtain⟨l,hl,rfl⟩:=iz.1 hz
  grind[List.getElem?_eq_getElem,List.getElem_mem]
 rintro _ eB⟨P,S,rfl,cp,eu,e9,cF⟩;rw[b4] at cp;have h:=W.on (N:=[_,_,_]) cF h.l;clear cF am;have h:W eB (ax I (pc o2 C c2)::own 1 S.b P.bs.length S.cb (iv P.bs)::own 1 S.v P.vs.length S.cv (iv P.vs)::own 1 S.o P.os.length S.co (iv P.os)::own 1 o2 C c2 (iv tg)::M):=W.pick h 7 [5,0,1,2,6];rw[c5,hM] at h;refine⟨_,_,_,_,_,_,_,_,_,_,rfl,Av (i:=5) h V (by simp[aO]) λd0 h=>?_⟩;have h:W d0 (ax I [T o n cc,T J.b m.bs.length J.cb,T J.v m.vs.length J.cv,T J.o m.os.length J.co,T o2 C c2,T S.b P.bs.length S.cb,T S.v P.vs.length S.cv,T S.o P.os.length S.co]::own 1 S.b P.bs.length S.cb (iv P.bs)::own 1 S.v P.vs.length S.cv (iv P.vs)::own 1 S.o P.os.length S.co (iv P.os)::own 1 o2 C c2 (iv tg)::own 1 J.b m.bs.length J.cb (iv m.bs)::own 1 J.v m.vs.length J.cv (iv m.vs)::own 1 J.o m.os.length J.co (iv m.os)::own 1 o n cc (iv df)::ax k2 z8::[has h0]):=h;have ei:aj (hp d0) (Z I) [T o n cc,T J.b m.bs.length J.cb,T J.v m.vs.length J.cv,T J.o m.os.length J.co,T o2 C c2,T S.b P.bs.length S.cb,T S.v P.vs.length S.cv,T S.o P.os.length S.co]:=af 0 h.l;refine⟨_,_,_,_,_,_,_,_,_,_,_,_,_,_,_,_,_,_,_,_,_,_,_,_,ei.at sZ rfl,aQ (h.pick 10 [9,0,1,2,3,4,5,6,7,8]) rfl (by simp[aO]) λd4 h=>?_⟩;have ek:aj (hp d4) (Z k2) [T o n cc,T J.b m.bs.length J.cb,T J.v m.vs.length J.cv,T J.o m.os.length J.co,T o2 C c2,T S.b P.bs.length S.cb,T S.v P.vs.length S.cv,T S.o P.os.length S.co]:=af 0 h.l
 refine⟨_,_,_,_,_,_,_,_,_,_,_,_,_,_,_,_,_,_,_,_,_,_,_,_,ek.at sZ rfl,⟨df,m,tg,P⟩,⟨(o,n,cc),(J.b,m.bs.length,J.cb),(J.v,m.vs.length,J.cv),(J.o,m.os.length,J.co),(o2,C,c2),(S.b,P.bs.length,S.cb),(S.v,P.vs.length,S.cv),(S.o,P.os.length,S.co)⟩,rfl,?_,⟨eo,ej,eu,e9⟩,?_⟩
 ·refine⟨G,λj l hl=>ef j l G hl,dF,bl,λj hj=>d9 j hj,cp⟩
 ·have h2:W d4 ([own 1 o n cc (iv df),own 1 J.b m.bs.length J.cb<|iv m.bs,own 1 J.v m.vs.length J.cv<|iv m.vs,own 1 J.o m.os.length J.co<|iv m.os,own 1 o2 C c2<|iv tg,own 1 S.b P.bs.length S.cb<|iv P.bs,own 1 S.v P.vs.length S.cv<|iv P.vs,own 1 S.o P.os.length S.co<|iv P.os]++[has h0]):=h.pick 11 [9,6,7,8,5,2,3,4,10];have h3:=W.on (N:=[_,_,_,_,_,_,_,_]) h2 c8;exact W.pick h3 10 [0,1,2,3,4,5,6,7,9]
end
section
variable{w:ga}{L:List aG}{o:E}{n c:Nat}
theorem KO{sz l c:Nat}{a:E}{vs:Ay}{h:Hp}(b:own sz a l c vs h):vs.length=l*sz:=by
 rcases b with⟨_,rfl,_,rfl⟩|⟨_,_,_,_,_,_,h,_,_⟩
 ·simp
 omega
theorem Ez{α:Type}[tV α]{sz:Nat}{f:List α->Ay}(p:∀{h:Hp}{q:Lq α},dX q.1.1 (f q.2) h->bf h q.2 q.1.1 q.2.length){a:List (Lq α)}{h g i:Hp}(r:sub g h)(s:own 1 o n c (a.map cf) g)(t:sub i h)(v:aT (a.map (bU sz f)) i):bf h (a.map (·.2)) o n:=by
 have y:a.length=n:=by grind[KO,List.length_map]
 refine⟨η,λj z b=>?_⟩;rw[iE] at b;cases d:a[j]? with
 |none=>simp_all
 |some e=>
  rw[d] at b;cases b;obtain⟨C,w,k⟩:=iL (A:=bU sz f e) (iz.2 ⟨e,gg d,rfl⟩) v
  rcases bD s with l|⟨m,l,F⟩
  ·simp_all
  ·exact⟨m,_,l,(cQ (f:=λx:Lq α=>[cf x]) (n:=1) (λ_=>rfl) a m (by rwa [<-List.map_eq_flatMap]) j e d).mono r,_,_,_,rfl,uz k,(p<|bD k).mono (w.trans t)⟩
theorem VT{α:Type}{a:List (Lq α)}{q:Lq α}:(a++[q]).map cf=a.map cf++[cf q]:=V
end
section
variable{w:ga}{a:E}{n c:Nat}
theorem VU{xs:List aF}(d:bf (hp w) xs a n)(g:n<=100000):ρ fu [T a n c] w λe f=>∃o c',e=T o n c'/\W f (own 2 o n c' (dE xs)::all w):=by
 refine qK<|(RT d U).mono ?_;rintro _ h⟨o,c',rfl,b⟩;exact⟨_,_,_,rfl,cE<|bZ (bJ b) ⟨_,_,_,rfl,_,_,rfl,cK b⟩⟩
theorem Aw{xs:Az}(d:bf (hp w) xs a n)(h:n<=1000000):ρ mq [T a n c] w λe f=>∃o c',e=T o n c'/\W f (own 1 o n c' (iv xs)::all w):=by
 have g:=d.1;refine Bp<|(dV d U U).mono ?_;rintro _ i⟨o,c',rfl,b⟩;rw[g] at b ⊢;exact⟨_,_,_,rfl,bw<|bZ (bJ b) ⟨_,_,_,rfl,_,_,rfl,cK b⟩⟩
theorem Xt{f:List (List aF)}(m:bf (hp w) f a n)(R:n<=100000)(t:∀l∈f,l.length<=100000):ρ 158 [T a n c,.func (.func fu) #[] #[]] w λv x=>∃o c',∃b:List (Lq aF),v=T o n c'/\b.map (·.2)=f/\W x (own 1 o n c' (b.map cf)::aT (b.map (bU 2 dE))::all w):=by
 have S:=m.1;refine oR ⟨λo e c g h=>∃(b:Nat)(d:List (Lq aF)),g=b/\b=e/\b<=n/\d.map (·.2)=f.take b/\W h (own 1 o b c (d.map cf)::aT (d.map<|bU 2 dE)::all w),λ_ _ _ b _=>n-b.toNat,⟨0,[],rfl,rfl,gu _,rfl,aH 1<|(W.flat (M:=[])).2 (W.all w)⟩,?_⟩;rintro _ o _ X _ Y⟨g,b,rfl,rfl,a0,k,h⟩;have a1:b.length=g:=by have:=congrArg List.length k;grind
 refine ae (λy=>?_) λy=>?_
 ·have i:g<n:=η
  obtain⟨l,a2,vs,z,A,C,a3,j,a4,rfl,_,p⟩:=(m.mono h.tail.aS).get i;have a5:=t l<|gg z;have q:=p.1;refine aI A i ⟨_,_,_,C.cell0 sZ,bn.2 ⟨rfl,(VU p U).mono ?_⟩⟩;rintro _ a6⟨d,e,rfl,F⟩;have I:=W.fy F h.l;refine⟨_,_,_,rfl,ag I λa7 a8 L=>?_⟩;refine(aU (us:=b.map cf) (vs:=[T d j e]) aY (rfl:ai Ty _=.slice _) (rfl:ai Ty _=.slice _) rfl rfl rfl (L.pick 4 [0,2,1,3]) rfl (by simp[aO]) G U).mono ?_;rintro _ a9⟨aa,ab,rfl,r⟩;have N:b.map cf++[T d j e]=(b++[((d,e),l)]).map cf:=by rw[VT,<-q];rfl
  have P:(b++[((d,e),l)]).map (bU 2 dE)=b.map (bU 2 dE)++[own 2 d j e (dE l)]:=by rw[jI,<-q];rfl
  rw[N] at r;have Q:W _ (own 2 d j e (dE l)::aT (b.map<|bU 2 dE)::_):=r.pick 4 [2,3,0];have s:=W.snoc Q;rw[<-P] at s;exact⟨_,_,_,rfl,ξ,⟨g+1,_,V,rfl,i,by simp_all[iw],s.swap⟩,bS i⟩
 ·have d:n=g:=G
  subst d;rw[jy U] at k;exact g_ (bZ (bJ h) ⟨_,_,_,rfl,_,_,b,rfl,k,cK h⟩)
theorem Xu{f:A7}(m:bf (hp w) f a n)(R:n<=100000)(t:∀l∈f,l.length<=1000000):ρ 160 [T a n c,.func (.func mq) #[] #[]] w λv x=>∃o c',∃b:List (Lq Int),v=T o n c'/\b.map (·.2)=f/\W x (own 1 o n c' (b.map cf)::aT (b.map (bU 1 iv))::all w):=by
 have S:=m.1;refine xS ⟨λo e c g h=>∃(b:Nat)(d:List (Lq Int)),g=b/\b=e/\b<=n/\d.map (·.2)=f.take b/\W h (own 1 o b c (d.map cf)::aT (d.map<|bU 1 iv)::all w),λ_ _ _ b _=>n-b.toNat,⟨0,[],rfl,rfl,gu _,rfl,aH 1<|(W.flat (M:=[])).2 (W.all w)⟩,?_⟩;rintro _ o _ X _ Y⟨g,b,rfl,rfl,a0,k,h⟩;have a1:b.length=g:=by have:=congrArg List.length k;grind
 refine ae (λy=>?_) λy=>?_
 ·have i:g<n:=η
  obtain⟨l,a2,vs,z,A,C,a3,j,a4,rfl,_,p⟩:=(m.mono h.tail.aS).get i;have a5:=t l<|gg z;have q:=p.1;refine aI A i ⟨_,_,_,C.cell0 sZ,bn.2 ⟨rfl,(Aw p U).mono ?_⟩⟩;rintro _ a6⟨d,e,rfl,F⟩;have I:=W.fy F h.l;refine⟨_,_,_,rfl,ag I λa7 a8 L=>?_⟩;refine(aU (us:=b.map cf) (vs:=[T d j e]) aY (rfl:ai Ty _=.slice _) (rfl:ai Ty _=.slice _) rfl rfl rfl (L.pick 4 [0,2,1,3]) rfl (by simp[aO]) G U).mono ?_;rintro _ a9⟨aa,ab,rfl,r⟩;have N:b.map cf++[T d j e]=(b++[((d,e),l)]).map cf:=by rw[VT,<-q];rfl
  have P:(b++[((d,e),l)]).map (bU 1 iv)=b.map (bU 1 iv)++[own 1 d j e (iv l)]:=by rw[jI,<-q];rfl
  rw[N] at r;have Q:W _ (own 1 d j e (iv l)::aT (b.map<|bU 1 iv)::_):=r.pick 4 [2,3,0];have s:=W.snoc Q;rw[<-P] at s;exact⟨_,_,_,rfl,ξ,⟨g+1,_,V,rfl,i,by simp_all[iw],s.swap⟩,bS i⟩
 ·have d:n=g:=G
  subst d;rw[jy U] at k;exact iQ (bZ (bJ h) ⟨_,_,_,rfl,_,_,b,rfl,k,cK h⟩)
theorem agl{x:cW}{o:E}{k c':Nat}(f:bf (hp w) x.acts o k)(g:k<=100000):ρ fj [.agg #[O x.st,O x.tm,T o k c']] w λh j=>∃o' a,h=.agg ⟨[O x.st,O x.tm,T o' k a]⟩/\W j (own 2 o' k a (dE x.acts)::all w):=by
 refine pM<|ag (W.all w) λl v a=>ag a λm y a=>⟨_,_,_,a.tail.cell 2,(VU (f.mono a.tail.aS) g).mono ?_⟩;rintro _ z⟨b,c,rfl,n⟩;have p:=W.fy n a.l;refine⟨_,_,_,rfl,?_⟩;rw[ak];refine aX (i:=2) (p.pick 3 [2,0,1]) V λq d=>?_;have r:aj (hp q) (Z l) [O x.st,O x.tm,T b k c]:=af 0 d.l;refine⟨_,_,_,_,_,r.at sZ rfl,aQ (d.pick 3 [2,0,1]) rfl (by simp[aO]) λs e=>?_⟩;have t:aj (hp s) (Z m) [O x.st,O x.tm,T b k c]:=af 0 e.l;exact⟨_,_,_,_,_,t.at sZ rfl,_,_,rfl,e.pick 3 [2]⟩
theorem Xv{Cs:List cW}(k:bf (hp w) Cs a n)(a0:n<=100000)(q:∀x∈Cs,x.acts.length<=100000):ρ 162 [T a n c,.func (.func fj) #[] #[]] w λr s=>∃o c',∃b:List Hc,r=T o n c'/\b.map pO=Cs/\W s (own 3 o n c' (Hd b)::aT (ER b)::all w):=by
 have a1:=k.1;refine qM ⟨λo e c f g=>∃(b:Nat)(d:List Hc),f=b/\b=e/\b<=n/\d.map pO=Cs.take b/\W g (own 3 o b c (Hd d)::aT (ER d)::all w),λ_ _ _ b _=>n-b.toNat,⟨0,[],rfl,rfl,gu _,rfl,aH 3<|(W.flat (M:=[])).2 (W.all w)⟩,?_⟩;rintro _ o _ a2 _ a3⟨g,b,rfl,rfl,a4,h,i⟩;have a5:b.length=g:=by have:=congrArg List.length h;grind
 refine ae (λt=>?_) λt=>?_
 ·have j:g<n:=η
  obtain⟨x,a6,vs,l,v,y,z,A,rfl,C⟩:=k.get j;have F:=q x<|gg l;refine aI v j ⟨_,_,_,_,_,y.at i.tail.aS rfl,ag i λI a7 f=>aQ f rfl (by simp[aO]) λL f=>?_⟩;have N:aj (hp L) (Z I) [O x.st,O x.tm,T z x.acts.length A]:=af 0 f.l;refine⟨_,_,_,_,_,N.at sZ rfl,bn.2 ⟨rfl,(agl (C.mono f.tail.tail.aS) F).mono ?_⟩⟩;rintro _ a8⟨d,e,rfl,P⟩;have Q:=W.fy P f.l;refine⟨_,_,_,_,_,rfl,ag Q λa9 aa R=>?_⟩;refine(aU (us:=Hd b) (vs:=[O x.st,O x.tm,T d x.acts.length e]) aY (rfl:ai Ty _=.slice _) (rfl:ai Ty _=.slice _) rfl rfl rfl (R.pick 5 [0,3,1,4]) rfl (by simp[aO]) G U).mono ?_;rintro _ ab⟨ac,ad,rfl,m⟩;have S:Hd b++[O x.st,O x.tm,T d x.acts.length e]=Hd (b++[((x.st,x.tm),((d,e),x.acts))]):=by rw[O5];rfl
  have X:ER (b++[((x.st,x.tm),((d,e),x.acts))])=ER b++[own 2 d x.acts.length e (dE x.acts)]:=by unfold ER;rw[jI];rfl
  rw[S] at m;have Y:W _ (own 2 d x.acts.length e (dE x.acts)::aT (ER b)::_):=m.pick 4 [2,3,0];have p:=W.snoc Y;rw[<-X] at p;exact⟨_,_,_,rfl,ξ,⟨g+1,_,V,rfl,j,by rw[jI,h,iw,l];rfl,p.swap⟩,bS j⟩
 ·have d:n=g:=G
  subst d;rw[jy U] at h;exact kz (bZ (bJ i) ⟨_,_,_,rfl,_,_,b,rfl,h,cK i⟩)
theorem A4{r:gk}{b d e f i j:Nat}{a c g:E}(C:bf (hp w) r.bs a b)(F:bf (hp w) r.vs c d)(I:bf (hp w) r.os g e)(L:b<=1000000)(P:d<=1000000)(Q:e<=1000000):ρ 358 [.agg #[T a b f,T c d i,T g e j]] w λR S=>∃h k l m c2 n,R=.agg ⟨[T h b m,T k d c2,T l e n]⟩/\W S (own 1 h b m (iv r.bs)::own 1 k d c2 (iv r.vs)::own 1 l e n (iv r.os)::all w):=by
 refine KF<|ag (W.all w) λX a8 h=>ag h λY a9 h aa a0=>?_;have a1:=h.drawn a0;obtain⟨k,l,q,a2⟩:=a1.freeze;have m:aj k (Z X) [T a b f,T c d i,T g e j]:=af 0 l;have n:sub (hp w) k:=aE 1 l;refine⟨λo=>sub k<|hp o,q,_,_,_,λp o=>m.cell0 o,_,_,_,λp o=>m.cell o (j:=1) rfl,_,_,_,λp o=>m.cell o (j:=2) rfl,(Aw (C.mono<|n.trans q) L).mono ?_⟩;rintro _ ab⟨s,t,rfl,a3⟩;have o:=W.fy a3 a2.l;refine⟨_,_,_,rfl,aE 2 o.l,(Aw (F.mono<|n.trans<|aE 2 o.l) P).mono ?_⟩;rintro _ ac⟨v,c2,rfl,a4⟩;have p:=W.fy a4 o.l;refine⟨_,_,_,rfl,aE 3 p.l,(Aw (I.mono<|n.trans<|aE 3 p.l) Q).mono ?_⟩;rintro _ ad⟨x,y,rfl,a5⟩;have z:=W.fy a5 p.l;refine⟨_,_,_,rfl,aE 4 z.l,aQ (z.pick 4 [3,2,1,0]) rfl (by simp[aO]) λa6 A=>?_⟩;have a7:aj (hp a6) (Z Y) [T s b t,T v d c2,T x e y]:=af 0 A.l;refine⟨_,_,_,_,_,_,_,_,_,a7.at sZ rfl,s,v,x,t,c2,y,rfl,?_⟩;exact(W.on (N:=[_,_,_]) A.tail l).pick 4 [0,1,2]
end
end Go.Proofs.YtaoaemnefghnbaaGreatDoor
