/- Texts of this claim, one behind the other. -/
import Derived.Test.YtaoaemnefghnbaaGreatDoorG6
import Derived.Test.YtaoaemnefghnbaaGreatDoorG3
import Derived.Test.YtaoaemnefghnbaaGreatDoorG2
import Derived.Test.YtaoaemnefghnbaaGreatDoorG5
import Derived.Test.YtaoaemnefghnbaaGreatDoorG4
import Derived.Lib.AppendZerosOnto
import Derived.Lib.Overlaps
set_option linter.unusedVariables false
set_option linter.unusedSectionVars false
set_option maxRecDepth 100000
set_option maxHeartbeats 16000000
namespace Go.V
end Go.V
namespace Go.Proofs.YtaoaemnefghnbaaGreatDoor
end Go.Proofs.YtaoaemnefghnbaaGreatDoor
open Go.V Go.Proofs.YtaoaemnefghnbaaGreatDoor
namespace Go.Proofs.YtaoaemnefghnbaaGreatDoor
def Bk(o:ahr)(n c:Nat)(L:List aC)(xs:List Int)(w:ahs):Prop:=∃ys,ys.Perm xs/\St w (own 1 o n c (iv ys)::L)
section
variable{w:ahs}{L:List aC}{o:ahr}{n c i j:Nat}{xs ys:List Int}
theorem aaY(hi:i<ys.length)(hj:j<ys.length):((ys.set i (ys.getD j 0)).set j (ys.getD i 0)).Perm ys:=by grind
theorem nP(h:St w (own 1 o n c (iv ys)::L)):ys.length=n:=by grind[fO,cZ]
theorem Fa(hp0:ys.Perm xs)(h:St w (own 1 o n c (iv ys)::L))(hi:i<n)(hj:j<n):∃ad,o=some ad/\(∀u,sub (hp w) (hp u)->u.cell? (ad.add i)=some (iI (ys.getD i 0)))/\(∀u,sub (hp w) (hp u)->u.cell? (ad.add j)=some (iI (ys.getD j 0)))/\
  ∀K:ahs->Prop,(∀w',Bk o n c L xs w'->K w')->idx o n (i:Int) 1 λa=>st1 w a (iI (ys.getD j 0)) λw'=>idx o n (j:Int) 1 λa'=>st1 w' a' (iI (ys.getD i 0)) K:=by
 have hl:=nP h;obtain⟨ad,J,c1⟩:=nB (jB h) hi;obtain⟨W,O,c2⟩:=nB (jB h) hj;rw[J] at O;cases O;refine⟨ad,J,c1,c2,λK V=>ay J hi (gE h J (by simp_all[cZ]) λw' h=>ay J hj (gE h J (by simp_all[cZ]) λU h=>V U ⟨_,(aaY (i:=i) (j:=j) ω ω).trans hp0,?_⟩))⟩
 simp_all[iv]
end
def aaZ(d:FuncId)(e:List Value)(H:Hp)(S:Int->Prop):Prop:=Fn d=true/\∀(x y:Int)(u:ahs),S x->S y->sub H (hp u)->ρ d (iI x::iI y::e) u λv u'=>∃z:Int,v=iI z/\anyI z/\Gr u u'
section
variable{w:ahs}{L:List aC}{o:ahr}{n c:Nat}{xs:List Int}{d:FuncId}{e:List Value}{H:Hp}{S:Int->Prop}
theorem MY{p q k:Nat}(h:Bk o n c L xs w)(h1:p+k<=n)(h2:q+k<=n)(hn:n<=1000000):
  ρ 396 [vS o n c,iI (p:Int),iI (q:Int),iI (k:Int),.func (.func d) #[] ⟨e⟩] w λv w'=>v=.tuple #[]/\Bk o n c L xs w':=by
 refine lB ⟨λz u=>∃i:Nat,z=i/\i<=k/\Bk o n c L xs u,λz _=>k-z.toNat,⟨0,rfl,afL _,h⟩,?_⟩;clear h;rintro _ _ w1⟨i,rfl,hi,ys,J,h⟩;refine ae (λO=>?_) λO=>⟨rfl,ys,J,h⟩;have O:i<k:=by simp_all
 intro X Z;have h:=h.drawn Z;obtain⟨ad,U,c1,c2,W⟩:=Fa (i:=p+i) (j:=q+i) J h ω ω;have V:(p:Int)+i=((p+i:Nat):Int):=by rfl
 have Y:(q:Int)+i=((q+i:Nat):Int):=by rfl
 rw[V,Y];exact⟨λu=>sub (hp X) (hp u),sZZ,⟨ω,ω⟩,⟨ω,ω⟩,⟨ω,ω⟩,ay U ω ⟨_,c2,⟨ω,ω⟩,ay U ω ⟨_,c1,W _ λw' h=>⟨⟨ω,ω⟩,⟨i+1,by rfl,O,h⟩,bY O⟩⟩⟩⟩
theorem Yq{p m q:Nat}(h:Bk o n c L xs w)(h1:p<m)(h2:m<q)(h3:q<=n)(hn:n<=1000000):
  ρ 385 [vS o n c,iI (p:Int),iI (m:Int),iI (q:Int),.func (.func d) #[] ⟨e⟩] w λv w'=>v=.tuple #[]/\Bk o n c L xs w':=by
 refine ni ⟨⟨ω,ω⟩,⟨ω,ω⟩,λy z u=>∃i j:Nat,y=i/\z=j/\0<i/\0<j/\i<=m/\m+j<=n/\Bk o n c L xs u,λy z _=>y.toNat+z.toNat,⟨m-p,q-m,ω,ω,ω,ω,ω,ω,h⟩,?_⟩;clear h;rintro _ _ _ w1⟨i,j,rfl,rfl,hi,Y,O,U,h⟩;have Z:(m:Int)-i=((m-i:Nat):Int):=ω
 rw[Z]
 refine ae (λJ=>?_) λJ=>?_
 ·have J:i≠j:=by grind
  refine ae (λV=>?_) λV=>?_
  ·have V:j<i:=by simp_all
   refine⟨⟨ω,ω⟩,(MY h ω ω hn).mono ?_⟩;rintro _ W⟨rfl,h⟩;exact⟨rfl,⟨ω,ω⟩,⟨i-j,j,ω,rfl,ω,Y,ω,U,h⟩,by grind⟩
  ·have V:i<j:=by grind
   have X:(m:Int)+j-i=((m+j-i:Nat):Int):=ω
   rw[X];refine⟨⟨ω,ω⟩,⟨ω,ω⟩,⟨ω,ω⟩,(MY h ω ω hn).mono ?_⟩;rintro _ W⟨rfl,h⟩;exact⟨rfl,⟨ω,ω⟩,⟨i,j-i,rfl,ω,hi,ω,O,ω,h⟩,by simp_all⟩
 ·have J:i=j:=by grind
  refine⟨⟨ω,ω⟩,(MY h ω ω hn).mono ?_⟩;simp
theorem aa0(hS:∀x∈xs,S x){ys:List Int}(hp0:ys.Perm xs){i:Nat}(hi:i<ys.length):S (ys.getD i 0):=by
 refine hS _ (hp0.mem_iff.1 ?_)
 simp_all
theorem Pu{p q:Nat}(hc:aaZ d e H S)(hL:∀h,aG L h->sub H h)(hS:∀x∈xs,S x)(h:Bk o n c L xs w)(h1:p<=n)(h2:q<=n)(hn:n<=1000000):
  ρ 352 [vS o n c,iI (p:Int),iI (q:Int),.func (.func d) #[] ⟨e⟩] w λv w'=>v=.tuple #[]/\Bk o n c L xs w':=by
 refine iV ⟨⟨ω,ω⟩,λz u=>∃i:Nat,z=i/\p+1<=i/\Bk o n c L xs u,λz _=>q-z.toNat,⟨p+1,by rfl,afR _,h⟩,?_⟩;clear h;rintro _ _ w1⟨i,rfl,hi,h⟩;refine ae (λZ=>?_) λZ=>⟨rfl,h⟩;have Z:i<q:=by simp_all
 refine⟨λz u=>∃j:Nat,z=j/\p<=j/\j<=i/\Bk o n c L xs u,λz _=>z.toNat,⟨i,rfl,ω,afR _,h⟩,?_⟩;clear h;rintro _ _ w2⟨j,rfl,hj,a4,ys,J,h⟩ Y hd;have h:=h.drawn hd;have hl:=nP h;have out:∀{u:ahs},Bk o n c L xs u->aD ((i:Int)+1)/\(∃W:Nat,(i:Int)+1=W/\p+1<=W/\Bk o n c L xs u)/\q-((i:Int)+1).toNat<q-(i:Int).toNat:=λh=>⟨⟨ω,ω⟩,⟨i+1,by rfl,ω,h⟩,ω⟩;refine⟨λu=>sub (hp Y) (hp u),sZZ,ae (λX=>?_) λX=>out ⟨ys,J,h⟩⟩;have X:p<j:=by simp_all
 have z1:(j:Int)-1=((j-1:Nat):Int):=ω
 rw[z1];obtain⟨ad,ho,c1,c2,_⟩:=Fa (i:=j) (j:=j-1) J h ω ω;refine ay ho ω ⟨_,c1,⟨ω,ω⟩,ay ho ω ⟨_,c2,a_.2 ⟨hc.1,(hc.2 _ _ Y (aa0 hS J ω) (aa0 hS J ω) (hL _ h.tail.l)).mono ?_⟩⟩⟩;rintro _ w6⟨z,rfl,_,V⟩;have h:=h.gr V;refine⟨_,rfl,V,ae (λh5=>?_) λh5=>out ⟨ys,J,h⟩⟩;intro w7 U;have h:=h.drawn U;obtain⟨a0,O,d1,d2,hK⟩:=Fa (i:=j) (j:=j-1) J h ω ω;exact⟨λu=>sub (hp w7) (hp u),sZZ,⟨ω,ω⟩,⟨ω,ω⟩,ay O ω ⟨_,d2,ay O ω ⟨_,d1,hK _ λw' h=>⟨⟨ω,ω⟩,⟨j-1,rfl,ω,ω,h⟩,by grind⟩⟩⟩⟩
end
section
variable{L:List aC}{o:ahr}{n c:Nat}{xs:List Int}{d:FuncId}{e:List Value}{H:Hp}{S:Int->Prop}
theorem abW(hc:aaZ d e H S)(hL:∀h,aG L h->sub H h)(hS:∀x∈xs,S x)(hn:n<=1000000)(N:Nat):∀{w:ahs}{p m q:Nat},Bk o n c L xs w->p<m->m<q->q<=n->q-p<=N->
  ρ 353 [vS o n c,iI (p:Int),iI (m:Int),iI (q:Int),.func (.func d) #[] ⟨e⟩] w λv w'=>v=.tuple #[]/\Bk o n c L xs w':=by
 induction N with
 |zero=>omega
 |succ N ih=>
 intro w p m q h h1 h2 h3 hN;have X:ns 1:=by simp[ns]
 --a comparison of two that stand there
 have cmp:∀{u:ahs}{i j:Nat}{K:Value->ahs->Prop}{ys:List Int},ys.Perm xs->St u (own 1 o n c (iv ys)::L)->i<n->j<n->(∀z u',Bk o n c L xs u'->sub (hp u) (hp u')->K (iI z) u')->
   oN (Fn d) (ρ d (iI (ys.getD i 0)::iI (ys.getD j 0)::e) u K):=λ{u i j K ys} J h hi hj hK=>by
  have hl:=nP h;refine a_.2 ⟨hc.1,(hc.2 _ _ u (aa0 hS J ω) (aa0 hS J ω) (hL _ h.tail.l)).mono ?_⟩;rintro _ u'⟨z,rfl,_,g⟩;exact hK z u' ⟨ys,J,h.gr g⟩ g
 refine lK ⟨⟨ω,ω⟩,ae (λh4=>?_) λh4=>?_⟩
 ·--one on the left
  have h4:m=p+1:=by grind
  refine⟨λi j u=>∃i' j':Nat,i=i'/\j=j'/\m<=i'/\i'<=j'/\j'<=q/\Bk o n c L xs u,λi j _=>j.toNat-i.toNat,⟨m,q,rfl,rfl,ω,ω,ω,h⟩,?_⟩;clear h;rintro _ _ _ w1⟨i,j,rfl,rfl,hi,a9,hj,ys,J,h⟩
  refine ae (λh5=>?_) λh5=>?_
  ·have h5:i<j:=by simp_all
   rw[E7 ω];obtain⟨k,hk⟩:∃k,k=(i+j)/2:=⟨_,rfl⟩;rw[<-hk];have a5:i<=k:=ω
   have a6:k<j:=ω
   refine⟨⟨ω,ω⟩,X,⟨ω,ω⟩,λw2 Z=>?_⟩;have h:=h.drawn Z;obtain⟨ad,W,c1,c2,_⟩:=Fa (i:=k) (j:=p) J h ω ω
   refine⟨λu=>sub (hp w2) (hp u),sZZ,ay W ω ⟨_,c1,ay W ω ⟨_,c2,cmp J h ω ω λz w5 h g=>⟨_,rfl,g,ae (λU=>?_) λU=>?_⟩⟩⟩⟩
   ·exact⟨⟨ω,ω⟩,⟨k+1,j,by rfl,rfl,ω,ω,ω,h⟩,by grind⟩
   grind
  ·refine⟨λz u=>∃k:Nat,z=k/\p<=k/\Bk o n c L xs u,λz _=>i-z.toNat,⟨p,rfl,afR _,ys,J,h⟩,?_⟩;clear h J;rintro _ _ w6⟨k,rfl,hk,ys,J,h⟩;refine⟨⟨ω,ω⟩,ae (λU=>?_) λU=>⟨rfl,ys,J,h⟩⟩;have U:k+1<i:=by grind
   intro w7 Z;have h:=h.drawn Z;obtain⟨ad,W,c1,c2,hK⟩:=Fa (i:=k) (j:=k+1) J h ω ω;have z1:(k:Int)+1=((k+1:Nat):Int):=by rfl
   rw[z1];exact⟨λu=>sub (hp w7) (hp u),sZZ,⟨ω,ω⟩,⟨ω,ω⟩,ay W ω ⟨_,c2,ay W ω ⟨_,c1,hK _ λw' h=>⟨⟨ω,ω⟩,⟨k+1,rfl,ω,h⟩,by grind⟩⟩⟩⟩
 refine⟨⟨ω,ω⟩,ae (λh5=>?_) λh5=>?_⟩
 ·--one on the right
  have h5:q=m+1:=by grind
  refine⟨λi j u=>∃i' j':Nat,i=i'/\j=j'/\p<=i'/\i'<=j'/\j'<=m/\Bk o n c L xs u,λi j _=>j.toNat-i.toNat,⟨p,m,rfl,rfl,ω,ω,ω,h⟩,?_⟩;clear h;rintro _ _ _ w1⟨i,j,rfl,rfl,hi,a9,hj,ys,J,h⟩
  refine ae (λU=>?_) λU=>?_
  ·have U:i<j:=by simp_all
   rw[E7 ω];obtain⟨k,hk⟩:∃k,k=(i+j)/2:=⟨_,rfl⟩;rw[<-hk];have a5:i<=k:=ω
   have a6:k<j:=ω
   refine⟨⟨ω,ω⟩,X,⟨ω,ω⟩,λw2 Z=>?_⟩;have h:=h.drawn Z;obtain⟨ad,W,c1,c2,_⟩:=Fa (i:=m) (j:=k) J h ω ω
   refine⟨λu=>sub (hp w2) (hp u),sZZ,ay W ω ⟨_,c1,ay W ω ⟨_,c2,cmp J h ω ω λz w5 h g=>⟨_,rfl,g,ae (λU=>?_) λU=>?_⟩⟩⟩⟩
   ·exact⟨⟨ω,ω⟩,⟨k+1,j,by rfl,rfl,ω,ω,ω,h⟩,by grind⟩
   grind
  ·refine⟨λz u=>∃k:Nat,z=k/\k<=m/\Bk o n c L xs u,λz _=>z.toNat,⟨m,rfl,afR _,ys,J,h⟩,?_⟩;clear h J;rintro _ _ w6⟨k,rfl,hk,ys,J,h⟩;refine ae (λY=>?_) λY=>⟨rfl,ys,J,h⟩;have Y:i<k:=by simp_all
   intro w7 Z;have h:=h.drawn Z;obtain⟨ad,W,c1,c2,hK⟩:=Fa (i:=k) (j:=k-1) J h ω ω;have z1:(k:Int)-1=((k-1:Nat):Int):=ω
   rw[z1];exact⟨λu=>sub (hp w7) (hp u),sZZ,⟨ω,ω⟩,⟨ω,ω⟩,ay W ω ⟨_,c2,ay W ω ⟨_,c1,hK _ λw' h=>⟨⟨ω,ω⟩,⟨k-1,rfl,ω,h⟩,by grind⟩⟩⟩⟩
 rw[E7 ω];obtain⟨O,hm⟩:∃k,k=(p+q)/2:=⟨_,rfl⟩;rw[<-hm];have am:p<O:=ω
 have al:O<q:=ω
 have aa:p+q<=2*O+1/\2*O<=p+q:=ω
 refine⟨⟨ω,ω⟩,X,⟨ω,ω⟩,⟨ω,ω⟩,λs r u=>∃s' r':Nat,s=s'/\r=r'/\(O<m->O+m<=s'+q/\r'<=O/\s'<=O)/\(¬O<m->p<=s'/\r'<=m/\s'<=m)/\Bk o n c L xs u,ae (λU=>?_) λU=>?_,?_⟩
 ·have U:O<m:=by grind
  exact⟨⟨ω,ω⟩,O+m-q,O,ω,rfl,λ_=>⟨ω,ω,ω⟩,λhh=>absurd U hh,h⟩
 ·grind
 clear h;rintro _ _ _ b1⟨s,r,rfl,rfl,a4,a0,h⟩;refine⟨⟨ω,ω⟩,λs r u=>∃s' r':Nat,s=s'/\r=r'/\(O<m->O+m<=s'+q/\r'<=O/\s'<=O)/\(¬O<m->p<=s'/\r'<=m/\s'<=m)/\Bk o n c L xs u,λs r _=>r.toNat-s.toNat,⟨s,r,rfl,rfl,a4,a0,h⟩,?_⟩;clear h a4 a0;rintro _ _ _ a8⟨s,r,rfl,rfl,a4,a0,ys,J,h⟩
 refine ae (λU=>?_) λU=>?_
 ·have U:s<r:=by simp_all
  rw[E7 ω];obtain⟨k,hk⟩:∃k,k=(s+r)/2:=⟨_,rfl⟩;rw[<-hk];have a5:s<=k:=ω
  have a6:k<r:=ω
  obtain⟨t,ht⟩:∃t:Nat,(O:Int)+m-1-k=t:=⟨O+m-1-k,ω⟩;have V:t<n/\k<n:=ω
  rw[ht];refine⟨⟨ω,ω⟩,X,⟨ω,ω⟩,λa7 Z=>?_⟩;have h:=h.drawn Z;obtain⟨ad,W,c1,c2,_⟩:=Fa (i:=t) (j:=k) J h V.1 V.2
  refine⟨λu=>sub (hp a7) (hp u),sZZ,⟨ω,ω⟩,ay W V.1 ⟨_,c1,ay W V.2 ⟨_,c2,cmp J h V.1 V.2 λz b2 h g=>⟨_,rfl,g,ae (λU=>?_) λU=>?_⟩⟩⟩⟩
  ·exact⟨⟨ω,ω⟩,⟨k+1,r,by rfl,rfl,λhx=>ω,λhx=>ω,h⟩,by grind⟩
  grind
 have h0:Bk o n c L xs a8:=⟨ys,J,h⟩;clear h J;obtain⟨t,ht⟩:∃t:Nat,(O:Int)+m-s=t:=⟨O+m-s,ω⟩;have V:t<=q/\m<=O+m-s/\s<=m:=ω
 rw[ht]
 refine⟨⟨ω,ω⟩,λu=>Bk o n c L xs u,ae (λY=>ae (λh8=>?_) λ_=>h0) λ_=>h0,?_⟩
 ·have Y:s<m:=by simp_all
  have h8:m<t:=by simp_all
  refine(Yq h0 Y h8 ω hn).mono ?_;simp
 clear h0;intro _ av h
 refine ae (λY=>ae (λh8=>(ih h (by simp_all) (by grind) ω ω).mono ?_) λ_=>?_) λ_=>?_
 ·rintro _ b3⟨rfl,h⟩;refine⟨rfl,ae (λY=>ae (λh8=>(ih h (by grind) (by simp_all) ω ω).mono ?_) λ_=>⟨rfl,h⟩) λ_=>⟨rfl,h⟩⟩;simp
 ·refine ae (λY=>ae (λh8=>(ih h (by grind) (by simp_all) ω ω).mono ?_) λ_=>⟨rfl,h⟩) λ_=>⟨rfl,h⟩;simp
 ·refine ae (λY=>ae (λh8=>(ih h (by grind) (by simp_all) ω ω).mono ?_) λ_=>⟨rfl,h⟩) λ_=>⟨rfl,h⟩;simp
theorem Yr{w:ahs}(hc:aaZ d e H S)(hL:∀h,aG L h->sub H h)(hS:∀x∈xs,S x)(hn:n<=100000)(h:St w (own 1 o n c (iv xs)::L)):
  ρ 210 [vS o n c,.func (.func d) #[] ⟨e⟩] w λv w'=>v=.tuple #[]/\Bk o n c L xs w':=by
 refine j6 ((@nf _ _ _ _ _ _ w (λv w'=>v=.tuple #[]/\Bk o n c L xs w') ?_).mono λv w' h=>⟨h.1,rfl,h.2⟩);have h0:Bk o n c L xs w:=⟨xs,.refl _,h⟩;clear h;refine⟨λa b u=>∃O:Nat,a=O/\b=(O:Int)+20/\O<=n/\Bk o n c L xs u,λa _ _=>n-a.toNat,⟨0,rfl,rfl,afL _,h0⟩,?_⟩;clear h0;rintro _ _ _ w1⟨a,rfl,rfl,ha,h⟩;have W:(a:Int)+20=((a+20:Nat):Int):=by rfl
 refine ae (λJ=>?_) λJ=>?_
 ·have J:a+20<=n:=by grind
  rw[W];refine(Pu hc hL hS h ha J ω).mono ?_;rintro _ w2⟨rfl,h⟩;exact⟨rfl,⟨ω,ω⟩,⟨a+20,rfl,rfl,J,h⟩,by grind⟩
 refine(Pu hc hL hS h ha (afR _) ω).mono ?_;rintro _ w3⟨rfl,h⟩;refine⟨rfl,λz u=>∃bs:Nat,z=bs/\20<=bs/\bs<=200000/\Bk o n c L xs u,λz _=>n-z.toNat,⟨20,rfl,afR _,ω,h⟩,?_⟩;clear h J W ha a;rintro _ _ w4⟨bs,rfl,X,Y,h⟩;refine ae (λJ=>?_) λJ=>⟨rfl,h⟩;have J:bs<n:=by simp_all
 refine⟨⟨ω,ω⟩,λa b u=>∃O:Nat,a=O/\b=((O+2*bs:Nat):Int)/\O<=n/\Bk o n c L xs u,λa _ _=>n-a.toNat,⟨0,rfl,ω,afL _,h⟩,?_⟩;clear h;rintro _ _ _ w5⟨a,rfl,rfl,ha,h⟩;have Z:(a:Int)+bs=((a+bs:Nat):Int):=by rfl
 rw[Z]
 refine ae (λU=>?_) λU=>?_
 ·have U:a+2*bs<=n:=by grind
  refine⟨⟨ω,ω⟩,(abW hc hL hS ω _ h ω ω U (afR _)).mono ?_⟩;rintro _ w6⟨rfl,h⟩;exact⟨rfl,⟨ω,ω⟩,⟨ω,ω⟩,⟨a+2*bs,rfl,by rfl,U,h⟩,by grind⟩
 ·have U:n<a+2*bs:=by grind
  refine⟨⟨ω,ω⟩,ae (λV=>?_) λV=>⟨⟨ω,ω⟩,⟨bs*2,by rfl,ω,ω,h⟩,by grind⟩⟩;have V:a+bs<n:=by grind
  refine(abW hc hL hS ω _ h ω V (afR _) (afR _)).mono ?_;rintro _ w7⟨rfl,h⟩;exact⟨rfl,⟨ω,ω⟩,⟨bs*2,by rfl,ω,ω,h⟩,by grind⟩
end
def MZ(os:List Int)(base:Nat)(e:aH):Bool:=decide ((base:Int)+e.sym<os.length)&&decide (0<=os.getD ((base:Int)+e.sym).toNat 0)
structure CP where
 b:ahr
 cb:Nat
 v:ahr
 cv:Nat
 o:ahr
 co:Nat
abbrev cbC(r:fM)(x:CP):List Value:=[vS x.b r.bs.length x.cb,vS x.v r.vs.length x.cv,vS x.o r.os.length x.co]
abbrev Vu(k:Nat)(r:fM)(x:CP)(L:List aC):List aC:=az k (cbC r x)::own 1 x.b r.bs.length x.cb (iv r.bs)::own 1 x.v r.vs.length x.cv (iv r.vs)::own 1 x.o r.os.length x.co (iv r.os)::L
section
variable{w:ahs}{L:List aC}{k n c i:Nat}{r:fM}{x:CP}{o:ahr}{es:List aH}{base:Nat}
theorem aa1{e:aH}{p q:Addr}(hp1:∀u,sub (hp w) (hp u)->u.cell? p=some (iI base))(hq:∀u,sub (hp w) (hp u)->u.cell? q=some (vP (some (aM k))))(hk:aj (hp w) (aM k) (cbC r x))(ho:aY (hp w) r.os x.o r.os.length)(h0:0<=e.sym)(h1:e.sym<=1000000)(hb:base<=1000000):
  ρ 355 [.agg ⟨[iI e.sym,iI e.to]⟩,.pointer (some p),.pointer (some q)] w λv w'=>v=vB (MZ r.os base e)/\Gr w w':=by
 refine vM (ag (St.all w) λY w1 h V X=>?_);have h:=h.drawn X;have g:Gr w V:=h.aQ;have J:=af 0 h.l;have U:=hk.mono g
 refine⟨λu=>Gr V u,Gr.refl _,base,λu s=>hp1 u (sub.trans g s),e.sym,λu s=>J.cell0 s,⟨ω,ω⟩,some (aM k),λu s=>hq u (sub.trans g s),_,_,_,λu s=>U.cell s (j:=2) rfl,ae (λO=>?_) λO=>?_⟩
 ·have O:=afO O;obtain⟨t,ht⟩:∃t:Nat,(base:Int)+e.sym=t:=⟨((base:Int)+e.sym).toNat,ω⟩;obtain⟨Z,W,hc⟩:=nB (ho.mono g) (i:=t) ω;refine⟨some (aM k),λu s=>hq u (sub.trans g s),_,_,_,λu s=>U.cell s (j:=2) rfl,base,λu s=>hp1 u (sub.trans g s),e.sym,λu s=>J.cell0 s,⟨ω,ω⟩,?_⟩;rw[ht];refine ay W ω ⟨_,λu s=>hc u s,?_,g⟩
  simp_all[MZ,agt]
 ·have O:=afN O
  simp_all[MZ,age,Bool.false_and]
theorem adn(hk:aj (hp w) (aM k) (cbC r x))(ho:aY (hp w) r.os x.o r.os.length)(hes:aY (hp w) es o n)(hn:n<=1000000)(hs:∀e∈es,0<=e.sym/\e.sym<=1000000)(hb:base<=1000000):
  ρ 295 [vP (some (aM k)),iI base,vS o n c] w λv w'=>v=vB (!es.any (MZ r.os base))/\Gr w w':=by
 refine AN (ag (St.all w) λY Z h=>ag h λk2 W h=>?_);have g:Gr w W:=h.tail.aQ;have U:=af 0 h.l;have O:=af 1 h.l;refine(aaW (hes.mono g) rfl (λe V u J=>aa1 (k:=k) (base:=base) (r:=r) (x:=x) (λz s=>U.cell0 (sub.trans J s)) (λz s=>O.cell0 (sub.trans J s)) (hk.mono (g.trans J)) (ho.mono (g.trans J)) (hs e V).1 (hs e V).2 hb) hn).mono ?_;rintro _ X⟨rfl,g3⟩;exact⟨_,rfl,rfl,g.trans g3⟩
theorem aa2(hs:∀e∈es,0<=e.sym/\e.sym<=1000000)(h:r.os.length<=base):es.any (MZ r.os base)=false:=by grind[List.any_eq_false,MZ,decide_eq_false]
def CQ(os:List Int)(k:Int):Prop:=∀t:Nat,(t:Int)=k->t<os.length->os[t]? =some (-1)
theorem Ys{K:Nat->List aH}{N:Nat}(hC:iJ N K r)(h:(!es.any (MZ r.os base))=true):∀e∈es,CQ r.os ((base:Int)+e.sym):=by
 intro e O t ht u;have h:es.any (MZ r.os base)=false:=by simp_all
 rw[List.any_eq_false] at h;have h:=h e O;have J:=afJ u;unfold MZ at h;rw[<-ht,agt ω,afU,afP,J] at h;have h:¬0<=r.os[t]:=by simp_all
 rcases hC.own t _ J with U|⟨j,_,U,_⟩
 ·simp_all
 omega
theorem CQ.ext{os:List Int}{k:Int}(h:CQ os k):CQ (os++[-1]) k:=λt ht u=>by
 rcases Nat.lt_or_ge t os.length with hl|hl
 ·rw[af5 hl];exact h t ht hl
 simp_all
theorem CQ.set{os:List Int}{k:Int}{m:Nat}{z:Int}(h:CQ os k)(hm:(m:Int)≠k):CQ (os.set m z) k:=λt ht u=>by
 rw[ahl ω]
 exact h t ht (by simp_all)
structure aa3(N:Nat)(K:Nat->List aH)(bs:List Int)(M base:Nat)(fr:List aH)(k k3:Nat)(e0:List Value)(L:List aC)(y:fM×CP)(u:ahs):Prop where
 c:iJ N K y.1
 bs:y.1.bs=bs
 l:y.1.os.length<=M
 fr:∀e∈fr,CQ y.1.os ((base:Int)+e.sym)
 v:∀z∈y.1.vs,-1000000<=z/\z<=1000000
 s:St u (az k3 e0::Vu k y.1 y.2 L)
abbrev RH(K:Nat->List aH)(i:Nat)(l:List aH):Nat->List aH:=λj=>if j=i then l else K j
theorem aeW{K:Nat->List aH}{N:Nat}(hC:iJ N K r)(hi:i<N)(hK:K i=[])(hL:∀h,aG L h->aY h es o n)(hn:n<=100000)(hs:∀e∈es,0<=e.sym/\e.sym<256)(hd:(es.map (·.sym)).Nodup)(hb0:∀b∈r.bs,0<=b)(hlen:r.os.length<=500000)(hbd:∀z∈r.vs,-1000000<=z/\z<=1000000)(hto:∀e∈es,-1000000<=e.to/\e.to<=1000000)(h:St w (Vu k r x L)):
  ρ 212 [vP (some (aM k)),iI (i:Int),vS o n c] w λv w'=>v=.tuple #[]/\∃r' x',iJ N (RH K i es) r'/\(∀b∈r'.bs,0<=b)/\r'.os.length<=r.os.length+257/\(∀z∈r'.vs,-1000000<=z/\z<=1000000)/\St w' (Vu k r' x' L):=by
 have b6:∀e∈es,0<=e.sym/\e.sym<=1000000:=λe he=>by grind
 refine Ck ⟨λz u=>∃b:Nat,z=b/\b<=r.os.length/\St u (Vu k r x L),λz _=>r.os.length-z.toNat,⟨0,rfl,afL _,h⟩,?_⟩;clear h;rintro _ _ w1⟨base,rfl,bA,h⟩;refine(adn (af 0 h.l) (jB (h.pick 4 [3])) ((hL _ h.tail.tail.tail.tail.l)) ω b6 ω).mono ?_;rintro _ w2⟨rfl,g2⟩;have h:=h.gr g2
 refine⟨_,rfl,ae (λh1=>?_) λh1=>?_⟩
 ·have bz:base≠r.os.length:=λe=>by simp_all[aa2]
  exact⟨⟨ω,ω⟩,⟨base+1,rfl,ω,h⟩,bY ω⟩
 have O:=Ys hC (by simpa using h1);clear h1;have be:r.bs.length=N:=hC.lb;refine⟨_,_,_,h.cell 0,?_⟩;obtain⟨ad,a8⟩:=eE h.tail (by grind[cZ]);refine ay a8 ω (gE h.swap a8 (by grind[cZ]) λw3 h=>?_)
 have h:St w3 (Vu k { r with bs:=r.bs.set i base } x L):=by
  have e:(iv r.bs).set i (iI base)=iv (r.bs.set i base):=by simp[iv]
  rw[e] at h;have h:=h.swap
  grind
 have b2:=hC.base hK base;have ca:∀b∈r.bs.set i (base:Int),0<=b:=λb hb=>by grind
 have bP:(r.bs.set i (base:Int)).getD i 0=base:=by simp_all
 have b1:iJ N (RH K i (es.take 0)) { r with bs:=r.bs.set i (base:Int) }:=by
  have:RH K i (es.take 0)=K:=by grind
  simp_all
 obtain⟨r0,b4⟩:∃r0:fM,r0={ r with bs:=r.bs.set i (base:Int) }:=⟨_,rfl⟩;refine⟨λz u=>∃(j:Nat)(Z:fM)(x1:CP),z=j/\j<=n/\iJ N (RH K i (es.take j)) Z/\Z.bs=r.bs.set i (base:Int)/\Z.os.length<=r.os.length+257/\(∀e∈es.drop j,CQ Z.os ((base:Int)+e.sym))/\(∀z∈Z.vs,-1000000<=z/\z<=1000000)/\St u (Vu k Z x1 L),λz _=>n-z.toNat,⟨0,_,x,rfl,afL _,b1,rfl,σ,λe he=>O e (by simp_all),hbd,h⟩,?_⟩;clear h b1 b2 O b4 r0;rintro _ _ w4⟨j,Z,x1,rfl,hj,U,V,W,O,X,h⟩;have he:=hL _ h.tail.tail.tail.tail.l;refine ae (λh2=>?_) λh2=>?_
 rotate_left
 ·have h2:j=n:=by grind
  subst h2;rw[af3 (by rw[he.1];omega)] at U
  grind
 have h2:j<n:=by simp_all
 obtain⟨e,cg,vs,hx,ba,a9,a0⟩:=he.get h2;have a0:vs=[iI e.sym,iI e.to]:=a0;subst a0;have bB:=afI hx;obtain⟨s,b7⟩:∃s:Nat,e.sym=s:=⟨e.sym.toNat,by grind⟩;have b5:s<256:=by grind
 refine aJ ba h2 ⟨_,_,a9.at sZZ rfl,ag h λk3 w5 h=>aL h rfl (by simp[aK]) λw6 h=>?_⟩;rw[b7] at h;have a7:aa3 N (RH K i (es.take j)) (r.bs.set i (base:Int)) (r.os.length+257) base (es.drop j) k k3 [iI s,iI e.to] L (Z,x1) w6:=⟨U,V,W,O,X,h⟩;refine⟨λu=>∃y,aa3 N (RH K i (es.take j)) (r.bs.set i (base:Int)) (r.os.length+257) base (es.drop j) k k3 [iI s,iI e.to] L y u,Vo (aa3 N (RH K i (es.take j)) (r.bs.set i (base:Int)) (r.os.length+257) base (es.drop j) k k3 [iI s,iI e.to] L) λy=>base+s+1-y.1.os.length,⟨_,a7⟩,?_⟩;clear h U V W O X a7;intro _ w7 a5;obtain⟨y,⟨U,V,W,O,X,h⟩,c5⟩:=BP (f:=λy:fM×CP=>base+s+1-y.1.os.length) a5;clear a5;obtain⟨J,x2⟩:=y;dsimp only at U V W O X h;have bl:J.vs.length=J.os.length:=U.lv;intro w8 bb;have h:=h.drawn bb
 refine⟨λu=>Gr w8 u,Gr.refl _,_,_,_,λu g=>by rw[ak];exact(af 1 h.l).cell g (j:=2) rfl,_,λu g=>(af 0 h.l).cell0 g,⟨ω,ω⟩,ae (λh3=>?_) λh3=>?_⟩
 ·--a place more
  have h3:J.os.length<=base+s:=by grind
  refine⟨_,_,_,by rw[ak];exact h.tail.cell 2,ag h λk8 cc h=>?_⟩;refine(aU (us:=iv J.os) (vs:=[iI (-1)]) aT (rfl:ai Ty _=.slice _) (rfl:ai Ty _=.slice _) rfl rfl rfl (h.pick 6 [0,5,1,2,3,4]) rfl (by simp[aK]) (by grind) ω).mono ?_;rintro _ cd⟨o4,c4,rfl,h⟩;refine⟨_,_,_,rfl,?_⟩
  show st1 _ ((aM k).add _) _ _
  rw[ak];refine aR (i:=2) (h.pick 6 [3,0,2,4,5]) σ λc9 h=>?_;refine⟨_,_,_,by rw[ak];exact h.cell 1,ag h λc7 bT h=>?_⟩;refine(aU (us:=iv J.vs) (vs:=[iI 0]) aT (rfl:ai Ty _=.slice _) (rfl:ai Ty _=.slice _) rfl rfl rfl (h.pick 6 [0,5,1,2,3,4]) rfl (by simp[aK]) (by grind) ω).mono ?_;rintro _ bi⟨o6,c6,rfl,h⟩;refine⟨_,_,_,rfl,?_⟩
  show st1 _ ((aM k).add _) _ _
  rw[ak];refine aR (i:=1) (h.pick 6 [2,0,3,4,5]) σ λam h=>?_;have Y:=U.ext
  have bc:St am (az k3 [iI s,iI e.to]::Vu k { J with os:=J.os++[-1],vs:=J.vs++[0] } ⟨x2.b,x2.cb,o6,c6,o4,c4⟩ L):=by
   have e1:iv (J.os++[-1])=iv J.os++[iI (-1)]:=by simp[iv]
   have e2:iv (J.vs++[0])=iv J.vs++[iI 0]:=by simp[iv]
   unfold Vu cbC;dsimp only;rw[e1,e2,afS,afS];exact h.pick 5 [3,0,4,1,2]
  have hI:aa3 N (RH K i (es.take j)) (r.bs.set i (base:Int)) (r.os.length+257) base (es.drop j) k k3 [iI s,iI e.to] L ({ J with os:=J.os++[-1],vs:=J.vs++[0] },⟨x2.b,x2.cb,o6,c6,o4,c4⟩) am:=by
   refine⟨Y,V,by grind,λe he=>(O e he).ext,λz hz=>?_,bc⟩
   grind
  refine⟨⟨_,hI⟩,?_⟩;have h1:=Am (f:=λy:fM×CP=>base+s+1-y.1.os.length) hI
  grind
 ·--it is laid
  have h3:base+s<J.os.length:=by grind
  intro c8 aa;have h:=h.drawn aa;obtain⟨ao,a6⟩:=eE (h.pick 5 [4,0,1,2,3]) (by grind[cZ]);obtain⟨av,al⟩:=eE (h.pick 5 [3,0,1,2,4]) (by grind[cZ]);have zt:(base:Int)+s=((base+s:Nat):Int):=by rfl
  refine⟨λu=>aj (hp u) (aM k3) [iI s,iI e.to]/\aj (hp u) (aM k) (cbC J x2),⟨af 0 h.l,af 1 h.l⟩,_,_,_,λu g=>by rw[ak];exact g.2.cell sZZ (j:=2) rfl,_,λu g=>g.1.cell0 sZZ,⟨ω,ω⟩,_,_,_,λu g=>by rw[ak];exact g.2.cell sZZ (j:=1) rfl,_,λu g=>g.1.cell0 sZZ,⟨ω,ω⟩,_,λu g=>g.1.cell sZZ (j:=1) rfl,?_⟩;rw[zt];refine ay a6 h3 (gE (h.pick 5 [4,0,1,2,3]) a6 (by grind[cZ]) λci h=>⟨⟨af 1 h.l,af 2 h.l⟩,ay al ω (gE (h.pick 5 [4,0,1,2,3]) al (by grind[cZ]) λck h=>?_)⟩);have a4:=O e (by grind[List.drop_eq_getElem_cons,List.getElem?_eq_getElem,List.mem_cons_self]) (base+s) ω h3;have Y:=U.put (e:=e) hi (k:=base+s) (by grind) a4
  have b3:(λj'=>if j'=i then RH K i (es.take j) i++[e] else RH K i (es.take j) j')=RH K i (es.take (j+1)):=by
   funext j'
   unfold RH
   split
   ·rw[afZ rfl,afM,hx];rfl
   rfl
  rw[b3] at Y;have z1:(j:Int)+1=((j+1:Nat):Int):=by rfl
  refine⟨⟨ω,ω⟩,⟨j+1,_,x2,z1,h2,Y,V,by grind,λe' b8=>?_,λz hz=>?_,?_⟩,bY h2⟩
  ·refine(O e' ?_).set ?_
   ·grind[List.drop_eq_getElem_cons,List.mem_cons_of_mem]
   ·intro ch;obtain⟨m,hm⟩:=agb b8;rw[agG] at hm;have h5:(es.map (·.sym))[j]? =some e.sym:=by simp_all
    have h6:(es.map (·.sym))[j+1+m]? =some e'.sym:=by simp_all
    grind[List.getElem?_inj,List.getElem?_eq_some_iff]
  ·grind
  ·have e1:(iv J.os).set (base+s) (iI (i:Int))=iv (J.os.set (base+s) (i:Int)):=by simp[iv]
   have e2:(iv J.vs).set (base+s) (iI e.to)=iv (J.vs.set (base+s) e.to):=by simp[iv]
   rw[e1,e2] at h;unfold Vu cbC;rw[agF,agF];exact h.pick 5 [3,4,0,1]
end
def ado:List Value:=List.replicate 256 (vB false)
def ATy:TypeId->Option dp:=TT ((443,⟨(.array 256 4),256,256,(some (.agg ⟨ado⟩)),[],[],true⟩)::V8)
theorem aeX:dY Tryz.prog ATy:=RW (by kernel_rfl)
theorem rvA{i:FuncId}{fn:Func}(hf:Tryz.prog.funcs[i]? =some fn)(A:aW){args:List Value}{w:ahs}{R:Value->ahs->Prop}{V:Prop}(e:Zk Tryz.prog ATy Fn Ev A fn args w R=V)(h:V):ρ i args w R:=V6 aeX V9 mixed hf A (e▸h)
def IF:aW:={ rngs:=[],loops:=[(3,[(8,(.one (.int .i64)))])],joins:=[],blocks:=[] }
def J6(a:ahr)(b c:Nat)(w:ahs)(R:Value->WP):Prop:=  new w (oC ado 443) λc d=>τ [(8,aN)] λe f=>e 0 d/\∀(_:ν) d g,e d g->br (decide (d<(↑b:Int))) (idx a b d 2 λa=>∃b h,rowAt g a 0 2=some [iI b,iI h]/\new g (oC [iI 0,iI 0] 203) λa i=>bC i (aM a) [iI b,iI h] λb=>∃h,World.cell? b (aM a)=some (iI h)/\br (decide (h<0)) (R (vB false) b) (∃h,World.cell? b (aM a)=some (iI h)/\br (decide (256<=h)) (R (vB false) b) (∃h,World.cell? b (aM a)=some (iI h)/\idx (some (aM c)) 256 h 1 λh=>∃i,World.cell? b h=some (vB i)/\br i (R (vB false) b) (∃h,World.cell? b (aM a)=some (iI h)/\idx (some (aM c)) 256 h 1 λa=>st1 b a (vB true) λa=>aD (d+1)/\e (d+1) a/\f (d+1) a<f d g)))) (R (vB true) g)
theorem IG(a:ahr)(b c:Nat)(w:ahs)(R:Value->WP)(h:J6 a b c w R):ρ 209 [(vS a b c)] w R:=rvA Tryz.func209 IF (by kernel_rfl) h
structure US(es:List aH):Prop where
 s:∀e∈es,0<=e.sym/\e.sym<256
 d:(es.map (·.sym)).Nodup
 v:∀e∈es,-1000000<=e.to/\e.to<=1000000
 n:es.length<=256
section
variable{w:ahs}{L:List aC}{n c:Nat}{o:ahr}{es:List aH}{rows:List (List aH)}
theorem aa4(hes:aY (hp w) es o n)(hE:US es):ρ 209 [vS o n c] w λv w'=>v=vB true/\Gr w w':=by
 refine IG _ _ _ w _ (ag (St.all w) λk1 w1 h=>?_);have e0:ado=bv (List.replicate 256 false):=by rfl
 rw[e0] at h;have hn:n<=256:=by rw[<-hes.1];exact hE.n
 refine⟨λz u=>∃(j:Nat)(bs:List Bool),z=j/\j<=n/\bs.length=256/\(∀t:Nat,bs[t]? =some true->∃e∈es.take j,e.sym=t)/\St u (az k1 (bv bs)::all w),λz _=>n-z.toNat,⟨0,_,rfl,afL _,σ,λt ht=>?_,h⟩,?_⟩
 ·grind
 clear h e0;rintro _ _ w2⟨j,bs,rfl,hj,hl,hb,h⟩;refine ae (λU=>?_) λU=>⟨rfl,h.aQ⟩;have U:j<n:=by simp_all
 obtain⟨e,a4,vs,hx,Z,W,O⟩:=(hes.mono h.aQ).get U;have O:vs=[iI e.sym,iI e.to]:=O;subst O;have V:=afI hx;obtain⟨s,X⟩:∃s:Nat,e.sym=s:=⟨e.sym.toNat,by have:=hE.s e V;omega⟩;have J:s<256:=by have:=hE.s e V;omega
 refine aJ Z U ⟨_,_,W.at sZZ rfl,ag h λk2 w3 h=>aL h rfl (by simp[aK]) λw4 h=>?_⟩;rw[X] at h
 have a0:bs[s]? =some false:=by
  rw[afJ ω];cases hv:bs[s] with
  |false=>rfl
  |true=>
   exfalso;obtain⟨e',Y,a5⟩:=hb s (by simp_all);obtain⟨m,hm⟩:=agb Y;rw[agH] at hm
   split at hm
   ·rename_i hmj;have h5:(es.map (·.sym))[j]? =some e.sym:=by simp_all
    have h6:(es.map (·.sym))[m]? =some e'.sym:=by simp_all
    have:=(List.getElem?_inj (afK.1 h5).1 hE.d).1 (h5.trans (by rw[h6];simp_all));omega
   simp_all
 refine⟨_,h.cell 0,bn σ ⟨_,h.cell 0,bn (by grind) ⟨_,h.cell 0,ay rfl J ⟨false,?_,bn rfl ⟨_,h.cell 0,ay rfl J ?_⟩⟩⟩⟩⟩
 ·exact(af 1 h.l).cell sZZ (by simp_all[bv])
 rw[ak]
 refine aR h.swap (by simp_all[bv]) λw5 h=>⟨⟨ω,ω⟩,⟨j+1,bs.set s true,σ,U,by simp_all,λt ht=>?_,?_⟩,bY U⟩
 ·grind[List.take_add_one,List.getElem?_set_ne]
 ·have e1:(bv bs).set s (vB true)=bv (bs.set s true):=by simp[bv]
  rw[e1] at h;exact h.pick 3 [0,2]
theorem Yt(hes:aY (hp w) es o n)(hE:US es):ρ 208 [vS o n c] w λv w'=>v=vB false/\Gr w w':=by
 refine FH ((aa4 hes hE).mono ?_);simp
theorem aeY{H:Hp}{p:Addr}(hr:aY H rows o n)(hE:∀es∈rows,US es)(hp1:∀u,sub H (hp u)->u.cell? p=some (vS o n c)):aaZ JQ [.pointer (some p)] H λz=>0<=z/\z<n:=by
 refine⟨rfl,λx y u hx hy g=>FJ λZ hd=>?_⟩;have g1:sub H (hp Z):=by grind[aP]
 obtain⟨i,rfl⟩:∃i:Nat,x=i:=⟨x.toNat,ω⟩;obtain⟨j,rfl⟩:∃i:Nat,y=i:=⟨y.toNat,ω⟩;obtain⟨xs,ad,vs,W,ha,O,o1,l1,c1,rfl,_,Y⟩:=(hr.mono g1).get (i:=i) ω;obtain⟨ys,a0,vs,V,U,J,o2,l2,c2,rfl,_,X⟩:=(hr.mono g1).get (i:=j) ω;rw[ha] at U;cases U;have e1:=(hE xs (afI W)).n;have e2:=(hE ys (afI V)).n;have f1:=Y.1;have f2:=X.1;refine⟨λu=>Gr Z u,Gr.refl _,_,_,_,λu s=>hp1 u (sub.trans g1 s),aJ ha ω ⟨_,_,_,λu s=>J.cell0 s,_,_,_,λu s=>hp1 u (sub.trans g1 s),aJ ha ω ⟨_,_,_,λu s=>O.cell0 s,⟨ω,ω⟩,_,rfl,⟨ω,ω⟩,Gr.of_eq (aP hd)⟩⟩⟩
def pM(rows:List (List aH))(l:List Int)(i:Nat):List aH:=if(i:Int)∈l then rows.getD i [] else[]
theorem abX(hr:aY (hp w) rows o n)(hE:∀es∈rows,US es)(hn:n<=256):ρ 111 [vS o n c] w λv w'=>∃(r:fM)(x:CP),v=.tuple #[.agg #[vS x.b r.bs.length x.cb,vS x.v r.vs.length x.cv,vS x.o r.os.length x.co],iI 0]/\
  Pt rows r/\r.os.length<=100000/\(∀z∈r.vs,-1000000<=z/\z<=1000000)/\St w' (own 1 x.b r.bs.length x.cb (iv r.bs)::own 1 x.v r.vs.length x.cv (iv r.vs)::own 1 x.o r.os.length x.co (iv r.os)::all w):=by
 have cg:=hr.1
 refine Me (ag (St.all w) λk1 w1 h=>ag h λk2 w2 h=>⟨λb u=>b=false/\St u (az k2 [vS none 0 0,vS none 0 0,vS none 0 0]::az k1 [vS o n c]::all w),⟨_,_,_,h.tail.cell 0,bn (by grind) ⟨_,_,_,h.tail.cell 0,?_⟩⟩,?_⟩)
 ·refine(aaX (p:=λ_=>false) (hr.mono h.tail.aQ) rfl (λes he u g o1 l1 c1 a7=>?_) ω).mono ?_
  ·exact Yt a7 (hE es he)
  ·rintro _ w3⟨rfl,g⟩;exact⟨_,rfl,σ,h.gr g⟩
 clear h;rintro _ _ w4⟨rfl,h⟩;obtain⟨h0,a8,s0,h⟩:=h.freeze;have O:aj h0 (aM k1) [vS o n c]:=af 0 a8;have b8:sub (hp w) h0:=aA 1 a8;have a6:=hr.mono b8;refine bn rfl ⟨_,_,_,O.cell0 s0,⟨ω,rfl,ω⟩,?_⟩;rw[afU,dR];refine ag h λX w6 h=>?_;have hz:List.replicate n (iI 0)=iv ((List.range 0).map (λ(i:Nat)=>(i:Int))++List.replicate (n-0) 0):=by simp[iv]
 rw[hz] at h;refine⟨λz u=>∃j:Nat,z=j/\j<=n/\St u (az X (iv ((List.range j).map (λ(i:Nat)=>(i:Int))++List.replicate (n-j) 0))::az k2 [vS none 0 0,vS none 0 0,vS none 0 0]::[has h0]),λz _=>n-z.toNat,⟨0,rfl,afL _,h⟩,?_⟩;clear h hz;rintro _ _ w7⟨j,rfl,hj,h⟩
 refine ae (λJ=>?_) λJ=>?_
 ·have J:j<n:=by simp_all
  refine ay rfl J ?_;rw[ak];refine aR h (by simp_all[cZ]) λw8 h=>⟨⟨ω,ω⟩,⟨j+1,σ,J,?_⟩,bY J⟩
  have e:(iv ((List.range j).map (λ(i:Nat)=>(i:Int))++List.replicate (n-j) 0)).set j (iI (j:Int))=iv ((List.range (j+1)).map (λ(i:Nat)=>(i:Int))++List.replicate (n-(j+1)) 0):=by
   rw[Gd];congr 1;rw[show n-j=(n-(j+1))+1 from ω,agW,agS _ _ σ,af4,agK,agX,List.set_cons_zero,agx,af8,af0];rfl
  simp_all
 have J:j=n:=by grind
 subst J;rw[agX,List.replicate_zero,agc] at h;have ho:St w7 (own 1 (some (aM X)) j j (iv ((List.range j).map λ(i:Nat)=>(i:Int)))::az k2 [vS none 0 0,vS none 0 0,vS none 0 0]::[has h0]):=bj (cs:=[]) (by simp_all) (by simp[cZ]) (by simp[cZ]) (afR _)
 refine(Yr (aeY (p:=aM k1) a6 hE λu s=>O.cell0 s) (λh hh=>aA 1 hh) (λx hx=>?_) ω ho).mono ?_
 ·grind
 rintro _ w9⟨rfl,ys,a4,h⟩;have cc:=nP h;have bB:ys.Nodup:=a4.nodup_iff.2 (agz.2 (List.nodup_range.imp λbb he=>bb ω));have b6:∀z∈ys,∃i:Nat,z=i/\i<j:=λz hz=>by grind
 refine⟨rfl,_,_,_,O.cell0 (aA 2 h.l),⟨ω,rfl,ω⟩,?_⟩;rw[afU,dR];refine ag h λb5 c7 h=>ag h λb4 be h=>?_;have am:List.replicate j (iI 0)=iv (List.replicate j 0):=by simp[iv]
 rw[am] at h;have hL:∀h,aG (own 1 (some (aM X)) j j (iv ys)::az k2 [vS none 0 0,vS none 0 0,vS none 0 0]::[has h0]) h->sub h0 h:=λh hh=>aA 2 hh
 have b3:St be (Vu b4 ⟨List.replicate j 0,[],[]⟩ ⟨some (aM b5),j,none,0,none,0⟩ (own 1 (some (aM X)) j j (iv ys)::az k2 [vS none 0 0,vS none 0 0,vS none 0 0]::[has h0])):=by
  have h2:=bj (sz:=1) (l:=j) (c:=j) (cs:=[]) (by rw[agc];exact h.swap) (by grind) (by grind) (afR _);have h3:=aI 1 (aI 1 h2);unfold Vu cbC;dsimp only;rw[agT];exact h3.pick 7 [3,2,0,1,4,5,6]
 have bA:pM rows (ys.take 0)=λ_=>[]:=by rfl
 refine⟨λz u=>∃(m:Nat)(r:fM)(x:CP),z=m/\m<=j/\iJ j (pM rows (ys.take m)) r/\(∀b∈r.bs,0<=b)/\r.os.length<=m*257/\(∀z∈r.vs,-1000000<=z/\z<=1000000)/\St u (Vu b4 r x (own 1 (some (aM X)) j j (iv ys)::az k2 [vS none 0 0,vS none 0 0,vS none 0 0]::[has h0])),λz _=>j-z.toNat,⟨0,_,_,rfl,afL _,by simp_all[iJ.new],λb hb=>by simp_all,σ,λz hz=>(by grind),b3⟩,?_⟩;clear h b3 bA am ho hj;rintro _ _ a5⟨m,r,x,rfl,hm,hC,hb,bP,hv,h⟩;have Y:sub h0 (hp a5):=aA 6 h.l
 refine ae (λJ=>?_) λJ=>?_
 ·have J:m<j:=by simp_all
  obtain⟨y,hy⟩:∃y,ys[m]? =some y:=⟨_,afJ ω⟩;obtain⟨i,rfl,W⟩:=b6 y (afI hy);obtain⟨es,ad,vs,hx,ha,V,o1,l1,c1,rfl,_,a7⟩:=(a6.mono Y).get W
  have a0:aY h0 es o1 l1:=by
   obtain⟨bT,c5,c9,b2,a9,U,ch,cd,ca,e',_,a0⟩:=a6.get W;rw[hx] at b2;cases b2;rw[ha] at a9;cases a9;have q1:=V.cell0 (w:=a5) sZZ;rw[e'] at U;have q2:=U.cell0 (w:=a5) Y
   simp_all
  have Z:=hE es (afI hx);have c6:es.length=l1:=a7.1
  have bi:pM rows (ys.take m) i=[]:=by
   unfold pM;rw[afV]
   grind[List.getElem?_of_mem,List.getElem?_inj]
  have al:RH (pM rows (ys.take m)) i es=pM rows (ys.take (m+1)):=by
   funext i'
   unfold RH pM;rw[afM,hy]
   grind
  have av:(iv ys)[m]? =some (iI (i:Int)):=by simp_all[iv]
  refine ay rfl J ⟨_,qp (h.pick 5 [4,0,1,2,3]) rfl av,_,_,_,O.cell0 Y,aJ ha W ⟨_,_,_,V.cell0 sZZ,ae (λh2=>?_) λh2=>?_⟩⟩
  ·refine⟨_,_,_,O.cell0 Y,aJ ha W ⟨_,_,_,V.cell0 sZZ,(aeW hC W bi (λh hh=>a0.mono (hL h hh)) (by have:=Z.n;omega) Z.s Z.d hb ω hv Z.v h).mono ?_⟩⟩;rintro _ c8⟨rfl,r',x',aa,bz,bc,bl,h⟩;rw[al] at aa;exact⟨rfl,⟨ω,ω⟩,⟨m+1,r',x',σ,J,aa,bz,ω,bl,h⟩,bY J⟩
  ·have h2:es=[]:=afY (by simp_all);have ba:RH (pM rows (ys.take m)) i es=pM rows (ys.take m):=by grind
   rw[al] at ba;exact⟨⟨ω,ω⟩,⟨m+1,r,x,σ,J,by simp_all,hb,ω,hv,h⟩,bY J⟩
 have J:m=j:=by grind
 subst J;rw[af3 ω] at hC
 have b7:pM rows ys=λi=>rows.getD i []:=by
  funext i
  unfold pM
  grind
 rw[b7] at hC;refine⟨_,_,_,_,_,_,_,_,_,(af 0 h.l).at sZZ rfl,?_⟩;refine aL (h.pick 6 [5,1,2,3]) rfl (by simp[aK]) λb1 h=>⟨_,_,_,_,_,_,_,_,_,(af 0 h.l).at sZZ rfl,r,x,rfl,⟨by simp_all,hb⟩,ω,hv,?_⟩;have h2:St b1 ([own 1 x.b r.bs.length x.cb (iv r.bs),own 1 x.v r.vs.length x.cv (iv r.vs),own 1 x.o r.os.length x.co (iv r.os)]++[has h0]):=h.tail;have h3:St b1 (own 1 x.b r.bs.length x.cb (iv r.bs)::own 1 x.v r.vs.length x.cv (iv r.vs)::own 1 x.o r.os.length x.co (iv r.os)::[az k1 [vS o m c],has (hp w)]):=St.on (N:=[_,_,_]) h2 a8;exact h3.pick 4 [0,1,2]
end
section
variable{g:ah}{nn:List Bool}{ss:List SQ}
def lvP(g:ah)(p:Nat):Int:=match g.prods[p]? with
 |some x=>x.level
 |none=>0
def lvT(g:ah)(t:Nat):Int:=match g.terms[t]? with
 |some x=>x.level
 |none=>0
def lvS(g:ah)(l:Int):Int:=match g.levels[(l-1).toNat]? with
 |some x=>x
 |none=>0
def pO(g:ah)(p t:Nat):Int:=
 if lvP g p=0\/lvT g t=0 then 0 else if lvT g t<lvP g p then 2 else if lvP g p<lvT g t then 1
 else if lvS g (lvP g p)=1 then 2 else if lvS g (lvP g p)=2 then 1 else 3
theorem adp(hc:ax g){p:Nat}{x:aO}(h:g.prods[p]? =some x):0<=x.level/\x.level<=g.levels.length:=by
 obtain⟨_,_,J,U,u,_,_,hl⟩:=hc;cases p with
 |zero=>
  simp_all
 |succ p=>
  have O:x∈g.prods.drop 1:=by
   refine afI (i:=p) ?_
   simp_all
  exact(J.2.2.1 x O).1.2.2
theorem adq(hc:ax g){l:Int}(h1:1<=l)(h2:l<=g.levels.length):∃v,g.levels[(l-1).toNat]? =some v/\lvS g l=v/\1<=v/\v<=3:=by
 obtain⟨_,J,_⟩:=hc;obtain⟨v,u⟩:∃v,g.levels[(l-1).toNat]? =some v:=⟨_,afJ ω⟩;have:=J.2.2.2.2.2.2.1 _ v u
 simp_all[lvS]
theorem Yu(p t:Nat):0<=pO g p t/\pO g p t<=3:=by grind[pO]
def Lb(n:Nat)(a:aE):Int:=if a.kind=1/\0<=a.to then 0 else if a.kind=3/\a.to=0 then 1 else if a.kind=2/\0<a.to/\a.to<n then 1+a.to else-1
def Pv(n:Nat):Int->List aE->Prop
 |_,[]=>True
 |last,a::l=>last<Lb n a/\Pv n (Lb n a) l
def Pw(n:Nat)(l:List aE):Prop:=Pv n (-1) l
theorem Px{n:Nat}:∀{l:List aE}{last:Int},Pv n last l->∀x∈l,last<Lb n x
 |[],_,_,x,h=>by grind
 |a::l,last,ho,x,h=>by
  rcases af6.1 h with rfl|h
  ·exact ho.1
  ·have:=Px ho.2 x h
   have:=ho.1
   omega
theorem adr{n:Nat}{l:List aE}(h:Pw n l){x:aE}(hx:x∈l):x.kind=1/\0<=x.to\/x.kind=3/\x.to=0\/x.kind=2/\0<x.to/\x.to<n:=by
 have h:=Px h x hx
 grind[Lb]
theorem M1{n:Nat}:∀{l m:List aE}{last:Int},Pv n last l->(∀x∈l,∀y∈m,Lb n x<Lb n y)->(∀y∈m,last<Lb n y)->Pv n last m->Pv n last (l++m)
 |[],m,last,_,_,_,hm=>hm
 |a::l,m,last,hl,h,h2,hm=>⟨hl.1,M1 hl.2 (λx hx=>h x (by grind)) (λy hy=>h a σ y hy) (by
   cases m with
   |nil=>trivial
   |cons b m=>exact⟨h a σ b σ,hm.2⟩)⟩
theorem Gu{n:Nat}:∀{l:List aE}{last:Int},(∀x∈l,last<Lb n x)->l.Pairwise (λx y=>Lb n x<Lb n y)->Pv n last l
 |[],_,_,_=>trivial
 |a::l,last,h,hp=>by
  obtain⟨h1,h2⟩:=agL.1 hp
  exact⟨h a σ,Gu h1 h2⟩
theorem Yv(hc:ax g)(hA:bR g ss)(q t:Nat):Pw g.prods.length (gf g nn ss q t):=by
 unfold Pw gf
 have hs:∀x∈UL ss q t,Lb g.prods.length x=0:=λx u=>by
  obtain⟨V,J⟩:=Pf u;have:=(fe hc hA J).1
  simp_all[Lb]
 have ha:∀x∈Vr ss q t,Lb g.prods.length x=1:=λx u=>by
  obtain⟨rfl,_⟩:=Pg u;rfl
 have X:∀x∈P8 (dt g nn ss) q t,1<Lb g.prods.length x/\Lb g.prods.length x=1+x.to:=λx u=>by
  obtain⟨V,l,hl,_,J,_⟩:=Ph u;obtain⟨Y,m,_,Z,W,rfl⟩:=CH hl;have J:(m:Int)=x.to:=J;unfold Lb;omega
 have U:∀{l:List aE},l.length<=1->l.Pairwise (λx y=>Lb g.prods.length x<Lb g.prods.length y):=λ{l} h=>by
  match l,h with
  |[],_=>simp
  |[a],_=>simp
 rw[af0]
 refine M1 (Gu (λx u=>by simp_all) (U (Tg q t))) (λx u y O=>?_) (λy O=>?_) (M1 (Gu (λx u=>by simp_all) (U (Th q t))) (λx u y O=>?_) (λy O=>?_) (Gu (λx u=>?_) ?_))
 ·grind
 ·grind
 ·grind
 ·grind
 ·grind
 grind[List.Pairwise.imp_of_mem,Ti]
def Ng(g:ah)(t:Nat)(x:aE):Int:=if x.kind=2 then pO g x.to.toNat t else 0
theorem ads(t:Nat)(x:aE):0<=Ng g t x/\Ng g t x<=3:=by
 unfold Ng
 split
 ·simp[Yu]
 omega
def UT(g:ah)(t:Nat)(x:aE):Bool:=decide (Ng g t x≠2/\Ng g t x≠3)
def Gv(g:ah)(t:Nat)(x:aE):Bool:=decide (Ng g t x=0\/Ng g t x=2)
def Vv(g:ah)(t:Nat)(x:aE):Bool:=decide (Ng g t x=3)
def fN(g:ah)(t:Nat):List aE->List aE×Bool
 |[]=>([],false)
 |a::r=>if a.kind=1 then((if r.all (UT g t)=true then[a] else[])++r.filter (Gv g t),r.any (Vv g t)) else(a::r,false)
def CR:List aE×Bool->aE
 |(a::_,_)=>a
 |([],true)=>⟨4,0⟩
 |([],false)=>⟨0,0⟩
def pP(l:List aE):List aE:=if 2<=l.length then l else[]
theorem x_{t:Nat}{a:aE}{r:List aE}(h:a.kind=1):fN g t (a::r)=((if r.all (UT g t)=true then[a] else[])++r.filter (Gv g t),r.any (Vv g t)):=by
 show(if a.kind=1 then _ else _)=_
 simp_all
theorem Ey{t:Nat}{a:aE}{r:List aE}(h:¬a.kind=1):fN g t (a::r)=(a::r,false):=by
 show(if a.kind=1 then _ else _)=_
 simp_all
theorem UU{t:Nat}{l:List aE}:(fN g t l).1.length<=l.length:=by
 cases l with
 |nil=>exact afR _
 |cons a r=>
  by_cases h:a.kind=1
  ·grind[x_,UT,Gv,List.length_filter_le,List.length_append,List.length_cons]
  simp_all[Ey]
theorem Lc{t:Nat}{l:List aE}{x:aE}(h:x∈(fN g t l).1):x∈l:=by
 cases l with
 |nil=>exact h
 |cons a r=>
  by_cases u:a.kind=1
  ·rw[x_ u] at h
   rcases afT.1 h with h|h
   ·split at h
    ·simp at h;subst h;exact List.mem_cons_self
    ·cases h
   ·exact agO _ (agi.1 h).1
  ·rw[Ey u] at h;exact h
noncomputable def pQ(g:ah)(nn:List Bool)(ss:List SQ)(q t:Nat):aE:=CR (fN g t (gf g nn ss q t))
noncomputable def CS(g:ah)(nn:List Bool)(ss:List SQ):List (List aE):=(List.range ss.length).map λq=>(List.range g.T).map (pQ g nn ss q)
def Ez(g:ah)(ss:List SQ):List (List Int):=(List.range ss.length).map λq=>(List.range g.N).map λj=>Cq ss q ((g.T+j:Nat):Int)
def UW(g:ah)(c:cK):List cK:=if 2<=(fN g c.tm.toNat c.acts).1.length then[⟨c.st,c.tm,(fN g c.tm.toNat c.acts).1⟩] else[]
noncomputable def RI(g:ah)(nn:List Bool)(ss:List SQ):List cK:=(pD g nn ss 1).flatMap (UW g)
def M3(g:ah)(n:Nat)(cs:List cK)(A:List (List aE)):Prop:=A.length=n/\∀(q:Nat) r,A[q]? =some r->r.length=g.T/\∀(t:Nat) a,r[t]? =some a->(∀c∈cs,c.st=(q:Int)->c.tm=(t:Int)->a=CR (fN g t c.acts))/\((∀c∈cs,¬(c.st=(q:Int)/\c.tm=(t:Int)))->a=⟨0,0⟩)
theorem M3.zero{n:Nat}:M3 g n [] (List.replicate n (List.replicate g.T ⟨0,0⟩)):=by
 refine⟨σ,λq r u=>?_⟩
 grind
theorem M3.put{n q t:Nat}{cs:List cK}{A:List (List aE)}{r:List aE}{c:cK}(h:M3 g n cs A)(hr:A[q]? =some r)(h1:c.st=(q:Int))(h2:c.tm=(t:Int))(hn:∀d∈cs,¬(d.st=(q:Int)/\d.tm=(t:Int))):M3 g n (cs++[c]) (A.set q (r.set t (CR (fN g t c.acts)))):=by
 obtain⟨U,V⟩:=h;have J:=(afK.1 hr).1;refine⟨by grind,λO r' u=>?_⟩;rw[List.getElem?_set] at u
 by_cases e:q=O
 ·subst e;rw[afZ rfl,afZ J] at u
  grind
 grind
theorem M3.all{A:List (List aE)}(h:M3 g ss.length (pD g nn ss 1) A):A=CS g nn ss:=by
 obtain⟨X,U⟩:=h;unfold CS;refine agq λq=>?_;rw[afQ]
 by_cases J:q<ss.length
 ·rw[agR J];obtain⟨r,u⟩:∃r,A[q]? =some r:=⟨_,afJ ω⟩;rw[u];obtain⟨h3,O⟩:=U q r u
  show some r=some _
  congr 1;refine agq λt=>?_;rw[afQ]
  by_cases ht:t<g.T
  ·rw[agR ht];obtain⟨a,ha⟩:∃a,r[t]? =some a:=⟨_,afJ ω⟩;rw[ha];obtain⟨V,W⟩:=O t a ha
   show some a=some (pQ g nn ss q t)
   congr 1;unfold pQ
   by_cases hl:1<=(gf g nn ss q t).length
   ·exact V ⟨(q:Int),(t:Int),gf g nn ss q t⟩ (tE.2 ⟨q,t,J,ht,hl,rfl⟩) rfl rfl
   ·have e:gf g nn ss q t=[]:=afY ω;rw[W λc hc hh=>?_,e];rfl;obtain⟨Z,Y,_,_,h7,rfl⟩:=tE.1 hc
    grind
  grind
 simp_all
end
section
variable{P:Program}{w w':ahs}{L:List aC}{b:Nat}{us vs:List Value}{e e':TypeId}{A B C D:aC}{Ty:TypeId->Option dp}
theorem M4(hT:dY P Ty){t ty:TypeId}(hk:ai Ty t=.slice e)(a:ahr)(l c:Nat)(w:ahs):(Builtin.cap_ (Array.mk [t]) ty (Array.mk [vS a l c])).run P w=.ok (iI (c:Int)) w:=by
 obtain⟨d,J,u⟩:=dv hT hk σ;rw[fh u] at J;simp[Builtin.cap_,run_underlying J,goInt]
theorem Py{a:ahr}{len cap sz:Nat}{k:ahr->Nat->Nat->Prop}(h2:len<=cap)(hk:k a len cap):lV a len cap (some (0:Int)) none none sz k:=by
 refine dw (lo:=0) (afL _) h2 ?_;rw[W8];exact hk
theorem Gw(hT:dY P Ty){t tx ty:TypeId}{i:dp}(hk:ai Ty t=.slice e)(hi:Ty e=some i)(hs:0<i.size)
  {a a2:ahr} {l c k n sl c2 dl dc:Nat} {news:List Value} (h:St w (own i.size a l c us::L)) (hn:news.length=n*i.size) (hx:ec a2 news (hp w)) (h1:∀u∈news,aK u=true) (h0:0<n) (hle:k+n<=l) (hd:Nat.min sl dl=n):
  aX P (Builtin.copy_ (Array.mk [t,tx]) ty (Array.mk [vS (fE a k c i.size) dl dc,vS a2 sl c2])) w λv w'=>v=iI (n:Int)/\St w' (own i.size a l c (us.take (k*i.size)++news++us.drop (k*i.size+news.length))::L):=by
 obtain⟨d,hu,a0⟩:=dv hT hk σ;rw[fh a0] at hu;obtain⟨V,d2,ha⟩:=rU hT hi;have a5:0<news.length:=by simp_all
 rcases dq h with⟨_,rfl,_,_⟩|⟨b,J,cs,O,rfl,hc,h2,h3,h4⟩
 ·omega
 obtain⟨U,rfl,hr⟩:∃U,a2=some U/\∀j v,news[j]? =some v->uY (hp w) (U.add j)=some v:=by
  rcases hx with hx|⟨U,e,hx⟩
  ·simp_all
  simp_all
 have a4:k*i.size+news.length<=us.length:=by
  rw[hn,h2,<-Nat.add_mul];exact ag2 _ hle
 obtain⟨K,hK⟩:∃K,K=k*i.size:=⟨_,rfl⟩
 have Y:fE (some ⟨b,J.length,none⟩) k c i.size=some ⟨b,J.length+K,none⟩:=by
  unfold fE;rw[afV ω]
  grind[Addr.add,eV,bg,add_lit]
 rw[Y];rw[<-hK] at a4 ⊢;have a6:(J++(us++(cs++O))).length=J.length+us.length+(cs++O).length:=by grind
 have Z:(Builtin.firstCells V.size n (vS (some U) sl c2)).run P w=.ok news.toArray w:=run_firstCells_some (P:=P) w _ n U sl c2 news (by rw[hn,ha.size]) (λj v W=>jA (hr j v W))
 have X:=run_storeCells_cells (P:=P) b (J.length+K) news 0 w (λj W=>by
   rw[hc.cell,afJ ω];rfl) (λj W=>hc.frozen _ _) (λv hv=>by simp_all[Lu])
 have ev:∀(news:List Value)(w0 w:ahs)(o:Nat),Ev w0 w->Ev w0 (w.setCells b o news):=by
  intro news
  induction news with
  |nil=>exactλ_ _ _ h=>h
  |cons v r ih=>exactλw0 w o h=>ih w0 _ (o+1) (h.trans (Ev.setCell w _ v))
 refine⟨iI (n:Int),w.setCells b (J.length+K) news,?_,ev news w w _ (Ev.refl w),rfl,?_⟩
 ·simp[Builtin.copy_,run_underlying hu,Builtin.lenOf,sizeOf,typeInfo,ha.inf,hd,Z,X,goInt]
 ·have e0:J++(us++(cs++O))=(J++us.take K)++(us.drop K++(cs++O)):=by grind[List.append_assoc,List.take_append_drop]
  rw[e0] at hc;have h5:=hc.setCells news (J++us.take K) (us.drop K++(cs++O)) (by grind);rw[afS,agj,ahk ω] at h5;have e1:J++us.take K++news++(us.drop K++(cs++O)).drop news.length=J++((us.take K++news++us.drop (K+news.length))++(cs++O)):=by grind[List.length_drop,List.drop_drop,List.append_assoc]
  rw[e1] at h5;have el:(us.take K++news++us.drop (K+news.length)).length=us.length:=by grind
  grind[fj,List.length_append]
theorem Ld(hT:dY P Ty){t tn ty:TypeId}{i:dp}{z:Value}(hk:ai Ty t=.slice e)(hkn:ai Ty tn=.int .i64)(hi:Ty e=some i)(hz:i.zero=some z)(hzs:(cellsOf z).length=i.size)(hs:0<i.size)
  {a:ahr} {c m:Nat} (h:St w L) (h0:0<m) (hg:c<m) (hb:m*i.bytes<=140737488355328) (h63:m<=9223372036854775807):
  aX P (Builtin.append_ (Array.mk [t,tn]) ty (Array.mk [vS a 0 c,iI (m:Int)])) w λv w'=>∃(o:ahr)(c':Nat)(us:List Value),v=vS o m c'/\us.length=m*i.size/\St w' (own i.size o m c' us::L):=by
 obtain⟨d,Y,X⟩:=dv hT hk σ;rw[fh X] at Y;obtain⟨dn,J,W⟩:=dv hT hkn σ;rw[Ql W] at J;obtain⟨u,d2,ha⟩:=rU hT hi;have V:z.cells.size=u.size:=by rw[<-ha.size,<-hzs,dP];simp
 rw[ha.size] at*;rw[ha.bytes] at hb
 have O:(Builtin.firstCells u.size 0 (vS a 0 c)).run P w.drew=.ok ([]:List Value).toArray w.drew:=by
  cases a with
  |none=>rfl
  |some a=>grind[run_firstCells_some]
 have Z:=Lib.run_append_grow_zeros (P:=P) w t tn ty e u z .i64 .i64 Y J ha.inf (by rw[<-ha.zero,hz]) a 0 c [] O m h0 hs ω ω ω (by simp_all[growslice_fits]);rw[ahj] at Z;have U:=grownCap_ge w m c e;refine⟨_,_,Z,(Ev.drew w _).trans (Ev.push _ _),_,_,(Builtin.zeroCells z.cells m).toList,rfl,by grind[size_zeroCells],?_⟩;have h1:St w.drew L:=h.same rfl;have h2:=h1.push (.cells (([]:List Value).toArray++Builtin.zeroCells z.cells m++Builtin.zeroCells z.cells (grownCap w m c e-m)) e)
 have h3:St (w.drew.alloc (.cells (([]:List Value).toArray++Builtin.zeroCells z.cells m++Builtin.zeroCells z.cells (grownCap w m c e-m)) e)) (az w.heap.size ((Builtin.zeroCells z.cells m).toList++(Builtin.zeroCells z.cells (grownCap w m c e-m)).toList)::L):=by
  have:(([]:List Value).toArray++Builtin.zeroCells z.cells m++Builtin.zeroCells z.cells (grownCap w m c e-m))=⟨(Builtin.zeroCells z.cells m).toList++(Builtin.zeroCells z.cells (grownCap w m c e-m)).toList⟩:=σ
  rw[this] at h2 ⊢;exact jF.2 ⟨_,h2⟩
 refine bj h3 (by grind[size_zeroCells]) ?_ U;rw[afS,ahq,ahq,size_zeroCells,size_zeroCells,V,<-Nat.add_mul]
 simp_all
theorem Yw{sz l c m:Nat}{a:ahr}(h:St w (own sz a l c vs::L))(hm:l+m<=c):∃us,us.length=m*sz/\St w (own sz a (l+m) c (vs++us)::L):=by
 rcases dq h with⟨rfl,rfl,rfl,rfl⟩|⟨b,W,cs,u,rfl,hc,J,U,X⟩
 ·simp_all
 ·have V:m*sz<=cs.length:=by
   rw[afS,J] at U;have:=ag2 sz hm
   grind
  have O:vs++(cs++u)=(vs++cs.take (m*sz))++(cs.drop (m*sz)++u):=by grind[List.append_assoc,List.take_append_drop]
  rw[O] at hc
  refine⟨cs.take (m*sz),by simp_all,fj hc ?_ ?_ hm⟩
  ·grind
  simp_all
theorem adt{k:Nat}(h:St w (az k us::az b vs::L)):k≠b:=by
 rintro rfl;obtain⟨X,J,d,s1,s2,⟨W,ha⟩,Y,Z,U,u,V,⟨O,hb⟩,_⟩:=h
 rcases d k with h|h
 ·simp_all
 ·rw[u _ _ hb] at h;grind
theorem Pz(hT:dY P Ty){g:FuncId}{fn:Func}{tS tR:TypeId}{i:dp}(hf:P.funcs[g]? =some fn)(hname:(fn.name=="runtime.NumGoroutine")=false)(hb:fn.body.isNone=true)(hn:Extern.findNext fn=none)(he:Extern.find fn=some (Extern.SlicesOverlaps.overlaps #[tS,tS] #[tR]))
  (hk:ai Ty tS=.slice e) (hi:Ty e=some i) {k l2 c2 lb cb o:Nat} (h:St w (az k us::az b vs::L)) (hv:vs≠[]) {K:Value->ahs->Prop} (hK:K (vB false) w):
  ab_ P g [vS (some ⟨k,0,none⟩) l2 c2,vS (some ⟨b,o,none⟩) lb cb] w K:=by
 obtain⟨d,O,J⟩:=dv hT hk σ;rw[fh J] at O;obtain⟨u,d2,ha⟩:=rU hT hi;obtain⟨W,X⟩:=jF.1 h;obtain⟨V,U⟩:=jF.1 h.tail;have g1:=X.get;have g2:=U.get;refine⟨vB false,w,?_,Ev.refl w,hK⟩
 rw[run_callFunc_extern hf hname hb hn he,show(Extern.SlicesOverlaps.overlaps #[tS,tS] #[tR]) (Array.mk [vS (some ⟨k,0,none⟩) l2 c2,vS (some ⟨b,o,none⟩) lb cb])=(Extern.SlicesOverlaps.overlaps #[tS,tS] #[tR]) #[vS (some ⟨k,0,none⟩) l2 c2,vS (some ⟨b,o,none⟩) lb cb] from rfl,
  Lib.run_overlaps_apart w tS tR e O u.size (λw=>cR ha.inf) ⟨k,0,none⟩ ⟨b,o,none⟩ l2 c2 lb cb (adt h) W V us.length vs.length (by grind[World.shape?]) (by grind[World.shape?]) (by simp_all) (h.frozen 0 none) (h.frozen _ _)]
 rfl
end
section
variable{a b c d e:ahr}{i j k l m n o p q r:Nat}{A B C:Int}{w:ahs}{R:Value->WP}
theorem Bd(h:new w (ψ a i j b k l c m n A d o p) λa b=>new b (oC [vS none 0 0,vS none 0 0,vS none 0 0] 96) λb c=>χ c (aM a) λd=>rE 105 [d] c λc d=>∃e f g h,c=vU [vS e f g,iI h]/\br (h !=0) (bC d (aM b) [vS none 0 0,vS none 0 0,vS none 0 0] λa=>∃c d e f g i j k l,rA a (aM b) 3 [vS c d e,vS f g i,vS j k l]/\R (vU [vG [vS c d e,vS f g i,vS j k l],iI h]) a) (χ d (aM a) λc=>rE 41 [c] d λc d=>∃g h i j k l,c=vU [vG [vS g h i,iI j,iI k],iI l]/\new d (oC [vS none 0 0,iI 0,iI 0] 76) λc d=>bC d (aM c) [vS g h i,iI j,iI k] λd=>new d (oC [vS none 0 0,vS none 0 0,vS none 0 0] 96) λd g=>cLs g (aM c) λh i j=>τ [(36,aN)] λc j=>c 0 g/\∀(_:ν) g k,c g k->bQ (g<(i:Int)) (idx h i g 2 λb=>∃e f h i l m,rA k b 2 [vS e f h,vS i l m]/\new k (oC [vS none 0 0,vS none 0 0] 199) λb n=>bC n (aM b) [vS e f h,vS i l m] λe=>cLs e (Addr.add (aM a) 1) λf h i=>vd (h:Int) (h:Int) 8/\new e (Obj.cells (Array.mk (iX (Int.toNat (h:Int)) [iI 0])) 3) λe f=>τ [(46,aN)] λi l=>i 0 f/\∀(_:ν) f m,i f m->bQ (f<(↑(Int.toNat (h:Int)):Int)) (idx (some (aM e)) (Int.toNat (h:Int)) f 1 λa=>st1 m a (iI (-1)) λa=>aD (f+1)/\i (f+1) a/\l (f+1) a<l f m) (cLs m (Addr.add (aM b) 1) λf i l=>τ [(56,aN)] λb l=>b 0 m/\∀(_:ν) m n,b m n->bQ (m<(i:Int)) (idx f i m 2 λc=>∃d f,rA n c 2 [iI d,iI f]/\new n (oC [iI 0,iI 0] 203) λc g=>bC g (aM c) [iI d,iI f] λd=>cLi d (aM c) λf=>cLs d (aM a) λg i j=>bQ ((i:Int)<=f) (cLi d (aM c) λf=>cLs d (aM a) λg i j=>aD (f-(i:Int))/\cLi d (Addr.add (aM c) 1) λa=>idx (some (aM e)) (Int.toNat (h:Int)) (f-(i:Int)) 1 λc=>st1 d c (iI a) λa=>aD (m+1)/\b (m+1) a/\l (m+1) a<l m n) (aD (m+1)/\b (m+1) d/\l (m+1) d<l m n)) (∀b,drawn n b->∃(f:WP),f b/\∃i l m,(∀a,f a->cL a (aM d) (vS i l m))/\∃n o p,(∀b,f b->cL b (aM a) (vS n o p))/\vd (o:Int) (o:Int) 16/\new b (Obj.cells (Array.mk (iX (Int.toNat (o:Int)) [iI 0,iI 0])) 170) λa b=>f b/\new b (oC [vS (some (aM a)) (Int.toNat (o:Int)) (Int.toNat (o:Int))] 86) λa b=>f b/\rS (fX 92 (Array.mk [vS i l m,vS (some (aM a)) 1 1])) b λa b=>∃i l m,a=vS i l m/\f b/\st1 b (aM d) (vS i l m) λa=>cLs a (Addr.add (aM d) 1) λb f i=>new a (oC [vS (some (aM e)) (Int.toNat (h:Int)) (Int.toNat (h:Int))] 24) λa e=>rS (fX 71 (Array.mk [vS b f i,vS (some (aM a)) 1 1])) e λa b=>∃e f h,a=vS e f h/\st1 b (Addr.add (aM d) 1) (vS e f h) λa=>aD (g+1)/\c (g+1) a/\j (g+1) a<j g k))) (τ [(99,aN)] λc g=>c 0 k/\∀(_:ν) h i,c h i->bQ (h<(f:Int)) (idx e f h 3 λb=>∃e f j k l,rA i b 3 [iI e,iI f,vS j k l]/\new i (oC [iI 0,iI 0,vS none 0 0] 90) λb m=>bC m (aM b) [iI e,iI f,vS j k l] λe=>χ e (aM a) λa=>∃f j k l m,rA e (aM b) 3 [iI f,iI j,vS k l m]/\rE 106 [a,vG [iI f,iI j,vS k l m]] e λa e=>∃f j k l m,a=vU [vG [iI f,iI j],vS k l m]/\new e (oC [iI 0,iI 0] 170) λa e=>bC e (aM a) [iI f,iI j] λe=>∀f,drawn e f->∃(e:WP),e f/\∃j n o,(∀a,e a->cL a (aM d) (vS j n o))/\∃o,(∀a,e a->cL a (aM b) (iI o))/\idx j n o 1 λj=>∃n o p,(∀a,e a->cL a j (vS n o p))/\∃j,(∀a,e a->cL a (Addr.add (aM b) 1) (iI j))/\∃p q,(∀b,e b->rA b (aM a) 2 [iI p,iI q])/\idx n o j 2 λa=>bC f a [iI p,iI q] λa=>bQ (0<(l:Int)) (cLs a (Addr.add (aM d) 2) λe f j=>cLi a (aM b) λn=>cLi a (Addr.add (aM b) 1) λo=>new a (oC [iI n,iI o,vS k l m] 90) λa b=>rS (fX 83 (Array.mk [vS e f j,vS (some (aM a)) 1 1])) b λa b=>∃e f j,a=vS e f j/\st1 b (Addr.add (aM d) 2) (vS e f j) λa=>aD (h+1)/\c (h+1) a/\g (h+1) a<g h i) (aD (h+1)/\c (h+1) a/\g (h+1) a<g h i)) (∃a c e f g h j k l,rA i (aM d) 3 [vS a c e,vS f g h,vS j k l]/\bC i (aM b) [vS a c e,vS f g h,vS j k l] λa=>∃c d e f g h i j k,rA a (aM b) 3 [vS c d e,vS f g h,vS i j k]/\R (vU [vG [vS c d e,vS f g h,vS i j k],iI 0]) a)))):ρ 43 [φ a i j b k l c m n A d o p] w R:=rv Tryz.func43 ⟨[(7,[(36,(.one (.int .i64)))]),(11,[(46,(.one (.int .i64)))]),(16,[(56,(.one (.int .i64)))]),(25,[(99,(.one (.int .i64)))])],[],[],[]⟩ h
theorem zF(h:new w (ψ a i j b k l c m n A d o p) λa b=>new b (oC [iI B,iI C,vS e q r] 90) λb c=>new c (oC [iI 0,iI 0] 170) λc d=>χ d (aM a) λa=>cLi d (Addr.add (aM b) 1) λe=>cLs d (Addr.add (aM b) 2) λf g h=>rE 201 [a,iI e,vS f g h] d λa b=>∃d e f g,a=vU [vS d e f,vB g]/\bQ (1<(e:Int)) (∀a,drawn b a->∃(b:WP),b a/\idx d e 0 2 λg=>∃h i,(∀a,b a->rA a g 2 [iI h,iI i])/\rEs 202 [vS d e f] a λe f g d=>b d/\bC d (aM c) [iI h,iI i] λa=>∃b d,rA a (aM c) 2 [iI b,iI d]/\R (vU [vG [iI b,iI d],vS e f g]) a) (br ((e:Int)==1) (idx d e 0 2 λa=>∃d e,rA b a 2 [iI d,iI e]/\bC b (aM c) [iI d,iI e] λa=>∃b d,rA a (aM c) 2 [iI b,iI d]/\R (vU [vG [iI b,iI d],vS none 0 0]) a) (br g (bC b (aM c) [iI 4,iI 0] λa=>∃b d,rA a (aM c) 2 [iI b,iI d]/\R (vU [vG [iI b,iI d],vS none 0 0]) a) (bC b (aM c) [iI 0,iI 0] λa=>∃b d,rA a (aM c) 2 [iI b,iI d]/\R (vU [vG [iI b,iI d],vS none 0 0]) a)))):ρ 106 [φ a i j b k l c m n A d o p,(.agg #[iI B,iI C,vS e q r])] w R:=rv Tryz.func106 ⟨[],[],[],[]⟩ h
theorem EC(h:new w (ψ a i j b k l c m n A d o p) λa b=>∃(c:lP [(23,Bw)]),br ((q:Int)==0) (c true b) (idx e q 0 2 λa=>cLi b a λd=>c (d !=1) b)/\∀(_:ν) b d,c b d->br b (rEs 251 [vS e q r] d λc d e b=>R (vU [vS c d e,vB false]) b) (lV e q r (some 1) none none 2 λ(b:ahr)(c _:Nat)=>τ [(8,Bw),(9,Bw),(10,lY),(29,aN)] λf g=>f true false none 0 0 0 d/\∀(_:ν) d h i j k l m,f d h i j k l m->bQ (l<(c:Int)) (idx b c l 2 λb=>∃c e,rA m b 2 [iI c,iI e]/\new m (oC [iI 0,iI 0] 170) λb n=>bC n (aM b) [iI c,iI e] λc=>cLi c (aM b) λe=>br (e==2) (χ c (aM a) λa=>cLi c (Addr.add (aM b) 1) λe=>rEi 290 [a,iI e,iI B] c λe c=>br (e==3) (aD (l+1)/\f false true i j k (l+1) c/\g false true i j k (l+1) c<g d h i j k l m) (br (e==2) (∃a e,rA c (aM b) 2 [iI a,iI e]/\new c (oC [iI a,iI e] 170) λa b=>rS (fX 86 (Array.mk [vS i j k,vS (some (aM a)) 1 1])) b λa b=>∃c e n,a=vS c e n/\aD (l+1)/\f false h c e n (l+1) b/\g false h c e n (l+1) b<g d h i j k l m) (br (e==0) (∃a e,rA c (aM b) 2 [iI a,iI e]/\new c (oC [iI a,iI e] 170) λa b=>rS (fX 86 (Array.mk [vS i j k,vS (some (aM a)) 1 1])) b λa b=>∃c e n,a=vS c e n/\aD (l+1)/\f d h c e n (l+1) b/\g d h c e n (l+1) b<g d h i j k l m) (aD (l+1)/\f d h i j k (l+1) c/\g d h i j k (l+1) c<g d h i j k l m)))) (br (0==3) (aD (l+1)/\f false true i j k (l+1) c/\g false true i j k (l+1) c<g d h i j k l m) (br (0==2) (∃a e,rA c (aM b) 2 [iI a,iI e]/\new c (oC [iI a,iI e] 170) λa b=>rS (fX 86 (Array.mk [vS i j k,vS (some (aM a)) 1 1])) b λa b=>∃c e n,a=vS c e n/\aD (l+1)/\f false h c e n (l+1) b/\g false h c e n (l+1) b<g d h i j k l m) (br (0==0) (∃a e,rA c (aM b) 2 [iI a,iI e]/\new c (oC [iI a,iI e] 170) λa b=>rS (fX 86 (Array.mk [vS i j k,vS (some (aM a)) 1 1])) b λa b=>∃c e n,a=vS c e n/\aD (l+1)/\f d h c e n (l+1) b/\g d h c e n (l+1) b<g d h i j k l m) (aD (l+1)/\f d h i j k (l+1) c/\g d h i j k (l+1) c<g d h i j k l m))))) (br d (idx e q 0 2 λa=>∃b c,rA m a 2 [iI b,iI c]/\new m (oC [iI b,iI c] 170) λa b=>rEs 291 [vS i j k,iI 0,vS (some (aM a)) 1 1] b λc d e b=>R (vU [vS c d e,vB h]) b) (R (vU [vS i j k,vB h]) m)))):ρ 201 [φ a i j b k l c m n A d o p,iI B,vS e q r] w R:=rv Tryz.func201 ⟨[(7,[(8,(.one .bool)),(9,(.one .bool)),(10,(.one .slice)),(29,(.one (.int .i64)))])],[(2,[(23,(.one .bool))])],[],[]⟩ h
theorem EE(h:new w (ψ a i j b k l c m n A d o p) λa b=>new b (oC [iI 0,iI 0,iI 0,iI 0] 490) λb c=>bC c (aM b) [iI 0,iI 2,iI 1,iI 3] λc=>cLs c (Addr.add (aM a) 4) λd e f=>idx d e B 3 λd=>cLi c (d.add 2) λe=>cLs c (aM a) λd f g=>idx d f C 2 λd=>cLi c (d.add 1) λf=>br (e==0) (R (iI 0) c) (br (f==0) (R (iI 0) c) (bQ (f<e) (R (iI 2) c) (bQ (e<f) (R (iI 1) c) (cLs c (Addr.add (aM a) 2) λd f g=>aD (e-1)/\idx d f (e-1) 1 λa=>cLi c a λd=>idx (some (aM b)) 4 d 1 λa=>cLi c a λb=>R (iI b) c))))):ρ 290 [φ a i j b k l c m n A d o p,iI B,iI C] w R:=rv Tryz.func290 ⟨[],[],[],[]⟩ h
end
theorem Yx{h:Hp}{xs:List aE}{a:ahr}{l:Nat}(r:aY h xs a l):ec a (di xs) h:=by
 cases xs with
 |nil=>exact .inl rfl
 |cons x0 xs'=>
  obtain⟨u,vs,rfl,_⟩:=r.2 0 x0 rfl;refine .inr ⟨u,rfl,ym (n:=2) (λ_=>rfl) _ u λi x U=>?_⟩;obtain⟨V,vs,e,O,J⟩:=r.2 i x U;cases e;rw[show vs=bD x from J] at O;omega
theorem Tt(xs:List aE):∀v∈di xs,aK v=true:=λv u=>by
 obtain⟨x,_,u⟩:=agN.1 u
 rcases af6.1 u with rfl|u
 ·rfl
 ·rw[af_] at u;subst u;rfl
section
variable{w:ahs}{L:List aC}{g:ah}{x:GA}
theorem PB{xs:List aE}{a:ahr}{l c:Nat}(hr:aY (hp w) xs a l)(hb:l*16<=140737488355328):ρ 251 [vS a l c] w λv w'=>∃o c',v=vS o l c'/\St w' (own 2 o l c' (di xs)::all w):=by
 have hl:=hr.1
 refine gN (ae (λh=>?_) λh=>?_)
 ·have ha:a=none:=by simp_all
  subst ha
  have J:xs=[]:=by
   cases xs with
   |nil=>rfl
   |cons x _=>obtain⟨O,_,e,_⟩:=hr.2 0 x rfl;grind
  subst J;have:l=0:=hl.symm;subst this;exact⟨_,_,rfl,aI 2 (St.all w)⟩
 ·refine ag (St.all w) λk u h=>?_;have g1:Gr w u:=h.aQ;have h:St u (own 2 (some (aM k)) 0 0 []::all w):=bj (cs:=[]) h rfl rfl (afR _);refine(Mn (us:=[]) (news:=di xs) aT (rfl:ai Ty _=.slice _) (rfl:ai Ty _=.slice _) rfl rfl rfl h (by rw[oq,hl]) σ (Yx (hr.mono g1)) (Tt xs) (by simp_all) ω).mono ?_
  grind
theorem UX{xs:List aE}{y:aE}{o:ahr}{c k:Nat}(h:St w (az k (bD y)::own 2 o xs.length c (di xs)::L))(hb:xs.length<=100000):
  ρ 291 [vS o xs.length c,iI 0,vS (some (aM k)) 1 1] w λv w'=>∃o' c',v=vS o' (xs.length+1) c'/\St w' (own 2 o' (xs.length+1) c' (di (y::xs))::L):=by
 obtain⟨n,hn⟩:∃n,n=xs.length:=⟨_,rfl⟩;have W:(di xs).length=n*2:=by rw[oq,hn]
 have a6:=bI (h.pick 2 [1]);have he:di (y::xs)=bD y++di xs:=rfl;have aa:0<xs.length->xs≠[]:=λh e=>by simp_all
 rw[<-hn] at h a6 hb ⊢;rw[he];have hy:∀u∈bD y,aK u=true:=by simp[bD,aK]
 have Z:=Tt xs;have rk:ec (some (aM k)) (bD y) (hp w):=.inr ⟨_,rfl,af 0 h.l⟩;obtain⟨X,hX⟩:∃X,X=di xs:=⟨_,rfl⟩;rw[<-hX] at h W Z ⊢
 refine gC (Py a6 (bn σ (ae (λh1=>?_) λh1=>?_)))
 ·have h1:n=0:=by grind
  subst h1;have e:X=[]:=afY ω;subst e;refine(aU (us:=[]) aT (rfl:ai Ty _=.slice _) (rfl:ai Ty _=.slice _) rfl rfl rfl h rfl hy σ ω).mono ?_;rintro _ w2⟨o',c',rfl,h⟩;exact⟨_,_,_,rfl,o',c',rfl,by rw[agc];exact h.pick 2 [0]⟩
 have h1:0<n:=by grind
 have i1:aD ((n:Int)+((1:Nat):Int)):=⟨ω,ω⟩
 refine⟨i1,⟨_,w,M4 aT (rfl:ai Ty _=.slice _) o n c w,Ev.refl w,_,rfl,ae (λU=>?_) λU=>?_⟩⟩
 ·have U:c=n:=by grind
  subst U;refine ir (hi:=0) (afL _) ⟨i1,⟨ω,ω⟩,?_⟩;have ez:(c:Int)+((1:Nat):Int)-0=((c+1:Nat):Int):=by rfl
  rw[ez];refine(Ld (i:=_) aT (rfl:ai Ty _=.slice _) (rfl:ai Ty _=.int .i64) rfl rfl rfl σ h ω ω (by grind) ω).mono ?_;rintro _ w3⟨o4,c4,us,rfl,a0,h⟩;have a0:us.length=(c+1)*2:=a0;have h:St w3 (own 2 o4 (c+1) c4 us::az k (bD y)::own 2 o c c X::L):=h;have V:=bI h;refine⟨_,_,_,rfl,Py V ?_⟩;have O:=Gw (k:=0) (n:=1) (news:=bD y) (t:=bw) (tx:=bw) (ty:=dU) aT (rfl:ai Ty _=.slice _) rfl σ h rfl (.inr ⟨aM k,rfl,af 1 h.l⟩) hy σ ω (sl:=1) (dl:=c+1) (c2:=1) (dc:=c4) (ahk ω);rw[W8] at O;refine O.mono ?_;rintro _ w4⟨rfl,h⟩;refine⟨_,rfl,λw5 hd=>?_⟩;have h:=h.drawn hd;refine⟨λ_=>True,trivial,⟨ω,ω⟩,?_⟩;rw[show(0:Int)+((1:Nat):Int)=((1:Nat):Int) from rfl];refine dw (lo:=1) ω V (Py (afR _) ?_);have Y:=Gw (k:=1) (n:=c) (news:=X) (t:=bw) (tx:=bw) (ty:=dU) aT (rfl:ai Ty _=.slice _) rfl σ h W (dE 2 h.l) Z h1 ω (sl:=c) (dl:=c+1-1) (c2:=c) (dc:=c4-1) σ;refine Y.mono ?_;rintro _ w6⟨rfl,h⟩;refine⟨_,rfl,o4,c4,rfl,?_⟩;have h:St w6 (own 2 o4 (c+1) c4 ((us.take (0*2)++bD y++us.drop (0*2+(bD y).length)).take (1*2)++X++(us.take (0*2)++bD y++us.drop (0*2+(bD y).length)).drop (1*2+X.length))::az k (bD y)::own 2 o c c X::L):=h;have e1:(us.take (0*2)++bD y++us.drop (0*2+(bD y).length)).take (1*2)=bD y:=by rfl
  have e2:(us.take (0*2)++bD y++us.drop (0*2+(bD y).length)).drop (1*2+X.length)=[]:=List.drop_eq_nil_of_le (by grind);rw[e1,e2,agc] at h;exact h.pick 3 [0]
 have U:n+1<=c:=by grind
 obtain⟨us,a0,h⟩:=Yw (m:=1) (h.pick 2 [1,0]) U;refine⟨i1,ir (hi:=n+1) U ⟨⟨ω,ω⟩,?_⟩⟩;rw[W8,show(0:Int)+((1:Nat):Int)=((1:Nat):Int) from rfl];refine dw (lo:=1) ω U ?_
 rcases dq h with⟨_,he,_,_⟩|⟨b,J,cs,a9,rfl,a5,_,_,_⟩
 ·omega
 have a4:fE (some ⟨b,J.length,none⟩) 1 c 2=some ⟨b,J.length+2,none⟩:=by
  unfold fE;rw[afV ω];rfl
 rw[a4];refine Pz (tR:=4) aT lI (by rfl) (by rfl) (by kernel_rfl) (by kernel_rfl) (rfl:ai Ty bw=.slice _) rfl (a5.pick 2 [1,0]) (λe=>by simp_all) ⟨_,rfl,dL rfl λw8 hd=>?_⟩;clear a5 a4;have h:=h.drawn hd;refine⟨λ_=>True,trivial,⟨ω,ω⟩,dw (lo:=1) ω U (Py U ?_)⟩
 have a7:ec (some ⟨b,J.length,none⟩) X (hp w8):=by
  rcases dE 0 h.l with e|⟨ad,e,hr⟩
  ·simp_all
  ·exact .inr ⟨ad,e,λj v hj=>hr j v (by grind)⟩
 have Y:=Gw (k:=1) (n:=n) (news:=X) (t:=bw) (tx:=bw) (ty:=dU) aT (rfl:ai Ty _=.slice _) rfl σ h W a7 Z h1 ω (sl:=n+1) (dl:=n+1-1) (c2:=c) (dc:=c-1) σ;refine Y.mono ?_;rintro _ w9⟨rfl,h⟩;refine⟨_,rfl,Py U ?_⟩;have h:St w9 (own 2 (some ⟨b,J.length,none⟩) (n+1) c ((X++us).take (1*2)++X++(X++us).drop (1*2+X.length))::az k (bD y)::L):=h;have e2:(X++us).drop (1*2+X.length)=[]:=List.drop_eq_nil_of_le ω;rw[e2,agc] at h;have O:=Gw (k:=0) (n:=1) (news:=bD y) (t:=bw) (tx:=bw) (ty:=dU) aT (rfl:ai Ty _=.slice _) rfl σ h rfl (.inr ⟨aM k,rfl,af 1 h.l⟩) hy σ ω (sl:=1) (dl:=n+1) (c2:=1) (dc:=c) (ahk ω);rw[W8] at O;refine O.mono ?_;rintro _ a8⟨rfl,h⟩;refine⟨_,rfl,_,c,rfl,?_⟩;have h:St a8 (own 2 (some ⟨b,J.length,none⟩) (n+1) c (((X++us).take (1*2)++X).take (0*2)++bD y++((X++us).take (1*2)++X).drop (0*2+(bD y).length))::az k (bD y)::L):=h
 have e3:((X++us).take (1*2)++X).drop (0*2+(bD y).length)=X:=by
  have:((X++us).take (1*2)).length=2:=by grind
  simp_all[bD]
 rw[e3,Nat.zero_mul,List.take_zero,agY] at h;exact h.pick 2 [0]
theorem UY{h:Hp}{ts:List mP}{a:ahr}{l i:Nat}(r:aY h ts a l)(hi:i<l):∃t ad,ts[i]? =some t/\a=some ad/\aj h (ad.add (eV i 2)) [.string t.name,iI t.level]:=by
 obtain⟨t,ad,vs,J,u,O,U⟩:=r.get hi;exact⟨t,ad,J,u,(show vs=_ from U)▸O⟩
theorem UZ{h:Hp}{ts:List aO}{a:ahr}{l i:Nat}(r:aY h ts a l)(hi:i<l):∃t ad b m c,ts[i]? =some t/\a=some ad/\aj h (ad.add (eV i 3)) [iI t.left,vS b m c,iI t.level]/\m<=c/\aY h t.right b m:=by
 obtain⟨t,ad,vs,J,u,U,b,m,c,W,V,O⟩:=r.get hi;subst W;exact⟨t,ad,b,m,c,J,u,U,V,O⟩
theorem adu{p t:Nat}(hc:ax g)(hg:gR (hp w) g x)(hp1:p<g.prods.length)(ht:t<g.T):ρ 290 [.agg ⟨x.cells⟩,iI (p:Int),iI (t:Int)] w λv w'=>v=iI (pO g p t)/\Gr w w':=by
 refine EE (gH hg λk1 w1 gw X B=>ag (St.all w1) λk2 w2 h=>aL h rfl (by simp[aK]) λZ h=>?_);have J:Gr w1 Z:=h.aQ;have r2:aj (hp Z) (aM k2) [iI 0,iI 2,iI 1,iI 3]:=af 0 h.l;clear h;have u:=X.mono J;have O:=gw.trans J;have pl:=u.p.1;have tl:=u.t.1;have ll:=u.l.1;have eT:g.T=g.terms.length:=rfl;obtain⟨y,ad,_,_,_,hy,ha,ry,_,_⟩:=UZ u.p (i:=p) ω;obtain⟨z,a8,hz,a0,rz⟩:=UY u.t (i:=t) ω;have ep:lvP g p=y.level:=by simp_all[lvP]
 have et:lvT g t=z.level:=by simp_all[lvT]
 obtain⟨p0,p1⟩:=adp hc hy;refine⟨_,_,_,B.c4 J,aJ ha ω ⟨_,ry.cell sZZ (j:=2) rfl,_,_,_,B.c0 J,aJ a0 ω ⟨_,rz.cell sZZ (j:=1) rfl,?_⟩⟩⟩;have fin:∀z:Int,z=pO g p t->(iI z:Value)=iI (pO g p t)/\Gr w Z:=λz e=>⟨by rw[e],O⟩
 refine ae (λU=>fin _ ?_) λU=>ae (λW=>fin _ ?_) λW=>ae (λh3=>fin _ ?_) λh3=>ae (λV=>fin _ ?_) λV=>?_
 ·have U:y.level=0:=by simp_all
  simp_all[pO]
 ·have W:z.level=0:=by simp_all
  simp_all[pO]
 ·have U:¬y.level=0:=by simp_all
  have W:¬z.level=0:=by simp_all
  simp_all[afO,pO]
 ·have U:¬y.level=0:=by simp_all
  have W:¬z.level=0:=by simp_all
  have V:=afO V
  simp_all[pO,afV]
 have U:¬y.level=0:=by simp_all
 have W:¬z.level=0:=by simp_all
 have h3:=afN h3;have V:=afN V;obtain⟨v,hv,ev,v1,v3⟩:=adq hc (l:=y.level) ω p1;obtain⟨a4,a5,rv⟩:=u.l.at hv;have es:pO g p t=if v=1 then 2 else if v=2 then 1 else 3:=by simp_all[pO,afV]
 have a7:=(afK.1 hv).1;have a6:=Hk hc.2.1;refine⟨_,_,_,B.c2 J,⟨ω,ω⟩,a4,a5,ω,ω,v,rv _ sZZ,aM k2,rfl,ω,ω,?_⟩;rw[es];have Y:v=1\/v=2\/v=3:=ω
 rcases Y with rfl|rfl|rfl
 ·exact⟨2,r2.cell sZZ (j:=1) rfl,rfl,O⟩
 ·exact⟨1,r2.cell sZZ (j:=2) rfl,rfl,O⟩
 ·exact⟨3,r2.cell sZZ (j:=3) rfl,rfl,O⟩
end
section
variable{w:ahs}{L:List aC}
theorem yH{b i:Nat}{us vs:List Value}{k:ahs->Prop}(h:St w (az b us::L))(hi:i+vs.length<=us.length)(h1:∀v∈vs,aK v=true)(hk:∀w',St w' (az b (us.take i++vs++us.drop (i+vs.length))::L)->k w'):bC w ((aM b).add i) vs k:=by
 rw[ak];refine⟨tZ vs 0 (tY h vs _ hi h1),λw' u=>?_⟩;subst u;rw[t_];exact hk _ (qx vs _ i hi h)
theorem PC{κ:Type}[DecidableEq κ]{k:κ}{v:Value}:∀{m:List (κ×Value)},assoc k m=some v->(k,v)∈m
 |(a,u)::m,h=>by
  unfold assoc at h
  split at h
  ·simp_all
  ·exact agO _ (PC h)
theorem Tu{κ:Type}[DecidableEq κ]{k a:κ}{u v:Value}:∀{m:List (κ×Value)},(a,u)∈cO k v m->(a=k/\u=v)\/(a,u)∈m
 |[],h=>by
  unfold cO at h
  simp_all
 |(b,z)::m,h=>by
  unfold cO at h
  split at h
  ·grind
  ·rcases af6.1 h with h|h
   ·simp_all
   ·rcases Tu h with h|h
    ·simp_all
    simp_all
end
def IJ(S:Int->Prop)(B:Nat)(m:List (Int×Value)):Prop:=∀p∈m,S p.1/\∃z:Int,p.2=iI z/\0<=z/\z<=B
theorem IJ.get{S:Int->Prop}{B:Nat}{m:List (Int×Value)}(h:IJ S B m)(k:Int):∃z:Int,(assoc k m).getD (iI 0)=iI z/\0<=z/\z<=B:=by
 cases ha:assoc k m with
 |none=>simp
 |some v=>
  obtain⟨_,z,J,u,O⟩:=h _ (PC ha)
  simp_all
theorem IJ.put{S:Int->Prop}{B:Nat}{m:List (Int×Value)}(h:IJ S B m){k z:Int}(hk:S k)(h0:0<=z)(h1:z<=(B+1:Nat)):IJ S (B+1) (cO k (iI z) m):=by
 rintro⟨a,u⟩ hp
 rcases Tu hp with⟨rfl,rfl⟩|hp
 ·simp_all
 ·obtain⟨J,y,U,O,V⟩:=h _ hp
  grind
theorem IJ.up{S:Int->Prop}{B:Nat}{m:List (Int×Value)}(h:IJ S B m):IJ S (B+1) m:=λp hp=>by
 obtain⟨u,y,O,J,U⟩:=h p hp
 grind
structure Yy(As:List (List aE))(Gs:List (List Int))(T N:Nat):Prop where
 n1:1<=As.length
 n2:As.length<=256
 g:Gs.length=As.length
 t1:1<=T
 t2:T<=65
 s1:1<=N
 s2:N<=65
 a:∀l∈As,l.length=T/\∀a∈l,Ex As.length a
 t:∀l∈Gs,l.length=N/\∀z∈l,-1<=z/\z<As.length
section
variable{w:ahs}{L:List aC}{a o:ahr}{n c:Nat}{m:List (Int×Value)}{S:Int->Prop}{B:Nat}
theorem Tv{k1:Nat}{f:Int}{R:Value->WP}(hm:IJ S B m)(h:St w (mapA k1 m::L))(hR:∀z u,(z=f\/S z)->St u (mapA k1 m::L)->R (iI z) u):
  aX Tryz.prog (Instr.range dD (Value.map (some k1))) w λv3 w8=>∃o1,v3=vP o1/\τ [(8,aN)] λx4 x5=>x4 f w8/\∀(I2:ν) n8 w9,x4 n8 w9->aX Tryz.prog (Instr.next (vP o1) false 0) w9 λv4 w10=>v4=vT (Array.mk [vB false])/\R (iI n8) w10\/∃n9 v5,v4=vT (Array.mk [vB true,iI n9,v5])/\aX Tryz.prog (Instr.entry (vP o1)) w10 λv6 w11=>∃n10 n11,v6=vT (Array.mk [iI n10,iI n11])/\aX Tryz.prog (Instr.lookup dD (Value.map (some k1)) (iI n8) false) w11 λv7 w12=>∃n12,v7=iI n12/\br (decide (n12<n11)) (x4 n10 w12/\x5 n10 w12<x5 n8 w9) (aX Tryz.prog (Instr.lookup dD (Value.map (some k1)) (iI n8) false) w12 λv8 w13=>∃n13,v8=iI n13/\br (n11==n13) (br (decide (n10<n8)) (x4 n10 w13/\x5 n10 w13<x5 n8 w9) (x4 n8 w13/\x5 n8 w13<x5 n8 w9)) (x4 n8 w13/\x5 n8 w13<x5 n8 w9)):=by
 refine(KJ aT (rfl:ai Ty _=.map _ _) h).mono ?_;rintro _ w8⟨r,rfl,h⟩;refine⟨_,rfl,λz u=>(z=f\/S z)/\∃ks:List Int,St u (tf k1 r m ks::L),λ_=>Vo (λ(ks:List Int) u=>St u (tf k1 r m ks::L)) λks=>m.length-ks.length,⟨.inl rfl,[],h⟩,?_⟩;clear h;rintro _ z w9⟨Z,V⟩;obtain⟨ks,h,W⟩:=BP (P:=λ(ks:List Int) u=>St u (tf k1 r m ks::L)) (f:=λks:List Int=>m.length-ks.length) V;refine(OB h).mono ?_
 rintro _ w10 (⟨rfl,_,h⟩|⟨k,u,J,rfl,X,h⟩)
 ·simp_all
 obtain⟨Y,y,U,_⟩:=hm _ J;have U:u=iI y:=U;subst U;refine .inr ⟨k,_,rfl,(KK h).mono ?_⟩;rintro _ w11⟨rfl,rfl⟩;have h:=KH h;have lk:=cq (κ:=Int) (P:=Tryz.prog) (z:=iI 0) aT (rfl:ai Ty dD=.map _ _) bL rfl rfl (KI h) z;obtain⟨t,ht,_⟩:=hm.get z
 have fin:∀z',(z'=f\/S z')->((z'=f\/S z')/\∃ks:List Int,St w11 (tf k1 r m ks::L))/\Vo (λ(ks:List Int) u=>St u (tf k1 r m ks::L)) (λks=>m.length-ks.length) w11<Vo (λ(ks:List Int) u=>St u (tf k1 r m ks::L)) (λks=>m.length-ks.length) w9:=λz' O=>by
  refine⟨⟨O,_,h⟩,?_⟩;rw[<-W];refine Nat.lt_of_le_of_lt (Am (P:=λ(ks:List Int) u=>St u (tf k1 r m ks::L)) (f:=λks:List Int=>m.length-ks.length) h) ?_
  grind
 refine⟨k,y,rfl,lk.mono ?_⟩;rintro _ w12⟨rfl,rfl⟩;refine⟨t,ht,ae (λ_=>fin k (.inr Y)) λ_=>lk.mono ?_⟩;rintro _ w13⟨rfl,rfl⟩
 simp_all[ae]
theorem aeZ{x:aE}{u:ahs}:ρ xF [.agg ⟨bD x⟩] u λv u'=>v=.tuple #[iI x.to,vB (x.kind==2)]/\Gr u u':=by
 refine DU (ag (St.all u) λU V h J O=>?_);have h:=h.drawn O;exact⟨λz=>Gr J z,Gr.refl _,_,λz g=>(af 0 h.l).cell g (j:=1) rfl,_,λz g=>(af 0 h.l).cell0 g,rfl,h.aQ⟩
theorem aa5{l:List aE}(hr:aY (hp w) l a n)(hn:n<=1000):ρ 108 [vS a n c,.func (.func xF) #[] #[],iI (-1)] w λv w'=>∃z:Int,v=iI z/\(z=-1\/∃x∈l,x.kind=2/\x.to=z)/\Gr w w':=by
 refine mW (nI (St.all w) λY w1 h=>?_);have h:=dT (κ:=Int) h;refine⟨λz u=>∃(j:Nat)(m:List (Int×Value)),z=j/\j<=n/\IJ (λz=>∃x∈l,x.kind=2/\x.to=z) j m/\St u (mapA Y m::all w),λz _=>n-z.toNat,⟨0,[],rfl,afL _,λp hp=>(by grind),h⟩,?_⟩;clear h;rintro _ _ w2⟨j,m,rfl,hj,V,h⟩;refine ae (λJ=>?_) λJ=>Tv (R:=λv w'=>∃z:Int,v=iI z/\(z=-1\/∃x∈l,x.kind=2/\x.to=z)/\Gr w w') V h λz u X h=>⟨z,rfl,X,h.aQ⟩;have J:j<n:=by simp_all
 obtain⟨x,ad,vs,Z,ha,U,O⟩:=(hr.mono h.aQ).get J;have O:vs=bD x:=O;subst O;refine aJ ha J ⟨_,_,U.at sZZ rfl,ag h λk2 w3 h=>aL h rfl (by simp[aK]) λw4 h=>⟨_,_,(af 0 h.l).at sZZ rfl,a_.2 ⟨rfl,(aeZ (x:=x)).mono ?_⟩⟩⟩;rintro _ w5⟨rfl,g⟩;have h:=(h.gr g).tail;refine⟨_,_,rfl,ae (λW=>?_) λW=>⟨⟨ω,ω⟩,⟨j+1,m,σ,J,V.up,h⟩,bY J⟩⟩;have W:x.kind=2:=by simp_all
 obtain⟨t,ht,ht0,ht1⟩:=V.get x.to;refine(cq (κ:=Int) (P:=Tryz.prog) (z:=iI 0) aT (rfl:ai Ty dD=.map _ _) bL rfl rfl h x.to).mono ?_;rintro _ w6⟨rfl,rfl⟩;refine⟨t,ht,⟨ω,ω⟩,(dh (κ:=Int) aT (rfl:ai Ty dD=.map _ _) bL h x.to _).mono ?_⟩;intro _ w7 h;exact⟨⟨ω,ω⟩,⟨j+1,_,σ,J,V.put ⟨x,afI Z,W,rfl⟩ ω ω,h⟩,bY J⟩
theorem adv{l:List Int}{i d:Nat}{p:Addr}{u:ahs}(hr:aY (hp u) l o n)(hp1:u.cell? p=some (iI (i:Int)))(hp2:∀z,hp z=hp u->z.cell? p=some (iI (i:Int)))(hi:i<n):ρ xH [vS o n c,.pointer (some p)] u λv u'=>v=.tuple #[iI (l.getD i 0),vB (decide (0<=l.getD i 0))]/\Gr u u':=by
 refine DW λV O=>?_;have J:=aP O;obtain⟨U,ha,hc⟩:=nB hr hi;refine⟨λz=>hp z=hp u,J,_,λz e=>hp2 z e,ay ha hi ⟨_,λz e=>hc z (by simp_all[sub.refl]),_,λz e=>hp2 z e,ay ha hi ⟨_,λz e=>hc z (by simp_all[sub.refl]),rfl,Gr.of_eq J⟩⟩⟩
theorem aa6{Gs:List (List Int)}{i:Nat}{p:Addr}(hr:aY (hp w) Gs a n)(hn:n<=1000)(hi:∀l∈Gs,i<l.length)(hp2:∀z,sub (hp w) (hp z)->z.cell? p=some (iI (i:Int))):ρ 112 [vS a n c,.func (.func xH) #[] #[.pointer (some p)],iI (-1)] w λv w'=>∃z:Int,v=iI z/\(z=-1\/∃l∈Gs,l.getD i 0=z/\0<=z)/\Gr w w':=by
 refine uA (nI (St.all w) λk1 w1 h=>?_);have h:=dT (κ:=Int) h;refine⟨λz u=>∃(j:Nat)(m:List (Int×Value)),z=j/\j<=n/\IJ (λz=>∃l∈Gs,l.getD i 0=z/\0<=z) j m/\St u (mapA k1 m::all w),λz _=>n-z.toNat,⟨0,[],rfl,afL _,λp hp=>(by grind),h⟩,?_⟩;clear h;rintro _ _ w2⟨j,m,rfl,hj,W,h⟩;refine ae (λJ=>?_) λJ=>Tv (R:=λv w'=>∃z:Int,v=iI z/\(z=-1\/∃l∈Gs,l.getD i 0=z/\0<=z)/\Gr w w') W h λz u Z h=>⟨z,rfl,Z,h.aQ⟩;have J:j<n:=by simp_all
 obtain⟨x,ad,vs,hx,ha,O,o1,Y,c1,rfl,_,U⟩:=(hr.mono h.aQ).get J;have X:i<Y:=by rw[<-U.1];grind
 refine aJ ha J ⟨_,_,_,O.cell0 sZZ,a_.2 ⟨rfl,(adv (d:=0) U (hp2 _ h.aQ) (λz e=>hp2 z (by rw[e];exact h.aQ)) X).mono ?_⟩⟩;rintro _ w5⟨rfl,g⟩;have h:=h.gr g;refine⟨_,_,rfl,ae (λV=>?_) λV=>⟨⟨ω,ω⟩,⟨j+1,m,σ,J,W.up,h⟩,bY J⟩⟩;have V:0<=x.getD i 0:=afO V;obtain⟨t,ht,ht0,ht1⟩:=W.get (x.getD i 0);refine(cq (κ:=Int) (P:=Tryz.prog) (z:=iI 0) aT (rfl:ai Ty dD=.map _ _) bL rfl rfl h (x.getD i 0)).mono ?_;rintro _ w6⟨rfl,rfl⟩;refine⟨t,ht,⟨ω,ω⟩,(dh (κ:=Int) aT (rfl:ai Ty dD=.map _ _) bL h (x.getD i 0) _).mono ?_⟩;intro _ w7 h;exact⟨⟨ω,ω⟩,⟨j+1,_,σ,J,W.put ⟨x,afI hx,rfl,V⟩ ω ω,h⟩,bY J⟩
theorem adw{x:aE}{N:Nat}(hm:Ex N x)(hN:N<=1000):ρ EY [.agg ⟨bD x⟩] w λv w'=>v=iI (we x)/\Gr w w':=by
 refine JO (ag (St.all w) λU V h=>?_);have g:=h.aQ;unfold we
 refine⟨_,h.cell 0,ae (λu=>?_) λu=>ae (λJ=>?_) λJ=>ae (λO=>?_) λO=>?_⟩
 ·have u:x.kind=1:=by simp_all
  rw[afZ u];have:0<=x.to/\x.to<=1000:=by grind[Ex]
  exact⟨_,h.cell 1,⟨ω,ω⟩,rfl,g⟩
 ·have u:¬x.kind=1:=by simp_all
  have J:x.kind=2:=by simp_all
  rw[afV u,afZ J];have:0<=x.to/\x.to<=1000:=by grind[Ex]
  exact⟨_,h.cell 1,⟨ω,ω⟩,rfl,g⟩
 ·have u:¬x.kind=1:=by simp_all
  have J:¬x.kind=2:=by simp_all
  have O:x.kind=3:=by simp_all
  rw[afV u,afV J,afZ O];exact⟨rfl,g⟩
 ·have u:¬x.kind=1:=by simp_all
  have J:¬x.kind=2:=by simp_all
  have O:¬x.kind=3:=by simp_all
  rw[afV u,afV J,afV O];exact⟨rfl,g⟩
theorem ae0{x:aE}{N:Nat}(hm:Ex N x):ρ 205 [.agg ⟨bD x⟩,iI (N:Int)] w λv w'=>v=vB true/\Gr w w':=by
 refine Mg (ag (St.all w) λU W h=>?_);have g:=h.aQ;have O:=hm;unfold Ex at hm
 refine⟨_,h.cell 0,ae (λu=>?_) λu=>ae (λJ=>?_) λJ=>?_⟩
 ·have u:x.kind=1:=by simp_all
  exact⟨_,h.cell 1,dL (agt ω) ⟨_,h.cell 1,by simp_all,g⟩⟩
 ·have u:¬x.kind=1:=by simp_all
  have J:x.kind=2:=by simp_all
  exact⟨_,h.cell 1,dL (agt ω) ⟨_,h.cell 1,by simp_all,g⟩⟩
 ·have u:¬x.kind=1:=by simp_all
  have J:¬x.kind=2:=by simp_all
  have V:x.to=0:=ω
  exact⟨_,h.cell 0,dL (agt ω) ⟨_,h.cell 0,dL (agt ω) ⟨_,h.cell 1,by simp_all,g⟩⟩⟩
theorem aa7{As:List (List aE)}{Gs:List (List Int)}{T N c' n':Nat}{a':ahr}(hA:aY (hp w) As a n)(hG:aY (hp w) Gs a' n')(hD:Yy As Gs T N):ρ 107 [.agg #[vS a n c,vS a' n' c']] w λv w'=>v=vB true/\Gr w w':=by
 have eA:=hA.1;have eG:=hG.1;obtain⟨n1,n2,eg,t1,t2,s1,s2,ha,ht⟩:=hD;refine HA (ag (St.all w) λk1 w1 h=>⟨_,_,_,h.cell 0,ag h λk4 w2 h=>aR h σ λw3 h=>?_⟩);have W:∀{u:ahs},Gr w3 u->u.cell? (aM k4)=some (iI (n:Int)):=λg=>(af 0 h.l).cell0 g;have V:∀{u:ahs},Gr w3 u->aj (hp u) (aM k1) [vS a n c,vS a' n' c']:=λg=>(af 1 h.l).mono g;have gw:Gr w w3:=h.tail.aQ;clear h;refine⟨λb u=>b=false/\Gr w3 u,⟨_,W (Gr.refl _),bn (age ω) ⟨_,W (Gr.refl _),bn (age ω) ⟨_,_,_,(V (Gr.refl _)).cell sZZ (j:=1) rfl,_,W (Gr.refl _),by simp_all,Gr.refl _⟩⟩⟩,?_⟩;rintro _ _ w4⟨rfl,g4⟩;refine bn rfl λw5 hd=>?_;have g5:Gr w3 w5:=g4.trans (Gr.drawn hd);obtain⟨x,ad,vs,hx,Z,U,o1,l1,c1,rfl,_,Y⟩:=(hA.mono (gw.trans g5)).get (i:=0) ω;obtain⟨y,a9,vs,hy,a0,J,o2,l2,c2,rfl,_,X⟩:=(hG.mono (gw.trans g5)).get (i:=0) ω;have e1:l1=T:=by rw[<-Y.1];grind
 have e2:l2=N:=by rw[<-X.1];grind
 subst e1 e2;refine⟨λu=>Gr w5 u,Gr.refl _,_,_,_,λu g=>(V g5).cell0 g,aJ (i:=0) Z ω ⟨_,_,_,λu g=>U.cell0 g,_,_,_,λu g=>(V g5).cell g (j:=1) rfl,aJ (i:=0) a0 ω ⟨_,_,_,λu g=>J.cell0 g,λb u=>b=false/\Gr w3 u,bn (age ω) ⟨age ω,g5⟩,?_⟩⟩⟩;rintro _ _ am⟨rfl,a6⟩;refine bn rfl ⟨_,W a6,λz u=>∃j:Nat,z=j/\j<=n/\Gr w3 u,λz _=>n-z.toNat,⟨0,rfl,afL _,a6⟩,?_⟩;clear U J Y X hx hy Z a0;rintro _ _ a8⟨j,rfl,hj,O⟩;refine ae (λh1=>?_) λh1=>⟨rfl,gw.trans O⟩;have h1:j<n:=by simp_all
 obtain⟨x,ad,vs,hx,Z,U,o1,av,c1,rfl,_,Y⟩:=(hA.mono (gw.trans O)).get (i:=j) h1;obtain⟨y,a9,vs,hy,a0,J,o2,b4,c2,rfl,_,X⟩:=(hG.mono (gw.trans O)).get (i:=j) ω;have al:=ha x (afI hx);have b2:=ht y (afI hy);have e1:=Y.1;have e2:=X.1;refine⟨λb u=>b=false/\u=a8,⟨_,_,_,(V O).cell0 sZZ,aJ Z h1 ⟨_,_,_,U.cell0 sZZ,bn (by simp_all) ⟨_,_,_,(V O).cell sZZ (j:=1) rfl,aJ a0 ω ⟨_,_,_,J.cell0 sZZ,by simp_all,rfl⟩⟩⟩⟩,?_⟩;rintro _ _ b1⟨rfl,rfl⟩
 refine bn rfl ⟨_,_,_,(V O).cell0 sZZ,aJ Z h1 ⟨_,_,_,U.cell0 sZZ,(adm (p:=λ_=>false) Y rfl (λz hz u g=>?_) ω).mono ?_⟩⟩
 ·refine Cg (ag (St.all u) λk2 v1 hh=>⟨_,_,(af 0 hh.l).at sZZ rfl,_,W ((O.trans g).trans hh.aQ),?_⟩);rw[<-eA];refine(ae0 (al.2 z hz)).mono ?_;rintro _ v2⟨rfl,g2⟩;exact⟨_,rfl,rfl,hh.aQ.trans g2⟩
 rintro _ aa⟨rfl,a5⟩;have a4:Gr w3 aa:=O.trans a5
 refine⟨_,rfl,bn σ ⟨_,_,_,(V a4).cell sZZ (j:=1) rfl,aJ a0 ω ⟨_,_,_,(J.mono a5).cell0 sZZ,(RG (p:=λ_=>false) (X.mono a5) rfl (λz hz u g=>?_) ω).mono ?_⟩⟩⟩
 ·refine Ci (bn (age (by simp_all)) ⟨_,W (a4.trans g),by simp_all,Gr.refl _⟩)
 rintro _ b3⟨rfl,a7⟩;exact⟨_,rfl,bn σ ⟨⟨ω,ω⟩,⟨j+1,σ,h1,a4.trans a7⟩,bY h1⟩⟩
end
section
variable{g:ah}
theorem adx{n:Nat}(hn:1<=n)(a:aE):Lb n a<=n:=by grind[Lb]
theorem PD{n:Nat}(hn:1<=n):∀{l:List aE}{last:Int},Pv n last l->l=[]\/(l.length:Int)+last<=n
 |[],_,_=>.inl rfl
 |a::l,last,h=>by
  right
  have h1:=h.1
  have h2:=adx hn a
  rcases PD hn h.2 with rfl|h3
  ·grind
  grind
theorem aa8{n:Nat}(hn:1<=n){l:List aE}(h:Pw n l):l.length<=n+1:=by
 rcases PD hn h with rfl|h
 ·simp
 omega
end
section
variable{w:ahs}{L:List aC}{g:ah}{x:GA}
theorem ady{xs:List aE}{a:ahr}{c t:Nat}(hc:ax g)(hg:gR (hp w) g x)(hr:aY (hp w) xs a xs.length)(hcl:xs.length<=c)(ho:Pw g.prods.length xs)(ht:t<g.T):ρ 201 [.agg ⟨x.cells⟩,iI (t:Int),vS a xs.length c] w λv w'=>∃(o:ahr)(c':Nat),v=.tuple #[.slice o (fN g t xs).1.length c',vB (fN g t xs).2]/\St w' (own 2 o (fN g t xs).1.length c' (di (fN g t xs).1)::all w):=by
 obtain⟨sT,sN,sP,b7,_,_⟩:=hc.cX;have b5:=aa8 ω ho;refine EC (gH hg λk1 X gw b4 B=>?_);have Z:=hr.mono gw
 refine⟨λb u=>X=u/\(b=false↔∃y r,xs=y::r/\y.kind=1),ae (λJ=>⟨rfl,?_⟩) λJ=>?_,?_⟩
 ·simp_all
 ·have J:0<xs.length:=by grind
  obtain⟨y,ad,hy,rfl,ry⟩:=IE Z J
  obtain⟨r,bi⟩:∃r,xs=y::r:=by
   cases xs with
   |nil=>simp_all
   |cons z r=>simp_all
  rw[show(eV 0 2)=0 from rfl] at ry;refine uZ rfl J ⟨_,by simpa[Addr.add] using ry.cell0 sZZ,rfl,?_⟩
  simp_all
 rintro _ b _⟨rfl,hb⟩
 refine ae (λJ=>(PB Z ω).mono ?_) λJ=>?_
 ·rintro _ w3⟨o,c',rfl,h⟩;subst J
  have e:fN g t xs=(xs,false):=by
   cases xs with
   |nil=>rfl
   |cons y r=>exact Ey λhk=>by simp_all
  rw[e];exact⟨_,_,_,rfl,o,c',rfl,St.fb h (bH gw)⟩
 obtain⟨y0,r,rfl,av⟩:=hb.1 J;clear hb J;rw[x_ av];have bA:(y0::r).length=r.length+1:=rfl;have b1:aY (hp X) r (fE a 1 c 2) ((y0::r).length-1):=Z.drop (k:=1) (m:=c) σ hcl;refine dw (lo:=1) σ hcl ?_;have a9:∀i,((r.take i).filter (Gv g t)).length<=r.length:=λi=>by grind
 refine⟨λb2 b3 o n c' z u=>∃i:Nat,z=i/\i<=r.length/\b2=(r.take i).all (UT g t)/\b3=(r.take i).any (Vv g t)/\n=((r.take i).filter (Gv g t)).length/\St u (own 2 o n c' (di ((r.take i).filter (Gv g t)))::all X),λ_ _ _ _ _ z _=>r.length-z.toNat,⟨0,rfl,afL _,rfl,rfl,rfl,aI 2 (St.all X)⟩,?_⟩;rintro _ b2 b3 o3 _ c3 _ w4⟨i,rfl,hi,Y,a4,rfl,h⟩;have a8:Gr X w4:=aA 1 h.l;refine ae (λJ=>?_) λJ=>?_
 rotate_left
 ·have J:i=r.length:=by grind
  rw[J,af7] at Y a4 h;have a5:=a9 r.length;rw[af7] at a5;rw[J,af7]
  refine ae (λW=>?_) λW=>?_
  ·obtain⟨y,ad,hy,rfl,ry⟩:=IE (Z.mono a8) (show 0<(y0::r).length by simp);simp only[ahn,Option.some.injEq] at hy;subst hy;rw[show(eV 0 2)=0 from rfl,show ad.add 0=ad from by rfl] at ry;refine uZ rfl σ ⟨_,_,ry.at sZZ rfl,ag h λbe bB h=>(UX (y:=y0) h ω).mono ?_⟩;rintro _ bc⟨o',c',rfl,h⟩;rw[W] at Y;rw[afZ Y.symm,a4];exact⟨_,_,_,rfl,o',c',rfl,St.fb h (bH gw)⟩
  ·rw[W] at Y;rw[afV (by simp_all),a4,agY];exact⟨_,_,rfl,St.fb h (bH gw)⟩
 have J:i<r.length:=by simp_all
 obtain⟨y,ad,hy,al,ry⟩:=IE (b1.mono a8) (show i<(y0::r).length-1 by omega);have aa:y∈y0::r:=agO _ (afI hy);have bz:r.take (i+1)=r.take i++[y]:=by simp_all[afM]
 have b8:=a9 i;have sd:Ng g t y=if y.kind=2 then pO g y.to.toNat t else 0:=rfl
 --the four ends of a round
 have a0:∀{u:ahs}(O U:Bool),St u (own 2 o3 ((r.take i).filter (Gv g t)).length c3 (di ((r.take i).filter (Gv g t)))::all X)->Gv g t y=false->O=(b2&&UT g t y)->U=(b3||Vv g t y)->
   aD ((i:Int)+1)/\(∃V:Nat,(i:Int)+1=V/\V<=r.length/\O=(r.take V).all (UT g t)/\U=(r.take V).any (Vv g t)/\((r.take i).filter (Gv g t)).length=((r.take V).filter (Gv g t)).length/\St u (own 2 o3 ((r.take i).filter (Gv g t)).length c3 (di ((r.take V).filter (Gv g t)))::all X))/\r.length-((i:Int)+1).toNat<r.length-(i:Int).toNat:=λ{u} O U hu W h3 h4=>by
  have e:(r.take (i+1)).filter (Gv g t)=(r.take i).filter (Gv g t):=by simp_all
  exact⟨⟨ω,ω⟩,⟨i+1,σ,J,by simp_all,by simp_all,by rw[e],by simp_all⟩,bY J⟩
 have more:∀{u:ahs}{k:Nat}(O U:Bool),St u (az k (bD y)::own 2 o3 ((r.take i).filter (Gv g t)).length c3 (di ((r.take i).filter (Gv g t)))::all X)->Gv g t y=true->O=(b2&&UT g t y)->U=(b3||Vv g t y)->
   aX Tryz.prog (Builtin.append_ (Array.mk [bw,bw]) bw (Array.mk [.slice o3 ((r.take i).filter (Gv g t)).length c3,vS (some (aM k)) 1 1])) u λv u'=>∃o4 n4 c4,v=vS o4 n4 c4/\aD ((i:Int)+1)/\(∃V:Nat,(i:Int)+1=V/\V<=r.length/\O=(r.take V).all (UT g t)/\U=(r.take V).any (Vv g t)/\n4=((r.take V).filter (Gv g t)).length/\St u' (own 2 o4 n4 c4 (di ((r.take V).filter (Gv g t)))::all X))/\r.length-((i:Int)+1).toNat<r.length-(i:Int).toNat:=λ{u k} O U hu W h3 h4=>by
  have e:(r.take (i+1)).filter (Gv g t)=(r.take i).filter (Gv g t)++[y]:=by simp_all
  refine(aU (us:=di ((r.take i).filter (Gv g t))) aT (rfl:ai Ty _=.slice _) (rfl:ai Ty _=.slice _) rfl rfl rfl hu rfl (by simp[bD,aK]) (by grind) ω).mono ?_;rintro _ w9⟨o4,c4,rfl,h⟩;refine⟨_,_,_,rfl,⟨ω,ω⟩,⟨i+1,σ,J,by simp_all,by simp_all,by simp_all,?_⟩,bY J⟩;rw[e,Tj];exact h.pick 2 [0]
 refine aJ al ω ⟨_,_,ry.at sZZ rfl,ag h λk8 w5 h=>aL h rfl (by simp[aK]) λw6 h=>?_⟩;have r8:aj (hp w6) (aM k8) (bD y):=af 0 h.l;have a7:Gr X w6:=aA 2 h.l;have c0:=r8.cell0 sZZ
 refine⟨_,c0,ae (λW=>?_) λW=>?_⟩
 ·have W:y.kind=2:=by grind
  obtain⟨b6,bl⟩:0<y.to/\y.to<g.prods.length:=by
   rcases adr ho aa with⟨h,_⟩|⟨h,_⟩|⟨_,h⟩
   ·omega
   ·omega
   omega
  obtain⟨p,hp⟩:∃p:Nat,y.to=p:=⟨y.to.toNat,ω⟩;have es:Ng g t y=pO g p t:=by rw[sd,afZ W,hp,afU]
  refine⟨_,_,_,_,_,_,_,_,_,_,_,_,_,B.row a7,_,r8.cell sZZ (j:=1) rfl,?_⟩;rw[hp];refine(adu hc (b4.mono a7) ω ht).mono ?_;rintro _ w7⟨rfl,a6⟩;have h:=h.gr a6;have r8:=r8.mono a6;rw[<-es];have bb:=ads (g:=g) t y
  refine⟨_,rfl,ae (λh3=>?_) λh3=>ae (λh4=>?_) λh4=>ae (λh5=>?_) λh5=>?_⟩
  ·have h3:Ng g t y=3:=by grind
   exact a0 false true (h.pick 2 [1]) (age ω) (by grind[UT,decide_eq_false]) (by grind[Vv,decide_eq_true])
  ·have h3:¬Ng g t y=3:=by grind
   have h4:Ng g t y=2:=by grind
   refine⟨_,_,r8.at sZZ rfl,ag (h.pick 2 [1]) λam w8 h=>more false b3 h (agt (.inr h4)) (by grind[UT,decide_eq_false]) (by grind[Vv,decide_eq_false])⟩
  ·have h5:Ng g t y=0:=by grind
   refine⟨_,_,r8.at sZZ rfl,ag (h.pick 2 [1]) λam w8 h=>more b2 b3 h (agt (.inl h5)) (by grind[UT,decide_eq_true]) (by grind[Vv,decide_eq_false])⟩
  ·have h3:¬Ng g t y=3:=by grind
   have h4:¬Ng g t y=2:=by grind
   have h5:¬Ng g t y=0:=by grind
   exact a0 b2 b3 (h.pick 2 [1]) (age ω) (by grind[UT,decide_eq_true]) (by grind[Vv,decide_eq_false])
 ·have W:¬y.kind=2:=by grind
  have es:Ng g t y=0:=ω
  refine bn rfl (bn rfl (dL rfl ⟨_,_,r8.at sZZ rfl,ag (h.pick 2 [1]) λk26 ba h=>more b2 b3 h (agt (.inl es)) (by rw[show UT g t y=true from agt ⟨ω,ω⟩];simp) (by rw[show Vv g t y=false from age ω];simp)⟩))
theorem U0{xs:List aE}{a:ahr}{c t:Nat}{st:Int}(hc:ax g)(hg:gR (hp w) g x)(hr:aY (hp w) xs a xs.length)(hcl:xs.length<=c)(ho:Pw g.prods.length xs)(ht:t<g.T):ρ 106 [.agg ⟨x.cells⟩,.agg #[iI st,iI (t:Int),vS a xs.length c]] w λv w'=>∃(o:ahr)(c':Nat),v=.tuple #[.agg ⟨bD (CR (fN g t xs))⟩,.slice o (pP (fN g t xs).1).length c']/\St w' (own 2 o (pP (fN g t xs).1).length c' (di (pP (fN g t xs).1))::all w):=by
 refine zF (gH hg λk1 w1 gw Y B=>ag (St.all w1) λk2 w2 h=>ag h λk3 w3 h=>?_);have J:Gr w1 w3:=aA 2 h.l;have r2:aj (hp w3) (aM k2) [iI st,iI (t:Int),vS a xs.length c]:=af 1 h.l;refine⟨_,_,_,_,_,_,_,_,_,_,_,_,_,B.row J,_,r2.cell sZZ (j:=1) rfl,_,_,_,r2.cell sZZ (j:=2) rfl,(ady hc (Y.mono J) (hr.mono (gw.trans J)) hcl ho ht).mono ?_⟩;obtain⟨l,hl⟩:∃l,l=fN g t xs:=⟨_,rfl⟩;rw[<-hl];rintro _ w4⟨o,c',rfl,h4⟩;have h:St w4 (own 2 o l.1.length c' (di l.1)::az k3 [iI 0,iI 0]::az k2 [iI st,iI (t:Int),vS a xs.length c]::all w1):=St.fb h4 h.l;clear h4;obtain⟨l,b⟩:=l;have fr:∀{u:ahs}{L':List aC}{h0:Hp},St u (L'++[has h0])->sub h0 (hp u):=λh=>St.gone h
 refine⟨_,_,_,_,rfl,ae (λV=>?_) λV=>ae (λW=>?_) λW=>ae (λO=>?_) λO=>?_⟩
 ·have V:1<l.length:=by grind
  have U:pP l=l:=by unfold pP;grind
  intro w5 hd;have h:=h.drawn hd
  obtain⟨y,r,rfl⟩:∃y r,l=y::r:=by
   cases l with
   |nil=>simp_all
   |cons y r=>simp
  obtain⟨ad,rfl⟩:=eE h (by simp[oq])
  have ry:aj (hp w5) ad (bD y):=aj.take (vs:=di r) (by
   rcases dE 0 h.l with e|⟨Z,e,hr⟩
   ·grind[di,bD]
   ·cases e;exact hr)
  refine⟨λu=>Gr w5 u,Gr.refl _,uZ rfl σ ⟨_,_,λu s=>ry.at s rfl,?_⟩⟩;have a0:=bI h;refine b_ (b9 a0 ⟨_,_,_,rfl,Gr.refl _,?_⟩);refine aL ((cj h).pick 2 [1,0]) rfl (by simp[aK]) λX h=>⟨_,_,(af 0 h.l).at sZZ rfl,?_⟩
  show∃(o:ahr)(c':Nat),_/\St X (own 2 o (pP (y::r)).length c' (di (pP (y::r)))::all w)
  rw[U];exact⟨_,_,rfl,St.fb (h.pick 3 [1]) (bH gw)⟩
 ·have V:¬1<l.length:=by grind
  have W:l.length=1:=by grind
  have U:pP l=[]:=by simp_all[pP]
  obtain⟨y,rfl⟩:∃y,l=[y]:=by
   match l,W with
   |[y],_=>simp
  obtain⟨ad,rfl⟩:=eE h (by simp[oq])
  have ry:aj (hp w4) ad (bD y):=by
   rcases dE 0 h.l with e|⟨Z,e,hr⟩
   ·grind[di,bD]
   ·cases e;exact hr
  refine uZ rfl σ ⟨_,_,ry.at sZZ rfl,aL (h.pick 2 [1]) rfl (by simp[aK]) λX h=>⟨_,_,(af 0 h.l).at sZZ rfl,none,0,?_,?_⟩⟩
  ·rfl
  ·rw[U];exact aI 2 (St.here (sub.trans gw (aA 2 h.l)))
 ·have V:¬1<l.length:=by grind
  have W:¬l.length=1:=by grind
  have e:l=[]:=afY ω;subst e;have O:b=true:=O;subst O;refine aL (h.pick 2 [1]) rfl (by simp[aK]) λX h=>⟨_,_,(af 0 h.l).at sZZ rfl,none,0,rfl,aI 2 (St.here (sub.trans gw (aA 2 h.l)))⟩
 ·have V:¬1<l.length:=by grind
  have W:¬l.length=1:=by grind
  have e:l=[]:=afY ω;subst e;have O:b=false:=O;subst O;refine aL (h.pick 2 [1]) rfl (by simp[aK]) λX h=>⟨_,_,(af 0 h.l).at sZZ rfl,none,0,rfl,aI 2 (St.here (sub.trans gw (aA 2 h.l)))⟩
end
theorem Yz{α:Type}{f:α->List Value}{n:Nat}(hf:∀x,(f x).length=n):∀(xs:List α)(i:Nat)(y:α),i<xs.length->(xs.flatMap f).take (i*n)++f y++(xs.flatMap f).drop (i*n+n)=(xs.set i y).flatMap f
 |[],i,y,h=>by grind
 |x::xs,0,y,_=>by simp_all
 |x::xs,i+1,y,h=>by
  have hx:=hf x
  have ih:=Yz hf xs i y (by simp_all)
  simp_all[List.set_cons_succ,ahi,Nat.add_comm,List.take_append,List.drop_append,af3,List.drop_of_length_le]
theorem adz{w:ahs}{L:List aC}{n c i:Nat}{o:ahr}{ds:List E8}{b:E8}(h:St w (own 3 o n c (E9 ds)::L))(hb:ds[i]? =some b):∃ad,o=some ad/\aj (hp w) (ad.add (eV i 3)) (ckE b):=by
 rcases dE 0 h.l with e|⟨ad,e,hc⟩
 ·have u:=congrArg List.length e
  grind[MW,List.length_nil,List.getElem?_eq_some_iff]
 ·exact⟨ad,e,cG (n:=3) (λ_=>rfl) ds ad hc i b hb⟩
section
variable{w:ahs}{L:List aC}{g:ah}{x:GA}
theorem Tw{ss:List SQ}{nn:List Bool}{a i f:Int}{l:Nat}(hR:EZ g ss a i f):(pD g nn ss l).length<=16640:=by
 by_cases hf:f=0
 ·obtain⟨hc,hA⟩:=hR.P7 hf;have u:=hA.dn.2.1;obtain⟨J,_⟩:=hc.cX;have U:=K5 (g:=g) (nn:=nn) (ss:=ss) (least:=l) (n:=ss.length);have O:ss.length*g.T<=256*65:=Nat.mul_le_mul ω J
  grind[pD]
 ·rw[hR.nil hf];exact afL _
end
section
variable{g:ah}{nn:List Bool}{ss ss':List SQ}{w:ahs}{L:List aC}
def IK(g:ah)(es:List aH):List Int:=(List.range g.N).map λj=>match es.find? λe=>decide (e.sym=((g.T+j:Nat):Int)) with
 |some e=>e.to
 |none=>-1
theorem YA{es:List aH}:(IK g es).length=g.N:=by simp[IK]
theorem YB:IK g []=List.replicate g.N (-1):=by
 show(List.range g.N).map (λ_=>(-1:Int))=_
 rw[List.map_const',agK]
theorem Le{es:List aH}{e:aH}(hn:∀x∈es,x.sym≠e.sym)(h1:e.sym<g.T+g.N):IK g (es++[e])=if(g.T:Int)<=e.sym then(IK g es).set (e.sym-g.T).toNat e.to else IK g es:=by
 refine agq λj=>?_
 have base:∀es:List aH,(IK g es)[j]? =if j<g.N then some (match es.find? λe=>decide (e.sym=((g.T+j:Nat):Int)) with|some e=>e.to|none=>-1) else none:=λes=>by
  unfold IK
  grind
 have u:e.sym=((g.T+j:Nat):Int)->es.find? (λe=>decide (e.sym=((g.T+j:Nat):Int)))=none:=λJ=>by simp_all
 rw[base,List.find?_append]
 by_cases J:e.sym=((g.T+j:Nat):Int)
 ·grind
 grind
def J7(g:ah)(ss:List SQ)(q:Nat):List Int:=(List.range g.N).map λj=>Cq ss q ((g.T+j:Nat):Int)
theorem YC{q:Nat}{r:SQ}(hr:ss[q]? =some r):IK g r.2.2=J7 g ss q:=by grind[IK,J7,List.map_congr_left,Cq,tw,decide]
theorem aa9(h:cr ss=cr ss'):Ez g ss=Ez g ss':=by grind[Ez,My,List.map_congr_left,Cq,HS]
theorem Tx:∀n,iX n [iI 0,iI 0]=di (List.replicate n ⟨0,0⟩)
 |0=>rfl
 |n+1=>by
  rw[agW]
  show[iI 0,iI 0]++iX n _=bD ⟨0,0⟩++di (List.replicate n ⟨0,0⟩)
  rw[Tx n];rfl
def abY(oa:ahr)(ca:Nat)(og:ahr)(cg:Nat)(oc:ahr)(cc:Nat)(AL:List (Lq aE))(GL:List (Lq Int))(CL:List E8):List aC:=
 [own 1 oa AL.length ca (AL.map bS),aV (AL.map (bG 2 di)),own 1 og GL.length cg (GL.map bS),aV (GL.map (bG 1 iv)),own 3 oc CL.length cc (E9 CL),aV (C_ CL)]
def afz(g:ah)(w:ahs)(v:Value)(w':ahs):Prop:=∃(ss:List SQ)(ask int f:Int)(nn:List Bool)(oa:ahr)(ca:Nat)(og:ahr)(cg:Nat)(oc:ahr)(cc:Nat)(AL:List (Lq aE))(GL:List (Lq Int))(CL:List E8),
 v=.tuple #[.agg #[vS oa AL.length ca,vS og GL.length cg,vS oc CL.length cc],iI f]/\EZ g ss ask int f/\(f=0->u6 g nn)/\AL.map (·.2)=CS g nn ss/\GL.map (·.2)=Ez g ss/\CL.map oy=RI g nn ss/\St w' (abY oa ca og cg oc cc AL GL CL++all w)
theorem ae1{ds:List E8}{i:Nat}{b:E8}(h:St w (aV (C_ ds)::L))(hb:ds[i]? =some b):b.2.2.length<=b.2.1.2/\aY (hp w) b.2.2 b.2.1.1 b.2.2.length:=by
 have hA:(C_ ds)[i]? =some (bG 2 di b.2):=by simp_all[C_]
 have u:=St.out h hA;exact⟨bI u,CO rfl (dE 0 u.l)⟩
theorem ae2{n c q t:Nat}{o:ahr}{AL:List (Lq aE)}{b:Lq aE}{y:aE}{X:ahs->Prop}(hq:AL[q]? =some b)(ht:t<b.2.length)(h:St w (own 1 o n c (AL.map bS)::aV (AL.map (bG 2 di))::L))
  (hX:∀w',St w' (own 1 o n c ((AL.set q (b.1,b.2.set t y)).map bS)::aV ((AL.set q (b.1,b.2.set t y)).map (bG 2 di))::L)->X w'):idx b.1.1 b.2.length (t:Int) 2 λa=>bC w a [iI y.kind,iI y.to] X:=by
 have u:=(afK.1 hq).1;have hA:(AL.map (bG 2 di))[q]? =some (bG 2 di b):=by simp_all
 have h:=St.QK (h.pick 2 [1,0]) hA;have h:St w (own 2 b.1.1 b.2.length b.1.2 (di b.2)::aV ((AL.map (bG 2 di)).take q++(AL.map (bG 2 di)).drop (q+1))::own 1 o n c (AL.map bS)::L):=h;obtain⟨U,ha⟩:=eE h (by grind[oq]);refine aJ ha ht ?_;rw[bg];refine Ge (i:=t*2) h ha (by grind[oq]) (by simp[aK]) σ λw' h=>hX w' ?_;have e:=Yz (f:=bD) (n:=2) (λ_=>rfl) b.2 t y ht;have h:St w' (own 2 b.1.1 b.2.length b.1.2 ((b.2.flatMap bD).take (t*2)++bD y++(b.2.flatMap bD).drop (t*2+2))::aV ((AL.map (bG 2 di)).take q++(AL.map (bG 2 di)).drop (q+1))::own 1 o n c (AL.map bS)::L):=h;rw[e] at h;have J:bG 2 di (b.1,b.2.set t y)=own 2 b.1.1 b.2.length b.1.2 ((b.2.set t y).flatMap bD):=by unfold bG;rw[agF];rfl
 rw[<-J] at h;have O:(AL.set q (b.1,b.2.set t y)).map bS=AL.map bS:=by simp_all[BS,bS]
 rw[O,ags];exact(St.Wy (M:=AL.map (bG 2 di)) (n:=q) (by simp_all) h).swap
end
structure M5(AL:List (Lq aH))(n:Nat)(F:Nat->List aH):Prop where
 l:AL.length=n
 e:∀(i:Nat)(b:Lq aH),AL[i]? =some b->b.2=F i
section
variable{w:ahs}{L:List aC}{AL:List (Lq aH)}{n q k:Nat}{F:Nat->List aH}
theorem M5.new(n:Nat):M5 (List.replicate n ((none,0),[])) n λ_=>[]:=⟨σ,λi b h=>by grind⟩
theorem M5.set(h:M5 AL n F){o:ahr}{c:Nat}{l:List aH}:M5 (AL.set q ((o,c),l)) n λi=>if i=q then l else F i:=⟨by rw[agF];exact h.l,λi b hb=>by
 rw[List.getElem?_set] at hb
 split at hb
 ·grind
 ·rename_i e
  rw[afV (λx=>e x.symm)]
  exact h.e i b hb⟩
theorem M5.ext(h:M5 AL n F){G:Nat->List aH}(hG:∀i<n,F i=G i):M5 AL n G:=⟨h.l,λi b hb=>by rw[h.e i b hb];exact hG i (by have:=(afK.1 hb).1;rw[<-h.l];omega)⟩
theorem M5.map(h:M5 AL n F):AL.map (·.2)=(List.range n).map F:=by
 refine agq λi=>?_;rw[afQ,afQ]
 by_cases hi:i<n
 ·rw[afJ (by rw[h.l];omega),agR hi];exact congrArg some (h.e i _ (afJ (by rw[h.l];omega)))
 ·rw[agl (by rw[h.l];omega),agl (by simp_all)];rfl
theorem abZ(h:St w (az k (AL.map bS)::aV (AL.map (bG 2 p8))::L)):aY (hp w) (AL.map (·.2)) (some (aM k)) AL.length:=by
 refine⟨σ,λi x u=>?_⟩;rw[afQ] at u;cases hb:AL[i]? with
 |none=>simp_all
 |some b=>
  rw[hb] at u;cases u;have hA:(AL.map (bG 2 p8))[i]? =some (bG 2 p8 b):=by grind
  have J:=St.out h.tail hA;have O:=cG (f:=λb:Lq aH=>[bS b]) (n:=1) (λ_=>rfl) AL (aM k) (by have:=af 0 h.l;rwa [<-List.map_eq_flatMap] ) i b hb;exact⟨_,_,rfl,O,_,_,_,rfl,bI J,SO rfl (dE 0 J.l)⟩
theorem M6:∀n,iX n [vS none 0 0]=(List.replicate n (((none,0),[]):Lq aH)).map bS
 |0=>rfl
 |n+1=>by
  rw[agW,agv,<-M6 n]
  rfl
theorem Tz(h:St w L):∀n,St w (aV ((List.replicate n (((none,0),[]):Lq aH)).map (bG 2 p8))::L):=λn=>by simp_all[Lq,bG,p8,List.map_replicate,BQ,aI]
end
def CU(by_:Int)(l:List aE)(t:Nat):List aH:=(List.range t).flatMap λt=>RF by_ t (l.getD t ⟨0,0⟩)
theorem RJ(by_:Int)(l:List aE)(t:Nat):CU by_ l (t+1)=CU by_ l t++RF by_ t (l.getD t ⟨0,0⟩):=by simp[CU,agx]
def Fb(to:Int)(l:List Int)(t:Nat):List aH:=(List.range t).flatMap λq=>Ts to q (l.getD q 0)
theorem RK(to:Int)(l:List Int)(t:Nat):Fb to l (t+1)=Fb to l t++Ts to t (l.getD t 0):=by simp[Fb,agx]
theorem CV{α β:Type}(f:α->List β)(h1:∀x,(f x).length<=1):∀l:List α,(l.flatMap f).length<=l.length
 |[]=>σ
 |x::l=>by have:=CV f h1 l;grind
theorem adB(b:Int)(t:Nat)(a:aE):(RF b t a).length<=1:=by grind[RF]
theorem adC(b:Int)(t:Nat)(a:Int):(Ts b t a).length<=1:=by grind[Ts]
theorem PE(b:Int)(l:List aE)(t:Nat):(CU b l t).length<=t:=by
 have:=CV (λt=>RF b t (l.getD t ⟨0,0⟩)) (λx=>adB ..) (List.range t);rw[agK] at this;exact this
theorem PF(b:Int)(l:List Int)(t:Nat):(Fb b l t).length<=t:=by
 have:=CV (λt=>Ts b t (l.getD t 0)) (λx=>adC ..) (List.range t);rw[agK] at this;exact this
theorem PG{f:Nat->List aH}(h1:∀x,f x=[]\/∃z,f x=[⟨(x:Int),z⟩])(n:Nat):(((List.range n).flatMap f).map (·.sym)).Nodup/\∀e∈(List.range n).flatMap f,0<=e.sym/\e.sym<n:=by
 induction n with
 |zero=>simp
 |succ n ih=>
  rw[agx,agh,af8,agw];simp only[agr,List.flatMap_nil,agc]
  rcases h1 n with e|⟨z,e⟩
  ·grind
  grind
theorem adD{n:Nat}{a:aE}(h:Ex n a)(hn:n<=1000):-1000000<=we a/\we a<=1000000:=by grind[we,Ex]
theorem aa_{b:Int}{l:List aE}{N:Nat}(hm:∀a∈l,Ex N a)(hN:N<=1000)(hl:l.length<=65):US (J4 b l):=by
 have J:=PG (f:=λt=>RF b t (l.getD t ⟨0,0⟩)) (λx=>by unfold RF;grind) l.length;refine⟨λe u=>by have:=J.2 e u;omega,J.1,λe u=>?_,by have:=PE b l l.length;grind[CU,J4]⟩;obtain⟨t,a,ha,_,_,rfl⟩:=pK.1 u;exact adD (hm a (afI ha)) hN
theorem aba{b:Int}{l:List Int}{N:Nat}(hm:∀a∈l,a<N)(hN:N<=1000)(hl:l.length<=256):US (J5 b l):=by
 have J:=PG (f:=λt=>Ts b t (l.getD t 0)) (λx=>by unfold Ts;grind) l.length;refine⟨λe u=>by have:=J.2 e u;omega,J.1,λe u=>?_,by have:=PF b l l.length;grind[Fb,J5]⟩;obtain⟨t,a,ha,h0,_,rfl⟩:=tO.1 u;have:=hm a (afI ha)
 grind
section
variable{w:ahs}{L:List aC}{AL:List (Lq aH)}{n q k26:Nat}{b:Lq aH}
theorem TA{k39:Nat}{y:aH}{I:ahs->Prop}{K:ahs->Prop}(hq:AL[q]? =some b)(hn:AL.length=n)(hlen:b.2.length<=1000)(h:St w (az k39 [iI y.sym,iI y.to]::az k26 (AL.map bS)::aV (AL.map (bG 2 p8))::L))
  (hI:∀u,aj (hp u) (aM k26) (AL.map bS)->aG L (hp u)->I u) (hK:∀u o' c',St u (az k26 ((AL.set q ((o',c'),b.2++[y])).map bS)::aV ((AL.set q ((o',c'),b.2++[y])).map (bG 2 p8))::L)->K u):
  aX Tryz.prog (fX zR (Array.mk [vS b.1.1 b.2.length b.1.2,vS (some (aM k39)) 1 1])) w λv5 w20=>∃o17 k40 k41,v5=vS o17 k40 k41/\I w20/\idx (some (aM k26)) n (q:Int) 1 λa4=>st1 w20 a4 (vS o17 k40 k41) K:=by
 have V:=(afK.1 hq).1;have hA:(AL.map (bG 2 p8))[q]? =some (bG 2 p8 b):=by grind
 have h:=St.QK (h.pick 3 [2,0,1]) hA;have h:St w (own 2 b.1.1 b.2.length b.1.2 (p8 b.2)::aV ((AL.map (bG 2 p8)).take q++(AL.map (bG 2 p8)).drop (q+1))::az k39 [iI y.sym,iI y.to]::az k26 (AL.map bS)::L):=h;refine(aU (us:=p8 b.2) (vs:=[iI y.sym,iI y.to]) aT (rfl:ai Ty _=.slice _) (rfl:ai Ty _=.slice _) rfl rfl rfl (h.pick 4 [2,0,3,1]) rfl (by simp[aK]) (by grind) ω).mono ?_;rintro _ w20⟨o',c',rfl,h⟩;refine⟨_,_,_,rfl,hI w20 (af 2 h.l) h.tail.tail.tail.tail.l,ay rfl ω ?_⟩;rw[ak];refine aR (i:=q) (h.pick 4 [2,0,3]) (by simp_all) λJ h=>hK J o' c' ?_
 have U:(AL.map bS).set q (vS o' (b.2.length+1) c')=(AL.set q ((o',c'),b.2++[y])).map bS:=by
  rw[ags];congr 1
  show _=Value.slice o' (b.2++[y]).length c'
  simp
 have O:bG 2 p8 ((o',c'),b.2++[y])=own 2 o' (b.2.length+1) c' (p8 b.2++[iI y.sym,iI y.to]):=by simp[bG,p8,Uu]
 rw[U,<-O] at h;rw[show(AL.set q ((o',c'),b.2++[y])).map (bG 2 p8)=(AL.map (bG 2 p8)).set q (bG 2 p8 ((o',c'),b.2++[y])) from ags];exact(St.Wy (M:=AL.map (bG 2 p8)) (n:=q) (by simp_all) (h.pick 3 [1,2,0])).swap
theorem YD{x:aE}{t N k36:Nat}{w14:ahs}{K:ahs->Prop}(hq:AL[q]? =some b)(hn:AL.length=n)(hlen:b.2.length<=1000)(hm:Ex N x)(hN:N<=1000)(h:St w14 (az k36 (bD x)::az k26 (AL.map bS)::aV (AL.map (bG 2 p8))::L))
  (hK:∀u o' c',St u (az k26 ((AL.set q ((o',c'),b.2++[⟨(t:Int),we x⟩])).map bS)::aV ((AL.set q ((o',c'),b.2++[⟨(t:Int),we x⟩])).map (bG 2 p8))::L)->K u):
  ∀w15,drawn w14 w15->∃(I3:ahs->Prop),I3 w15/\idx (some (aM k26)) n (q:Int) 1 λa3=>∃o16 k37 k38,(∀w16,I3 w16->World.cell? w16 a3=some (vS o16 k37 k38))/\∃n8 n9,(∀w17,I3 w17->rowAt w17 (aM k36) 0 2=some [iI n8,iI n9])/\iK Tryz.prog Ev EY [vA (Array.mk [iI n8,iI n9])] w15 λv4 w18=>∃n10,v4=iI n10/\I3 w18/\new w18 (oC [iI (t:Int),iI n10] N6) λk39 w19=>I3 w19/\aX Tryz.prog (fX zR (Array.mk [vS o16 k37 k38,vS (some (aM k39)) 1 1])) w19 λv5 w20=>∃o17 k40 k41,v5=vS o17 k40 k41/\I3 w20/\idx (some (aM k26)) n (q:Int) 1 λa4=>st1 w20 a4 (vS o17 k40 k41) K:=by
 intro w15 O;have h:=h.drawn O;have J:=(afK.1 hq).1;refine⟨λu=>aj (hp u) (aM k26) (AL.map bS)/\aj (hp u) (aM k36) (bD x),⟨af 1 h.l,af 0 h.l⟩,ay rfl ω ⟨_,_,_,λu r=>r.1.cell sZZ (j:=q) (v:=bS b) (by simp_all),_,_,λu r=>r.2.at sZZ rfl,(adw hm hN).mono ?_⟩⟩;rintro _ w18⟨rfl,g⟩;have h:=h.gr g;refine⟨_,rfl,⟨af 1 h.l,af 0 h.l⟩,ag h λk39 w19 h=>⟨⟨af 2 h.l,af 1 h.l⟩,?_⟩⟩;exact TA (y:=⟨(t:Int),we x⟩) (L:=az k36 (bD x)::L) hq hn hlen (h.pick 4 [0,2,3,1]) (λu r s=>⟨r,af 0 s⟩) λu o' c' h=>hK u o' c' (h.pick 3 [0,1])
end
abbrev pkL(p:dH)(x:PA)(L:List aC):List aC:=
 own 1 x.d.1 x.d.2.1 x.d.2.2 (iv p.df)::own 1 x.a1.1 x.a1.2.1 x.a1.2.2 (iv p.ac.bs)::own 1 x.a2.1 x.a2.2.1 x.a2.2.2 (iv p.ac.vs)::own 1 x.a3.1 x.a3.2.1 x.a3.2.2 (iv p.ac.os)::
 own 1 x.t.1 x.t.2.1 x.t.2.2 (iv p.tg)::own 1 x.g1.1 x.g1.2.1 x.g1.2.2 (iv p.gt.bs)::own 1 x.g2.1 x.g2.2.1 x.g2.2.2 (iv p.gt.vs)::own 1 x.g3.1 x.g3.2.1 x.g3.2.2 (iv p.gt.os)::L
structure PkB(p:dH):Prop where
 a1:p.ac.os.length<=100000
 a2:∀z∈p.ac.vs,-1000000<=z/\z<=1000000
 g1:p.gt.os.length<=100000
 g2:∀z∈p.gt.vs,-1000000<=z/\z<=1000000
abbrev z8:List Value:=[vS none 0 0,vS none 0 0,vS none 0 0,vS none 0 0,vS none 0 0,vS none 0 0,vS none 0 0,vS none 0 0]
theorem YE{α:Type}{l m:List α}{i:Nat}{z:α}(h:i<l.length):(l++m).getD i z=l.getD i z:=by grind
section
variable{w:ahs}{a d:ahr}{n c e f:Nat}{As:List (List aE)}{Gs:List (List Int)}{T N:Nat}
theorem adE(hA:aY (hp w) As a n)(hG:aY (hp w) Gs d e)(hD:Yy As Gs T N):ρ 44 [.agg #[vS a n c,vS d e f]] w λv w'=>∃(p:dH)(x:PA),v=.tuple #[.agg ⟨x.cells⟩,iI 0]/\E_ As Gs N p/\PkB p/\St w' (pkL p x (all w)):=by
 have eA:=hA.1;have eG:=hG.1;have ep:=hD;obtain⟨n1,n2,eg,t1,t2,s1,s2,ha,ht⟩:=hD;refine JM (ag (St.all w) λk1 w1 h=>ag h λk2 w2 h=>⟨_,_,_,_,_,_,(af 1 h.l).at sZZ rfl,?_⟩);have gw:Gr w w2:=h.tail.aQ;refine(aa7 (hA.mono gw) (hG.mono gw) ep).mono ?_;rintro _ w3⟨rfl,g3⟩;have h:=h.gr g3;obtain⟨h0,ca,s0,h⟩:=h.freeze;have b4:aj h0 (aM k1) [vS a n c,vS d e f]:=af 0 ca;have cz:sub (hp w) h0:=aA 1 ca;have eB:=hA.mono cz;have cg:=hG.mono cz;refine⟨_,rfl,bn rfl (ag h λW w5 h=>⟨_,_,_,b4.cell0 (aA 2 h.l),⟨ω,rfl,ω⟩,?_⟩)⟩;rw[afU,M6];refine ag h λk26 w6 h=>?_;have h:=Tz h n;have h:St w6 (az k26 ((List.replicate n (((none,0),[]):Lq aH)).map bS)::aV ((List.replicate n (((none,0),[]):Lq aH)).map (bG 2 p8))::az W z8::own 1 none 0 0 (iv [])::az k2 z8::[has h0]):=(aI 1 h).pick 6 [2,1,3,0,4,5]
 refine⟨_,_,_,b4.cell0 (aA 5 h.l),λz u=>∃(q:Nat)(df:List Int)(AL:List (Lq aH))(o:ahr)(c:Nat),z=q/\q<=n/\df.length=q/\M5 AL n (λi=>if i<q then J4 (df.getD i 0) (As.getD i []) else[])/\(∀(i:Nat)(l:List aE),i<q->As[i]? =some l->df.getD i 0=-1\/∃a∈l,a.kind=2/\a.to=df.getD i 0)/\
  St u (az k26 (AL.map bS)::aV (AL.map (bG 2 p8))::az W [vS o q c,vS none 0 0,vS none 0 0,vS none 0 0,vS none 0 0,vS none 0 0,vS none 0 0,vS none 0 0]::own 1 o q c (iv df)::az k2 z8::[has h0]),λz _=>n-z.toNat,⟨0,[],_,none,0,rfl,afL _,rfl,(M5.new n).ext λi _=>σ,λi l hi=>absurd hi ω,h⟩,?_⟩
 clear h;rintro _ _ w7⟨q,df,AL,o,cc,rfl,hq,g0,hF,em,h⟩
 refine ae (λh1=>?_) λh1=>?_
 ·have h1:q<n:=by simp_all
  have s7:sub h0 (hp w7):=aA 5 h.l;obtain⟨l,ad,vs,hl,cd,bc,eU,a0,eN,rfl,_,b3⟩:=eB.get h1;have cp:=afI hl;obtain⟨e8,ck⟩:=ha l cp;have dk:a0=T:=by rw[<-b3.1];omega
  subst dk;have ch:As.getD q []=l:=by simp_all
  refine aJ cd h1 ⟨_,_,_,bc.cell0 s7,(aa5 (b3.mono s7) ω).mono ?_⟩;rintro _ w8⟨bz,rfl,fg,g8⟩;have h:=h.gr g8;refine⟨_,rfl,_,_,_,(af 2 h.l).cell0 sZZ,ag h λf7 w9 h=>?_⟩;refine(aU (us:=iv df) (vs:=[iI bz]) aT (rfl:ai Ty _=.slice _) (rfl:ai Ty _=.slice _) rfl rfl rfl (h.pick 5 [0,4,1,2,3]) rfl (by simp[aK]) (by grind) ω).mono ?_;rintro _ f8⟨a7,a6,rfl,h⟩;refine⟨_,_,_,rfl,aR (i:=0) (h.pick 5 [4,0,2,3]) σ λfc h=>?_⟩;have e0:iv df++[iI bz]=iv (df++[bz]):=by simp[iv]
  rw[e0] at h;obtain⟨F,b6⟩:∃F:Nat->List aH,F=λi=>if i<q then J4 (df.getD i 0) (As.getD i []) else[]:=⟨_,rfl⟩
  rw[<-b6] at hF;have bP:F q=[]:=by simp_all
  refine⟨λz u=>∃(t:Nat)(AL:List (Lq aH)),z=t/\t<=a0/\M5 AL n (λi=>if i=q then CU bz l t else F i)/\
   St u (az k26 (AL.map bS)::aV (AL.map (bG 2 p8))::az W [vS a7 (q+1) a6,vS none 0 0,vS none 0 0,vS none 0 0,vS none 0 0,vS none 0 0,vS none 0 0,vS none 0 0]::own 1 a7 (q+1) a6 (iv (df++[bz]))::az k2 z8::[has h0]),λz _=>a0-z.toNat,⟨0,AL,rfl,afL _,hF.ext λi hi=>by
    try dsimp only
    split
    ·rename_i e;rw[e,bP];rfl
    rfl,h.pick 6 [2,3,0,1,4,5]⟩,?_⟩
  clear h hF;rintro _ _ ey⟨t,AL,rfl,bl,hF,h⟩;have eD:sub h0 (hp ey):=aA 5 h.l
  refine ae (λh2=>?_) λh2=>?_
  ·have h2:t<a0:=by simp_all
   obtain⟨x,f5,vs,hx,dc,bT,c8⟩:=(b3.mono eD).get h2;have c8:vs=bD x:=c8;subst c8;have ej:l.getD t ⟨0,0⟩=x:=by simp_all
   have d4:=ck x (afI hx);obtain⟨b,hb⟩:∃b,AL[q]? =some b:=⟨_,afJ (by rw[hF.l];omega)⟩;have ek:b.2=CU bz l t:=by have:=hF.e q b hb;simp_all
   have av:b.2.length<=1000:=by grind[PE]
   have Y:=RJ bz l t;rw[ej] at Y;refine aJ dc h2 ⟨_,_,bT.at sZZ rfl,ag h λfw f9 h=>aL h rfl (by simp[aK]) λeo h=>⟨_,(af 0 h.l).cell0 sZZ,?_⟩⟩
   have skip:RF bz t x=[]->aD ((t:Int)+1)/\(∃(t':Nat)(AL:List (Lq aH)),(t:Int)+1=t'/\t'<=a0/\M5 AL n (λi=>if i=q then CU bz l t' else F i)/\St eo (az k26 (AL.map bS)::aV (AL.map (bG 2 p8))::az W [vS a7 (q+1) a6,vS none 0 0,vS none 0 0,vS none 0 0,vS none 0 0,vS none 0 0,vS none 0 0,vS none 0 0]::own 1 a7 (q+1) a6 (iv (df++[bz]))::az k2 z8::[has h0]))/\a0-((t:Int)+1).toNat<a0-(t:Int).toNat:=λhe=>by
    rw[he,agc] at Y;exact⟨⟨ω,ω⟩,⟨t+1,AL,σ,h2,by grind,h.tail⟩,bY h2⟩
   have bB:RF bz t x=[⟨(t:Int),we x⟩]->∀u o' c',St u (az k26 ((AL.set q ((o',c'),b.2++[⟨(t:Int),we x⟩])).map bS)::aV ((AL.set q ((o',c'),b.2++[⟨(t:Int),we x⟩])).map (bG 2 p8))::az W [vS a7 (q+1) a6,vS none 0 0,vS none 0 0,vS none 0 0,vS none 0 0,vS none 0 0,vS none 0 0,vS none 0 0]::own 1 a7 (q+1) a6 (iv (df++[bz]))::az k2 z8::[has h0])->aD ((t:Int)+1)/\(∃(t':Nat)(AL:List (Lq aH)),(t:Int)+1=t'/\t'<=a0/\M5 AL n (λi=>if i=q then CU bz l t' else F i)/\St u (az k26 (AL.map bS)::aV (AL.map (bG 2 p8))::az W [vS a7 (q+1) a6,vS none 0 0,vS none 0 0,vS none 0 0,vS none 0 0,vS none 0 0,vS none 0 0,vS none 0 0]::own 1 a7 (q+1) a6 (iv (df++[bz]))::az k2 z8::[has h0]))/\a0-((t:Int)+1).toNat<a0-(t:Int).toNat:=λhe u o' c' h=>by
    rw[he] at Y;refine⟨⟨ω,ω⟩,⟨t+1,_,σ,h2,(hF.set (q:=q) (o:=o') (c:=c') (l:=b.2++[⟨(t:Int),we x⟩])).ext λi hi=>?_,h⟩,bY h2⟩
    grind
   refine ae (λh3=>⟨_,(af 0 h.l).cell0 sZZ,ae (λh4=>?_) λh4=>⟨_,(af 0 h.l).cell sZZ (j:=1) rfl,ae (λh5=>?_) λh5=>?_⟩⟩) λh3=>?_
   ·have h3:x.kind≠0:=by grind
    have h4:x.kind≠2:=by grind
    exact YD (x:=x) (t:=t) hb hF.l av d4 ω h λu o' c' h=>bB (by unfold RF;grind) u o' c' h
   ·have h3:x.kind≠0:=by grind
    have h5:x.to≠bz:=by grind
    exact YD (x:=x) (t:=t) hb hF.l av d4 ω h λu o' c' h=>bB (by unfold RF;grind) u o' c' h
   ·have h4:x.kind=2:=by grind
    have h5:x.to=bz:=by grind
    exact skip (by unfold RF;grind)
   ·have h3:x.kind=0:=by grind
    exact skip (by unfold RF;grind)
  ·have h2:t=a0:=by grind
   subst h2
   refine⟨⟨ω,ω⟩,⟨q+1,df++[bz],AL,a7,a6,σ,h1,by simp_all,hF.ext λi hi=>?_,λi l' hi fL=>?_,h⟩,bY h1⟩
   ·rw[b6]
    rcases Nat.lt_trichotomy i q with a4|a4|a4
    ·grind
    ·subst a4;rw[afZ rfl,afZ ω,ch];have:(df++[bz]).getD i 0=bz:=by simp_all
     rw[this,<-e8];rfl
    grind
   grind
 --the actions' rows are laid
 have h1:n=q:=by grind
 subst h1
 have b7:AL.map (·.2)=(List.range As.length).map λi=>J4 (df.getD i 0) (As.getD i []):=by
  rw[hF.map,eA]
  simp_all
 have am:=abZ (L:=_) h;rw[hF.l] at am
 refine(abX am (λes bb=>?_) ω).mono ?_
 ·rw[b7] at bb;obtain⟨i,hi,rfl⟩:=afW.1 bb;have hi:=agd.1 hi;have hl:As[i]? =some As[i]:=afJ hi;have e1:As.getD i []=As[i]:=by simp_all
  rw[e1];obtain⟨q1,q2⟩:=ha _ (ahd hi);exact aa_ q2 ω ω
 rintro _ e3⟨O,J,rfl,ci,eu,ei,cm⟩;rw[b7] at ci;have h:=St.on (N:=[_,_,_]) cm h.l;clear cm am;have h:St e3 (az W [vS o n cc,vS none 0 0,vS none 0 0,vS none 0 0,vS none 0 0,vS none 0 0,vS none 0 0,vS none 0 0]::own 1 J.b O.bs.length J.cb (iv O.bs)::own 1 J.v O.vs.length J.cv (iv O.vs)::own 1 J.o O.os.length J.co (iv O.os)::own 1 o n cc (iv df)::az k2 z8::[has h0]):=St.pick h 9 [5,0,1,2,6,7,8];refine⟨_,_,_,_,_,_,_,_,_,_,rfl,yH (i:=1) h σ (by simp[aK]) λdl h=>?_⟩;have h:St dl (az W [vS o n cc,vS J.b O.bs.length J.cb,vS J.v O.vs.length J.cv,vS J.o O.os.length J.co,vS none 0 0,vS none 0 0,vS none 0 0,vS none 0 0]::own 1 J.b O.bs.length J.cb (iv O.bs)::own 1 J.v O.vs.length J.cv (iv O.vs)::own 1 J.o O.os.length J.co (iv O.os)::own 1 o n cc (iv df)::az k2 z8::[has h0]):=h;have cF:sub h0 (hp dl):=aA 6 h.l;obtain⟨l0,f4,vs,eK,d7,c9,f2,U,eT,rfl,_,ez⟩:=cg.get (i:=0) ω;have cI:U=N:=by rw[<-ez.1];grind
 subst cI;refine⟨_,_,_,b4.cell cF (j:=1) rfl,aJ (i:=0) d7 ω ⟨_,_,_,c9.cell0 cF,⟨ω,rfl,ω⟩,?_⟩⟩;rw[afU,M6];refine ag h λal er h=>?_;have h:=Tz h U;obtain⟨M,hM⟩:∃M:List aC,M=own 1 J.b O.bs.length J.cb (iv O.bs)::own 1 J.v O.vs.length J.cv (iv O.vs)::own 1 J.o O.os.length J.co (iv O.os)::own 1 o n cc (iv df)::az k2 z8::[has h0]:=⟨_,rfl⟩;obtain⟨pc,c7⟩:∃pc:ahr->Nat->Nat->List Value,pc=λo' n' c'=>[vS o n cc,vS J.b O.bs.length J.cb,vS J.v O.vs.length J.cv,vS J.o O.os.length J.co,vS o' n' c',vS none 0 0,vS none 0 0,vS none 0 0]:=⟨_,rfl⟩
 have b8:∀{u:ahs}{X:List aC},St u (X++M)->sub h0 (hp u):=λ{u X} hh=>by
  rw[hM] at hh
  induction X with
  |nil=>exact aA 5 hh.l
  |cons A X ih=>exact ih hh.tail
 have h:St er (az al ((List.replicate U (((none,0),[]):Lq aH)).map bS)::aV ((List.replicate U (((none,0),[]):Lq aH)).map (bG 2 p8))::az W (pc none 0 0)::own 1 none 0 0 (iv [])::M):=by
  rw[hM,c7];exact(aI 1 h).pick 10 [2,1,3,0,4,5,6,7,8,9]
 refine⟨λz u=>∃(i:Nat)(tg:List Int)(AL:List (Lq aH))(o:ahr)(c:Nat),z=i/\i<=U/\tg.length=i/\M5 AL U (λj=>if j<i then J5 (tg.getD j 0) (Gs.map λl=>l.getD j 0) else[])/\(∀j<i,tg.getD j 0=-1\/∃l∈Gs,l.getD j 0=tg.getD j 0/\0<=tg.getD j 0)/\
  St u (az al (AL.map bS)::aV (AL.map (bG 2 p8))::az W (pc o i c)::own 1 o i c (iv tg)::M),λz _=>U-z.toNat,⟨0,[],_,none,0,rfl,afL _,rfl,(M5.new U).ext λi _=>σ,λj hj=>absurd hj ω,h⟩,?_⟩
 clear h;rintro _ _ fd⟨i,tg,b2,o2,c2,rfl,hi,bl,b5,d8,h⟩
 refine ae (λh1=>?_) λh1=>?_
 ·have h1:i<U:=by simp_all
  refine ag h λa9 fS h=>aR h σ λc6 h=>?_;have h:St c6 (az a9 [iI (i:Int)]::az al (b2.map bS)::aV (b2.map (bG 2 p8))::az W (pc o2 i c2)::own 1 o2 i c2 (iv tg)::M):=h;have cA:sub h0 (hp c6):=b8 (X:=[_,_,_,_,_]) h;have ba:∀z,sub (hp c6) (hp z)->z.cell? (aM a9)=some (iI (i:Int)):=λz g=>(af 0 h.l).cell0 g;refine⟨_,_,_,b4.cell cA (j:=1) rfl,(aa6 (i:=i) (cg.mono cA) ω (λl hl=>by grind) ba).mono ?_⟩;rintro _ eI⟨to,rfl,fs,d9⟩;have h:=h.gr d9;have ba:∀z,sub (hp eI) (hp z)->z.cell? (aM a9)=some (iI (i:Int)):=λz g=>ba z (sub.trans d9 g);have e4:∀o' n' c',(pc o' n' c')[4]? =some (vS o' n' c'):=λo' n' c'=>by grind
  have e5:∀o' n' c' d6 cT dF,(pc o' n' c').set 4 (vS d6 cT dF)=pc d6 cT dF:=λ_ _ _ _ _ _=>by rw[c7];rfl
  have e6:∀o' n' c',4<(pc o' n' c').length:=λ_ _ _=>by grind
  refine⟨_,rfl,_,_,_,(af 3 h.l).cell sZZ (e4 ..),ag h λeL eP h=>?_⟩;refine(aU (us:=iv tg) (vs:=[iI to]) aT (rfl:ai Ty _=.slice _) (rfl:ai Ty _=.slice _) rfl rfl rfl (h.pick 6 [0,5,1,2,3,4]) rfl (by simp[aK]) (by grind) ω).mono ?_;rintro _ fz⟨a8,a5,rfl,h⟩;refine⟨_,_,_,rfl,?_⟩;rw[ak];refine aR (i:=4) (h.pick 6 [5,0,2,3,4]) (e6 ..) λel h=>?_;have e0:iv tg++[iI to]=iv (tg++[to]):=by simp[iv]
  rw[e0,e5] at h;have h:St el (az al (b2.map bS)::aV (b2.map (bG 2 p8))::az a9 [iI (i:Int)]::az W (pc a8 (i+1) a5)::own 1 a8 (i+1) a5 (iv (tg++[to]))::M):=h.pick 5 [3,4,2,0,1];obtain⟨F,b6⟩:∃F:Nat->List aH,F=λj=>if j<i then J5 (tg.getD j 0) (Gs.map λl=>l.getD j 0) else[]:=⟨_,rfl⟩
  rw[<-b6] at b5;have bP:F i=[]:=by grind
  obtain⟨aa,bA⟩:∃aa,aa=Gs.map λl=>l.getD i 0:=⟨_,rfl⟩
  refine⟨_,_,_,b4.cell (b8 (X:=[_,_,_,_,_]) h) (j:=1) rfl,λz u=>∃(t:Nat)(AL:List (Lq aH)),z=t/\t<=e/\M5 AL U (λj=>if j=i then Fb to aa t else F j)/\
   St u (az al (AL.map bS)::aV (AL.map (bG 2 p8))::az a9 [iI (i:Int)]::az W (pc a8 (i+1) a5)::own 1 a8 (i+1) a5 (iv (tg++[to]))::M),λz _=>e-z.toNat,⟨0,b2,rfl,afL _,b5.ext λj hj=>by
    try dsimp only
    split
    ·rename_i e;rw[e,bP];rfl
    rfl,h⟩,?_⟩
  clear h b5;rintro _ _ e2⟨t,AL,rfl,g4,hF,h⟩;have c5:sub h0 (hp e2):=b8 (X:=[_,_,_,_,_]) h
  refine ae (λh2=>?_) λh2=>?_
  ·have h2:t<e:=by grind
   obtain⟨l,ad,vs,hl,cd,bc,g5,et,f6,rfl,_,b3⟩:=cg.get h2;have cp:=afI hl;have cx:U=et:=by rw[<-b3.1];grind
   subst cx;have cC:aa.getD t 0=l.getD i 0:=by rw[bA,afP,afQ,hl];rfl
   obtain⟨fC,be,b1⟩:=nB b3 h1;obtain⟨x,hx⟩:∃x,x=l.getD i 0:=⟨_,rfl⟩;rw[<-hx] at cC b1;obtain⟨b,hb⟩:∃b,AL[i]? =some b:=⟨_,afJ (by rw[hF.l];omega)⟩;have ek:b.2=Fb to aa t:=by have:=hF.e i b hb;grind
   have av:b.2.length<=1000:=by grind[PF]
   have Y:=RK to aa t;rw[cC] at Y
   have skip:Ts to t x=[]->aD ((t:Int)+1)/\(∃(t':Nat)(AL:List (Lq aH)),(t:Int)+1=t'/\t'<=e/\M5 AL U (λj=>if j=i then Fb to aa t' else F j)/\St e2 (az al (AL.map bS)::aV (AL.map (bG 2 p8))::az a9 [iI (i:Int)]::az W (pc a8 (i+1) a5)::own 1 a8 (i+1) a5 (iv (tg++[to]))::M))/\e-((t:Int)+1).toNat<e-(t:Int).toNat:=λhe=>by
    rw[he,agc] at Y;exact⟨⟨ω,ω⟩,⟨t+1,AL,σ,h2,by rw[Y];omega,h⟩,bY h2⟩
   refine aJ cd h2 ⟨_,_,_,bc.cell0 c5,_,(af 2 h.l).cell0 sZZ,ay be h1 ⟨_,b1 _ c5,ae (λh3=>⟨_,(af 2 h.l).cell0 sZZ,ay be h1 ⟨_,b1 _ c5,ae (λh4=>?_) λh4=>?_⟩⟩) λh3=>?_⟩⟩
   ·have h3:0<=x:=afO h3;have h4:x≠to:=by grind
    have he:Ts to t x=[⟨(t:Int),x⟩]:=by unfold Ts;grind
    rw[he] at Y;intro eY hd;have h:=h.drawn hd;have eS:i<AL.length:=by grind
    refine⟨λu=>aj (hp u) (aM al) (AL.map bS)/\aj (hp u) (aM a9) [iI (i:Int)]/\sub h0 (hp u),⟨af 0 h.l,af 2 h.l,b8 (X:=[_,_,_,_,_]) h⟩,_,λu r=>r.2.1.cell0 sZZ,_,λu r=>r.2.1.cell0 sZZ,ay rfl h1 ⟨_,_,_,λu r=>r.1.cell sZZ (j:=i) (v:=bS b) (by rw[afQ,hb];rfl),_,λu r=>r.2.1.cell0 sZZ,ay be h1 ⟨_,λu r=>b1 u r.2.2,ag h λeX f3 h=>⟨⟨af 1 h.l,af 3 h.l,b8 (X:=[_,_,_,_,_,_]) h⟩,?_⟩⟩⟩⟩
    refine TA (y:=⟨(t:Int),x⟩) (L:=az a9 [iI (i:Int)]::az W (pc a8 (i+1) a5)::own 1 a8 (i+1) a5 (iv (tg++[to]))::M) hb hF.l av h (λu r s=>⟨r,af 0 s,?_⟩) λu o' c' h=>?_
    ·rw[hM] at s;exact aA 8 s
    ·refine⟨⟨ω,ω⟩,⟨t+1,_,σ,h2,(hF.set (q:=i) (o:=o') (c:=c') (l:=b.2++[⟨(t:Int),x⟩])).ext λj hj=>?_,h⟩,bY h2⟩
     try dsimp only
     split
     ·grind
     rfl
   ·have h4:x=to:=by grind
    exact skip (by unfold Ts;grind)
   ·have h3:=afN h3;exact skip (by unfold Ts;grind)
  ·have h2:e=t:=by grind
   subst h2
   refine⟨⟨ω,ω⟩,⟨i+1,tg++[to],AL,a8,a5,σ,h1,by grind,hF.ext λj hj=>?_,λj hj=>?_,h.pick 5 [0,1,3,4]⟩,bY h1⟩
   ·rw[b6]
    rcases Nat.lt_trichotomy j i with a4|a4|a4
    ·rw[afV ω,afZ ω]
     grind
    ·subst a4;rw[afZ rfl,afZ ω,<-bA];have:(tg++[to]).getD j 0=to:=by rw[<-bl];simp
     rw[this];have e9:aa.length=e:=by grind
     rw[<-e9];rfl
    ·rw[afV ω,afV ω]
     grind
   ·rcases Nat.lt_or_ge j i with a4|a4
    ·rw[YE ω];exact d8 j a4
    ·have:j=i:=ω
     subst this;have:(tg++[to]).getD j 0=to:=by rw[<-bl];simp
     rw[this];omega
 --the gotos' rows are laid
 have h1:U=i:=by grind
 subst h1
 have bi:b2.map (·.2)=(List.range U).map λj=>J5 (tg.getD j 0) (Gs.map λl=>l.getD j 0):=by
  rw[b5.map];exact agV λj hj=>by simp_all
 have am:=abZ (L:=_) h;rw[b5.l] at am
 refine(abX am (λes bb=>?_) ω).mono ?_
 ·rw[bi] at bb;obtain⟨j,hj,rfl⟩:=afW.1 bb;have hj:=agd.1 hj;refine aba (N:=As.length) (λz hz=>?_) ω (by grind);obtain⟨l,hl,rfl⟩:=afW.1 hz
  grind[List.getElem?_eq_getElem,List.getElem_mem]
 rintro _ eC⟨Z,V,rfl,d3,eb,e7,d5⟩;rw[bi] at d3;have h:=St.on (N:=[_,_,_]) d5 h.l;clear d5 am;have h:St eC (az W (pc o2 U c2)::own 1 V.b Z.bs.length V.cb (iv Z.bs)::own 1 V.v Z.vs.length V.cv (iv Z.vs)::own 1 V.o Z.os.length V.co (iv Z.os)::own 1 o2 U c2 (iv tg)::M):=St.pick h 7 [5,0,1,2,6];rw[c7,hM] at h;refine⟨_,_,_,_,_,_,_,_,_,_,rfl,yH (i:=5) h σ (by simp[aK]) λcu h=>?_⟩;have h:St cu (az W [vS o n cc,vS J.b O.bs.length J.cb,vS J.v O.vs.length J.cv,vS J.o O.os.length J.co,vS o2 U c2,vS V.b Z.bs.length V.cb,vS V.v Z.vs.length V.cv,vS V.o Z.os.length V.co]::own 1 V.b Z.bs.length V.cb (iv Z.bs)::own 1 V.v Z.vs.length V.cv (iv Z.vs)::own 1 V.o Z.os.length V.co (iv Z.os)::own 1 o2 U c2 (iv tg)::own 1 J.b O.bs.length J.cb (iv O.bs)::own 1 J.v O.vs.length J.cv (iv O.vs)::own 1 J.o O.os.length J.co (iv O.os)::own 1 o n cc (iv df)::az k2 z8::[has h0]):=h;have ea:aj (hp cu) (aM W) [vS o n cc,vS J.b O.bs.length J.cb,vS J.v O.vs.length J.cv,vS J.o O.os.length J.co,vS o2 U c2,vS V.b Z.bs.length V.cb,vS V.v Z.vs.length V.cv,vS V.o Z.os.length V.co]:=af 0 h.l;refine⟨_,_,_,_,_,_,_,_,_,_,_,_,_,_,_,_,_,_,_,_,_,_,_,_,ea.at sZZ rfl,aL (h.pick 10 [9,0,1,2,3,4,5,6,7,8]) rfl (by simp[aK]) λd0 h=>?_⟩;have ef:aj (hp d0) (aM k2) [vS o n cc,vS J.b O.bs.length J.cb,vS J.v O.vs.length J.cv,vS J.o O.os.length J.co,vS o2 U c2,vS V.b Z.bs.length V.cb,vS V.v Z.vs.length V.cv,vS V.o Z.os.length V.co]:=af 0 h.l
 refine⟨_,_,_,_,_,_,_,_,_,_,_,_,_,_,_,_,_,_,_,_,_,_,_,_,ef.at sZZ rfl,⟨df,O,tg,Z⟩,⟨(o,n,cc),(J.b,O.bs.length,J.cb),(J.v,O.vs.length,J.cv),(J.o,O.os.length,J.co),(o2,U,c2),(V.b,Z.bs.length,V.cb),(V.v,Z.vs.length,V.cv),(V.o,Z.os.length,V.co)⟩,rfl,?_,⟨eu,ei,eb,e7⟩,?_⟩
 ·refine⟨by grind,λj l hl=>em j l (by grind) hl,ci,bl,λj hj=>d8 j hj,d3⟩
 ·have h2:St d0 ([own 1 o n cc (iv df),own 1 J.b O.bs.length J.cb (iv O.bs),own 1 J.v O.vs.length J.cv (iv O.vs),own 1 J.o O.os.length J.co (iv O.os),own 1 o2 U c2 (iv tg),own 1 V.b Z.bs.length V.cb (iv Z.bs),own 1 V.v Z.vs.length V.cv (iv Z.vs),own 1 V.o Z.os.length V.co (iv Z.os)]++[has h0]):=h.pick 11 [9,6,7,8,5,2,3,4,10];have h3:=St.on (N:=[_,_,_,_,_,_,_,_]) h2 ca;exact St.pick h3 10 [0,1,2,3,4,5,6,7,9]
end
section
variable{w:ahs}{L:List aC}{o:ahr}{n c:Nat}
theorem IL{sz l c:Nat}{a:ahr}{vs:List Value}{h:Hp}(ha:own sz a l c vs h):vs.length=l*sz:=by
 rcases ha with⟨_,rfl,_,rfl⟩|⟨_,_,_,_,_,_,h,_,_⟩
 ·simp
 omega
theorem CW{α:Type}[tQ α]{sz:Nat}{f:List α->List Value}(hf:∀{h:Hp}{q:Lq α},ec q.1.1 (f q.2) h->aY h q.2 q.1.1 q.2.length){AL:List (Lq α)}{h h1 h2:Hp}(s1:sub h1 h)(a1:own 1 o n c (AL.map bS) h1)(s2:sub h2 h)(a2:aV (AL.map (bG sz f)) h2):aY h (AL.map (·.2)) o n:=by
 have hl:AL.length=n:=by grind[IL,List.length_map]
 refine⟨by simp_all,λi x J=>?_⟩;rw[afQ] at J;cases hb:AL[i]? with
 |none=>simp_all
 |some b=>
  rw[hb] at J;cases J;obtain⟨V,U,u⟩:=kP (A:=bG sz f b) (afW.2 ⟨b,afI hb,rfl⟩) a2
  rcases bK a1 with e|⟨O,e,hc⟩
  ·simp_all
  ·exact⟨O,_,e,(cG (f:=λb:Lq α=>[bS b]) (n:=1) (λ_=>rfl) AL O (by rwa [<-List.map_eq_flatMap]) i b hb).mono s1,_,_,_,rfl,sA u,(hf (bK u)).mono (U.trans s2)⟩
theorem TB{α:Type}{AL:List (Lq α)}{q:Lq α}:(AL++[q]).map bS=AL.map bS++[bS q]:=σ
end
section
variable{w:ahs}{a:ahr}{n c:Nat}
theorem TC{xs:List aE}(hr:aY (hp w) xs a n)(hn:n<=100000):ρ eO [vS a n c] w λv w'=>∃o c',v=vS o n c'/\St w' (own 2 o n c' (di xs)::all w):=by
 refine pH ((PB hr ω).mono ?_);rintro _ u⟨o,c',rfl,h⟩;exact⟨_,_,_,rfl,b_ (b9 (bI h) ⟨_,_,_,rfl,_,_,rfl,cj h⟩)⟩
theorem yI{xs:List Int}(hr:aY (hp w) xs a n)(hn:n<=1000000):ρ lr [vS a n c] w λv w'=>∃o c',v=vS o n c'/\St w' (own 1 o n c' (iv xs)::all w):=by
 have hl:=hr.1;refine zD ((dB hr ω ω).mono ?_);rintro _ u⟨o,c',rfl,h⟩;rw[hl] at h ⊢;exact⟨_,_,_,rfl,bq (b9 (bI h) ⟨_,_,_,rfl,_,_,rfl,cj h⟩)⟩
theorem U1{As:List (List aE)}(hr:aY (hp w) As a n)(hn:n<=100000)(hl:∀l∈As,l.length<=100000):ρ 158 [vS a n c,.func (.func eO) #[] #[]] w λv w'=>∃o c',∃AL:List (Lq aE),v=vS o n c'/\AL.map (·.2)=As/\St w' (own 1 o n c' (AL.map bS)::aV (AL.map (bG 2 di))::all w):=by
 have a0:=hr.1;refine nH ⟨λo k c z u=>∃(j:Nat)(AL:List (Lq aE)),z=j/\j=k/\j<=n/\AL.map (·.2)=As.take j/\St u (own 1 o j c (AL.map bS)::aV (AL.map (bG 2 di))::all w),λ_ _ _ z _=>n-z.toNat,⟨0,[],rfl,rfl,afL _,rfl,aI 1 ((St.flat (M:=[])).2 (St.all w))⟩,?_⟩;rintro _ o _ c1 _ w1⟨j,AL,rfl,rfl,hj,hA,h⟩;have a5:AL.length=j:=by have:=congrArg List.length hA;grind
 refine ae (λJ=>?_) λJ=>?_
 ·have J:j<n:=by simp_all
  obtain⟨l,ad,vs,hx,ha,U,o2,k3,k4,rfl,_,V⟩:=(hr.mono h.tail.aQ).get J;have a4:=hl l (afI hx);have W:=V.1;refine aJ ha J ⟨_,_,_,U.cell0 sZZ,a_.2 ⟨rfl,(TC V ω).mono ?_⟩⟩;rintro _ w2⟨O,c3,rfl,Y⟩;have h:=St.fb Y h.l;refine⟨_,_,_,rfl,ag h λk7 w3 h=>?_⟩;refine(aU (us:=AL.map bS) (vs:=[vS O k3 c3]) aT (rfl:ai Ty _=.slice _) (rfl:ai Ty _=.slice _) rfl rfl rfl (h.pick 4 [0,2,1,3]) rfl (by simp[aK]) (by grind) ω).mono ?_;rintro _ w4⟨o4,c4,rfl,h⟩;have X:AL.map bS++[vS O k3 c3]=(AL++[((O,c3),l)]).map bS:=by rw[TB,<-W];rfl
  have Z:(AL++[((O,c3),l)]).map (bG 2 di)=AL.map (bG 2 di)++[own 2 O k3 c3 (di l)]:=by rw[af8,<-W];rfl
  rw[X] at h;have h:St _ (own 2 O k3 c3 (di l)::aV (AL.map (bG 2 di))::_):=h.pick 4 [2,3,0];have h:=St.snoc h;rw[<-Z] at h;exact⟨_,_,_,rfl,⟨ω,ω⟩,⟨j+1,_,σ,rfl,J,by simp_all[afM],h.swap⟩,bY J⟩
 ·have J:n=j:=by grind
  subst J;rw[af3 ω] at hA;exact gv (b9 (bI h) ⟨_,_,_,rfl,_,_,AL,rfl,hA,cj h⟩)
theorem U2{As:List (List Int)}(hr:aY (hp w) As a n)(hn:n<=100000)(hl:∀l∈As,l.length<=1000000):ρ 160 [vS a n c,.func (.func lr) #[] #[]] w λv w'=>∃o c',∃AL:List (Lq Int),v=vS o n c'/\AL.map (·.2)=As/\St w' (own 1 o n c' (AL.map bS)::aV (AL.map (bG 1 iv))::all w):=by
 have a0:=hr.1;refine vZ ⟨λo k c z u=>∃(j:Nat)(AL:List (Lq Int)),z=j/\j=k/\j<=n/\AL.map (·.2)=As.take j/\St u (own 1 o j c (AL.map bS)::aV (AL.map (bG 1 iv))::all w),λ_ _ _ z _=>n-z.toNat,⟨0,[],rfl,rfl,afL _,rfl,aI 1 ((St.flat (M:=[])).2 (St.all w))⟩,?_⟩;rintro _ o _ c1 _ w1⟨j,AL,rfl,rfl,hj,hA,h⟩;have a5:AL.length=j:=by have:=congrArg List.length hA;grind
 refine ae (λJ=>?_) λJ=>?_
 ·have J:j<n:=by simp_all
  obtain⟨l,ad,vs,hx,ha,U,o2,k3,k4,rfl,_,V⟩:=(hr.mono h.tail.aQ).get J;have a4:=hl l (afI hx);have W:=V.1;refine aJ ha J ⟨_,_,_,U.cell0 sZZ,a_.2 ⟨rfl,(yI V ω).mono ?_⟩⟩;rintro _ w2⟨O,c3,rfl,Y⟩;have h:=St.fb Y h.l;refine⟨_,_,_,rfl,ag h λk7 w3 h=>?_⟩;refine(aU (us:=AL.map bS) (vs:=[vS O k3 c3]) aT (rfl:ai Ty _=.slice _) (rfl:ai Ty _=.slice _) rfl rfl rfl (h.pick 4 [0,2,1,3]) rfl (by simp[aK]) (by grind) ω).mono ?_;rintro _ w4⟨o4,c4,rfl,h⟩;have X:AL.map bS++[vS O k3 c3]=(AL++[((O,c3),l)]).map bS:=by rw[TB,<-W];rfl
  have Z:(AL++[((O,c3),l)]).map (bG 1 iv)=AL.map (bG 1 iv)++[own 1 O k3 c3 (iv l)]:=by rw[af8,<-W];rfl
  rw[X] at h;have h:St _ (own 1 O k3 c3 (iv l)::aV (AL.map (bG 1 iv))::_):=h.pick 4 [2,3,0];have h:=St.snoc h;rw[<-Z] at h;exact⟨_,_,_,rfl,⟨ω,ω⟩,⟨j+1,_,σ,rfl,J,by simp_all[afM],h.swap⟩,bY J⟩
 ·have J:n=j:=by grind
  subst J;rw[af3 ω] at hA;exact g_ (b9 (bI h) ⟨_,_,_,rfl,_,_,AL,rfl,hA,cj h⟩)
theorem adG{x:cK}{o:ahr}{k c':Nat}(hr:aY (hp w) x.acts o k)(hn:k<=100000):ρ eh [.agg #[iI x.st,iI x.tm,vS o k c']] w λv w'=>∃o' c'',v=.agg ⟨[iI x.st,iI x.tm,vS o' k c'']⟩/\St w' (own 2 o' k c'' (di x.acts)::all w):=by
 refine ox (ag (St.all w) λU w1 h=>ag h λk2 Z h=>⟨_,_,_,h.tail.cell 2,(TC (hr.mono h.tail.aQ) hn).mono ?_⟩);rintro _ Y⟨u,c2,rfl,V⟩;have h:=St.fb V h.l;refine⟨_,_,_,rfl,?_⟩;rw[ak];refine aR (i:=2) (h.pick 3 [2,0,1]) σ λW h=>?_;have X:aj (hp W) (aM U) [iI x.st,iI x.tm,vS u k c2]:=af 0 h.l;refine⟨_,_,_,_,_,X.at sZZ rfl,aL (h.pick 3 [2,0,1]) rfl (by simp[aK]) λJ h=>?_⟩;have O:aj (hp J) (aM k2) [iI x.st,iI x.tm,vS u k c2]:=af 0 h.l;exact⟨_,_,_,_,_,O.at sZZ rfl,_,_,rfl,h.pick 3 [2]⟩
theorem U3{Cs:List cK}(hr:aY (hp w) Cs a n)(hn:n<=100000)(hl:∀x∈Cs,x.acts.length<=100000):ρ 162 [vS a n c,.func (.func eh) #[] #[]] w λv w'=>∃o c',∃CL:List E8,v=vS o n c'/\CL.map oy=Cs/\St w' (own 3 o n c' (E9 CL)::aV (C_ CL)::all w):=by
 have a0:=hr.1;refine pJ ⟨λo k c z u=>∃(j:Nat)(CL:List E8),z=j/\j=k/\j<=n/\CL.map oy=Cs.take j/\St u (own 3 o j c (E9 CL)::aV (C_ CL)::all w),λ_ _ _ z _=>n-z.toNat,⟨0,[],rfl,rfl,afL _,rfl,aI 3 ((St.flat (M:=[])).2 (St.all w))⟩,?_⟩;rintro _ o _ c1 _ w1⟨j,CL,rfl,rfl,hj,hA,h⟩;have a4:CL.length=j:=by have:=congrArg List.length hA;grind
 refine ae (λJ=>?_) λJ=>?_
 ·have J:j<n:=by simp_all
  obtain⟨x,ad,vs,X,ha,U,o2,c2,rfl,V⟩:=hr.get J;have W:=hl x (afI X);refine aJ ha J ⟨_,_,_,_,_,U.at h.tail.aQ rfl,ag h λk5 w2 h=>aL h rfl (by simp[aK]) λw3 h=>?_⟩;have Z:aj (hp w3) (aM k5) [iI x.st,iI x.tm,vS o2 x.acts.length c2]:=af 0 h.l;refine⟨_,_,_,_,_,Z.at sZZ rfl,a_.2 ⟨rfl,(adG (V.mono h.tail.tail.aQ) W).mono ?_⟩⟩;rintro _ w4⟨O,c3,rfl,h2⟩;have h:=St.fb h2 h.l;refine⟨_,_,_,_,_,rfl,ag h λa5 w5 h=>?_⟩;refine(aU (us:=E9 CL) (vs:=[iI x.st,iI x.tm,vS O x.acts.length c3]) aT (rfl:ai Ty _=.slice _) (rfl:ai Ty _=.slice _) rfl rfl rfl (h.pick 5 [0,3,1,4]) rfl (by simp[aK]) (by grind) ω).mono ?_;rintro _ w6⟨o4,c4,rfl,h⟩;have Y:E9 CL++[iI x.st,iI x.tm,vS O x.acts.length c3]=E9 (CL++[((x.st,x.tm),((O,c3),x.acts))]):=by rw[MX];rfl
  have e2:C_ (CL++[((x.st,x.tm),((O,c3),x.acts))])=C_ CL++[own 2 O x.acts.length c3 (di x.acts)]:=by unfold C_;rw[af8];rfl
  rw[Y] at h;have h:St _ (own 2 O x.acts.length c3 (di x.acts)::aV (C_ CL)::_):=h.pick 4 [2,3,0];have h:=St.snoc h;rw[<-e2] at h;exact⟨_,_,_,rfl,⟨ω,ω⟩,⟨j+1,_,σ,rfl,J,by rw[af8,hA,afM,X];rfl,h.swap⟩,bY J⟩
 ·have J:n=j:=by grind
  subst J;rw[af3 ω] at hA;exact jJ (b9 (bI h) ⟨_,_,_,rfl,_,_,CL,rfl,hA,cj h⟩)
theorem YF{r:fM}{b d e f i j:Nat}{o1 o2 o3:ahr}(h1:aY (hp w) r.bs o1 b)(h2:aY (hp w) r.vs o2 d)(h3:aY (hp w) r.os o3 e)(hb:b<=1000000)(hd:d<=1000000)(he:e<=1000000):ρ 358 [.agg #[vS o1 b f,vS o2 d i,vS o3 e j]] w λv w'=>∃p1 p2 p3 c1 c2 c3,v=.agg ⟨[vS p1 b c1,vS p2 d c2,vS p3 e c3]⟩/\St w' (own 1 p1 b c1 (iv r.bs)::own 1 p2 d c2 (iv r.vs)::own 1 p3 e c3 (iv r.os)::all w):=by
 refine IC (ag (St.all w) λk1 w1 h=>ag h λk2 w2 h w3 V=>?_);have h:=h.drawn V;obtain⟨h0,U,W,h⟩:=h.freeze;have J:aj h0 (aM k1) [vS o1 b f,vS o2 d i,vS o3 e j]:=af 0 U;have O:sub (hp w) h0:=aA 1 U;refine⟨λu=>sub h0 (hp u),W,_,_,_,λu s=>J.cell0 s,_,_,_,λu s=>J.cell s (j:=1) rfl,_,_,_,λu s=>J.cell s (j:=2) rfl,(yI (h1.mono (O.trans W)) hb).mono ?_⟩;rintro _ w4⟨p1,c1,rfl,Y⟩;have h:=St.fb Y h.l;refine⟨_,_,_,rfl,aA 2 h.l,(yI (h2.mono (O.trans (aA 2 h.l))) hd).mono ?_⟩;rintro _ w5⟨p2,c2,rfl,h5⟩;have h:=St.fb h5 h.l;refine⟨_,_,_,rfl,aA 3 h.l,(yI (h3.mono (O.trans (aA 3 h.l))) he).mono ?_⟩;rintro _ w6⟨p3,c3,rfl,h6⟩;have h:=St.fb h6 h.l;refine⟨_,_,_,rfl,aA 4 h.l,aL (h.pick 4 [3,2,1,0]) rfl (by simp[aK]) λX h=>?_⟩;have Z:aj (hp X) (aM k2) [vS p1 b c1,vS p2 d c2,vS p3 e c3]:=af 0 h.l;refine⟨_,_,_,_,_,_,_,_,_,Z.at sZZ rfl,p1,p2,p3,c1,c2,c3,rfl,?_⟩;exact(St.on (N:=[_,_,_]) h.tail U).pick 4 [0,1,2]
end
abbrev zz3:List Value:=[vS none 0 0,vS none 0 0,vS none 0 0]
structure Jf where
 x:GA
 st:FV
 ask:Int
 int:Int
 lk:FV
 A:FV
 G:FV
 C:FV
 p:PA
 clr:Bool
abbrev Jf.Vw(y:Jf):List Value:=[fT y.A,fT y.G,fT y.C,fT y.p.d,fT y.p.a1,fT y.p.a2,fT y.p.a3,fT y.p.t,fT y.p.g1,fT y.p.g2,fT y.p.g3,vB y.clr]
abbrev Jf.cells(y:Jf):List Value:=vS y.x.ta y.x.tl y.x.tc::vS y.x.na y.x.nl y.x.nc::vS y.x.la y.x.ll y.x.lc::iI y.x.s::vS y.x.pa y.x.pl y.x.pc::fT y.st::iI y.ask::iI y.int::fT y.lk::y.Vw
structure CX(h:Hp)(k:Nat)(y:Jf)(g:ah)(As:List (List aE))(Gs:List (List Int))(Cs:List cK)(p:dH):Prop where
 row:aj h (aM k) y.cells
 g:gR h g y.x
 A:aY h As y.A.1 y.A.2.1
 G:aY h Gs y.G.1 y.G.2.1
 C:aY h Cs y.C.1 y.C.2.1
 p:UM h p y.p
 aB:y.A.2.1<=100000/\∀l∈As,l.length<=100000
 gB:y.G.2.1<=100000/\∀l∈Gs,l.length<=1000000
 cB:y.C.2.1<=100000/\∀x∈Cs,x.acts.length<=100000
 pB:y.p.d.2.1<=1000000/\y.p.a1.2.1<=1000000/\y.p.t.2.1<=1000000/\y.p.g1.2.1<=1000000
theorem CX.mono{h h':Hp}{k:Nat}{y:Jf}{g:ah}{As:List (List aE)}{Gs:List (List Int)}{Cs:List cK}{p:dH}(s:sub h h')(r:CX h k y g As Gs Cs p):CX h' k y g As Gs Cs p:=⟨r.row.mono s,r.g.mono s,r.A.mono s,r.G.mono s,r.C.mono s,r.p.mono s,r.aB,r.gB,r.cB,r.pB⟩
theorem CX.Vw{h:Hp}{k:Nat}{y:Jf}{g:ah}{As:List (List aE)}{Gs:List (List Int)}{Cs:List cK}{p:dH}(r:CX h k y g As Gs Cs p):aj h ((aM k).add 9) y.Vw:=aj.drop (us:=[vS y.x.ta y.x.tl y.x.tc,vS y.x.na y.x.nl y.x.nc,vS y.x.la y.x.ll y.x.lc,iI y.x.s,vS y.x.pa y.x.pl y.x.pc,fT y.st,iI y.ask,iI y.int,fT y.lk]) r.row
theorem CX.afA{h:Hp}{k:Nat}{y:Jf}{g:ah}{As:List (List aE)}{Gs:List (List Int)}{Cs:List cK}{p:dH}(r:CX h k y g As Gs Cs p):aj h (aM k) y.x.cells:=aj.take (vs:=fT y.st::iI y.ask::iI y.int::fT y.lk::y.Vw) r.row
section
variable{w:ahs}{k:Nat}{y:Jf}{g:ah}{As:List (List aE)}{Gs:List (List Int)}{Cs:List cK}{p:dH}
theorem RL:ρ 46 [vP (some (aM k))] w λv w'=>v=vP (some (aM k))/\w'=w:=lQ (bn rfl ⟨rfl,rfl⟩)
theorem IM{t:Addr}{x:GA}(hr:aj (hp w) t x.cells)(hg:gR (hp w) g x)(hb:mi g)(hbT:g.terms.length*24<=140737488355328)(hbN:g.cM.length*16<=140737488355328):ρ 47 [.pointer (some t)] w λv w'=>∃(x':GA)(os:List (ahr×Nat)),v=.agg ⟨x'.cells⟩/\BO g x'/\os.length=g.prods.length/\St w' (vm g x' os++all w):=by
 refine qg (ag (St.all w) λU Z h=>bn rfl ?_);refine⟨_,_,_,_,_,_,_,_,_,_,_,_,_,hr.at h.aQ rfl,(Yg (hg.mono h.aQ) hb hbT hbN).mono ?_⟩;rintro _ J⟨x',os,rfl,W,V,u⟩;have u:St J (vm g x' os++(az U z5::all w)):=St.on u h.l;refine⟨_,_,_,_,_,_,_,_,_,_,_,_,_,rfl,aL (St.pick (show St J [_,_,_,_,_,_,_] from u) 6 [5,0,1,2,3,4]) rfl (by simp[aK]) λY O=>?_⟩;have X:aj (hp Y) (aM U) [vS x'.ta x'.tl x'.tc,vS x'.na x'.nl x'.nc,vS x'.la x'.ll x'.lc,iI x'.s,vS x'.pa x'.pl x'.pc]:=af 0 O.l;exact⟨_,_,_,_,_,_,_,_,_,_,_,_,_,X.at sZZ rfl,x',os,rfl,W,V,O.tail⟩
theorem Lf(hs:CX (hp w) k y g As Gs Cs p)(hb:mi g)(hbT:g.terms.length*24<=140737488355328)(hbN:g.cM.length*16<=140737488355328):ρ 9 [vP (some (aM k))] w λv w'=>∃(x':GA)(os:List (ahr×Nat)),v=.agg ⟨x'.cells⟩/\BO g x'/\os.length=g.prods.length/\St w' (vm g x' os++all w):=by
 refine ju (ag (St.all w) λU w1 h=>RL.mono ?_);rintro _ Z⟨rfl,rfl⟩;refine⟨_,rfl,(IM ((hs.mono h.aQ).afA) (hs.mono h.aQ).g hb hbT hbN).mono ?_⟩;rintro _ J⟨x',os,rfl,W,V,u⟩;have u:St J (vm g x' os++(az U z5::all w)):=St.on u h.l;refine⟨_,_,_,_,_,_,_,_,_,_,_,_,_,rfl,aL (St.pick (show St J [_,_,_,_,_,_,_] from u) 6 [5,0,1,2,3,4]) rfl (by simp[aK]) λY O=>?_⟩;have X:aj (hp Y) (aM U) [vS x'.ta x'.tl x'.tc,vS x'.na x'.nl x'.nc,vS x'.la x'.ll x'.lc,iI x'.s,vS x'.pa x'.pl x'.pc]:=af 0 O.l;exact⟨_,_,_,_,_,_,_,_,_,_,_,_,_,X.at sZZ rfl,x',os,rfl,W,V,O.tail⟩
theorem RM:ρ 9 [vP none] w λv w'=>∃(x':GA),v=.agg ⟨x'.cells⟩/\BO nF x'/\Gr w w':=by
 refine ju (ag (St.all w) λJ Z h=>(@lQ _ Z (λv w'=>∃b,v=vP (some (aM b))/\St w' (az b (Jf.cells ⟨noG,(none,0,0),0,0,(none,0,0),(none,0,0),(none,0,0),(none,0,0),⟨(none,0,0),(none,0,0),(none,0,0),(none,0,0),(none,0,0),(none,0,0),(none,0,0),(none,0,0)⟩,false⟩)::az J z5::all w)) (dL rfl (ag h λb u h=>⟨b,rfl,h⟩))).mono ?_);rintro _ u⟨b,rfl,h⟩;have Y:aj (hp u) (aM b) noG.cells:=aj.take (vs:=fT (none,0,0)::iI 0::iI 0::fT (none,0,0)::Jf.Vw ⟨noG,(none,0,0),0,0,(none,0,0),(none,0,0),(none,0,0),(none,0,0),⟨(none,0,0),(none,0,0),(none,0,0),(none,0,0),(none,0,0),(none,0,0),(none,0,0),(none,0,0)⟩,false⟩) (af 0 h.l);have W:gR (hp u) nF noG:=Gc (os:=[]) (L:=all u) ⟨rfl,rfl,rfl,rfl,rfl⟩ rfl (MP (St.all u)).l;refine⟨_,rfl,(IM Y W ⟨by decide,by decide,by decide,by decide,by simp[nF],by simp[nF],by simp[nF]⟩ (by decide) (by decide)).mono ?_⟩;rintro _ V⟨x',os,rfl,hx,ho,O⟩;have O:St V (vm nF x' os++(az b _::az J z5::all w)):=St.on O h.l;refine⟨_,_,_,_,_,_,_,_,_,_,_,_,_,rfl,aL (St.pick (show St V [_,_,_,_,_,_,_,_] from O) 7 [6,0,1,2,3,4]) rfl (by simp[aK]) λX U=>?_⟩;have r4:aj (hp X) (aM J) [vS x'.ta x'.tl x'.tc,vS x'.na x'.nl x'.nc,vS x'.la x'.ll x'.lc,iI x'.s,vS x'.pa x'.pl x'.pc]:=af 0 U.l;exact⟨_,_,_,_,_,_,_,_,_,_,_,_,_,r4.at sZZ rfl,x',rfl,hx,aA 6 U.l⟩
theorem RN{t:Addr}(ht:aj (hp w) t y.Vw)(hA:aY (hp w) As y.A.1 y.A.2.1)(hG:aY (hp w) Gs y.G.1 y.G.2.1)(hC:aY (hp w) Cs y.C.1 y.C.2.1)(aB:y.A.2.1<=100000/\∀l∈As,l.length<=100000)(gB:y.G.2.1<=100000/\∀l∈Gs,l.length<=1000000)(cB:y.C.2.1<=100000/\∀x∈Cs,x.acts.length<=100000):
  ρ 80 [.pointer (some t)] w λv w'=>∃o1 c1 o2 c2 o3 c3,∃(AL:List (Lq aE))(GL:List (Lq Int))(CL:List E8),v=.agg ⟨[vS o1 y.A.2.1 c1,vS o2 y.G.2.1 c2,vS o3 y.C.2.1 c3]⟩/\AL.map (·.2)=As/\GL.map (·.2)=Gs/\CL.map oy=Cs/\
   St w' (own 1 o1 y.A.2.1 c1 (AL.map bS)::aV (AL.map (bG 2 di))::own 1 o2 y.G.2.1 c2 (GL.map bS)::aV (GL.map (bG 1 iv))::own 3 o3 y.C.2.1 c3 (E9 CL)::aV (C_ CL)::all w):=by
 refine rr (ag (St.all w) λk1 w1 h=>bn rfl λw3 hd=>?_);have h:=h.drawn hd
 have b4:∀{u:ahs}{L:List aC}{I:ahs->Prop}{K:ahr->Nat->Nat->ahs->Prop},Gr w u->St u L->(∀u,aG L (hp u)->I u)->(∀o U V,∀AL:List (Lq aE),AL.map (·.2)=As->St V (own 1 o y.A.2.1 U (AL.map bS)::aV (AL.map (bG 2 di))::L)->K o y.A.2.1 U V)->ρ 158 [vS y.A.1 y.A.2.1 y.A.2.2,.func (.func eO) #[] #[]] u λv V=>∃o k U,v=vS o k U/\I V/\K o k U V:=λg h hI hK=>by
  refine(U1 (hA.mono g) aB.1 aB.2).mono ?_;rintro _ V⟨o,U,AL,rfl,J,h'⟩;have h':=St.N0 h' h.l;exact⟨_,_,_,rfl,hI _ h'.tail.tail.l,hK _ _ _ AL J h'⟩
 have Y:∀{u:ahs}{L:List aC}{I:ahs->Prop}{K:ahr->Nat->Nat->ahs->Prop},Gr w u->St u L->(∀u,aG L (hp u)->I u)->(∀o U V,∀GL:List (Lq Int),GL.map (·.2)=Gs->St V (own 1 o y.G.2.1 U (GL.map bS)::aV (GL.map (bG 1 iv))::L)->K o y.G.2.1 U V)->ρ 160 [vS y.G.1 y.G.2.1 y.G.2.2,.func (.func lr) #[] #[]] u λv V=>∃o k U,v=vS o k U/\I V/\K o k U V:=λg h hI hK=>by
  refine(U2 (hG.mono g) gB.1 gB.2).mono ?_;rintro _ V⟨o,U,AL,rfl,J,h'⟩;have h':=St.N0 h' h.l;exact⟨_,_,_,rfl,hI _ h'.tail.tail.l,hK _ _ _ AL J h'⟩
 have fin:∀{u:ahs}{kd:Nat}{o1 o2:ahr}{c1 c2:Nat}{AL:List (Lq aE)}{GL:List (Lq Int)},AL.map (·.2)=As->GL.map (·.2)=Gs->St u (az kd [vS none 0 0,vS none 0 0]::own 1 o1 y.A.2.1 c1 (AL.map bS)::aV (AL.map (bG 2 di))::own 1 o2 y.G.2.1 c2 (GL.map bS)::aV (GL.map (bG 1 iv))::az k1 zz3::all w)->
   bC u (aM kd) [vS o1 y.A.2.1 c1,vS o2 y.G.2.1 c2] λw9=>∃o8 a6 a0,w9.cell? (t.add 2)=some (vS o8 a6 a0)/\ρ 162 [vS o8 a6 a0,.func (.func eh) #[] #[]] w9 λv3 W=>∃o9 b3 Z,v3=vS o9 b3 Z/\∃a8 am av b2 a5 al,rowAt W (aM kd) 0 2=some [vS a8 am av,vS b2 a5 al]/\bC W (aM k1) [vS a8 am av,vS b2 a5 al,vS o9 b3 Z] λX=>∃b1 ad k26 b5 b6 aa a4 a9 a7,rowAt X (aM k1) 0 3=some [vS b1 ad k26,vS b5 b6 aa,vS a4 a9 a7]/\
    ∃o1 c1 o2 c2 o3 c3,∃(AL:List (Lq aE))(GL:List (Lq Int))(CL:List E8),vG [vS b1 ad k26,vS b5 b6 aa,vS a4 a9 a7]=.agg ⟨[vS o1 y.A.2.1 c1,vS o2 y.G.2.1 c2,vS o3 y.C.2.1 c3]⟩/\AL.map (·.2)=As/\GL.map (·.2)=Gs/\CL.map oy=Cs/\
     St X (own 1 o1 y.A.2.1 c1 (AL.map bS)::aV (AL.map (bG 2 di))::own 1 o2 y.G.2.1 c2 (GL.map bS)::aV (GL.map (bG 1 iv))::own 3 o3 y.C.2.1 c3 (E9 CL)::aV (C_ CL)::all w):=λ{u kd o1 o2 c1 c2 AL GL} J O h=>by
  refine aL h rfl (by simp[aK]) λw9 h=>?_;have g9:Gr w w9:=aA 6 h.l;refine⟨_,_,_,ht.cell g9 (j:=2) rfl,(U3 (hC.mono g9) cB.1 cB.2).mono ?_⟩;rintro _ W⟨o3,c3,CL,rfl,b7,h'⟩;have h:=St.N0 h' h.l;have b8:aj (hp W) (aM kd) [vS o1 y.A.2.1 c1,vS o2 y.G.2.1 c2]:=af 2 h.l;refine⟨_,_,_,rfl,_,_,_,_,_,_,b8.at sZZ rfl,aL (h.pick 8 [7,3,4,5,6,0,1]) rfl (by simp[aK]) λX h=>?_⟩;have ba:aj (hp X) (aM k1) [vS o1 y.A.2.1 c1,vS o2 y.G.2.1 c2,vS o3 y.C.2.1 c3]:=af 0 h.l;exact⟨_,_,_,_,_,_,_,_,_,ba.at sZZ rfl,o1,c1,o2,c2,o3,c3,AL,GL,CL,rfl,J,O,b7,h.tail⟩
 refine⟨λu=>Gr w u,h.aQ,_,_,_,λu s=>ht.cell0 s,_,_,_,λu s=>ht.cell s (j:=1) rfl,?_,?_⟩
 ·refine b4 h.aQ h (λu s=>aA 1 s) λo1 c1 u AL J h=>⟨?_,?_⟩
  ·refine Y (aA 3 h.l) h (λu s=>aA 3 s) λo2 c2 u GL O h=>ag h λkd u h=>⟨aA 6 h.l,fin J O (h.pick 6 [0,3,4,1,2,5])⟩
  ·exact ag h λkd u h=>⟨aA 4 h.l,Y (aA 4 h.l) h (λu s=>aA 4 s) λo2 c2 u GL O h=>fin J O (h.pick 6 [2,3,4,0,1,5])⟩
 ·exact ag h λkd u h=>⟨aA 2 h.l,b4 (aA 2 h.l) h (λu s=>aA 2 s) λo1 c1 u AL J h=>Y (aA 4 h.l) h (λu s=>aA 4 s) λo2 c2 u GL O h=>fin J O (h.pick 6 [4,2,3,0,1,5])⟩
theorem U4(hs:CX (hp w) k y g As Gs Cs p):ρ 37 [vP (some (aM k))] w λv w'=>∃o1 c1 o2 c2 o3 c3,∃(AL:List (Lq aE))(GL:List (Lq Int))(CL:List E8),v=.agg ⟨[vS o1 y.A.2.1 c1,vS o2 y.G.2.1 c2,vS o3 y.C.2.1 c3]⟩/\AL.map (·.2)=As/\GL.map (·.2)=Gs/\CL.map oy=Cs/\
      St w' (own 1 o1 y.A.2.1 c1 (AL.map bS)::aV (AL.map (bG 2 di))::own 1 o2 y.G.2.1 c2 (GL.map bS)::aV (GL.map (bG 1 iv))::own 3 o3 y.C.2.1 c3 (E9 CL)::aV (C_ CL)::all w):=by
  refine rj (ag (St.all w) λk1 w1 h=>RL.mono ?_)
  rintro _ w2⟨rfl,rfl⟩
  have hs1:=hs.mono h.aQ
  refine⟨_,rfl,(RN hs1.Vw hs1.A hs1.G hs1.C hs1.aB hs1.gB hs1.cB).mono ?_⟩
  rintro _ w3⟨o1,c1,o2,c2,o3,c3,AL,GL,CL,rfl,hAL,hGL,hCL,h3⟩
  have h:=St.on (N:=[_,_,_,_,_,_]) h3 h.l
  refine⟨_,_,_,_,_,_,_,_,_,rfl,aL (St.pick h 8 [6,0,1,2,3,4,5,7]) rfl (by simp[aK]) λw4 h=>?_⟩
  have r4:aj (hp w4) (aM k1) [vS o1 y.A.2.1 c1,vS o2 y.G.2.1 c2,vS o3 y.C.2.1 c3]:=af 0 h.l
  exact⟨_,_,_,_,_,_,_,_,_,r4.at sZZ rfl,o1,c1,o2,c2,o3,c3,AL,GL,CL,rfl,hAL,hGL,hCL,h.tail⟩
theorem U5{t:Addr}(ht:aj (hp w) t y.Vw)(hp1:UM (hp w) p y.p)(pB:y.p.d.2.1<=1000000/\y.p.a1.2.1<=1000000/\y.p.t.2.1<=1000000/\y.p.g1.2.1<=1000000):
  ρ 302 [.pointer (some t)] w λv w'=>∃x:PA,v=.agg ⟨x.cells⟩/\St w' (pkL p x (all w)):=by
 refine tN (ag (St.all w) λk1 w1 h=>bn rfl λw3 hd=>?_);have h:=h.drawn hd;have r4:aj (hp w) (t.add 4) [fT y.p.a1,fT y.p.a2,fT y.p.a3]:=(aj.drop (us:=[fT y.A,fT y.G,fT y.C,fT y.p.d]) ht).take (vs:=[fT y.p.t,fT y.p.g1,fT y.p.g2,fT y.p.g3,vB y.clr]);have r8:aj (hp w) (t.add 8) [fT y.p.g1,fT y.p.g2,fT y.p.g3]:=(aj.drop (us:=[fT y.A,fT y.G,fT y.C,fT y.p.d,fT y.p.a1,fT y.p.a2,fT y.p.a3,fT y.p.t]) ht).take (vs:=[vB y.clr]);refine⟨λu=>Gr w u,h.aQ,_,_,_,λu s=>ht.cell s (j:=3) rfl,_,_,_,_,_,_,_,_,_,λu s=>by rw[add_add];exact r4.at s rfl,_,_,_,λu s=>by rw[add_add];exact ht.cell s (j:=7) rfl,_,_,_,_,_,_,_,_,_,λu s=>by rw[add_add];exact r8.at s rfl,(yI (hp1.d.mono h.aQ) pB.1).mono ?_⟩;rintro _ w8⟨o1,c1,rfl,h8⟩;have h:=St.fb h8 h.l;refine⟨_,_,_,rfl,aA 2 h.l,(YF (hp1.a.rb.mono (aA 2 h.l)) (hp1.a.rv.mono (aA 2 h.l)) (hp1.a.ro.mono (aA 2 h.l)) pB.2.1 hp1.a.lv hp1.a.lo).mono ?_⟩;rintro _ w9⟨p1,p2,p3,W,q2,Z,rfl,h9⟩;have h:=St.on (N:=[_,_,_]) h9 h.l;refine⟨_,_,_,_,_,_,_,_,_,rfl,aA 5 h.l,(yI (hp1.t.mono (aA 5 h.l)) pB.2.2.1).mono ?_⟩;rintro _ a0⟨Y,c2,rfl,V⟩;have h:=St.fb V h.l;refine⟨_,_,_,rfl,aA 6 h.l,(YF (hp1.g.rb.mono (aA 6 h.l)) (hp1.g.rv.mono (aA 6 h.l)) (hp1.g.ro.mono (aA 6 h.l)) pB.2.2.2 hp1.g.lv hp1.g.lo).mono ?_⟩;rintro _ a4⟨s1,s2,s3,t1,t2,X,rfl,U⟩;have h:=St.on (N:=[_,_,_]) U h.l;refine⟨_,_,_,_,_,_,_,_,_,rfl,aA 9 h.l,aL (St.pick h 9 [8,0,1,2,3,4,5,6,7]) rfl (by simp[aK]) λO h=>?_⟩;have J:aj (hp O) (aM k1) [vS o1 y.p.d.2.1 c1,vS p1 y.p.a1.2.1 W,vS p2 y.p.a2.2.1 q2,vS p3 y.p.a3.2.1 Z,vS Y y.p.t.2.1 c2,vS s1 y.p.g1.2.1 t1,vS s2 y.p.g2.2.1 t2,vS s3 y.p.g3.2.1 X]:=af 0 h.l;refine⟨_,_,_,_,_,_,_,_,_,_,_,_,_,_,_,_,_,_,_,_,_,_,_,_,J.at sZZ rfl,⟨(o1,y.p.d.2.1,c1),(p1,y.p.a1.2.1,W),(p2,y.p.a2.2.1,q2),(p3,y.p.a3.2.1,Z),(Y,y.p.t.2.1,c2),(s1,y.p.g1.2.1,t1),(s2,y.p.g2.2.1,t2),(s3,y.p.g3.2.1,X)⟩,rfl,h.tail.pick 9 [7,4,5,6,3,0,1,2,8]⟩
theorem YG(hs:CX (hp w) k y g As Gs Cs p):ρ 218 [vP (some (aM k))] w λv w'=>∃x:PA,v=.agg ⟨x.cells⟩/\St w' (pkL p x (all w)):=by
 refine tL (ag (St.all w) λJ Y h=>RL.mono ?_);rintro _ X⟨rfl,rfl⟩;have u:=hs.mono h.aQ;refine⟨_,rfl,(U5 u.Vw u.p u.pB).mono ?_⟩;rintro _ W⟨x,rfl,O⟩;have h:=St.on (N:=[_,_,_,_,_,_,_,_]) O h.l;refine⟨_,_,_,_,_,_,_,_,_,_,_,_,_,_,_,_,_,_,_,_,_,_,_,_,rfl,aL (vs:=x.cells) (St.pick h 9 [8,0,1,2,3,4,5,6,7]) rfl (by simp[aK,PA.cells]) λU h=>?_⟩;have V:aj (hp U) (aM J) x.cells:=af 0 h.l;exact⟨_,_,_,_,_,_,_,_,_,_,_,_,_,_,_,_,_,_,_,_,_,_,_,_,V.at sZZ rfl,x,rfl,h.tail⟩
end
structure Zn where
 s:ahr
 cs:Nat
 n:ahr
 cn:Nat
abbrev RO(k:Nat)(st ids:List Int)(x:Zn)(L:List aC):List aC:=az k [iI 0,vS x.s st.length x.cs,vS x.n ids.length x.cn]::own 1 x.s st.length x.cs (iv st)::own 1 x.n ids.length x.cn (iv ids)::L
abbrev PH:=(Int×Int×Int)×Lq Int
def Qa(b:PH):List Value:=[iI b.1.1,iI b.1.2.1,iI b.1.2.2,bS b.2]
def CY(bs:List PH):List Value:=bs.flatMap Qa
def ndO(bs:List PH):List aC:=bs.map λb=>bG 1 iv b.2
def ya(b:PH):NdT:=⟨b.1.1,b.1.2.1,b.1.2.2,b.2.2⟩
theorem CZ(xs:List PH):(CY xs).length=xs.length*4:=pf (f:=Qa) (n:=4) (λ_=>rfl) xs
structure ArP where
 n:ahr
 cn:Nat
 t:ahr
 ct:Nat
abbrev PI(k:Nat)(nd:List PH)(tk:List Bool)(x:ArP)(L:List aC):List aC:=az k [vS x.n nd.length x.cn,vS x.t tk.length x.ct]::own 4 x.n nd.length x.cn (CY nd)::aV (ndO nd)::own 1 x.t tk.length x.ct (bv tk)::L
section
variable{w:ahs}{L:List aC}{k:Nat}{st ids:List Int}{x:Zn}{q i:Int}
theorem ae3(h:St w L):ρ 124 [iI 0] w λv w'=>∃b,v=vP (some (aM b))/\St w' (RO b [] [] ⟨none,0,none,0⟩ L):=
 JJ (ag h λb u h=>⟨b,rfl,(aI 1 (aI 1 h)).pick 3 [2,0,1]⟩)
theorem YH(h:St w (RO k st ids x L))(hl:st.length<64)(hi:ids.length<=1000):ρ 223 [vP (some (aM k)),iI q,iI i] w λv w'=>v=iI 0/\∃x',St w' (RO k (st++[q]) (ids++[i]) x' L):=by
 refine xC (bn rfl ⟨_,_,_,by rw[ak];exact h.cell 1,bn (age ω) ⟨_,_,_,by rw[ak];exact h.cell 1,ag h λk5 w1 h=>?_⟩⟩);refine(aU (us:=iv st) (vs:=[iI q]) aT (rfl:ai Ty _=.slice _) (rfl:ai Ty _=.slice _) rfl rfl rfl (h.pick 4 [0,2,1,3]) rfl (by simp[aK]) (by grind) ω).mono ?_;rintro _ Y⟨W,c3,rfl,h⟩;refine⟨_,_,_,rfl,?_⟩
 show st1 _ ((aM k).add 1) _ _
 rw[ak];refine aR (h.pick 4 [2,0,3]) σ λX h=>⟨_,_,_,by rw[ak];exact h.cell 2,ag h λV w4 h=>?_⟩;refine(aU (us:=iv ids) (vs:=[iI i]) aT (rfl:ai Ty _=.slice _) (rfl:ai Ty _=.slice _) rfl rfl rfl (h.pick 4 [0,3,1,2]) rfl (by simp[aK]) (by grind) ω).mono ?_;rintro _ Z⟨u,U,rfl,h⟩;refine⟨_,_,_,rfl,?_⟩
 show st1 _ ((aM k).add 2) _ _
 rw[ak];refine aR (h.pick 4 [2,3,0]) σ λw6 h=>⟨rfl,⟨W,c3,u,U⟩,?_⟩;have O:iv (st++[q])=iv st++[iI q]:=by simp[iv]
 have J:iv (ids++[i])=iv ids++[iI i]:=by simp[iv]
 unfold RO;rw[O,J,afS,afS];exact h
theorem ae4{n:Nat}(h:St w (RO k st ids x L))(hl:st.length<=64)(hi:ids.length=st.length)(hn:n<=st.length):ρ 225 [vP (some (aM k)),iI (n:Int)] w λv w'=>∃o c x',v=.tuple #[vS o n c,iI 0]/\St w' (own 1 o n c (iv (ids.drop (st.length-n)))::RO k (st.take (st.length-n)) (ids.take (st.length-n)) x' L):=by
 refine yZ ⟨λb u=>b=false/\u=w,bn rfl (bn (age ω) ⟨_,_,_,by rw[ak];exact h.cell 1,age ω,rfl⟩),?_⟩;rintro _ _ w1⟨rfl,rfl⟩;obtain⟨m,hm⟩:∃m,m=st.length-n:=⟨_,rfl⟩;have zm:(st.length:Int)-n=(m:Int):=ω
 have a0:=bI h.tail;have O:=bI h.tail.tail;rw[<-hm];refine bn rfl ⟨_,_,_,by rw[ak];exact h.cell 1,⟨ω,ω⟩,_,_,_,by rw[ak];exact h.cell 2,?_⟩;rw[zm];refine dw ω O ?_;have V:aY (hp w1) (ids.drop m) (fE x.n m x.cn 1) (ids.length-m):=(jB (h.pick 3 [2])).drop ω O;have U:ids.length-m=n:=ω
 rw[U] at V ⊢;refine(dB V (by grind) (by grind)).mono ?_;rintro _ w2⟨o5,c5,rfl,J⟩;rw[show(ids.drop m).length=n from by simp_all] at J ⊢;have h:=St.fb J h.l;refine⟨_,_,_,rfl,bq (b9 (bI h) ?_)⟩;have h:=cj h;refine⟨_,_,_,rfl,_,_,_,by rw[ak];exact h.tail.cell 1,ir ω ?_⟩
 show st1 w2 ((aM k).add 1) _ _
 rw[ak];refine aR (h.pick 4 [1,0,2,3]) σ λY h=>⟨_,_,_,by rw[ak];exact h.cell 2,ir ω ?_⟩
 show st1 Y ((aM k).add 2) _ _
 rw[ak];refine aR h σ λw5 h=>⟨_,_,⟨fE x.s 0 x.cs 1,x.cs,fE x.n 0 x.cn 1,x.cn⟩,rfl,?_⟩;have X:=qz (k:=m) (h.pick 4 [2,0,1,3]) ω;have J:=qz (k:=m) (X.pick 4 [3,0,1,2]) ω;rw[agE] at J;unfold RO;rw[agj,agj,show min m st.length=m by omega,show min m ids.length=m by omega];have W:iv (st.take m)=(iv st).take m:=by simp[iv,List.map_take]
 have Z:iv (ids.take m)=(iv ids).take m:=by simp[iv,List.map_take]
 rw[W,Z];exact J.pick 4 [3,2,1,0]
theorem ae5(h:St w (RO k st ids x L))(hl:st.length<=64):ρ 228 [vP (some (aM k))] w λv w'=>v=iI (ot st)/\hp w'=hp w:=by
 refine y9 (bn rfl ⟨_,_,_,by rw[ak];exact h.cell 1,ae (λJ=>?_) λJ=>?_⟩)
 ·have J:st=[]:=afY (by simp_all);subst J;exact⟨_,h.cell 0,rfl,rfl⟩
 ·have J:0<st.length:=by grind
  intro V O;have h:=h.drawn O;obtain⟨W,ha,hc⟩:=nB (jB (h.pick 3 [1])) (i:=st.length-1) ω;have U:(st.length:Int)-1=((st.length-1:Nat):Int):=ω
  refine⟨λu=>Gr V u,Gr.refl _,_,_,_,λu g=>by rw[ak];exact(af 0 h.l).cell g (j:=1) rfl,_,_,_,λu g=>by rw[ak];exact(af 0 h.l).cell g (j:=1) rfl,⟨ω,ω⟩,?_⟩;rw[U];refine ay ha ω ⟨_,λu g=>hc u g,?_,aP O⟩
  grind[ot,List.getLast_cons,List.getElem?_eq_getElem]
theorem YI(h:St w (RO k st ids x L))(hl:st.length<=64):ρ 61 [vP (some (aM k))] w λv w'=>∃o c,v=vS o (1+st.length) c/\St w' (own 1 o (1+st.length) c (iv (0::st))::RO k st ids x L):=by
 refine ui (bn rfl λX O=>?_);have h:=h.drawn O;refine⟨λu=>aj (hp u) (aM k) [iI 0,vS x.s st.length x.cs,vS x.n ids.length x.cn],af 0 h.l,_,λu g=>g.cell0 sZZ,_,_,_,λu g=>by rw[ak];exact g.cell sZZ (j:=1) rfl,ag h λk3 W h=>⟨af 1 h.l,?_⟩⟩;have J:=jB (h.pick 4 [2]);have h:=bj (sz:=1) (l:=1) (c:=1) (vs:=[iI 0]) (cs:=[]) h rfl rfl (afR _);refine(Wl aT (rfl:ai Ty _=.slice _) (rfl:ai Ty _=.slice _) rfl rfl rfl h rfl J (λ_=>rfl) (by grind) ω).mono ?_;rintro _ V⟨U,c2,rfl,h⟩;refine⟨_,_,_,rfl,af 1 h.l,bq (b9 (bI h) ⟨_,_,_,rfl,af 1 h.l,_,_,rfl,?_⟩)⟩
 grind[iv,kN.val,kN.Ss,cj]
theorem ae6(h:St w L):ρ 125 [] w λv w'=>∃b,v=vP (some (aM b))/\St w' (PI b [] [] ⟨none,0,none,0⟩ L):=
 Mb (ag h λb u h=>⟨b,rfl,(aI 4 ((St.flat (M:=[])).2 (aI 1 h))).pick 4 [3,0,1,2]⟩)
variable{nd:List PH}{tk:List Bool}{z:ArP}
theorem ab0{b:PH}(h:St w (bG 1 iv b.2::PI k nd tk z L))(hl:nd.length<=1000000)(ht:tk.length=nd.length):ρ 311 [vP (some (aM k)),.agg ⟨Qa b⟩] w λv w'=>v=.tuple #[iI (nd.length:Int),iI 0]/\∃z',St w' (PI k (nd++[b]) (tk++[false]) z' L):=by
 refine AK (ag h λJ w1 h w2 hd=>?_);have h:=h.drawn hd;have h:St w2 (az J (Qa b)::az k [vS z.n nd.length z.cn,vS z.t tk.length z.ct]::own 4 z.n nd.length z.cn (CY nd)::aV (ndO nd)::own 1 z.t tk.length z.ct (bv tk)::bG 1 iv b.2::L):=h.pick 6 [0,2,3,4,5,1];refine⟨λu=>aj (hp u) (aM J) (Qa b)/\aj (hp u) (aM k) [vS z.n nd.length z.cn,vS z.t tk.length z.ct],⟨af 0 h.l,af 1 h.l⟩,_,_,_,λu g=>g.2.cell0 sZZ,_,_,_,_,_,_,λu g=>g.1.at sZZ rfl,ag h λk6 w5 h=>⟨⟨af 1 h.l,af 2 h.l⟩,?_⟩⟩;refine(aU (us:=CY nd) (vs:=Qa b) aT (rfl:ai Ty _=.slice _) (rfl:ai Ty _=.slice _) rfl rfl rfl (h.pick 7 [0,3,1,2,4,5,6]) rfl (by simp[aK,Qa,bS]) (by grind) ω).mono ?_;rintro _ w6⟨W,c3,rfl,h⟩;refine⟨_,_,_,rfl,⟨af 2 h.l,af 3 h.l⟩,aR (i:=0) (h.pick 7 [3,0,4,5,6]) σ λw7 h=>⟨_,_,_,by rw[ak];exact h.cell 1,ag h λZ w8 h=>?_⟩⟩;refine(aU (us:=bv tk) (vs:=[vB false]) aT (rfl:ai Ty _=.slice _) (rfl:ai Ty _=.slice _) rfl rfl rfl (h.pick 6 [0,4,1,2,3,5]) rfl (by simp[aK]) (by grind) ω).mono ?_;rintro _ w9⟨o5,Y,rfl,h⟩;refine⟨_,_,_,rfl,?_⟩
 show st1 _ ((aM k).add 1) _ _
 rw[ak]
 refine aR (i:=1) (h.pick 6 [2,0,3,4,5]) σ λU h=>⟨_,_,_,h.cell 0,⟨ω,ω⟩,?_,⟨W,c3,o5,Y⟩,?_⟩
 ·simp
 ·have O:CY (nd++[b])=CY nd++Qa b:=by simp[CY]
  have V:bv (tk++[false])=bv tk++[vB false]:=by simp[bv]
  have X:ndO (nd++[b])=ndO nd++[bG 1 iv b.2]:=by simp[ndO]
  unfold PI;rw[O,V,X,afS,afS];have h:St _ (bG 1 iv b.2::aV (ndO nd)::_):=h.pick 5 [4,3,0,1,2];exact(St.snoc h).pick 4 [1,3,0,2]
theorem adH{s t:Nat}(h:St w (PI k nd tk z L))(hl:nd.length<=1000000)(ht:tk.length=nd.length):ρ 222 [vP (some (aM k)),iI (s:Int),iI (t:Int)] w λv w'=>v=.tuple #[iI (nd.length:Int),iI 0]/\∃z',St w' (PI k (nd++[(((s:Int),(-1:Int),(t:Int)),((none,0),[]))]) (tk++[false]) z' L):=by
 refine yX (bn rfl (bn (age ω) (bn (age ω) ((ab0 (b:=(((s:Int),(-1:Int),(t:Int)),((none,0),[]))) (aI 1 h) hl ht).mono ?_))))
 simp_all
theorem abb{i:Int}{p:Addr}{m:Nat}(hp1:w.cell? p=some (vP (some (aM k))))(hk:aj (hp w) (aM k) [vS z.n nd.length z.cn,vS z.t tk.length z.ct])(ht:aY (hp w) tk z.t tk.length)(hi:i=m)(hm:m<nd.length)(hf:tk[m]? =some false):ρ 360 [iI i,.pointer (some p)] w λv w'=>v=vB false/\Gr w w':=by
 subst hi;obtain⟨u,ha,hc⟩:=ht.at hf;exact uw (bn (age ω) ⟨_,hp1,_,_,_,hk.cell0 sZZ,bn (age ω) ⟨_,hp1,_,_,_,hk.cell sZZ (j:=1) rfl,ay ha (afK.1 hf).1 ⟨_,hc w sZZ,rfl,Gr.refl w⟩⟩⟩)
theorem abc{i:Nat}{b:Bool}(h:tk[i]? =some b):(bv tk)[i]? =some (vB b):=by simp_all[bv]
theorem adI{ks:List Nat}{o:ahr}{n c:Nat}(h:St w (own 1 o n c (iv (ks.map λ(j:Nat)=>(j:Int)))::PI k nd tk z L))(hl:nd.length<=1000000)(ht:tk.length=nd.length)(hk:∀j∈ks,j<nd.length/\tk[j]? =some false)(hd:ks.Nodup)(hn:ks.length<=1000):
  ρ 312 [vP (some (aM k)),vS o n c] w λv w'=>v=vB true/\St w' (own 1 o n c (iv (ks.map λ(j:Nat)=>(j:Int)))::PI k nd (xY tk ks) z L):=by
 have a4:ks.length=n:=by have:=nP h;simp_all
 refine zc (ag h λZ w1 h=>?_);have h:St w1 (az Z [vP (some (aM k))]::own 1 o n c (iv (ks.map λ(j:Nat)=>(j:Int)))::az k [vS z.n nd.length z.cn,vS z.t tk.length z.ct]::own 4 z.n nd.length z.cn (CY nd)::aV (ndO nd)::own 1 z.t tk.length z.ct (bv tk)::L):=h
 refine(RG (p:=λ_=>false) (jB h.tail) rfl (λx hx u g=>?_) ω).mono ?_
 ·obtain⟨j,Y,rfl⟩:=afW.1 hx;obtain⟨X,q2⟩:=hk j Y;exact abb (k:=k) (nd:=nd) (tk:=tk) (z:=z) ((af 0 h.l).cell0 g) ((af 2 h.l).mono g) ((Sy (h.pick 6 [5])).mono g) rfl X q2
 rintro _ w2⟨rfl,g2⟩;have h:=h.gr g2;refine⟨_,rfl,bn σ ⟨λx u=>∃j:Nat,x=j/\j<=n/\St u (az Z [vP (some (aM k))]::own 1 o n c (iv (ks.map λ(j:Nat)=>(j:Int)))::PI k nd (xY tk (ks.take j)) z L),λx _=>n-x.toNat,⟨0,rfl,afL _,h⟩,?_⟩⟩;clear h;rintro _ _ w3⟨j,rfl,Y,h⟩
 refine ae (λO=>?_) λO=>?_
 ·have O:j<n:=by simp_all
  obtain⟨m,hm⟩:∃m,ks[j]? =some m:=⟨_,afJ ω⟩;have V:=afI hm;obtain⟨X,q2⟩:=hk m V;have a0:(ks.map λ(j:Nat)=>(j:Int))[j]? =some (m:Int):=by simp_all
  have W:(xY tk (ks.take j))[m]? =some false:=by grind[Tp,List.getElem?_of_mem,List.getElem?_inj,List.getElem?_eq_some_iff]
  have U:m<(xY tk (ks.take j)).length:=by grind
  obtain⟨ad,ha⟩:=eE h.tail (by grind[cZ,List.length_map]);obtain⟨at_,J⟩:=eE (h.pick 6 [5,0,1,2,3,4]) (by grind[qL]);refine ay ha O ⟨_,qp h.tail ha (by simp_all[iv]),_,h.cell 0,_,_,_,by rw[ak];exact h.tail.tail.cell 1,ay J U ⟨false,qp (h.pick 6 [5,0,1,2,3,4]) J (abc W),bn rfl ⟨_,h.cell 0,_,_,_,by rw[ak];exact h.tail.tail.cell 1,ay J U (gE (h.pick 6 [5,0,1,2,3,4]) J (by simp_all[qL]) λw6 h=>⟨⟨ω,ω⟩,⟨j+1,σ,O,?_⟩,bY O⟩)⟩⟩⟩;have e:(bv (xY tk (ks.take j))).set m (vB true)=bv (xY tk (ks.take (j+1))):=by simp_all[afM,xY,List.foldl_append,bv]
  rw[e] at h;have el:(xY tk (ks.take j)).length=(xY tk (ks.take (j+1))).length:=by simp[CN]
  unfold PI;rw[<-el];exact h.pick 6 [1,2,3,4,5,0]
 ·have O:n=j:=by grind
  subst O;rw[af3 ω] at h;exact⟨rfl,h.tail⟩
theorem adJ{s p:Nat}{ks:List Nat}{o:ahr}{n c:Nat}(h:St w (own 1 o n c (iv (ks.map λ(j:Nat)=>(j:Int)))::PI k nd tk z L))(hl:nd.length<=1000000)(ht:tk.length=nd.length)(hk:∀j∈ks,j<nd.length/\tk[j]? =some false)(hd:ks.Nodup)(hn:ks.length<=1000):
  ρ 226 [vP (some (aM k)),iI (s:Int),iI (p:Int),vS o n c] w λv w'=>v=.tuple #[iI (nd.length:Int),iI 0]/\∃z',∃q:ahr×Nat,St w' (PI k (nd++[(((s:Int),(p:Int),(0:Int)),(q,ks.map λ(j:Nat)=>(j:Int)))]) (xY tk ks++[false]) z' L):=by
 have J:ks.length=n:=by have:=nP h;simp_all
 refine y7 ⟨λb u=>b=false/\St u (own 1 o n c (iv (ks.map λ(j:Nat)=>(j:Int)))::PI k nd (xY tk ks) z L),bn rfl (bn (age ω) (bn (age ω) ((adI h hl ht hk hd hn).mono ?_))),?_⟩
 ·simp
 rintro _ _ V⟨rfl,h⟩;refine bn rfl ((dB (jB h) (by grind) (by grind)).mono ?_);rintro _ U⟨o1,c1,rfl,O⟩;have h:=St.fb O h.l;refine⟨_,_,_,rfl,(ab0 (b:=(((s:Int),(p:Int),(0:Int)),((o1,c1),ks.map λ(j:Nat)=>(j:Int)))) (h.pick 2 [0]) hl (by simp_all[CN])).mono ?_⟩
 grind
end
section
variable{w:ahs}{L:List aC}
theorem adK{n:Nat}(h:St w L)(hn:n<=1000000):ρ 359 [vS none 0 0,iI (n:Int)] w λv w'=>∃o c,v=vS o 0 c/\St w' (own 1 o 0 c []::L):=by
 refine qX (bn σ ⟨_,_,M4 aT (rfl:ai Ty _=.slice _) _ _ _ _,Ev.refl w,_,rfl,⟨ω,ω⟩,⟨ω,ω⟩,ae (λu=>?_) λu=>⟨_,_,rfl,aI 1 h⟩⟩);have u:0<n:=by have:=afO u;omega
 refine⟨_,_,M4 aT (rfl:ai Ty _=.slice _) _ _ _ _,Ev.refl w,_,rfl,ir (afR 0) ?_⟩;rw[show(n:Int)-(((0:Nat):Int)-((0:Nat):Int))=(n:Int) by omega,show fE none 0 0 1=none from rfl];refine(Ld (i:=_) aT (rfl:ai Ty _=.slice _) (rfl:ai Ty _=.int _) rfl rfl rfl (by decide) h u ω (by show n*8<=_;omega) ω).mono ?_;rintro _ O⟨o,U,us,rfl,hl,J⟩;have hc:=bI J;have:=qz (k:=0) J (afL _);exact⟨_,_,_,rfl,ir (hi:=0) (afL _) ⟨_,_,rfl,by simpa using this⟩⟩
theorem Lg{xss:List (List Int)}{j:Nat}{xs:List Int}(h:xss[j]? =some xs):(xss.take (j+1)).flatten=(xss.take j).flatten++xs:=by
 rw[afM,h];simp
theorem Gx{xss:List (List Int)}(j:Nat):(xss.take j).flatten.length<=xss.flatten.length:=by
 have:=congrArg List.flatten (af9 j xss);rw[List.flatten_append] at this;have:=congrArg List.length this;rw[afS] at this;omega
theorem YJ{xss:List (List Int)}{a:ahr}{b c:Nat}(hr:aY (hp w) xss a b)(hb:b<=1000)(hl:xss.flatten.length<=1000000):ρ 309 [vS a b c] w λv w'=>∃o c',v=vS o xss.flatten.length c'/\St w' (own 1 o xss.flatten.length c' (iv xss.flatten)::all w):=by
 have a4:=hr.1;refine o_ ⟨λn i u=>∃j:Nat,i=j/\j<=b/\n=((xss.take j).flatten.length:Int)/\u=w,λ_ i _=>b-i.toNat,⟨0,rfl,afL _,σ,rfl⟩,?_⟩;rintro _ _ _ w1⟨j,rfl,hj,rfl,rfl⟩;have a0:=Gx (xss:=xss) j
 refine ae (λO=>?_) λO=>?_
 ·have O:j<b:=by have:=afO O;omega
  obtain⟨xs,ad,vs,hx,ha,J,o1,l1,c1,rfl,_,V⟩:=hr.get O;have X:=Lg hx;have e2:=congrArg List.length X;rw[afS,V.1] at e2;have W:=Gx (xss:=xss) (j+1);refine aJ ha O ⟨o1,l1,c1,J.cell0 sZZ,⟨ω,ω⟩,bn (by simp;omega) ⟨⟨ω,ω⟩,⟨j+1,σ,O,ω,rfl⟩,?_⟩⟩
  show b-((j:Int)+1).toNat<b-(j:Int).toNat
  omega
 ·have O:j=b:=by have:=afN O;omega
  subst O;have Y:(xss.take j).flatten=xss.flatten:=by rw[af3 ω]
  rw[Y];refine(adK (St.all w1) hl).mono ?_;rintro _ w2⟨o,c2,rfl,h2⟩;refine⟨_,_,_,rfl,λo n c i u=>∃k:Nat,i=k/\k<=j/\n=(xss.take k).flatten.length/\St u (own 1 o n c (iv (xss.take k).flatten)::all w1),λ_ _ _ i _=>j-i.toNat,⟨0,rfl,afL _,σ,by simpa[iv] using h2⟩,?_⟩;rintro _ o n c3 _ w3⟨k,rfl,hk,rfl,Z⟩;have a0:=Gx (xss:=xss) k
  refine ae (λU=>?_) λU=>?_
  ·have U:k<j:=by have:=afO U;omega
   obtain⟨xs,ad,vs,hx,ha,J,o1,l1,c1,rfl,_,V⟩:=(hr.mono Z.aQ).get U;have X:=Lg hx;have e2:=congrArg List.length X;rw[afS,V.1] at e2;have W:=Gx (xss:=xss) (k+1);refine aJ ha U ⟨o1,l1,c1,J.cell0 sZZ,(Wl aT (rfl:ai Ty _=.slice _) (rfl:ai Ty _=.slice _) rfl rfl rfl Z rfl V (λ_=>rfl) (by show(_+_)*8<=_;omega) ω).mono ?_⟩;rintro _ w4⟨o',c',rfl,h5⟩
   refine⟨_,_,_,rfl,⟨ω,ω⟩,⟨k+1,σ,U,ω,?_⟩,?_⟩
   ·rw[X];simpa[iv,kN.Ss] using h5
   ·show j-((k:Int)+1).toNat<j-(k:Int).toNat
    omega
  ·have U:k=j:=by have:=afN U;omega
   subst U;rw[Y] at Z;exact⟨o,c3,by rw[Y],by rw[Y] at*;exact Z⟩
end
abbrev tbC(x:GA)(A G:FV)(xp:PA):List Value:=[vS x.ta x.tl x.tc,vS x.na x.nl x.nc,vS x.la x.ll x.lc,iI x.s,vS x.pa x.pl x.pc,.iface wO (.agg ⟨[fT A,fT G]⟩),.iface fZ (.agg ⟨xp.cells⟩)]
structure uR(h:Hp)(b:Nat)(x:GA)(A G:FV)(xp:PA)(g:ah)(As:List (List aE))(Gs:List (List Int))(p:dH):Prop where
 row:aj h (aM b) (tbC x A G xp)
 g:gR h g x
 A:aY h As A.1 A.2.1
 G:aY h Gs G.1 G.2.1
 p:UM h p xp
theorem uR.mono{h h':Hp}{b:Nat}{x:GA}{A G:FV}{xp:PA}{g:ah}{As:List (List aE)}{Gs:List (List Int)}{p:dH}(s:sub h h')(r:uR h b x A G xp g As Gs p):uR h' b x A G xp g As Gs p:=⟨r.row.mono s,r.g.mono s,r.A.mono s,r.G.mono s,r.p.mono s⟩
section
variable{w:ahs}{k:Nat}{y:Jf}{g:ah}{As:List (List aE)}{Gs:List (List Int)}{Cs:List cK}{p:dH}
theorem U6(hs:CX (hp w) k y g As Gs Cs p)(hb:mi g)(hbT:g.terms.length*24<=140737488355328)(hbN:g.cM.length*16<=140737488355328)(hne:g.prods.length≠0):ρ 123 [vP (some (aM k))] w λv w'=>∃(b:Nat)(x:GA)(A G:FV)(xp:PA)(H:Hp),v=vP (some (aM b))/\uR H b x A G xp g As Gs p/\St w' (has H::all w):=by
 refine B_ ((Lf hs hb hbT hbN).mono ?_);rintro _ w1⟨O,os,rfl,hx,ho,h⟩;have h:St w1 (_::_::_::_::_::all w):=h;refine⟨_,_,_,_,_,_,_,_,_,_,_,_,_,rfl,ag h λk9 w2 h=>aL h rfl (by simp[aK]) λw3 h=>⟨_,_,_,h.cell 4,bn (by have:=hx.p;simp_all) λX hd=>?_⟩⟩;have h:=h.drawn hd;have g4:Gr w X:=aA 6 h.l;have r9:=af 0 h.l;refine⟨λu=>aj (hp u) (aM k9) [vS O.ta O.tl O.tc,vS O.na O.nl O.nc,vS O.la O.ll O.lc,iI O.s,vS O.pa O.pl O.pc],r9,_,_,_,_,_,_,_,_,_,_,_,_,_,λu s=>s.at sZZ rfl,(U4 (hs.mono g4)).mono ?_⟩;rintro _ w6⟨o1,c1,Y,c2,o3,c3,AL,Z,CL,rfl,W,U,a0,h6⟩;have g6:Gr X w6:=aA 6 h6.l;have h:=St.on (N:=[_,_,_,_,_,_]) h6 h.l;refine⟨_,_,_,_,_,_,_,_,_,rfl,af 6 h.l,(YG (hs.mono (g4.trans g6))).mono ?_⟩;rintro _ w7⟨xp,rfl,h7⟩;have h:=St.on (N:=[_,_,_,_,_,_,_,_]) h7 h.l;refine⟨_,_,_,_,_,_,_,_,_,_,_,_,_,_,_,_,_,_,_,_,_,_,_,_,rfl,af 14 h.l,ag h λV w8 h=>?_⟩;have l2:=nP (St.pick h 22 [3]);have l3:=nP (St.pick h 22 [4]);have l6:=nP (St.pick h 22 [7]);have l7:=nP (St.pick h 22 [8]);have l1:=nP (St.pick h 22 [2]);have l0:=nP (St.pick h 22 [1]);have l4:=nP (St.pick h 22 [5]);have l5:=nP (St.pick h 22 [6]);obtain⟨H,J,hf⟩:=St.lj [has (hp w)] (St.pick h 22 [21,0,1,2,3,4,5,6,7,8,9,10,11,12,13,14,15,16,17,18,19,20])
 refine⟨af 15 h.l,V,O,(o1,y.A.2.1,c1),(Y,y.G.2.1,c2),xp,H,rfl,⟨af 0 J,?_,?_,?_,?_⟩,hf.swap⟩
 ·exact Gc (L:=[]) hx ho (aq (aq (aq (aq (aq (aq (aq (aq (aq (aq (aq (aq (aq (aq (aq (aq J))))))))))))))))
 ·obtain⟨h1,s1,a1⟩:=Bi (A:=own 1 o1 y.A.2.1 c1 (AL.map bS)) 9 J;obtain⟨h2,s2,a2⟩:=Bi (A:=aV (AL.map (bG 2 di))) 10 J;rw[<-W];exact CW (λr=>CO rfl r) s1 a1 s2 a2
 ·obtain⟨h1,s1,a1⟩:=Bi (A:=own 1 Y y.G.2.1 c2 (Z.map bS)) 11 J;obtain⟨h2,s2,a2⟩:=Bi (A:=aV (Z.map (bG 1 iv))) 12 J;rw[<-U];exact CW (λr=>bp rfl r) s1 a1 s2 a2
 ·have r:=hs.p;exact⟨bp l0 (dE 1 J),⟨bp l1 (dE 2 J),bp l2 (dE 3 J),bp l3 (dE 4 J),by rw[<-l2,r.a.rv.1];exact r.a.lv,by rw[<-l3,r.a.ro.1];exact r.a.lo,r.a.bd⟩,bp l4 (dE 5 J),⟨bp l5 (dE 6 J),bp l6 (dE 7 J),bp l7 (dE 8 J),by rw[<-l6,r.g.rv.1];exact r.g.lv,by rw[<-l7,r.g.ro.1];exact r.g.lo,r.g.bd⟩⟩
variable{L:List aC}{b:Nat}{x:GA}{A G:FV}{xp:PA}{H:Hp}{st ab:List Int}{m kept:Nat}
theorem abd(hT:uR (hp w) b x A G xp g As Gs p):ρ 128 [vP (some (aM b))] w λv w'=>v=iI (g.T:Int)/\w'=w:=by
 refine uk ⟨_,_,_,hT.row.cell0 sZZ,?_,rfl⟩;have:(g.T:Int)=(x.tl:Int):=by have:=hT.g.t.1;show(g.terms.length:Int)=_;omega
 grind
theorem YK(hT:uR (hp w) b x A G xp g As Gs p){i:Nat}{q:aO}(hq:g.prods[i]? =some q):ρ 224 [vP (some (aM b)),iI (i:Int)] w λv w'=>v=.tuple #[iI (q.right.length:Int),iI q.left]/\hp w'=hp w:=by
 refine sJ λU W=>?_;obtain⟨X,vs,ha,J,pa,pl,pc,rfl,_,O⟩:=hT.g.p.2 i q hq;have hi:i<x.pl:=by rw[<-hT.g.p.1];grind
 have V:=aP W;have s1:∀{u:ahs},hp u=hp U->sub (hp w) (hp u):=λe=>by simp_all[sub.refl]
 have hl:(q.right.length:Int)=(pl:Int):=by rw[O.1]
 exact⟨λu=>hp u=hp U,rfl,_,_,_,λu e=>hT.row.cell (s1 e) (j:=4) rfl,aJ ha hi ⟨_,_,_,λu e=>J.cell (s1 e) (j:=1) rfl,_,_,_,λu e=>hT.row.cell (s1 e) (j:=4) rfl,aJ ha hi ⟨_,λu e=>J.cell0 (s1 e),by grind,V⟩⟩⟩
theorem adL{l:List Int}{q n:Nat}{z:Int}(hA:G.2.1=G.2.1)(hG:aY (hp w) Gs G.1 G.2.1)(hq:Gs[q]? =some l)(hn:l[n]? =some z):ρ mT [.agg ⟨[fT A,fT G]⟩,iI (q:Int),iI (n:Int)] w λv w'=>v=iI z/\Gr w w':=by
 refine uy (ag (St.all w) λY W h=>?_);obtain⟨Z,vs,ha,u,X,l2,c2,rfl,_,U⟩:=(hG.mono h.aQ).2 q l hq;have J:q<G.2.1:=by rw[<-hG.1];grind
 obtain⟨V,O,hc⟩:=U.at hn;refine⟨_,_,_,h.cell 1,aJ ha J ⟨_,_,_,u.cell0 sZZ,ay O (by rw[<-U.1];grind) ⟨_,hc W sZZ,rfl,h.aQ⟩⟩⟩
theorem YL(hT:uR (hp w) b x A G xp g As Gs p){l:List Int}{q n:Nat}{z s:Int}(hs:s=((g.T+n:Nat):Int))(hn2:n<=1000000)(hT2:g.T<=1000000)(hq:Gs[q]? =some l)(hn:l[n]? =some z):ρ 227 [vP (some (aM b)),iI (q:Int),iI s] w λv w'=>v=iI z/\Gr w w':=by
 subst hs;refine sO λO V=>?_;have g1:Gr w O:=Gr.drawn V;have U:(x.tl:Int)=(g.T:Int):=by have:=hT.g.t.1;show _=(g.terms.length:Int);omega
 refine⟨λu=>Gr O u,Gr.refl _,_,_,λu s=>hT.row.cell (sub.trans g1 s) (j:=5) rfl,_,_,_,λu s=>hT.row.cell0 (sub.trans g1 s),⟨ω,ω⟩,?_⟩;have e:((g.T+n:Nat):Int)-(x.tl:Int)=(n:Int):=ω
 rw[e];refine⟨mT,[.agg ⟨[fT A,fT G]⟩,iI (q:Int),iI (n:Int)],by kernel_rfl,(adL rfl (hT.G.mono g1) hq hn).mono ?_⟩;rintro _ W⟨rfl,J⟩;exact⟨_,rfl,J,rfl,g1.trans J⟩
theorem RP(h:St w (JK m k kept ab::L))(hs:∀h,aG L h->FF h k st)(hk:kept<=st.length)(ha:ab.length<=1000):ρ 221 [vP (some (aM m))] w λv w'=>∃o n c,v=vS o n c/\n<=c/\St w' (JK m k kept ab::L):=by
 have a0:=h;obtain⟨o,c,h⟩:=mC.1 h;refine qT ((yr (h.cell 0)).mono ?_);rintro _ _⟨rfl,rfl⟩;refine⟨_,rfl,bn rfl λU hd=>?_⟩;have h:=h.drawn hd;have h0:=a0.drawn hd;clear a0;obtain⟨o2,n2,c2,r,q1,q2,q3⟩:=hs _ h.tail.tail.l;have e2:=q2.1;have a6:min kept st.length=kept:=ω
 have ad:=bI h.tail
 --what is put together
 have fin:∀{u:ahs}{J O:Nat},Gr U u->aj (hp u) (aM J) [iI 0]->aj (hp u) (aM O) [vS (some (aM J)) 1 1,vS (fE o2 0 c2 1) kept c2,vS o ab.length c]->aY (hp u) [[0],st.take kept,ab] (some (aM O)) 3:=λ{u J O} g h5 V=>by
  have p1:aY (hp u) ([0]:List Int) (some (aM J)) 1:=bp rfl (.inr ⟨_,rfl,h5⟩);have p2:aY (hp u) (st.take kept) (fE o2 0 c2 1) kept:=by rw[W8];exact(q2.mono g).take ω
  have p3:aY (hp u) ab o ab.length:=(jB h.tail).mono g;refine⟨rfl,λi xs Y=>?_⟩
  match i,Y with
  |0,Y=>cases Y;exact⟨_,_,rfl,λj v hj=>by rw[add_add];exact V (0+j) v (by grind),_,_,_,rfl,afR _,p1⟩
  |1,Y=>cases Y;exact⟨_,_,rfl,λj v hj=>by rw[add_add];exact V (1+j) v (by cases j with|zero=>exact hj|succ j=>grind),_,_,_,rfl,ω,p2⟩
  |2,Y=>cases Y;exact⟨_,_,rfl,λj v hj=>by rw[add_add];exact V (2+j) v (by grind),_,_,_,rfl,ad,p3⟩
 have a7:∀{u:ahs}{X:List aC}{J O:Nat},St u (X++(az J [iI 0]::az O [vS (some (aM J)) 1 1,vS (fE o2 0 c2 1) kept c2,vS o ab.length c]::[has (hp U)]))->ρ 309 [vS (some (aM O)) 3 3] u λv u'=>∃o n Z,v=vS o n Z/\n<=Z/\Gr U u':=λ{u X J O} h=>by
  have hh:St u (az J [iI 0]::az O [vS (some (aM J)) 1 1,vS (fE o2 0 c2 1) kept c2,vS o ab.length c]::[has (hp U)]):=by
   induction X with
   |nil=>grind
   |cons A X ih=>exact ih h.tail
  have g:Gr U u:=aA 2 hh.l;refine(YJ (fin g (af 0 hh.l) (af 1 hh.l)) ω (by grind)).mono ?_;rintro _ u'⟨o',Z,rfl,h'⟩;exact⟨_,_,_,rfl,bI h',g.trans h'.aQ⟩
 have r0:aj (hp U) (aM m) [vP (some (aM k)),iI (kept:Int),vS o ab.length c]:=af 0 h.l
 refine⟨λu=>Gr U u,Gr.refl _,some (aM k),λu g=>r0.cell0 g,_,λu g=>q1.cell0 g,some (aM k),λu g=>r0.cell0 g,_,_,_,λu g=>q1.cell g (j:=1) rfl,_,_,_,λu g=>r0.cell g (j:=2) rfl,?_,?_⟩
 ·refine ag (St.all U) λJ w8 V=>⟨V.aQ,(Gg (h0.gr V.aQ) hs).mono ?_⟩;rintro _ w9⟨rfl,e9⟩;have h9:=V.eq e9;rw[a6];refine⟨_,rfl,h9.aQ,ir ω (ag h9 λO am a9=>⟨a9.tail.aQ,(a7 (X:=[]) (a9.pick 2 [1,0])).mono ?_⟩)⟩;rintro _ b1⟨o',n',Z,rfl,W,g⟩;exact⟨_,_,_,rfl,g,_,_,_,rfl,W,h0.gr g⟩
 ·refine(Gg h0 hs).mono ?_;rintro _ b3⟨rfl,a5⟩;have aa:=(St.all U).eq a5;rw[a6];refine⟨_,rfl,Gr.of_eq a5,ir ω (ag aa λb5 av a8=>⟨a8.aQ,ag a8 λal b4 a4=>⟨a4.tail.aQ,(a7 (X:=[]) (a4.pick 2 [1,0])).mono ?_⟩⟩)⟩;rintro _ b2⟨o',n',Z,rfl,W,g⟩;exact⟨_,_,_,rfl,g,_,_,_,rfl,W,h0.gr g⟩
def afB(L:List aC)(r0:TrR)(v:Value)(w':ahs):Prop:=
 (r0=none/\v=.tuple #[.agg #[vB false,vS none 0 0,vS none 0 0],iI 15]/\St w' L)\/
 ∃(f:Bool)(ms:List aE)(l:List Int)(o o2:ahr)(c n c2:Nat),r0=some (f,ms,l)/\v=.tuple #[.agg #[vB f,vS o ms.length c,vS o2 n c2],iI 0]/\ms.length<=1025/\St w' (own 2 o ms.length c (di ms)::L)
theorem ab1{t:Int}{Q:List Int->Prop}(hT:uR H b x A G xp g As Gs p)(hb:mi g)(hQ:Saf g (bX p) (dI p) t Q)(hq:Q st)(hl:st.length<=64)(hL:∀h,aG L h->FF h k st/\sub H h)(h:St w L):
  ρ 129 [vP (some (aM b)),vB true,vP (some (aM k)),iI t] w (afB L (Vs g (bX p) (dI p) t 1024 st [])):=by
 obtain⟨r0,a0⟩:∃r0,r0=Vs g (bX p) (dI p) t 1024 st []:=⟨_,rfl⟩;rw[<-a0];refine xv (ag h λk1 w1 h w2 hd=>?_);have h:=h.drawn hd
 have V:∀{u:ahs}{X:List aC},St u (X++L)->sub H (hp u):=λ{u X} J=>by
  induction X with
  |nil=>exact(hL _ J.l).2
  |cons A X ih=>exact ih J.tail
 have rp:aj H (aM b) x.cells:=aj.take (vs:=[.iface wO (.agg ⟨[fT A,fT G]⟩),.iface fZ (.agg ⟨xp.cells⟩)]) hT.row;refine⟨λu=>sub H (hp u),V (X:=[_]) h,_,_,_,_,_,_,_,_,_,_,_,_,_,λu s=>rp.at s rfl,_,_,λu s=>hT.row.cell s (j:=5) rfl,(acJ h λh J=>(hL _ (aq J)).1).mono ?_⟩;rintro _ w5⟨m,rfl,h⟩
 refine⟨_,rfl,V (X:=[_,_]) h,ag h λO w6 h=>⟨V (X:=[_,_,_]) h,λu=>St u (az O (P9 m x fZ (.agg ⟨xp.cells⟩) none 0 0)::JK m k st.length []::az k1 [vB false,vS none 0 0,vS none 0 0]::L),dL rfl ⟨_,_,hT.row.cell (V (X:=[_,_,_]) h) (j:=6) rfl,?_⟩,?_⟩⟩
 ·rw[ak];exact aR (i:=6) h σ λw7 h=>h
 clear h;intro _ w8 h
 have a5:TrI g (bX p) (dI p) t Q m k O x fZ (.agg ⟨xp.cells⟩) st r0 (az k1 [vB false,vS none 0 0,vS none 0 0]::L) ⟨st.length,[],[],none,0⟩ w8:=by
  refine⟨afR _,ω,σ,?_,?_,(aI 2 h).pick 4 [2,1,0,3]⟩
  ·dsimp only;rw[af7,agc];exact hq
  simp_all
 refine(adh (ac7 hT.p) hQ hb (λh J=>⟨(hL _ (aq J)).1,(hL _ (aq J)).2,hT.g.mono (hL _ (aq J)).2⟩) a5).mono ?_
 rintro _ w9 (⟨hn,rfl,h⟩|⟨y,f,hn,rfl,y1,y2,y3,_,h⟩)
 ·refine⟨_,_,rfl,dL rfl (aL h rfl (by simp[aK]) λa6 h=>⟨_,_,_,_,_,_,_,(af 0 h.l).at sZZ rfl,.inl ⟨hn,rfl,h.tail⟩⟩)⟩
 ·refine⟨_,_,rfl,bn rfl λa7 hd=>?_⟩;have h:=h.drawn hd;refine⟨λu=>aj (hp u) (aM O) (P9 m x fZ (.agg ⟨xp.cells⟩) y.o y.ms.length y.c),af 1 h.l,_,_,_,λu r=>r.cell sZZ (j:=7) rfl,_,λu r=>r.cell0 sZZ,?_⟩;refine b_ (b9 (bI h.tail.tail) ⟨_,_,_,rfl,af 1 h.l,?_⟩);refine(RP h (λh J=>(hL _ (aq (aq (aq J)))).1) y1 ω).mono ?_;rintro _ a8⟨a4,U,a9,rfl,Z,h⟩;refine⟨_,_,_,rfl,af 1 h.l,bq (b9 Z ⟨_,_,_,rfl,af 1 h.l,?_⟩)⟩;refine aL (h.pick 4 [3,2]) rfl (by simp[aK]) λW h=>?_;have Y:aj (hp W) (aM k1) [vB f,vS (fE y.o 0 y.ms.length 2) y.ms.length y.ms.length,vS (fE a4 0 U 1) U U]:=af 0 h.l;exact⟨_,_,_,_,_,_,_,Y.at sZZ rfl,.inr ⟨f,y.ms,_,_,_,_,_,_,hn,rfl,y3,cj h.tail⟩⟩
end
def mvE(m:aE×Nat):List Value:=[iI m.1.kind,iI m.1.to,iI (m.2:Int)]
def mvV(l:List (aE×Nat)):List Value:=l.flatMap mvE
abbrev U7(l:List Nat):List Int:=l.map λ(j:Nat)=>(j:Int)
abbrev YM(s a b:Nat)(y:da)(mo:ahr)(mc:Nat):List Value:=[vP (some (aM s)),vP (some (aM a)),vP (some (aM b)),vB true,vS mo y.mv.length mc,iI (y.de:Int),vB y.ov]
def iC(r s a b:Nat)(y:da)(L:List aC)(u:ahs):Prop:=∃(nq:List PH)(x:Zn)(z:ArP)(mo:ahr)(mc:Nat),nq.map ya=y.nd/\
 St u (az r (YM s a b y mo mc)::own 3 mo y.mv.length mc (mvV y.mv)::RO s (wj y.es) (U7 y.ids.reverse) x (PI a nq y.tk z L))
def GtI(g:ah)(ss:List SQ)(Gs:List (List Int)):Prop:=∀(q n:Nat)(j:Int),n<g.N->dm ss q ((g.T+n:Nat):Int)=some j->∃l,Gs[q]? =some l/\l[n]? =some j
section
variable{w:ahs}{L:List aC}{r s a b:Nat}{y:da}{g:ah}{ss:List SQ}{G:Nat->Int->Nat}{H:Hp}{x:GA}{oA oG:FV}{xp:PA}{As:List (List aE)}{Gs:List (List Int)}{p:dH}
theorem RQ{c:aE}{K:ahs->Nat->Prop}(hm:y.mv.length<=1000000)(h:iC r s a b y L w)
  (hK:∀(u:ahs)(k1:Nat)(nq:List PH)(x:Zn)(z:ArP)(mo:ahr)(mc:Nat),nq.map ya=y.nd->St u (az k1 (bD c)::az r (YM s a b { y with mv:=y.mv++[(c,y.de)] } mo mc)::own 3 mo (y.mv++[(c,y.de)]).length mc (mvV (y.mv++[(c,y.de)]))::RO s (wj y.es) (U7 y.ids.reverse) x (PI a nq y.tk z L))->K u k1):
  new w (oC (bD c) qM) λk1 w1=>∀w2,drawn w1 w2->∃I1:ahs->Prop,I1 w2/\nn (some (aM r)) λa1=>∃o1 k2 k3,(∀w3,I1 w3->World.cell? w3 (Addr.add a1 4)=some (vS o1 k2 k3))/\∃n1 n2,(∀w4,I1 w4->rowAt w4 (aM k1) 0 2=some [iI n1,iI n2])/\nn (some (aM r)) λa2=>∃n3,(∀w5,I1 w5->World.cell? w5 (Addr.add a2 5)=some (iI n3))/\new w2 (oC [iI n1,iI n2,iI n3] N7) λk4 w6=>I1 w6/\aX Tryz.prog (fX Jy (Array.mk [vS o1 k2 k3,vS (some (aM k4)) 1 1])) w6 λv1 w7=>∃o2 k5 k6,v1=vS o2 k5 k6/\I1 w7/\nn (some (aM r)) λa3=>st1 w7 (Addr.add a3 4) (vS o2 k5 k6) λw8=>K w8 k1:=by
 obtain⟨nq,U,z,mo,mc,J,h⟩:=h;refine ag h λk1 w1 h w2 V=>?_;have h:=h.drawn V;refine⟨λu=>aj (hp u) (aM r) (YM s a b y mo mc)/\aj (hp u) (aM k1) (bD c),⟨af 1 h.l,af 0 h.l⟩,_,_,_,λu e=>e.1.cell sZZ (j:=4) rfl,_,_,λu e=>e.2.at sZZ rfl,_,λu e=>e.1.cell sZZ (j:=5) rfl,ag h λk4 w6 h=>⟨⟨af 2 h.l,af 1 h.l⟩,?_⟩⟩;refine(aU (us:=mvV y.mv) (vs:=mvE (c,y.de)) aT (rfl:ai Ty _=.slice _) (rfl:ai Ty _=.slice _) rfl rfl rfl (h.pick 4 [0,3,1,2]) rfl (by simp[aK,mvE]) (by grind) ω).mono ?_;rintro _ w7⟨o2,c2,rfl,h⟩;refine⟨_,_,_,rfl,⟨af 3 h.l,af 2 h.l⟩,?_⟩
 show st1 _ ((aM r).add 4) _ _
 rw[ak];refine aR (i:=4) (h.pick 4 [3,0,2]) σ λw8 h=>hK w8 k1 nq U z o2 c2 J ?_;have O:mvV (y.mv++[(c,y.de)])=mvV y.mv++mvE (c,y.de):=by simp[mvV]
 unfold YM;rw[O,afS];exact h.pick 3 [2,0,1]
theorem adM{t q:Nat}(hI:fV g ss y)(hl:y.es.length<64)(hm:y.mv.length<=1000000)(h:iC r s a b y L w):ρ fp [vP (some (aM r)),.agg ⟨bD ⟨1,q⟩⟩,iI (t:Int)] w λv w'=>v=.tuple #[]/\iC r s a b (Ix t q y) L w':=by
 refine jT (RQ hm h (c:=⟨1,q⟩) λu X nq sk z V O J h=>⟨_,h.cell 0,dL rfl λw9 W=>?_⟩);have h:=h.drawn W;have U:nq.length=y.nd.length:=by grind
 have a6:=hI.nl;refine⟨λu=>aj (hp u) (aM r) (YM s a b { y with mv:=y.mv++[(⟨1,q⟩,y.de)] } V O)/\aj (hp u) (aM X) (bD ⟨1,q⟩),⟨af 1 h.l,af 0 h.l⟩,_,λu e=>e.1.cell sZZ (j:=1) rfl,_,λu e=>e.1.cell sZZ (j:=5) rfl,?_⟩;refine(adH (s:=t) (t:=y.de) (h.pick 10 [6,7,8,9,0,1,2,3,4,5]) ω (by rw[hI.tl,U])).mono ?_;rintro _ a0⟨rfl,z',h⟩;refine⟨_,_,rfl,⟨af 5 h.l,af 4 h.l⟩,λY W=>?_⟩;have h:=h.drawn W;refine⟨λu=>aj (hp u) (aM r) (YM s a b { y with mv:=y.mv++[(⟨1,q⟩,y.de)] } V O)/\aj (hp u) (aM X) (bD ⟨1,q⟩),⟨af 5 h.l,af 4 h.l⟩,_,λu e=>e.1.cell0 sZZ,_,λu e=>e.2.cell sZZ (j:=1) rfl,?_⟩;have a5:=hI.il;refine(YH (h.pick 10 [7,8,9,0,1,2,3,4,5,6]) (by simp_all[fU]) (by grind)).mono ?_;rintro _ a4⟨rfl,x',h⟩
 refine⟨_,rfl,rfl,nq++[(((t:Int),(-1:Int),(y.de:Int)),((none,0),[]))],x',z',V,O,?_,?_⟩
 ·show(nq++_).map ya=y.nd++[⟨t,-1,y.de,[]⟩]
  rw[af8,J];rfl
 ·have Z:wj (((t:Int),q,Tr.lf t y.de)::y.es)=wj y.es++[(q:Int)]:=xX _ _;have e2:U7 (y.nd.length::y.ids).reverse=U7 y.ids.reverse++[(nq.length:Int)]:=by simp_all
  unfold Ix;dsimp only;rw[Z,e2];exact h.pick 10 [8,9,0,1,2,3,4,5,6]
theorem adO{t:Int}{m:Nat}{q:aO}(hT:uR H b x oA oG xp g As Gs p)(hL:∀h,aG L h->sub H h)(hGt:GtI g ss Gs)(hI:fV g ss y)(hq:g.prods[m]? =some q)(hk:q.right.length<=y.es.length)(hl:(y.es.drop q.right.length).length<64)(h1:(g.T:Int)<=q.left)(h2:q.left<((g.T+g.N:Nat):Int))(hsz:g.T<=1000/\g.N<=1000)
  (hn:dm ss (eM (y.es.drop q.right.length)) q.left=some (G (eM (y.es.drop q.right.length)) q.left:Int)) (hm:y.mv.length<=1000000) (h:iC r s a b y L w):ρ fp [vP (some (aM r)),.agg ⟨bD ⟨2,(m:Int)⟩⟩,iI t] w λv w'=>v=.tuple #[]/\iC r s a b (F1 G m q y) L w':=by
 refine jT (RQ hm h (c:=⟨2,(m:Int)⟩) λu k1 nq sk z mo mc a0 h=>⟨_,h.cell 0,bn rfl (dL rfl λad Y=>?_)⟩);have h:=h.drawn Y;have a4:nq.length=y.nd.length:=by grind
 have b8:=hI.nl;have W:=hI.il;have b3:=hI.hl;obtain⟨n,O⟩:∃n,n=q.right.length:=⟨_,rfl⟩;obtain⟨R,hR⟩:∃R,R=YM s a b { y with mv:=y.mv++[(⟨2,(m:Int)⟩,y.de)] } mo mc:=⟨_,rfl⟩;have R0:R[0]? =some (vP (some (aM s))):=by simp_all
 have R1:R[1]? =some (vP (some (aM a))):=by simp_all
 have R2:R[2]? =some (vP (some (aM b))):=by simp_all
 rw[<-hR] at h;have z0:∀{u:ahs},aj (hp u) (aM r) R->u.cell? (aM r)=some (vP (some (aM s))):=λe=>by have:=e.cell sZZ R0;rwa [show(aM r).add 0=aM r from rfl] at this
 have V:∀{u:ahs}{X:List aC},St u (X++L)->sub H (hp u):=λ{u X} hh=>by
  induction X with
  |nil=>exact hL _ hh.l
  |cons A X ih=>exact ih hh.tail
 refine⟨λu=>aj (hp u) (aM r) R/\aj (hp u) (aM k1) (bD ⟨2,(m:Int)⟩),⟨af 1 h.l,af 0 h.l⟩,_,λu e=>e.1.cell sZZ R2,_,λu e=>e.2.cell sZZ (j:=1) rfl,?_⟩;refine(YK (hT.mono (V (X:=[_,_,_,_,_,_,_,_,_,_]) h)) hq).mono ?_;rintro _ b5⟨rfl,a9⟩;have h:=h.eq a9;rw[<-O];refine⟨_,_,rfl,⟨af 1 h.l,af 0 h.l⟩,_,z0 (af 1 h.l),?_⟩;refine(ae4 (n:=n) (h.pick 10 [3,4,5,0,1,2,6,7,8,9]) (by simp_all[fU]) (by simp_all[fU]) (by grind[fU])).mono ?_;rintro _ b6⟨o7,c7,x',rfl,h⟩;have eS:(wj y.es).take ((wj y.es).length-n)=wj (y.es.drop n):=Iv _ _ ω
 have eD:(U7 y.ids.reverse).drop ((wj y.es).length-n)=U7 (y.ids.take n).reverse:=by
  rw[fU,<-List.map_drop,List.drop_reverse,W]
  grind
 have eI:(U7 y.ids.reverse).take ((wj y.es).length-n)=U7 (y.ids.drop n).reverse:=by
  rw[fU,<-List.map_take,List.take_reverse,W]
  grind
 rw[eS,eD,eI] at h;obtain⟨left,J⟩:∃left:Nat,q.left=left:=⟨q.left.toNat,ω⟩;refine⟨_,_,_,_,rfl,λba Y=>?_⟩;have h:=h.drawn Y;refine⟨λu=>aj (hp u) (aM r) R/\aj (hp u) (aM k1) (bD ⟨2,(m:Int)⟩),⟨af 5 h.l,af 4 h.l⟩,_,λu e=>e.1.cell sZZ R1,_,λu e=>e.2.cell sZZ (j:=1) rfl,?_⟩;have av:=hI.nd;rw[J]
 refine(adJ (s:=left) (p:=m) (h.pick 11 [0,7,8,9,10,1,2,3,4,5,6]) ω (by rw[hI.tl,a4]) (λj U=>?_) ?_ (by grind)).mono ?_
 ·have U:=List.mem_of_mem_take (List.mem_reverse.1 U);exact⟨by simp_all,hI.tk j U⟩
 ·grind[List.reverse_perm,List.take_sublist]
 rintro _ aa⟨rfl,z',q',h⟩;refine⟨_,_,rfl,⟨af 8 h.l,af 7 h.l⟩,λb2 Y=>?_⟩;have h:=h.drawn Y;refine⟨λu=>aj (hp u) (aM r) R,af 8 h.l,_,λu e=>z0 e,_,λu e=>e.cell sZZ R2,_,λu e=>z0 e,?_⟩;have b4:(wj (y.es.drop n)).length=(y.es.drop n).length:=fU _;refine(ae5 (h.pick 10 [4,5,6,7,8,9,0,1,2,3]) (by grind)).mono ?_;rintro _ b1⟨rfl,a6⟩;have h:=h.eq a6;obtain⟨j,U⟩:∃j:Nat,q.left=((g.T+j:Nat):Int):=⟨(q.left-g.T).toNat,ω⟩;have a5:j<g.N:=ω
 rw[U] at hn;obtain⟨l,am,Z⟩:=hGt _ j _ a5 hn;rw[yG];refine⟨_,rfl,af 8 h.l,(YL (hT.mono (V (X:=[_,_,_,_,_,_,_,_,_,_]) h)) (n:=j) (s:=left) ω ω ω (by simp_all) Z).mono ?_⟩;rintro _ b7⟨rfl,a7⟩;have h:=h.gr a7;refine⟨_,rfl,af 8 h.l,?_⟩;refine(YH (h.pick 10 [4,5,6,7,8,9,0,1,2,3]) (by simp_all) (by grind)).mono ?_;rintro _ al⟨rfl,a8,h⟩
 refine⟨_,rfl,rfl,nq++[(((left:Int),(m:Int),(0:Int)),(q',U7 (y.ids.take n).reverse))],a8,z',mo,mc,?_,?_⟩
 ·show(nq++_).map ya=y.nd++[⟨q.left,m,0,U7 (y.ids.take q.right.length).reverse⟩]
  rw[af8,a0,J,<-O];rfl
 ·have e1:wj (Iw G m q y.es)=wj (y.es.drop n)++[(G (eM (y.es.drop q.right.length)) ((g.T+j:Nat):Int):Int)]:=by
   rw[<-U,O];exact xX (q.left,G (eM (y.es.drop q.right.length)) q.left,Tr.nd m ((y.es.take q.right.length).map (·.2.2)).reverse) (y.es.drop q.right.length)
  have e2:U7 (y.nd.length::y.ids.drop q.right.length).reverse=U7 (y.ids.drop n).reverse++[(nq.length:Int)]:=by simp_all
  unfold F1;dsimp only;rw[e1,e2];rw[hR] at h;subst O;exact h.pick 10 [4,5,0,1,2,6,7,8,9]
theorem adP{t:Int}{c:aE}(hc:c.kind=3)(hm:y.mv.length<=1000000)(h:iC r s a b y L w):ρ fp [vP (some (aM r)),.agg ⟨bD c⟩,iI t] w λv w'=>v=.tuple #[]/\iC r s a b (UO c y) L w':=by
 refine jT (RQ hm h (c:=c) λu W nq V z U O u h=>⟨_,h.cell 0,bn (by simp_all) (bn (by simp_all) (dL (by simp_all) ?_))⟩)
 show st1 _ ((aM r).add 6) _ _
 rw[ak];refine aR (i:=6) h.tail σ λJ h=>⟨rfl,nq,V,z,U,O,u,h⟩
end
def lR(g:ah)(A':Int->Int->aE)(G':Int->Int->Int)(G:Nat->Int->Nat)(t:Nat)(y:da):Option (Bool×da):=match Vs g A' G' t 1024 (wj y.es) [] with
 |none=>none
 |some (false,_,_)=>some (false,y)
 |some (true,ms,_)=>some (true,Iy t (ms.foldl (Ew g G t) y))
structure IP(g:ah)(ss:List SQ)(A:Nat->Int->aE)(G:Nat->Int->Nat)(Gs:List (List Int))(p:dH):Prop where
 hc:ax g
 hA:bR g ss
 hb:mi g
 hS:Sd g ss A G
 hN:adj g ss A G (bX p) (dI p)
 hG:GtI g ss Gs
section
variable{g:ah}{ss:List SQ}{A:Nat->Int->aE}{G:Nat->Int->Nat}{Gs:List (List Int)}{p:dH}{y:da}
theorem adQ(hc:ax g)(hA:bR g ss){q:Nat}{s j:Int}(h:dm ss q s=some j):s<((g.T+g.N:Nat):Int):=by
 obtain⟨V,k,e,u,J,U,O⟩:=qB h;have:=(fv hc hA u J).2.1;omega
theorem TD(h:ax g):∀q∈g.prods,q.left<((g.T+g.N:Nat):Int):=λq J=>by
 have X:=h.cX
 obtain⟨_,W,u,V,O,hl,_⟩:=h
 obtain⟨n,hn⟩:=agb J
 cases n with
 |zero=>grind
 |succ n=>
  have U:q∈g.prods.drop 1:=by
   refine afI (i:=n) ?_
   simp_all
  have:=((u.2.2.1 q U).1).2.1
  omega
theorem adR(t:Nat)(a:aE):(Ew g G t y a).mv.length<=y.mv.length+1:=by grind[Ew,Ix,F1,UO]
theorem TE(t:Nat):∀(ms:List aE)(y:da),(ms.foldl (Ew g G t) y).mv.length<=y.mv.length+ms.length
 |[],y=>afR _
 |a::ms,y=>by
  have h1:=TE t ms (Ew g G t y a)
  grind[adR,List.length_cons]
theorem IQ(t:Nat):∀(ms:List aE)(y:da),(ms.foldl (Ew g G t) y).de=y.de
 |[],y=>rfl
 |a::ms,y=>by
  rw[List.foldl_cons,IQ t ms]
  unfold Ew
  split
  ·rfl
  ·split
   ·split<;>rfl
   rfl
inductive F3 (g:ah) (A:Nat->Int->aE) (G:Nat->Int->Nat) (t:Nat):List CM->List aE->Prop
 |sh (l:List CM):(A (eM l) t).kind=1->l.length<64->F3 g A G t l [A (eM l) t]
 |ac (l:List CM):(A (eM l) t).kind=3->F3 g A G t l [A (eM l) t]
 |rd (l:List CM) (m:Nat) (q:aO) (ms:List aE):A (eM l) t=⟨2,(m:Int)⟩->g.prods[m]? =some q->q.right.length<=l.length->(l.drop q.right.length).length<64->F3 g A G t (Iw G m q l) ms->F3 g A G t l (⟨2,(m:Int)⟩::ms)
theorem TF{t:Nat}{l l':List CM}{rs ms:List aE}{t':Int}(ht:(t:Int)=t')(h:Yc g A G t' l rs l')(he:F3 g A G t l' ms):F3 g A G t l (rs++ms):=by
 induction h with
 |nil=>grind
 |cons l m q ms' l' h1 h2 h3 h4 _ ih=>
  subst ht;exact .rd l m q _ h1 h2 h3 h4 (ih he)
theorem PJ(h:IP g ss A G Gs p){t n:Nat}(ht:t<g.T){l:List CM}{ms:List aE}{st:List Int}(hw:zA ss l)(hr:Vs g (bX p) (dI p) t n (wj l) []=some (true,ms,st)):F3 g A G t l ms:=by
 obtain⟨V,l',J,U,W,O⟩:=adl h.hc h.hA h.hS h.hN ht n hw hr
 rcases O with⟨_,u,k2,rfl⟩|⟨_,u,rfl⟩|⟨hf,_⟩
 ·exact TF rfl J (.sh l' u k2)
 ·exact TF rfl J (.ac l' u)
 simp_all
end
section
variable{w:ahs}{L:List aC}{r s a b:Nat}{y:da}{g:ah}{ss:List SQ}{A:Nat->Int->aE}{G:Nat->Int->Nat}{H:Hp}{x:GA}{oA oG:FV}{xp:PA}{As:List (List aE)}{Gs:List (List Int)}{p:dH}{t:Nat}
theorem YN{A B:aC}{st ids:List Int}{x:Zn}{h:Hp}(hh:aG (A::B::RO s st ids x L) h)(hl:st.length<=64):FF h s st:=by
 obtain⟨J,s1,u⟩:=Bi (A:=own 1 x.s st.length x.cs (iv st)) 3 hh;exact⟨x.s,st.length,x.cs,_,af 2 hh,(bp rfl (bK u)).mono s1,hl,sA u⟩
theorem adS(hD:IP g ss A G Gs p)(hT:uR H b x oA oG xp g As Gs p)(hL:∀h,aG L h->sub H h)(ht:t<g.T)(hI:fV g ss y){c:aE}{ms:List aE}(hd:F3 g A G t y.es (c::ms))(hm:y.mv.length<=1000000)(h:iC r s a b y L w):
  ρ fp [vP (some (aM r)),.agg ⟨bD c⟩,iI (t:Int)] w λv w'=>v=.tuple #[]/\fV g ss (Ew g G t y c)/\(ms=[]\/F3 g A G t (Ew g G t y c).es ms)/\iC r s a b (Ew g G t y c) L w':=by
 have O:=hD.hc.cX;generalize hcm:c::ms=cm at hd;cases hd with
 |sh _ hk hl=>
  cases hcm;have hn:=hD.hS.sh _ t (by obtain⟨r,W⟩:=Ry hD.hA hD.hc hI.Nf;grind) ht hk;have h0:=(fe hD.hc hD.hA hn).1;obtain⟨q,U⟩:∃q:Nat,(A (eM y.es) t).to=q:=⟨(A (eM y.es) t).to.toNat,ω⟩;have ha:A (eM y.es) t=⟨1,(q:Int)⟩:=by cases hh:A (eM y.es) t;simp_all
  rw[U] at hn;have e:Ew g G t y (A (eM y.es) t)=Ix t q y:=by rw[ha];rfl
  rw[e,ha];refine(adM hI hl hm h).mono ?_;rintro _ w'⟨rfl,h⟩;exact⟨rfl,hI.sh hn hl,.inl rfl,h⟩
 |ac _ hk=>
  cases hcm;have e:Ew g G t y (A (eM y.es) t)=UO (A (eM y.es) t) y:=by simp_all[Ew]
  rw[e];refine(adP hk hm h).mono ?_;rintro _ w'⟨rfl,h⟩;exact⟨rfl,hI.ac _,.inl rfl,h⟩
 |rd _ m q ms' h1 h2 h3 h4 h5=>
  cases hcm;obtain⟨m',X,g1,g2,g3,J,V,u⟩:=hD.hS.Nf hD.hc hD.hA hI.Nf ht (by grind);rw[h1] at g1;have:m=m':=by grind
  subst this;rw[h2] at g2;cases g2;have e:Ew g G t y ⟨2,(m:Int)⟩=F1 G m q y:=by unfold Ew;simp_all
  rw[e];refine(adO hT hL hD.hG hI h2 h3 h4 V (TD hD.hc q (afI h2)) ⟨ω,ω⟩ u hm h).mono ?_;rintro _ w'⟨rfl,h⟩;exact⟨rfl,hI.rd h2 h3 J h4,.inr h5,h⟩
abbrev PK(g:ah)(ss:List SQ)(r s a b:Nat)(y:da)(F:Option (Bool×da))(L:List aC)(v:Value)(w':ahs):Prop:=
 (F=none/\v=.tuple #[vB false,iI 15]/\iC r s a b y L w')\/∃f y',F=some (f,y')/\v=.tuple #[vB f,iI 0]/\fV g ss y'/\y'.mv.length<=y.mv.length+1025/\iC r s a b y' L w'
theorem TG(hD:IP g ss A G Gs p)(hT:uR H b x oA oG xp g As Gs p)(hL:∀h,aG L h->sub H h)(ht:t<g.T)(hI:fV g ss y)(hm:y.mv.length<=900000)(hcn:y.de<=1000000){f:Bool}{ms:List aE}{st:List Int}(hr:Vs g (bX p) (dI p) t 1024 (wj y.es) []=some (f,ms,st))(hml:ms.length<=1025){k5:Nat}{om o2:ahr}{mc n2 c2:Nat}{w7:ahs}
  (h:iC r s a b y (az k5 [vB f,vS om ms.length mc,vS o2 n2 c2]::own 2 om ms.length mc (di ms)::L) w7):
  ∃(x1:lP [(33,Bw)]),br ((0:Int) !=0) (x1 true w7) (∃b3,World.cell? w7 (aM k5)=some (vB b3)/\x1 (!b3) w7)/\∀(I2:ν) b4 w8,x1 b4 w8->br b4 (PK g ss r s a b y (lR g (bX p) (dI p) G t y) L (vT (Array.mk [vB false,iI 0])) w8) (∃o5 k6 k7,World.cell? w8 (Addr.add (aM k5) 1)=some (vS o5 k6 k7)/\τ [(38,aN)] λx2 x3=>x2 0 w8/\∀(I3:ν) n2 w9,x2 n2 w9->br (decide (n2<(↑k6:Int))) (idx o5 k6 n2 2 λa4=>∃n3 n4,rowAt w9 a4 0 2=some [iI n3,iI n4]/\new w9 (oC [iI 0,iI 0] qM) λk8 w10=>bC w10 (aM k8) [iI n3,iI n4] λw11=>∃n5 n6,rowAt w11 (aM k8) 0 2=some [iI n5,iI n6]/\iK Tryz.prog Ev fp [vP (some (aM r)),vA (Array.mk [iI n5,iI n6]),iI (t:Int)] w11 λv2 w12=>v2=vT (Array.mk [])/\aD (n2+1)/\x2 (n2+1) w12/\x3 (n2+1) w12<x3 n2 w9) (br (decide (0<(t:Int))) (nn (some (aM r)) λa5=>∃n7,World.cell? w9 (Addr.add a5 5)=some (iI n7)/\aD (n7+1)/\nn (some (aM r)) λa6=>st1 w9 (Addr.add a6 5) (iI (n7+1)) λw13=>PK g ss r s a b y (lR g (bX p) (dI p) G t y) L (vT (Array.mk [vB true,iI 0])) w13) (PK g ss r s a b y (lR g (bX p) (dI p) G t y) L (vT (Array.mk [vB true,iI 0])) w9))):=by
 have hF:lR g (bX p) (dI p) G t y=if f then some (true,Iy t (ms.foldl (Ew g G t) y)) else some (false,y):=by grind[lR]
 have V:∀{J:da}{u:ahs},iC r s a b J (az k5 [vB f,vS om ms.length mc,vS o2 n2 c2]::own 2 om ms.length mc (di ms)::L) u->iC r s a b J L u:=λh=>by
  obtain⟨nq,sk,z,Z,U,O,h⟩:=h;exact⟨nq,sk,z,Z,U,O,h.pick 11 [0,1,2,3,4,5,6,7,8]⟩
 have h5:∀{J:da}{u:ahs},iC r s a b J (az k5 [vB f,vS om ms.length mc,vS o2 n2 c2]::own 2 om ms.length mc (di ms)::L) u->aj (hp u) (aM k5) [vB f,vS om ms.length mc,vS o2 n2 c2]/\aY (hp u) ms om ms.length:=λh=>by
  obtain⟨nq,sk,z,Z,U,O,h⟩:=h;exact⟨af 9 h.l,CO rfl (dE 10 h.l)⟩
 refine⟨λz u=>z= !f/\u=w7,bn rfl ⟨_,(h5 h).1.cell0 sZZ,rfl,rfl⟩,?_⟩;rintro _ _ w8⟨rfl,rfl⟩;cases f with
 |false=>exact dL rfl (.inr ⟨false,y,by simp_all,rfl,hI,ω,V h⟩)
 |true=>
 have hW:=PJ hD ht hI.Nf hr;refine bn rfl ⟨_,_,_,(h5 h).1.cell sZZ (j:=1) rfl,λz u=>∃(j:Nat)(J:da),z=j/\j<=ms.length/\J=(ms.take j).foldl (Ew g G t) y/\fV g ss J/\(ms.drop j=[]\/F3 g A G t J.es (ms.drop j))/\iC r s a b J (az k5 [vB true,vS om ms.length mc,vS o2 n2 c2]::own 2 om ms.length mc (di ms)::L) u,λz _=>ms.length-z.toNat,⟨0,y,rfl,afL _,rfl,hI,.inr hW,h⟩,?_⟩;clear h hW;rintro _ _ w9⟨j,J,rfl,hj,hy,X,hW,h⟩;have a9:J.mv.length<=y.mv.length+j:=by grind[TE,List.length_take]
 refine ae (λW=>?_) λW=>?_
 ·have W:j<ms.length:=by simp_all
  obtain⟨c,ad,vs,hx,ha,a0,Y⟩:=(h5 h).2.get W;have Y:vs=bD c:=Y;subst Y;have aa:ms.drop j=c::ms.drop (j+1):=by grind[List.drop_eq_getElem_cons,List.getElem?_eq_getElem]
  have hW:F3 g A G t J.es (c::ms.drop (j+1)):=by simp_all
  have a7:(ms.take (j+1)).foldl (Ew g G t) y=Ew g G t J c:=by grind
  refine aJ ha W ⟨_,_,a0.at sZZ rfl,?_⟩;obtain⟨nq,sk,z,Z,U,O,h⟩:=h;refine ag h λk8 w10 h=>aL h rfl (by simp[aK]) λw11 h=>⟨_,_,(af 0 h.l).at sZZ rfl,?_⟩;refine(adS hD hT (L:=az k5 [vB true,vS om ms.length mc,vS o2 n2 c2]::own 2 om ms.length mc (di ms)::L) (λh hh=>hL _ (aq (aq hh))) ht X hW ω ⟨nq,sk,z,Z,U,O,h.tail⟩).mono ?_;rintro _ w12⟨rfl,q1,q2,h⟩;exact⟨rfl,⟨ω,ω⟩,⟨j+1,_,σ,W,a7.symm,q1,q2,h⟩,bY W⟩
 ·have W:ms.length=j:=by grind
  rw[af3 ω] at hy;have hF:lR g (bX p) (dI p) G t y=some (true,Iy t J):=by simp_all
  have h:=V h;have a8:J.de=y.de:=by simp_all[IQ]
  refine ae (λh2=>?_) λh2=>?_
  ·have h2:0<t:=by simp_all
   obtain⟨nq,sk,z,Z,U,O,h⟩:=h;refine⟨_,by rw[ak];exact h.cell 5,⟨ω,ω⟩,?_⟩
   show st1 _ ((aM r).add 5) _ _
   rw[ak]
   refine aR (i:=5) h σ λw13 h=>.inr ⟨true,_,hF,rfl,X.fin t,?_,?_⟩
   ·unfold Iy;grind
   ·unfold Iy;rw[afZ h2];exact⟨nq,sk,z,Z,U,O,h⟩
  ·have h2:¬0<t:=by simp_all
   refine .inr ⟨true,_,hF,rfl,X.fin t,?_,?_⟩
   ·unfold Iy;grind
   simp_all[Iy]
theorem YO(hD:IP g ss A G Gs p)(hT:uR H b x oA oG xp g As Gs p)(hL:∀h,aG L h->sub H h)(ht:t<g.T)(hI:fV g ss y)(hm:y.mv.length<=900000)(hcn:y.de<=1000000)(h:iC r s a b y L w):
  ρ 58 [vP (some (aM r)),iI (t:Int)] w (PK g ss r s a b y (lR g (bX p) (dI p) G t y) L):=by
 refine AB λw1 hd=>?_;obtain⟨nq,sk,z,Y,W,O,h⟩:=h;have h:=h.drawn hd;have hQ:=adk hD.hc hD.hA hD.hb hD.hS hD.hN ht λq hq=>by have:=TD hD.hc q hq;have:=hD.hc.cX;omega
 have X:∀{A B:aC}{st ids:List Int}{x:Zn}{h:Hp},aG (A::B::RO s st ids x (PI a nq y.tk z L)) h->sub H h:=λV=>hL _ (aq (aq (aq (aq (aq (aq (aq (aq (aq V)))))))));have J:(wj y.es).length<=64:=by rw[fU];exact hI.hl
 have a0:∃es,zA ss es/\wj y.es=wj es:=⟨y.es,hI.Nf,rfl⟩
 refine⟨λu=>aj (hp u) (aM r) (YM s a b y Y W),af 0 h.l,_,λu e=>e.cell sZZ (j:=2) rfl,_,λu e=>e.cell sZZ (j:=3) rfl,_,λu e=>e.cell0 sZZ,?_,?_⟩
 ·refine(ab1 hT hD.hb hQ a0 J (λh V=>⟨YN V J,X V⟩) h).mono ?_
  rintro _ w5 (⟨hn,rfl,h⟩|⟨f,ms,l,o,o2,c,n,c2,hr,rfl,U,h⟩)
  ·refine⟨_,_,_,_,_,_,_,_,rfl,af 0 h.l,ag h λk5 w6 h=>⟨af 1 h.l,aL h rfl (by simp[aK]) λw7 h=>⟨af 1 h.l,λz u=>z=true/\u=w7,dL rfl ⟨rfl,rfl⟩,?_⟩⟩⟩;rintro _ _ _⟨rfl,rfl⟩;exact dL rfl (.inl ⟨by simp_all[lR],rfl,nq,sk,z,Y,W,O,h.tail⟩)
  ·refine⟨_,_,_,_,_,_,_,_,rfl,af 1 h.l,ag h λk5 w6 h=>⟨af 2 h.l,aL h rfl (by simp[aK]) λw7 h=>⟨af 2 h.l,?_⟩⟩⟩;exact TG hD hT hL ht hI hm hcn hr U ⟨nq,sk,z,Y,W,O,h.pick 11 [2,3,4,5,6,7,8,9,10,0,1]⟩
 ·refine ag h λk9 a5 h=>⟨af 1 h.l,(ab1 hT hD.hb hQ a0 J (λh V=>⟨YN (aq V) J,X (aq V)⟩) h).mono ?_⟩
  rintro _ a4 (⟨hn,rfl,h⟩|⟨f,ms,l,o,o2,c,n,c2,hr,rfl,U,h⟩)
  ·refine⟨_,_,_,_,_,_,_,_,rfl,af 1 h.l,aL h rfl (by simp[aK]) λZ h=>⟨af 1 h.l,λz u=>z=true/\u=Z,dL rfl ⟨rfl,rfl⟩,?_⟩⟩;rintro _ _ _⟨rfl,rfl⟩;exact dL rfl (.inl ⟨by simp_all[lR],rfl,nq,sk,z,Y,W,O,h.tail⟩)
  ·refine⟨_,_,_,_,_,_,_,_,rfl,af 2 h.l,aL h.swap rfl (by simp[aK]) λZ h=>⟨af 2 h.l,?_⟩⟩;exact TG hD hT hL ht hI hm hcn hr U ⟨nq,sk,z,Y,W,O,h.pick 11 [2,3,4,5,6,7,8,9,10,0,1]⟩
end
section
variable{a b c d:ahr}{i j k l m n o p:Nat}{A:Int}{w:ahs}{R:Value->WP}
theorem IV(h:new w (ψ a i j b k l c m n A d o p) λa b=>χ b (aM a) λa=>rE 86 [a] b λa b=>∃c d,a=vU [vP c,iI d]/\br (d !=0) (R (vU [vS none 0 0,iI d]) b) (rEs 87 [vP c] b λd e f b=>br ((e:Int)==0) (R (vU [vS none 0 0,iI 0]) b) (idx d e 0 1 λa=>cLi b a λf=>rEs 88 [vP c,iI f] b λf g h b=>new b (oC [vS none 0 0] 24) λa b=>st1 b (aM a) (vS f g h) λb=>idx d e 0 1 λf=>cLi b f λg=>new b (oC [iI g] 3) λb f=>∀g,drawn f g->∃(f:WP),f g/\∃h i j,(∀b,f b->cL b (aM a) (vS h i j))/\idx d e 0 1 λd=>∃e,(∀a,f a->cL a d (iI e))/\idx h i e 1 λd=>∃e,(∀a,f a->cL a d (iI e))/\aD (e-1)/\new g (oC [iI 0] 3) λd g=>f g/\st1 g (aM d) (iI (e-1)) λe=>τ [(8,lY),(9,S1.one Cs.ptr)] λf g=>f (some (aM b)) 1 1 (some (aM d)) e/\∀(_:ν) b d e h i,f b d e h i->nn h λj=>cLi i j λk=>bQ (0<k) (∀j,drawn i j->∃(k:WP),k j/\nn c λc=>∃l m n,(∀a,k a->cL a c (vS l m n))/\aD ((d:Int)-1)/\idx b d ((d:Int)-1) 1 λc=>∃n,(∀a,k a->cL a c (iI n))/\idx l m n 1 λc=>∃l,(∀a,k a->cL a c (vP l))/\rEs 89 [vP l] j λl m n j=>k j/\rEi 90 [vS l m n,Value.func (Fn.func 91) (Array.mk []) (Array.mk [vP (some (aM a)),vP h])] j λj c=>idx l m j 1 λa=>cLi c a λj=>new c (oC [iI j] 3) λa c=>rS (fX 24 (Array.mk [vS b d e,vS (some (aM a)) 1 1])) c λa c=>∃j k l,a=vS j k l/\nn h λa=>cLi c a λm=>new c (oC [iI 0] 3) λa c=>st1 c (aM a) (iI m) λc=>cLi c (aM a) λm=>aD (m-1)/\st1 c (aM a) (iI (m-1)) λc=>f j k l (some (aM a)) c/\g j k l (some (aM a)) c<g b d e h i) (rEs 92 [vP c,vS b d e] i λc d e b=>R (vU [vS c d e,iI 0]) b)))):ρ 40 [φ a i j b k l c m n A d o p] w R:=rv Tryz.func40 ⟨[(10,[(8,(.one .slice)),(9,(.one .ptr))])],[],[],[]⟩ h
theorem IX(h:new w (ψ a i j b k l c m n A d o p) λa b=>χ b (aM a) λc=>rEb 81 [c] b λd c=>br (!d) (R (vU [vP none,iI 1]) c) (χ c (aM a) λb=>rE 179 [b] c λb c=>∃d e f g,b=vU [vS d e f,iI g]/\new c (oC [vS none 0 0] 47) λb c=>st1 c (aM b) (vS d e f) λc=>br (g !=0) (R (vU [vP none,iI g]) c) (cLs c (aM a) λd e f=>new c (oC [vS none 0 0,iI (e:Int)] 181) λc d=>new d (oC [vP none] 174) λd e=>st1 e (aM d) (vP (some (aM c))) λc=>cLs c (Addr.add (aM a) 1) λe f g=>τ [(34,aN)] λe g=>e 0 c/\∀(_:ν) c h,e c h->bQ (c<(f:Int)) (∀b,drawn h b->∃(f:WP),f b/\∃i,(∀a,f a->cL a (aM d) (vP i))/\∃j,(∀a,f a->cL a (aM d) (vP j))/\nn j λd=>∃j k l,(∀a,f a->cL a d (vS j k l))/\∃d m n,(∀b,f b->cL b (Addr.add (aM a) 1) (vS d m n))/\rEp 102 [iI (m:Int),vS none 0 0] b λd b=>f b/\new b (oC [vP d] 178) λa b=>f b/\rS (fX 179 (Array.mk [vS j k l,vS (some (aM a)) 1 1])) b λa b=>∃d j k,a=vS d j k/\f b/\nn i λa=>st1 b a (vS d j k) λa=>aD (c+1)/\e (c+1) a/\g (c+1) a<g c h) (cLs h (Addr.add (aM a) 4) λc e f=>τ [(53,aN)] λa f=>a 0 h/\∀(_:ν) g h,a g h->bQ (g<(e:Int)) (idx c e g 3 λc=>∃e i j k l,rA h c 3 [iI e,vS i j k,iI l]/\new h (oC [iI 0,vS none 0 0,iI 0] 134) λc m=>bC m (aM c) [iI e,vS i j k,iI l] λe=>cLs e (Addr.add (aM c) 1) λi j k=>τ [(10,aN),(61,aN)] λk l=>k 0 0 e/\∀(_:ν) e m n,k e m n->bQ (m<(j:Int)) (idx i j m 1 λa=>cLi n a λc=>rEb 180 [iI c,vP (some (aM d)),vP (some (aM b))] n λc b=>br c (aD (e+1)/\aD (m+1)/\k (e+1) (m+1) b/\l (e+1) (m+1) b<l e m n) (aD (m+1)/\k e (m+1) b/\l e (m+1) b<l e m n)) (cLs n (Addr.add (aM c) 1) λi j k=>τ [(74,aN)] λk l=>k 0 n/\∀(_:ν) m n,k m n->bQ (m<(j:Int)) (idx i j m 1 λa=>cLi n a λf=>∃(a:lP [(96,Bw)]),(cLp n (aM d) λc=>nn c λc=>cLi n (c.add 1) λg=>bQ (g<=f) (br (e==0) (a true n) (br (e==1) (rEb 180 [iI f,vP (some (aM d)),vP (some (aM b))] n λd c=>a d c) (a false n))) (a false n))/\∀(_:ν) b e,a b e->br b (∀a,drawn e a->∃(b:WP),b a/\∃e,(∀a,b a->cL a (aM d) (vP e))/\nn e λe=>∃g h i,(∀a,b a->cL a e (vS g h i))/\∃e,(∀a,b a->cL a (aM c) (iI e))/\∃c,(∀a,b a->cL a (aM d) (vP c))/\nn c λc=>∃i,(∀a,b a->cL a (c.add 1) (iI i))/\aD (e-i)/\idx g h (e-i) 1 λc=>∃e,(∀a,b a->cL a c (vP e))/\∃c,(∀a,b a->cL a (aM d) (vP c))/\nn c λc=>∃d,(∀a,b a->cL a (c.add 1) (iI d))/\aD (f-d)/\new a (oC [iI (f-d)] 3) λa c=>b c/\rEi 103 [vP e,vS (some (aM a)) 1 1] c λc b=>aD (m+1)/\k (m+1) b/\l (m+1) b<l m n) (aD (m+1)/\k (m+1) e/\l (m+1) e<l m n)) (aD (g+1)/\a (g+1) n/\f (g+1) n<f g h))) (cLp h (aM d) λa=>R (vU [vP a,iI 0]) h))))):ρ 86 [φ a i j b k l c m n A d o p] w R:=rv Tryz.func86 ⟨[(8,[(34,(.one (.int .i64)))]),(12,[(53,(.one (.int .i64)))]),(17,[(10,(.one (.int .i64))),(61,(.one (.int .i64)))]),(23,[(74,(.one (.int .i64)))])],[(26,[(96,(.one .bool))])],[],[]⟩ h
theorem EG(h:nn a λb=>cLs w b λc d e=>τ [(3,lY),(10,aN)] λb c=>b none 0 0 0 w/\∀(_:ν) e f g h i,b e f g h i->bQ (h<(d:Int)) (rEs 88 [vP a,iI h] i λj k l d=>idx j k h 1 λa=>cLi d a λj=>bQ (0<j) (new d (oC [iI h] 3) λa d=>rS (fX 24 (Array.mk [vS e f g,vS (some (aM a)) 1 1])) d λa d=>∃j k l,a=vS j k l/\aD (h+1)/\b j k l (h+1) d/\c j k l (h+1) d<c e f g h i) (aD (h+1)/\b e f g (h+1) d/\c e f g (h+1) d<c e f g h i)) (R (vS e f g) i)):ρ 87 [.pointer a] w R:=rv Tryz.func87 ⟨[(3,[(3,(.one .slice)),(10,(.one (.int .i64)))])],[],[],[]⟩ h
theorem zH(h:nn a λb=>cLs w b λc d e=>vd (d:Int) (d:Int) 8/\new w (Obj.cells (Array.mk (iX (Int.toNat (d:Int)) [iI 0])) 3) λb c=>new c (oC [iI A] 3) λc e=>τ [(6,lY),(7,aN)] λf g=>f (some (aM c)) 1 1 1 e/\∀(_:ν) c e h i j,f c e h i j->bQ (0<(e:Int)) (nn a λk=>cLs j k λl m n=>τ [(8,lY),(30,aN)] λk l=>k none 0 0 0 j/\∀(_:ν) n o p q r,k n o p q r->bQ (q<(m:Int)) (τ [(8,lY),(35,aN)] λf g=>f n o p 0 r/\∀(_:ν) h j m s t,f h j m s t->bQ (s<(e:Int)) (idx c e s 1 λc=>cLi t c λe=>idx (some (aM b)) (Int.toNat (d:Int)) q 1 λc=>cLi t c λu=>br (u==0) (nn a λa=>cLs t a λc u v=>idx c u q 1 λa=>cLp t a λc=>rEb 168 [vP c,iI e] t λe c=>br e (idx (some (aM b)) (Int.toNat (d:Int)) q 1 λa=>st1 c a (iI i) λa=>new a (oC [iI q] 3) λa b=>rS (fX 24 (Array.mk [vS h j m,vS (some (aM a)) 1 1])) b λa b=>∃c d e,a=vS c d e/\aD (q+1)/\k c d e (q+1) b/\l c d e (q+1) b<l n o p q r) (aD (s+1)/\f h j m (s+1) c/\g h j m (s+1) c<g h j m s t)) (aD (s+1)/\f h j m (s+1) t/\g h j m (s+1) t<g h j m s t)) (aD (q+1)/\k h j m (q+1) t/\l h j m (q+1) t<l n o p q r)) (aD (i+1)/\f n o p (i+1) r/\g n o p (i+1) r<g c e h i j)) (R (vS (some (aM b)) (Int.toNat (d:Int)) (Int.toNat (d:Int))) j)):ρ 88 [.pointer a,iI A] w R:=rv Tryz.func88 ⟨[(4,[(6,(.one .slice)),(7,(.one (.int .i64)))]),(8,[(8,(.one .slice)),(30,(.one (.int .i64)))]),(11,[(8,(.one .slice)),(35,(.one (.int .i64)))])],[],[],[]⟩ h
abbrev F4:FuncId:=91
theorem C4{b:Addr}{c:Addr}(h:∀a,drawn w a->∃(d:WP),d a/\∃e f g,(∀a,d a->cL a b (vS e f g))/\idx e f A 1 λb=>∃e,(∀a,d a->cL a b (iI e))/\∃b,(∀a,d a->cL a c (iI b))/\R (vB (e==b)) a):ρ 91 [iI A,(.pointer (some b)),(.pointer (some c))] w R:=rv Tryz.func91 ⟨[],[],[],[]⟩ h
theorem zJ(h:τ [(8,aN)] λc d=>c 0 w/\∀(_:ν) e f,c e f->bQ (e<(i:Int)) (∀g,drawn f g->∃(h:WP),h g/\idx b i e 1 λj=>∃k,(∀a,h a->cL a j (iI k))/\nn a λa=>∃j,(∀b,h b->cL b (a.add 1) (iI j))/\aD (k+j)/\idx b i e 1 λa=>st1 g a (iI (k+j)) λa=>aD (e+1)/\c (e+1) a/\d (e+1) a<d e f) (R (vS b i j) f)):ρ 92 [.pointer a,vS b i j] w R:=rv Tryz.func92 ⟨[(2,[(8,(.one (.int .i64)))])],[],[],[]⟩ h
theorem C7{b:Addr}{c:Addr}(h:∀a,drawn w a->∃(d:WP),d a/\∃e,(∀a,d a->cL a b (vP e))/\nn e λe=>∃f,(∀a,d a->cL a (e.add 1) (iI f))/\bQ (A<f) (R (vB true) a) (∃e f g,(∀a,d a->cL a c (vS e f g))/\∃c,(∀a,d a->cL a b (vP c))/\nn c λb=>∃c,(∀a,d a->cL a (b.add 1) (iI c))/\aD (A-c)/\idx e f (A-c) 1 λb=>∃c,(∀a,d a->cL a b (vB c))/\R (vB !c) a)):ρ 180 [iI A,(.pointer (some b)),(.pointer (some c))] w R:=rv Tryz.func180 ⟨[],[],[],[]⟩ h
end
theorem aY.atv{α:Type}[kN α]{w:ahs}{xs:List α}{a:ahr}{l i:Nat}{x:α}{ad:Addr}(r:aY (hp w) xs a l)(ha:a=some ad)(hx:xs[i]? =some x):w.cell? (ad.add i)=some (kN.val x):=by
 obtain⟨u,e,J⟩:=r.at hx
 simp_all[sub.refl]
inductive rD (R:Nat->Nat->Prop) (to:Nat):Nat->Nat->Prop
 |one (i:Nat):R i to->rD R to 1 i
 |more (n i k:Nat):R i k->rD R to n k->rD R to (n+1) i
section
variable{R:Nat->Nat->Prop}{N to n i j:Nat}
theorem rD.pos(h:rD R to n i):1<=n:=by cases h<;>omega
theorem rD.trans{b m:Nat}(h:rD R b n i)(k:rD R to m b):rD R to (n+m) i:=by
 induction h with
 |one i h=>rw[Nat.add_comm];exact .more m i b h k
 |more n i x h1 h2 ih=>rw[show n+1+m=(n+m)+1 from ω];exact .more _ i x h1 ih
structure adT(R:Nat->Nat->Prop)(N to:Nat)(far:List Nat):Prop where
 ln:far.length=N
 z:∀i,i<N->far.getD i 0=0->∀m,¬rD R to m i
 p:∀(i:Nat) d,far[i]? =some d->0<d->rD R to d i/\∀m,rD R to m i->d<=m
structure Bfs(R:Nat->Nat->Prop)(N to n:Nat)(cur far:List Nat):Prop where
 one:1<=n
 ln:far.length=N
 z:∀i,i<N->far.getD i 0=0->∀m,m<n->¬rD R to m i
 p:∀(i:Nat) d,far[i]? =some d->0<d->d<n/\rD R to d i/\∀m,rD R to m i->d<=m
 c:∀k,k∈cur↔(n=1/\k=to)\/(1<n/\k<N/\far.getD k 0=n-1)
theorem getD_some{far:List Nat}(h:i<far.length):far[i]? =some (far.getD i 0):=by simp_all
theorem YP:Bfs R N to 1 [to] (List.replicate N 0):=by
 refine⟨afR _,σ,λi hi _ m J u=>?_,λi d O h0=>?_,λk=>?_⟩
 ·have:=u.pos;omega
 ·grind
 simp
theorem Bfs.next{cur far cur' far':List Nat}(b:Bfs R N to n cur far)(hR:∀a k,R a k->k<N)(hl:far'.length=N)(new:Nat->Prop)(hn:∀j,j<N->(new j↔far.getD j 0=0/\∃k∈cur,R j k))
  (h1:∀j,j<N->new j->far'.getD j 0=n) (h2:∀j,j<N->¬new j->far'.getD j 0=far.getD j 0) (hc:∀k,k∈cur'↔k<N/\new k):Bfs R N to (n+1) cur' far':=by
 have a6:=b.ln
 have Z:∀j,j<N->new j->rD R to n j:=λj hj a0=>by
  obtain⟨_,k,V,O⟩:=(hn j hj).1 a0
  rcases(b.c k).1 V with⟨rfl,rfl⟩|⟨h1,h2,h3⟩
  ·exact .one _ O
  ·obtain⟨_,u,_⟩:=b.p k _ (getD_some ω) ω;rw[h3] at u;have:=rD.more (n-1) j k O u
   grind
 refine⟨ω,hl,λi hi h0 m hm u=>?_,λi d hd a4=>?_,λk=>?_⟩
 ·have X:¬new i:=λh=>by have:=h1 i hi h;have:=b.one;omega
  rw[h2 i hi X] at h0
  by_cases a5:m<n
  ·exact b.z i hi h0 m a5 u
  ·have:m=n:=ω
   subst this;refine X ((hn i hi).2 ⟨h0,?_⟩);cases u with
   |one _ O=>exact⟨to,(b.c to).2 (.inl ⟨rfl,rfl⟩),O⟩
   |more q _ k O u=>
    have W:=hR _ _ O;refine⟨k,(b.c k).2 (.inr ⟨by have:=u.pos;omega,W,?_⟩),O⟩
    by_cases hz:far.getD k 0=0
    ·exact absurd u (b.z k W hz q ω)
    ·obtain⟨g1,g2,g3⟩:=b.p k _ (getD_some ω) ω;have g4:=g3 q u;have g5:¬far.getD k 0+1<q+1:=λhh=>b.z i hi h0 _ hh (.more _ i k O g2);omega
 ·have hi:i<N:=by grind
  have U:far'.getD i 0=d:=by simp_all
  by_cases J:new i
  ·rw[h1 i hi J] at U;subst U;refine⟨ω,Z i hi J,λm u=>?_⟩;have:=b.z i hi ((hn i hi).1 J).1 m
   simp_all
  ·rw[h2 i hi J] at U;have:=b.p i d (by simp_all) a4
   grind
 ·rw[hc]
  constructor
  ·rintro⟨V,Y⟩;exact .inr ⟨by have:=b.one;omega,V,by grind⟩
  ·rintro(⟨h,_⟩|⟨_,V,h⟩)
   ·have:=b.one;omega
   ·refine⟨V,agD λY=>?_⟩;rw[h2 k V Y] at h;have:=b.p k _ (getD_some ω) ω;omega
theorem Bfs.done{far:List Nat}(b:Bfs R N to n [] far)(hR:∀a k,R a k->k<N):adT R N to far:=by
 have U:=b.ln;refine⟨b.ln,λi hi h0 m O=>?_,λi d V h0=>(b.p i d V h0).2⟩
 have key:∀{m i},rD R to m i->i<N->far.getD i 0≠0:=by
  intro m i O
  induction O with
  |one i h=>
   intro hi h0
   by_cases J:n=1
   ·have:=(b.c to).2 (.inl ⟨J,rfl⟩);simp_all
   ·exact b.z i hi h0 1 (by have:=b.one;omega) (.one i h)
  |more q i k J h2 ih=>
   intro hi h0;have u:=hR _ _ J;have X:=ih u;obtain⟨g1,g2,g3⟩:=b.p k _ (getD_some ω) ω;have Y:¬far.getD k 0+1<n:=λW=>b.z i hi h0 _ W (.more _ i k J g2);have:=(b.c k).2 (.inr ⟨ω,u,ω⟩)
   simp_all
 grind
def Vx(far:List Nat):Nat:=(far.filter (·==0)).length
theorem adU{far far':List Nat}(hl:far'.length=far.length)(h:∀j,j<far.length->far'.getD j 0=0->far.getD j 0=0):Vx far'<=Vx far/\(∀j,j<far.length->far.getD j 0=0->far'.getD j 0≠0->Vx far'<Vx far):=by
 induction far generalizing far' with
 |nil=>simp_all
 |cons x far ih=>cases far' with
  |nil=>simp_all
  |cons y far'=>
   obtain⟨u,V⟩:=ih (by simpa using hl) λj O J=>by
    have:=h (j+1) (by simp_all) (by simp_all)
    grind
   have h0:y=0->x=0:=λU=>by
    have:=h 0 σ (by simp_all)
    grind
   have W:∀(a:Nat) l,Vx (a::l)=(if a=0 then 1 else 0)+Vx l:=λa l=>by grind[Vx,Nat.add_comm]
   grind
def OnP(R:Nat->Nat->Prop)(i:Nat):Prop:=∃m,rD R i m i
structure ae7(R:Nat->Nat->Prop)(N:Nat)(l:List Nat):Prop where
 lt:∀x∈l,x<N
 nd:l.Nodup
 st:∀(i:Nat) a b,l[i]? =some a->l[(i+1)%l.length]? =some b->R a b
 on:∀x∈l,OnP R x
end
end Go.Proofs.YtaoaemnefghnbaaGreatDoor
