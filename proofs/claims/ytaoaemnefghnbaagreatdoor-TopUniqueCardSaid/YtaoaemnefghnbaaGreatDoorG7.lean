/- Texts of this claim, one behind the other. -/
import Derived.Test.YtaoaemnefghnbaaGreatDoorG2
import Derived.Test.YtaoaemnefghnbaaGreatDoorG6
import Derived.Test.YtaoaemnefghnbaaGreatDoorG3
import Derived.Test.YtaoaemnefghnbaaGreatDoorG5
import Derived.Test.YtaoaemnefghnbaaGreatDoorG4
import Derived.Lib.AppendZerosOnto
import Derived.Lib.Overlaps
set_option linter.unusedVariables false
set_option linter.unusedSectionVars false
set_option maxRecDepth 100000
set_option maxHeartbeats 16000000
namespace Go.V
end Go.V
namespace Go.Proofs.YtaoaemnefghnbaaGreatDoor
end Go.Proofs.YtaoaemnefghnbaaGreatDoor
open Go.V Go.Proofs.YtaoaemnefghnbaaGreatDoor
namespace Go.Proofs.YtaoaemnefghnbaaGreatDoor
section
variable{a:aiz}{i j:Nat}{A B C:Int}{w:aiA}{R:Value->WP}
theorem kz{d:FuncId}{e:List Value}(h:rE 294 [vS a i j,iI (i:Int),vF1 d e] w λa b=>a=vU []/\R (vU []) b):ρ 210 [vS a i j,(.func (.func d) #[] ⟨e⟩)] w R:=rv Tryz.func210 h
theorem ny{a:aiz}{b c:Nat}{d:Int}{e:FuncId}{f:List Value}{w:aiA}{R:Value->WP}(h:τ [(7,aN),(8,aN)] λg h=>g 0 20 w/\∀(_:ν) i j k,g i j k->bQ (j<=d) (rE 352 [vS a b c,iI i,iI j,vF1 e f] k λa b=>a=vU []/\aA (j+20)/\nB g h j (j+20) b i j k) (rE 352 [vS a b c,iI i,iI d,vF1 e f] k λg h=>g=vU []/\τ [(6,aN)] λg i=>g 20 h/\∀(_:ν) h j,g h j->bQ (h<d) (aA (2*h)/\τ [(7,aN),(8,aN)] λk l=>k 0 (2*h) j/\∀(_:ν) m n o,k m n o->bQ (n<=d) (aA (m+h)/\rE 353 [vS a b c,iI m,iI (m+h),iI n,vF1 e f] o λa b=>a=vU []/\aA (2*h)/\aA (n+2*h)/\nB k l n (n+2*h) b m n o) (aA (m+h)/\bQ (m+h<d) (rE 353 [vS a b c,iI m,iI (m+h),iI d,vF1 e f] o λa b=>a=vU []/\aA (h*2)/\nA g i (h*2) b h j) (aA (h*2)/\nA g i (h*2) o h j))) (R (vU []) j))):ρ 294 [vS a b c,iI d,(.func (.func e) #[] ⟨f⟩)] w R:=rv Tryz.func294 h ⟨[(2,[(7,aN),(8,aN)]),(7,[(6,aN)]),(9,[(7,aN),(8,aN)])],[],[],[]⟩
theorem jd{f:FuncId}{g:List Value}(h:aA (A+1)/\τ [(8,aN)] λb c=>b (A+1) w/\∀(_:ν) d e,b d e->bQ (d<B) (τ [(9,aN)] λh j=>h d e/\∀(_:ν) k l,h k l->dW1 l λm n=>bQ (A<k) (idx a i k 1 λo=>dLi n o λp=>aA (k-1)/\idx a i (k-1) 1 λo=>dLi n o λq=>pj (Fn f) (rEi f (iI p::iI q::g) m λm g=>n g/\bQ (m<0) (dW1 g λb c=>aA (k-1)/\aA (k-1)/\idx a i (k-1) 1 λd=>dLi c d λe=>idx a i k 1 λd=>dLi c d λf=>idx a i k 1 λc=>st1 b c (iI e) λb=>idx a i (k-1) 1 λa=>st1 b a (iI f) λa=>aA (k-1)/\nA h j (k-1) a k l) (aA (d+1)/\nA b c (d+1) g d e))) (aA (d+1)/\nA b c (d+1) m d e)) (R (vU []) e)):ρ 352 [vS a i j,iI A,iI B,(.func (.func f) #[] ⟨g⟩)] w R:=rv Tryz.func352 h ⟨[(1,[(8,aN)]),(4,[(9,aN)])],[],[],[]⟩
theorem me{F:FuncId}{G:List Value}(h:aA (B-A)/\br (B-A==1) (τ [(10,aN),(11,aN)] λb c=>b B C w/\∀(_:ν) d e f,b d e f->bQ (d<e) (aA (d+e)/\ns 1/\aA (mD1 (d+e))/\dW1 f λg h=>idx a i (mD1 (d+e)) 1 λj=>dLi h j λk=>idx a i A 1 λa=>dLi h a λi=>pj (Fn F) (rEi F (iI k::iI i::G) g λi g=>h g/\bQ (i<0) (aA (mD1 (d+e)+1)/\nB b c (mD1 (d+e)+1) e g d e f) (nB b c d (mD1 (d+e)) g d e f))) (τ [(13,aN)] λb c=>b A f/\∀(_:ν) e f,b e f->aA (d-1)/\bQ (e<d-1) (dW1 f λd g=>aA (e+1)/\aA (e+1)/\idx a i (e+1) 1 λh=>dLi g h λj=>idx a i e 1 λh=>dLi g h λk=>idx a i e 1 λg=>st1 d g (iI j) λd=>idx a i (e+1) 1 λa=>st1 d a (iI k) λa=>aA (e+1)/\nA b c (e+1) a e f) (R (vU []) f))) (aA (C-B)/\br (C-B==1) (τ [(14,aN),(15,aN)] λb c=>b A B w/\∀(_:ν) d e f,b d e f->bQ (d<e) (aA (d+e)/\ns 1/\aA (mD1 (d+e))/\dW1 f λg h=>idx a i B 1 λj=>dLi h j λk=>idx a i (mD1 (d+e)) 1 λa=>dLi h a λi=>pj (Fn F) (rEi F (iI k::iI i::G) g λi g=>h g/\br (!decide (i<0)) (aA (mD1 (d+e)+1)/\nB b c (mD1 (d+e)+1) e g d e f) (nB b c d (mD1 (d+e)) g d e f))) (τ [(17,aN)] λb c=>b B f/\∀(_:ν) e f,b e f->bQ (d<e) (dW1 f λd g=>aA (e-1)/\aA (e-1)/\idx a i (e-1) 1 λh=>dLi g h λj=>idx a i e 1 λh=>dLi g h λk=>idx a i e 1 λg=>st1 d g (iI j) λd=>idx a i (e-1) 1 λa=>st1 d a (iI k) λa=>aA (e-1)/\nA b c (e-1) a e f) (R (vU []) f))) (aA (A+C)/\ns 1/\aA (mD1 (A+C))/\aA (mD1 (A+C)+B)/\∃(b:lP [(20,aN),(21,aN)]),bQ (mD1 (A+C)<B) (aA (mD1 (A+C)+B-C)/\b (mD1 (A+C)+B-C) (mD1 (A+C)) w) (b A B w)/\∀(_:ν) c d e,b c d e->aA (mD1 (A+C)+B-1)/\τ [(20,aN),(21,aN)] λb f=>b c d e/\∀(_:ν) c d e,b c d e->bQ (c<d) (aA (c+d)/\ns 1/\aA (mD1 (c+d))/\dW1 e λg h=>aA (mD1 (A+C)+B-1-mD1 (c+d))/\idx a i (mD1 (A+C)+B-1-mD1 (c+d)) 1 λj=>dLi h j λk=>idx a i (mD1 (c+d)) 1 λa=>dLi h a λi=>pj (Fn F) (rEi F (iI k::iI i::G) g λi g=>h g/\br (!decide (i<0)) (aA (mD1 (c+d)+1)/\nB b f (mD1 (c+d)+1) d g c d e) (nB b f c (mD1 (c+d)) g c d e))) (aA (mD1 (A+C)+B-c)/\∃(b:lP []),bQ (c<B) (bQ (B<mD1 (A+C)+B-c) (rE 385 [vS a i j,iI c,iI B,iI (mD1 (A+C)+B-c),vF1 F G] e λa c=>a=vU []/\b c) (b e)) (b e)/\∀(_:ν) d,b d->bQ (A<c) (bQ (c<mD1 (A+C)) (rE 353 [vS a i j,iI A,iI c,iI (mD1 (A+C)),vF1 F G] d λb d=>b=vU []/\bQ (mD1 (A+C)<mD1 (A+C)+B-c) (bQ (mD1 (A+C)+B-c<C) (rE 353 [vS a i j,iI (mD1 (A+C)),iI (mD1 (A+C)+B-c),iI C,vF1 F G] d λa b=>a=vU []/\R (vU []) b) (R (vU []) d)) (R (vU []) d)) (bQ (mD1 (A+C)<mD1 (A+C)+B-c) (bQ (mD1 (A+C)+B-c<C) (rE 353 [vS a i j,iI (mD1 (A+C)),iI (mD1 (A+C)+B-c),iI C,vF1 F G] d λa b=>a=vU []/\R (vU []) b) (R (vU []) d)) (R (vU []) d))) (bQ (mD1 (A+C)<mD1 (A+C)+B-c) (bQ (mD1 (A+C)+B-c<C) (rE 353 [vS a i j,iI (mD1 (A+C)),iI (mD1 (A+C)+B-c),iI C,vF1 F G] d λa b=>a=vU []/\R (vU []) b) (R (vU []) d)) (R (vU []) d)))))):ρ 353 [vS a i j,iI A,iI B,iI C,(.func (.func F) #[] ⟨G⟩)] w R:=rv Tryz.func353 h ⟨[(3,[(10,aN),(11,aN)]),(9,[(13,aN)]),(15,[(14,aN),(15,aN)]),(21,[(17,aN)]),(33,[(20,aN),(21,aN)])],[(32,[(20,aN),(21,aN)]),(41,[])],[],[]⟩
theorem nC{F:FuncId}{G:List Value}(h:aA (B-A)/\aA (C-B)/\τ [(10,aN),(11,aN)] λb c=>b (B-A) (C-B) w/\∀(_:ν) d e f,b d e f->br (d !=e) (bQ (e<d) (aA (B-d)/\rE 396 [vS a i j,iI (B-d),iI B,iI e,vF1 F G] f λa g=>a=vU []/\aA (d-e)/\nB b c (d-e) e g d e f) (aA (B-d)/\aA (B+e)/\aA (B+e-d)/\rE 396 [vS a i j,iI (B-d),iI (B+e-d),iI d,vF1 F G] f λa g=>a=vU []/\aA (e-d)/\nB b c d (e-d) g d e f)) (aA (B-d)/\rE 396 [vS a i j,iI (B-d),iI B,iI d,vF1 F G] f λa b=>a=vU []/\R (vU []) b)):ρ 385 [vS a i j,iI A,iI B,iI C,(.func (.func F) #[] ⟨G⟩)] w R:=rv Tryz.func385 h ⟨[(2,[(10,aN),(11,aN)])],[],[],[]⟩
theorem lT{F:FuncId}{G:List Value}(h:τ [(10,aN)] λb c=>b 0 w/\∀(_:ν) d e,b d e->bQ (d<C) (dW1 e λf g=>aA (A+d)/\aA (B+d)/\aA (B+d)/\idx a i (B+d) 1 λh=>dLi g h λj=>aA (A+d)/\idx a i (A+d) 1 λh=>dLi g h λk=>idx a i (A+d) 1 λg=>st1 f g (iI j) λf=>idx a i (B+d) 1 λa=>st1 f a (iI k) λa=>aA (d+1)/\nA b c (d+1) a d e) (R (vU []) e)):ρ 396 [vS a i j,iI A,iI B,iI C,(.func (.func F) #[] ⟨G⟩)] w R:=rv Tryz.func396 h ⟨[(1,[(10,aN)])],[],[],[]⟩
end
def BA(o:aiz)(n c:Nat)(L:List aE)(xs:List Int)(w:aiA):Prop:=∃ys,ys.Perm xs/\St w (own 1 o n c (iv ys)::L)
section
variable{w:aiA}{L:List aE}{o:aiz}{n c i j:Nat}{xs ys:List Int}
theorem abK(hi:i<ys.length)(hj:j<ys.length):((ys.set i (ys.getD j 0)).set j (ys.getD i 0)).Perm ys:=by grind
theorem qY(h:St w (own 1 o n c (iv ys)::L)):ys.length=n:=by grind[fk,cf]
theorem Fx(hp0:ys.Perm xs)(h:St w (own 1 o n c (iv ys)::L))(hi:i<n)(hj:j<n):∃ad,o=some ad/\(∀u,sub (hp w) (hp u)->u.cell? (ad.add i)=some (iI (ys.getD i 0)))/\(∀u,sub (hp w) (hp u)->u.cell? (ad.add j)=some (iI (ys.getD j 0)))/\
  ∀K:aiA->Prop,(∀w',BA o n c L xs w'->K w')->idx o n (i:Int) 1 λa=>st1 w a (iI (ys.getD j 0)) λw'=>idx o n (j:Int) 1 λa'=>st1 w' a' (iI (ys.getD i 0)) K:=by
 have hl:=qY h;obtain⟨ad,J,c1⟩:=pH (iD h) hi;obtain⟨U,O,c2⟩:=pH (iD h) hj;rw[J] at O;cases O;refine⟨ad,J,c1,c2,λK V=>ax J hi (fX h J (by simp_all[cf]) λw' h=>ax J hj (fX h J (by simp_all[cf]) λW h=>V W ⟨_,(abK (i:=i) (j:=j) ω ω).trans hp0,?_⟩))⟩
 simp_all[iv]
end
def abL(d:FuncId)(e:List Value)(H:Hp)(S:Int->Prop):Prop:=Fn d=true/\∀(x y:Int)(u:aiA),S x->S y->sub H (hp u)->ρ d (iI x::iI y::e) u λv u'=>∃z:Int,v=iI z/\anyI z/\Gr u u'
section
variable{w:aiA}{L:List aE}{o:aiz}{n c:Nat}{xs:List Int}{d:FuncId}{e:List Value}{H:Hp}{S:Int->Prop}
theorem Nh{p q k:Nat}(h:BA o n c L xs w)(h1:p+k<=n)(h2:q+k<=n)(hn:n<=1000000):
  ρ 396 [vS o n c,iI (p:Int),iI (q:Int),iI (k:Int),.func (.func d) #[] ⟨e⟩] w λv w'=>v=.tuple #[]/\BA o n c L xs w':=by
 refine lT ⟨λz u=>∃i:Nat,z=i/\i<=k/\BA o n c L xs u,λz _=>k-z.toNat,⟨0,rfl,agP _,h⟩,?_⟩;clear h;rintro _ _ w1⟨i,rfl,hi,ys,J,h⟩;refine ae (λO=>?_) λO=>⟨rfl,ys,J,h⟩;have O:i<k:=by simp_all
 intro W Y;have h:=h.drawn Y;obtain⟨ad,U,c1,c2,V⟩:=Fx (i:=p+i) (j:=q+i) J h ω ω;have Z:(p:Int)+i=((p+i:Nat):Int):=by rfl
 have X:(q:Int)+i=((q+i:Nat):Int):=by rfl
 rw[Z,X];exact⟨λu=>sub (hp W) (hp u),sZZ,ξ,ξ,ξ,ax U ω ⟨_,c2,ξ,ax U ω ⟨_,c1,V _ λw' h=>⟨ξ,⟨i+1,by rfl,O,h⟩,bR O⟩⟩⟩⟩
theorem Y6{p m q:Nat}(h:BA o n c L xs w)(h1:p<m)(h2:m<q)(h3:q<=n)(hn:n<=1000000):
  ρ 385 [vS o n c,iI (p:Int),iI (m:Int),iI (q:Int),.func (.func d) #[] ⟨e⟩] w λv w'=>v=.tuple #[]/\BA o n c L xs w':=by
 refine nC ⟨ξ,ξ,λy z u=>∃i j:Nat,y=i/\z=j/\0<i/\0<j/\i<=m/\m+j<=n/\BA o n c L xs u,λy z _=>y.toNat+z.toNat,⟨m-p,q-m,ω,ω,ω,ω,ω,ω,h⟩,?_⟩;clear h;rintro _ _ _ w1⟨i,j,rfl,rfl,hi,W,U,O,h⟩;have X:(m:Int)-i=((m-i:Nat):Int):=ω
 rw[X]
 refine ae (λJ=>?_) λJ=>?_
 ·have J:i≠j:=by grind
  refine ae (λV=>?_) λV=>?_
  ·have V:j<i:=by simp_all
   refine⟨ξ,(Nh h ω ω hn).mono ?_⟩;rintro _ Z⟨rfl,h⟩;exact⟨rfl,ξ,⟨i-j,j,ω,rfl,ω,W,ω,O,h⟩,by grind⟩
  ·have V:i<j:=by grind
   have Y:(m:Int)+j-i=((m+j-i:Nat):Int):=ω
   rw[Y];refine⟨ξ,ξ,ξ,(Nh h ω ω hn).mono ?_⟩;rintro _ Z⟨rfl,h⟩;exact⟨rfl,ξ,⟨i,j-i,rfl,ω,hi,ω,U,ω,h⟩,by simp_all⟩
 ·have J:i=j:=by grind
  refine⟨ξ,(Nh h ω ω hn).mono ?_⟩;simp
theorem abM(hS:∀x∈xs,S x){ys:List Int}(hp0:ys.Perm xs){i:Nat}(hi:i<ys.length):S (ys.getD i 0):=by
 refine hS _ (hp0.mem_iff.1 ?_)
 simp_all
theorem PY{p q:Nat}(hc:abL d e H S)(hL:∀h,aF L h->sub H h)(hS:∀x∈xs,S x)(h:BA o n c L xs w)(h1:p<=n)(h2:q<=n)(hn:n<=1000000):
  ρ 352 [vS o n c,iI (p:Int),iI (q:Int),.func (.func d) #[] ⟨e⟩] w λv w'=>v=.tuple #[]/\BA o n c L xs w':=by
 refine jd ⟨ξ,λz u=>∃i:Nat,z=i/\p+1<=i/\BA o n c L xs u,λz _=>q-z.toNat,⟨p+1,by rfl,agT _,h⟩,?_⟩;clear h;rintro _ _ w1⟨i,rfl,hi,h⟩;refine ae (λV=>?_) λV=>⟨rfl,h⟩;have V:i<q:=by simp_all
 refine⟨λz u=>∃j:Nat,z=j/\p<=j/\j<=i/\BA o n c L xs u,λz _=>z.toNat,⟨i,rfl,ω,agT _,h⟩,?_⟩;clear h;rintro _ _ w2⟨j,rfl,hj,a0,ys,J,h⟩ Z hd;have h:=h.drawn hd;have hl:=qY h;have out:∀{u:aiA},BA o n c L xs u->aA ((i:Int)+1)/\(∃X:Nat,(i:Int)+1=X/\p+1<=X/\BA o n c L xs u)/\q-((i:Int)+1).toNat<q-(i:Int).toNat:=λh=>⟨ξ,⟨i+1,by rfl,ω,h⟩,ω⟩;refine⟨λu=>sub (hp Z) (hp u),sZZ,ae (λW=>?_) λW=>out ⟨ys,J,h⟩⟩;have W:p<j:=by simp_all
 have z1:(j:Int)-1=((j-1:Nat):Int):=ω
 rw[z1];obtain⟨ad,ho,c1,c2,_⟩:=Fx (i:=j) (j:=j-1) J h ω ω;refine ax ho ω ⟨_,c1,ξ,ax ho ω ⟨_,c2,a_.2 ⟨hc.1,(hc.2 _ _ Z (abM hS J ω) (abM hS J ω) (hL _ h.tail.l)).mono ?_⟩⟩⟩;rintro _ w6⟨z,rfl,_,Y⟩;have h:=h.gr Y;refine⟨_,rfl,Y,ae (λh5=>?_) λh5=>out ⟨ys,J,h⟩⟩;intro w7 U;have h:=h.drawn U;obtain⟨a4,O,d1,d2,hK⟩:=Fx (i:=j) (j:=j-1) J h ω ω;exact⟨λu=>sub (hp w7) (hp u),sZZ,ξ,ξ,ax O ω ⟨_,d2,ax O ω ⟨_,d1,hK _ λw' h=>⟨ξ,⟨j-1,rfl,ω,ω,h⟩,by grind⟩⟩⟩⟩
end
section
variable{L:List aE}{o:aiz}{n c:Nat}{xs:List Int}{d:FuncId}{e:List Value}{H:Hp}{S:Int->Prop}
theorem acW(hc:abL d e H S)(hL:∀h,aF L h->sub H h)(hS:∀x∈xs,S x)(hn:n<=1000000)(N:Nat):∀{w:aiA}{p m q:Nat},BA o n c L xs w->p<m->m<q->q<=n->q-p<=N->
  ρ 353 [vS o n c,iI (p:Int),iI (m:Int),iI (q:Int),.func (.func d) #[] ⟨e⟩] w λv w'=>v=.tuple #[]/\BA o n c L xs w':=by
 induction N with
 |zero=>omega
 |succ N ih=>
 intro w p m q h h1 h2 h3 hN;have Y:ns 1:=by simp[ns]
 --a comparison of two that stand there
 have cmp:∀{u:aiA}{i j:Nat}{K:Value->aiA->Prop}{ys:List Int},ys.Perm xs->St u (own 1 o n c (iv ys)::L)->i<n->j<n->(∀z u',BA o n c L xs u'->sub (hp u) (hp u')->K (iI z) u')->
   pj (Fn d) (ρ d (iI (ys.getD i 0)::iI (ys.getD j 0)::e) u K):=λ{u i j K ys} J h hi hj hK=>by
  have hl:=qY h;refine a_.2 ⟨hc.1,(hc.2 _ _ u (abM hS J ω) (abM hS J ω) (hL _ h.tail.l)).mono ?_⟩;rintro _ u'⟨z,rfl,_,g⟩;exact hK z u' ⟨ys,J,h.gr g⟩ g
 refine me ⟨ξ,ae (λh4=>?_) λh4=>?_⟩
 ·--one on the left
  have h4:m=p+1:=by grind
  refine⟨λi j u=>∃i' j':Nat,i=i'/\j=j'/\m<=i'/\i'<=j'/\j'<=q/\BA o n c L xs u,λi j _=>j.toNat-i.toNat,⟨m,q,rfl,rfl,ω,ω,ω,h⟩,?_⟩;clear h;rintro _ _ _ w1⟨i,j,rfl,rfl,hi,a7,hj,ys,J,h⟩
  refine ae (λh5=>?_) λh5=>?_
  ·have h5:i<j:=by simp_all
   rw[Ft ω];obtain⟨k,hk⟩:∃k,k=(i+j)/2:=⟨_,rfl⟩;rw[<-hk];have a6:i<=k:=ω
   have a5:k<j:=ω
   refine⟨ξ,Y,ξ,λw2 Z=>?_⟩;have h:=h.drawn Z;obtain⟨ad,W,c1,c2,_⟩:=Fx (i:=k) (j:=p) J h ω ω
   refine⟨λu=>sub (hp w2) (hp u),sZZ,ax W ω ⟨_,c1,ax W ω ⟨_,c2,cmp J h ω ω λz w5 h g=>⟨_,rfl,g,ae (λU=>?_) λU=>?_⟩⟩⟩⟩
   ·exact⟨ξ,⟨k+1,j,by rfl,rfl,ω,ω,ω,h⟩,by grind⟩
   grind
  ·refine⟨λz u=>∃k:Nat,z=k/\p<=k/\BA o n c L xs u,λz _=>i-z.toNat,⟨p,rfl,agT _,ys,J,h⟩,?_⟩;clear h J;rintro _ _ w6⟨k,rfl,hk,ys,J,h⟩;refine⟨ξ,ae (λU=>?_) λU=>⟨rfl,ys,J,h⟩⟩;have U:k+1<i:=by grind
   intro w7 Z;have h:=h.drawn Z;obtain⟨ad,W,c1,c2,hK⟩:=Fx (i:=k) (j:=k+1) J h ω ω;have z1:(k:Int)+1=((k+1:Nat):Int):=by rfl
   rw[z1];exact⟨λu=>sub (hp w7) (hp u),sZZ,ξ,ξ,ax W ω ⟨_,c2,ax W ω ⟨_,c1,hK _ λw' h=>⟨ξ,⟨k+1,rfl,ω,h⟩,by grind⟩⟩⟩⟩
 refine⟨ξ,ae (λh5=>?_) λh5=>?_⟩
 ·--one on the right
  have h5:q=m+1:=by grind
  refine⟨λi j u=>∃i' j':Nat,i=i'/\j=j'/\p<=i'/\i'<=j'/\j'<=m/\BA o n c L xs u,λi j _=>j.toNat-i.toNat,⟨p,m,rfl,rfl,ω,ω,ω,h⟩,?_⟩;clear h;rintro _ _ _ w1⟨i,j,rfl,rfl,hi,a7,hj,ys,J,h⟩
  refine ae (λU=>?_) λU=>?_
  ·have U:i<j:=by simp_all
   rw[Ft ω];obtain⟨k,hk⟩:∃k,k=(i+j)/2:=⟨_,rfl⟩;rw[<-hk];have a6:i<=k:=ω
   have a5:k<j:=ω
   refine⟨ξ,Y,ξ,λw2 Z=>?_⟩;have h:=h.drawn Z;obtain⟨ad,W,c1,c2,_⟩:=Fx (i:=m) (j:=k) J h ω ω
   refine⟨λu=>sub (hp w2) (hp u),sZZ,ax W ω ⟨_,c1,ax W ω ⟨_,c2,cmp J h ω ω λz w5 h g=>⟨_,rfl,g,ae (λU=>?_) λU=>?_⟩⟩⟩⟩
   ·exact⟨ξ,⟨k+1,j,by rfl,rfl,ω,ω,ω,h⟩,by grind⟩
   grind
  ·refine⟨λz u=>∃k:Nat,z=k/\k<=m/\BA o n c L xs u,λz _=>z.toNat,⟨m,rfl,agT _,ys,J,h⟩,?_⟩;clear h J;rintro _ _ w6⟨k,rfl,hk,ys,J,h⟩;refine ae (λX=>?_) λX=>⟨rfl,ys,J,h⟩;have X:i<k:=by simp_all
   intro w7 Z;have h:=h.drawn Z;obtain⟨ad,W,c1,c2,hK⟩:=Fx (i:=k) (j:=k-1) J h ω ω;have z1:(k:Int)-1=((k-1:Nat):Int):=ω
   rw[z1];exact⟨λu=>sub (hp w7) (hp u),sZZ,ξ,ξ,ax W ω ⟨_,c2,ax W ω ⟨_,c1,hK _ λw' h=>⟨ξ,⟨k-1,rfl,ω,h⟩,by grind⟩⟩⟩⟩
 rw[Ft ω];obtain⟨O,hm⟩:∃k,k=(p+q)/2:=⟨_,rfl⟩;rw[<-hm];have al:p<O:=ω
 have b3:O<q:=ω
 have aa:p+q<=2*O+1/\2*O<=p+q:=ω
 refine⟨ξ,Y,ξ,ξ,λs r u=>∃s' r':Nat,s=s'/\r=r'/\(O<m->O+m<=s'+q/\r'<=O/\s'<=O)/\(¬O<m->p<=s'/\r'<=m/\s'<=m)/\BA o n c L xs u,ae (λU=>?_) λU=>?_,?_⟩
 ·have U:O<m:=by grind
  exact⟨ξ,O+m-q,O,ω,rfl,λ_=>⟨ω,ω,ω⟩,λhh=>absurd U hh,h⟩
 ·grind
 clear h;rintro _ _ _ am⟨s,r,rfl,rfl,a4,a0,h⟩;refine⟨ξ,λs r u=>∃s' r':Nat,s=s'/\r=r'/\(O<m->O+m<=s'+q/\r'<=O/\s'<=O)/\(¬O<m->p<=s'/\r'<=m/\s'<=m)/\BA o n c L xs u,λs r _=>r.toNat-s.toNat,⟨s,r,rfl,rfl,a4,a0,h⟩,?_⟩;clear h a4 a0;rintro _ _ _ a9⟨s,r,rfl,rfl,a4,a0,ys,J,h⟩
 refine ae (λU=>?_) λU=>?_
 ·have U:s<r:=by simp_all
  rw[Ft ω];obtain⟨k,hk⟩:∃k,k=(s+r)/2:=⟨_,rfl⟩;rw[<-hk];have a6:s<=k:=ω
  have a5:k<r:=ω
  obtain⟨t,ht⟩:∃t:Nat,(O:Int)+m-1-k=t:=⟨O+m-1-k,ω⟩;have V:t<n/\k<n:=ω
  rw[ht];refine⟨ξ,Y,ξ,λa8 Z=>?_⟩;have h:=h.drawn Z;obtain⟨ad,W,c1,c2,_⟩:=Fx (i:=t) (j:=k) J h V.1 V.2
  refine⟨λu=>sub (hp a8) (hp u),sZZ,ξ,ax W V.1 ⟨_,c1,ax W V.2 ⟨_,c2,cmp J h V.1 V.2 λz b1 h g=>⟨_,rfl,g,ae (λU=>?_) λU=>?_⟩⟩⟩⟩
  ·exact⟨ξ,⟨k+1,r,by rfl,rfl,λhx=>ω,λhx=>ω,h⟩,by grind⟩
  grind
 have h0:BA o n c L xs a9:=⟨ys,J,h⟩;clear h J;obtain⟨t,ht⟩:∃t:Nat,(O:Int)+m-s=t:=⟨O+m-s,ω⟩;have V:t<=q/\m<=O+m-s/\s<=m:=ω
 rw[ht]
 refine⟨ξ,λu=>BA o n c L xs u,ae (λX=>ae (λh8=>?_) λ_=>h0) λ_=>h0,?_⟩
 ·have X:s<m:=by simp_all
  have h8:m<t:=by simp_all
  refine(Y6 h0 X h8 ω hn).mono ?_;simp
 clear h0;intro _ b2 h
 refine ae (λX=>ae (λh8=>(ih h (by simp_all) (by grind) ω ω).mono ?_) λ_=>?_) λ_=>?_
 ·rintro _ av⟨rfl,h⟩;refine⟨rfl,ae (λX=>ae (λh8=>(ih h (by grind) (by simp_all) ω ω).mono ?_) λ_=>⟨rfl,h⟩) λ_=>⟨rfl,h⟩⟩;simp
 ·refine ae (λX=>ae (λh8=>(ih h (by grind) (by simp_all) ω ω).mono ?_) λ_=>⟨rfl,h⟩) λ_=>⟨rfl,h⟩;simp
 ·refine ae (λX=>ae (λh8=>(ih h (by grind) (by simp_all) ω ω).mono ?_) λ_=>⟨rfl,h⟩) λ_=>⟨rfl,h⟩;simp
theorem Y7{w:aiA}(hc:abL d e H S)(hL:∀h,aF L h->sub H h)(hS:∀x∈xs,S x)(hn:n<=100000)(h:St w (own 1 o n c (iv xs)::L)):
  ρ 210 [vS o n c,.func (.func d) #[] ⟨e⟩] w λv w'=>v=.tuple #[]/\BA o n c L xs w':=by
 refine kz ((@ny _ _ _ _ _ _ w (λv w'=>v=.tuple #[]/\BA o n c L xs w') ?_).mono λv w' h=>⟨h.1,rfl,h.2⟩);have h0:BA o n c L xs w:=⟨xs,.refl _,h⟩;clear h;refine⟨λa b u=>∃O:Nat,a=O/\b=(O:Int)+20/\O<=n/\BA o n c L xs u,λa _ _=>n-a.toNat,⟨0,rfl,rfl,agP _,h0⟩,?_⟩;clear h0;rintro _ _ _ w1⟨a,rfl,rfl,ha,h⟩;have W:(a:Int)+20=((a+20:Nat):Int):=by rfl
 refine ae (λJ=>?_) λJ=>?_
 ·have J:a+20<=n:=by grind
  rw[W];refine(PY hc hL hS h ha J ω).mono ?_;rintro _ w2⟨rfl,h⟩;exact⟨rfl,ξ,⟨a+20,rfl,rfl,J,h⟩,by grind⟩
 refine(PY hc hL hS h ha (agT _) ω).mono ?_;rintro _ w3⟨rfl,h⟩;refine⟨rfl,λz u=>∃bs:Nat,z=bs/\20<=bs/\bs<=200000/\BA o n c L xs u,λz _=>n-z.toNat,⟨20,rfl,agT _,ω,h⟩,?_⟩;clear h J W ha a;rintro _ _ w4⟨bs,rfl,X,Z,h⟩;refine ae (λJ=>?_) λJ=>⟨rfl,h⟩;have J:bs<n:=by simp_all
 refine⟨ξ,λa b u=>∃O:Nat,a=O/\b=((O+2*bs:Nat):Int)/\O<=n/\BA o n c L xs u,λa _ _=>n-a.toNat,⟨0,rfl,ω,agP _,h⟩,?_⟩;clear h;rintro _ _ _ w5⟨a,rfl,rfl,ha,h⟩;have Y:(a:Int)+bs=((a+bs:Nat):Int):=by rfl
 rw[Y]
 refine ae (λU=>?_) λU=>?_
 ·have U:a+2*bs<=n:=by grind
  refine⟨ξ,(acW hc hL hS ω _ h ω ω U (agT _)).mono ?_⟩;rintro _ w6⟨rfl,h⟩;exact⟨rfl,ξ,ξ,⟨a+2*bs,rfl,by rfl,U,h⟩,by grind⟩
 ·have U:n<a+2*bs:=by grind
  refine⟨ξ,ae (λV=>?_) λV=>⟨ξ,⟨bs*2,by rfl,ω,ω,h⟩,by grind⟩⟩;have V:a+bs<n:=by grind
  refine(acW hc hL hS ω _ h ω V (agT _) (agT _)).mono ?_;rintro _ w7⟨rfl,h⟩;exact⟨rfl,ξ,⟨bs*2,by rfl,ω,ω,h⟩,by grind⟩
end
def Ni(os:List Int)(base:Nat)(e:aH):Bool:=decide ((base:Int)+e.sym<os.length)&&decide (0<=os.getD ((base:Int)+e.sym).toNat 0)
structure CP where
 b:aiz
 cb:Nat
 v:aiz
 cv:Nat
 o:aiz
 co:Nat
abbrev cbC(r:fT)(x:CP):List Value:=[vS x.b r.bs.length x.cb,vS x.v r.vs.length x.cv,vS x.o r.os.length x.co]
abbrev V9(k:Nat)(r:fT)(x:CP)(L:List aE):List aE:=az k (cbC r x)::own 1 x.b r.bs.length x.cb (iv r.bs)::own 1 x.v r.vs.length x.cv (iv r.vs)::own 1 x.o r.os.length x.co (iv r.os)::L
section
variable{w:aiA}{L:List aE}{k n c i:Nat}{r:fT}{x:CP}{o:aiz}{es:List aH}{base:Nat}
theorem abN{e:aH}{p q:Addr}(hp1:∀u,sub (hp w) (hp u)->u.cell? p=some (iI base))(hq:∀u,sub (hp w) (hp u)->u.cell? q=some (vP (some (aM k))))(hk:aq (hp w) (aM k) (cbC r x))(ho:aX (hp w) r.os x.o r.os.length)(h0:0<=e.sym)(h1:e.sym<=1000000)(hb:base<=1000000):
  ρ 355 [.agg ⟨[iI e.sym,iI e.to]⟩,.pointer (some p),.pointer (some q)] w λv w'=>v=vB (Ni r.os base e)/\Gr w w':=by
 refine v_ (ag (St.all w) λY w1 h V X=>?_);have h:=h.drawn X;have g:Gr w V:=h.aP;have U:=af 0 h.l;have O:=hk.mono g
 refine⟨λu=>Gr V u,Gr.refl _,base,λu s=>hp1 u (sub.trans g s),e.sym,λu s=>U.cell0 s,ξ,some (aM k),λu s=>hq u (sub.trans g s),_,_,_,λu s=>O.cell s (j:=2) rfl,ae (λJ=>?_) λJ=>?_⟩
 ·have J:=agQ J;obtain⟨t,ht⟩:∃t:Nat,(base:Int)+e.sym=t:=⟨((base:Int)+e.sym).toNat,ω⟩;obtain⟨Z,W,hc⟩:=pH (ho.mono g) (i:=t) ω;refine⟨some (aM k),λu s=>hq u (sub.trans g s),_,_,_,λu s=>O.cell s (j:=2) rfl,base,λu s=>hp1 u (sub.trans g s),e.sym,λu s=>U.cell0 s,ξ,?_⟩;rw[ht];refine ax W ω ⟨_,λu s=>hc u s,?_,g⟩
  simp_all[Ni,aht]
 ·have J:=agO J
  simp_all[Ni,ahf,Bool.false_and]
theorem aeo(hk:aq (hp w) (aM k) (cbC r x))(ho:aX (hp w) r.os x.o r.os.length)(hes:aX (hp w) es o n)(hn:n<=1000000)(hs:∀e∈es,0<=e.sym/\e.sym<=1000000)(hb:base<=1000000):
  ρ 295 [vP (some (aM k)),iI base,vS o n c] w λv w'=>v=vB (!es.any (Ni r.os base))/\Gr w w':=by
 refine A0 (ag (St.all w) λX Z h=>ag h λk2 W h=>?_);have g:Gr w W:=h.tail.aP;have O:=af 0 h.l;have U:=af 1 h.l;refine(abI (hes.mono g) rfl (λe V u J=>abN (k:=k) (base:=base) (r:=r) (x:=x) (λz s=>O.cell0 (sub.trans J s)) (λz s=>U.cell0 (sub.trans J s)) (hk.mono (g.trans J)) (ho.mono (g.trans J)) (hs e V).1 (hs e V).2 hb) hn).mono ?_;rintro _ Y⟨rfl,g3⟩;exact⟨_,rfl,rfl,g.trans g3⟩
theorem abO(hs:∀e∈es,0<=e.sym/\e.sym<=1000000)(h:r.os.length<=base):es.any (Ni r.os base)=false:=by grind[List.any_eq_false,Ni,decide_eq_false]
def C0(os:List Int)(k:Int):Prop:=∀t:Nat,(t:Int)=k->t<os.length->os[t]? =some (-1)
theorem Y8{K:Nat->List aH}{N:Nat}(hC:iT N K r)(h:(!es.any (Ni r.os base))=true):∀e∈es,C0 r.os ((base:Int)+e.sym):=by
 intro e O t ht u;have h:es.any (Ni r.os base)=false:=by simp_all
 rw[List.any_eq_false] at h;have h:=h e O;have J:=agM u;unfold Ni at h;rw[<-ht,aht ω,agZ,agU,J] at h;have h:¬0<=r.os[t]:=by simp_all
 rcases hC.own t _ J with U|⟨j,_,U,_⟩
 ·simp_all
 omega
theorem C0.ext{os:List Int}{k:Int}(h:C0 os k):C0 (os++[-1]) k:=λt ht u=>by
 rcases Nat.lt_or_ge t os.length with hl|hl
 ·rw[ag8 hl];exact h t ht hl
 simp_all
theorem C0.set{os:List Int}{k:Int}{m:Nat}{z:Int}(h:C0 os k)(hm:(m:Int)≠k):C0 (os.set m z) k:=λt ht u=>by
 rw[ait ω]
 exact h t ht (by simp_all)
structure abP(N:Nat)(K:Nat->List aH)(bs:List Int)(M base:Nat)(fr:List aH)(k k3:Nat)(e0:List Value)(L:List aE)(y:fT×CP)(u:aiA):Prop where
 c:iT N K y.1
 bs:y.1.bs=bs
 l:y.1.os.length<=M
 fr:∀e∈fr,C0 y.1.os ((base:Int)+e.sym)
 v:∀z∈y.1.vs,-1000000<=z/\z<=1000000
 s:St u (az k3 e0::V9 k y.1 y.2 L)
abbrev R4(K:Nat->List aH)(i:Nat)(l:List aH):Nat->List aH:=λj=>if j=i then l else K j
theorem afV{K:Nat->List aH}{N:Nat}(hC:iT N K r)(hi:i<N)(hK:K i=[])(hL:∀h,aF L h->aX h es o n)(hn:n<=100000)(hs:∀e∈es,0<=e.sym/\e.sym<256)(hd:(es.map (·.sym)).Nodup)(hb0:∀b∈r.bs,0<=b)(hlen:r.os.length<=500000)(hbd:∀z∈r.vs,-1000000<=z/\z<=1000000)(hto:∀e∈es,-1000000<=e.to/\e.to<=1000000)(h:St w (V9 k r x L)):
  ρ 212 [vP (some (aM k)),iI (i:Int),vS o n c] w λv w'=>v=.tuple #[]/\∃r' x',iT N (R4 K i es) r'/\(∀b∈r'.bs,0<=b)/\r'.os.length<=r.os.length+257/\(∀z∈r'.vs,-1000000<=z/\z<=1000000)/\St w' (V9 k r' x' L):=by
 have b5:∀e∈es,0<=e.sym/\e.sym<=1000000:=λe he=>by grind
 refine Cw ⟨λz u=>∃b:Nat,z=b/\b<=r.os.length/\St u (V9 k r x L),λz _=>r.os.length-z.toNat,⟨0,rfl,agP _,h⟩,?_⟩;clear h;rintro _ _ w1⟨base,rfl,cc,h⟩;refine(aeo (af 0 h.l) (iD (h.pick 4 [3])) ((hL _ h.tail.tail.tail.tail.l)) ω b5 ω).mono ?_;rintro _ w2⟨rfl,g2⟩;have h:=h.gr g2
 refine⟨_,rfl,ae (λh1=>?_) λh1=>?_⟩
 ·have ck:base≠r.os.length:=λe=>by simp_all[abO]
  exact⟨ξ,⟨base+1,rfl,ω,h⟩,bR ω⟩
 have O:=Y8 hC (by simpa using h1);clear h1;have bi:r.bs.length=N:=hC.lb;refine⟨_,_,_,h.cell 0,?_⟩;obtain⟨ad,am⟩:=eQ h.tail (by grind[cf]);refine ax am ω (fX h.swap am (by grind[cf]) λw3 h=>?_)
 have h:St w3 (V9 k { r with bs:=r.bs.set i base } x L):=by
  have e:(iv r.bs).set i (iI base)=iv (r.bs.set i base):=by simp[iv]
  rw[e] at h;have h:=h.swap
  grind
 have bc:=hC.base hK base;have cp:∀b∈r.bs.set i (base:Int),0<=b:=λb hb=>by grind
 have bl:(r.bs.set i (base:Int)).getD i 0=base:=by simp_all
 have a9:iT N (R4 K i (es.take 0)) { r with bs:=r.bs.set i (base:Int) }:=by
  have:R4 K i (es.take 0)=K:=by grind
  simp_all
 obtain⟨r0,b3⟩:∃r0:fT,r0={ r with bs:=r.bs.set i (base:Int) }:=⟨_,rfl⟩;refine⟨λz u=>∃(j:Nat)(r1:fT)(x1:CP),z=j/\j<=n/\iT N (R4 K i (es.take j)) r1/\r1.bs=r.bs.set i (base:Int)/\r1.os.length<=r.os.length+257/\(∀e∈es.drop j,C0 r1.os ((base:Int)+e.sym))/\(∀z∈r1.vs,-1000000<=z/\z<=1000000)/\St u (V9 k r1 x1 L),λz _=>n-z.toNat,⟨0,_,x,rfl,agP _,a9,rfl,σ,λe he=>O e (by simp_all),hbd,h⟩,?_⟩;clear h a9 bc O b3 r0;rintro _ _ w4⟨j,r1,x1,rfl,hj,U,V,X,O,W,h⟩;have he:=hL _ h.tail.tail.tail.tail.l;refine ae (λZ=>?_) λZ=>?_
 rotate_left
 ·have Z:j=n:=by grind
  subst Z;rw[ag4 (by rw[he.1];omega)] at U
  grind
 have Z:j<n:=by simp_all
 obtain⟨e,cu,vs,hx,b6,b1,a0⟩:=he.get Z;have a0:vs=[iI e.sym,iI e.to]:=a0;subst a0;have cd:=agL hx;obtain⟨s,b2⟩:∃s:Nat,e.sym=s:=⟨e.sym.toNat,by grind⟩;have ba:s<256:=by grind
 refine aO b6 Z ⟨_,_,b1.at sZZ rfl,ag h λk3 w5 h=>aL h rfl (by simp[aK]) λw6 h=>?_⟩;rw[b2] at h;have a6:abP N (R4 K i (es.take j)) (r.bs.set i (base:Int)) (r.os.length+257) base (es.drop j) k k3 [iI s,iI e.to] L (r1,x1) w6:=⟨U,V,X,O,W,h⟩;refine⟨λu=>∃y,abP N (R4 K i (es.take j)) (r.bs.set i (base:Int)) (r.os.length+257) base (es.drop j) k k3 [iI s,iI e.to] L y u,V4 (abP N (R4 K i (es.take j)) (r.bs.set i (base:Int)) (r.os.length+257) base (es.drop j) k k3 [iI s,iI e.to] L) λy=>base+s+1-y.1.os.length,⟨_,a6⟩,?_⟩;clear h U V X O W a6;intro _ w7 al;obtain⟨y,⟨U,V,X,O,W,h⟩,bT⟩:=B5 (f:=λy:fT×CP=>base+s+1-y.1.os.length) al;clear al;obtain⟨J,x2⟩:=y;dsimp only at U V X O W h;have c8:J.vs.length=J.os.length:=U.lv;intro w8 b7;have h:=h.drawn b7
 refine⟨λu=>Gr w8 u,Gr.refl _,_,_,_,λu g=>by rw[ak];exact(af 1 h.l).cell g (j:=2) rfl,_,λu g=>(af 0 h.l).cell0 g,ξ,ae (λh3=>?_) λh3=>?_⟩
 ·--a place more
  have h3:J.os.length<=base+s:=by grind
  refine⟨_,_,_,by rw[ak];exact h.tail.cell 2,ag h λk8 ci h=>?_⟩;refine(aS (us:=iv J.os) (vs:=[iI (-1)]) aT (rfl:ai Ty _=.slice _) (rfl:ai Ty _=.slice _) rfl rfl rfl (h.pick 6 [0,5,1,2,3,4]) rfl (by simp[aK]) (by grind) ω).mono ?_;rintro _ c7⟨o4,c4,rfl,h⟩;refine⟨_,_,_,rfl,?_⟩
  show st1 _ ((aM k).add _) _ _
  rw[ak];refine aR (i:=2) (h.pick 6 [3,0,2,4,5]) σ λbz h=>?_;refine⟨_,_,_,by rw[ak];exact h.cell 1,ag h λch cg h=>?_⟩;refine(aS (us:=iv J.vs) (vs:=[iI 0]) aT (rfl:ai Ty _=.slice _) (rfl:ai Ty _=.slice _) rfl rfl rfl (h.pick 6 [0,5,1,2,3,4]) rfl (by simp[aK]) (by grind) ω).mono ?_;rintro _ c9⟨o6,c6,rfl,h⟩;refine⟨_,_,_,rfl,?_⟩
  show st1 _ ((aM k).add _) _ _
  rw[ak];refine aR (i:=1) (h.pick 6 [2,0,3,4,5]) σ λaa h=>?_;have Y:=U.ext
  have bb:St aa (az k3 [iI s,iI e.to]::V9 k { J with os:=J.os++[-1],vs:=J.vs++[0] } ⟨x2.b,x2.cb,o6,c6,o4,c4⟩ L):=by
   have e1:iv (J.os++[-1])=iv J.os++[iI (-1)]:=by simp[iv]
   have e2:iv (J.vs++[0])=iv J.vs++[iI 0]:=by simp[iv]
   unfold V9 cbC;dsimp only;rw[e1,e2,agV,agV];exact h.pick 5 [3,0,4,1,2]
  have hI:abP N (R4 K i (es.take j)) (r.bs.set i (base:Int)) (r.os.length+257) base (es.drop j) k k3 [iI s,iI e.to] L ({ J with os:=J.os++[-1],vs:=J.vs++[0] },⟨x2.b,x2.cb,o6,c6,o4,c4⟩) aa:=by
   refine⟨Y,V,by grind,λe he=>(O e he).ext,λz hz=>?_,bb⟩
   grind
  refine⟨⟨_,hI⟩,?_⟩;have h1:=AA (f:=λy:fT×CP=>base+s+1-y.1.os.length) hI
  grind
 ·--it is laid
  have h3:base+s<J.os.length:=by grind
  intro cx a5;have h:=h.drawn a5;obtain⟨ao,a7⟩:=eQ (h.pick 5 [4,0,1,2,3]) (by grind[cf]);obtain⟨av,a8⟩:=eQ (h.pick 5 [3,0,1,2,4]) (by grind[cf]);have zt:(base:Int)+s=((base+s:Nat):Int):=by rfl
  refine⟨λu=>aq (hp u) (aM k3) [iI s,iI e.to]/\aq (hp u) (aM k) (cbC J x2),⟨af 0 h.l,af 1 h.l⟩,_,_,_,λu g=>by rw[ak];exact g.2.cell sZZ (j:=2) rfl,_,λu g=>g.1.cell0 sZZ,ξ,_,_,_,λu g=>by rw[ak];exact g.2.cell sZZ (j:=1) rfl,_,λu g=>g.1.cell0 sZZ,ξ,_,λu g=>g.1.cell sZZ (j:=1) rfl,?_⟩;rw[zt];refine ax a7 h3 (fX (h.pick 5 [4,0,1,2,3]) a7 (by grind[cf]) λca h=>⟨⟨af 1 h.l,af 2 h.l⟩,ax a8 ω (fX (h.pick 5 [4,0,1,2,3]) a8 (by grind[cf]) λbP h=>?_)⟩);have a4:=O e (by grind[List.drop_eq_getElem_cons,List.getElem?_eq_getElem,List.mem_cons_self]) (base+s) ω h3;have Y:=U.put (e:=e) hi (k:=base+s) (by grind) a4
  have be:(λj'=>if j'=i then R4 K i (es.take j) i++[e] else R4 K i (es.take j) j')=R4 K i (es.take (j+1)):=by
   funext j'
   unfold R4
   split
   ·rw[ag0 rfl,agR,hx];rfl
   rfl
  rw[be] at Y;have z1:(j:Int)+1=((j+1:Nat):Int):=by rfl
  refine⟨ξ,⟨j+1,_,x2,z1,Z,Y,V,by grind,λe' b4=>?_,λz hz=>?_,?_⟩,bR Z⟩
  ·refine(O e' ?_).set ?_
   ·grind[List.drop_eq_getElem_cons,List.mem_cons_of_mem]
   ·intro c5;obtain⟨m,hm⟩:=ahb b4;rw[ahy] at hm;have h5:(es.map (·.sym))[j]? =some e.sym:=by simp_all
    have h6:(es.map (·.sym))[j+1+m]? =some e'.sym:=by simp_all
    grind[List.getElem?_inj,List.getElem?_eq_some_iff]
  ·grind
  ·have e1:(iv J.os).set (base+s) (iI (i:Int))=iv (J.os.set (base+s) (i:Int)):=by simp[iv]
   have e2:(iv J.vs).set (base+s) (iI e.to)=iv (J.vs.set (base+s) e.to):=by simp[iv]
   rw[e1,e2] at h;unfold V9 cbC;rw[ahB,ahB];exact h.pick 5 [3,4,0,1]
end
def aep:List Value:=List.replicate 256 (vB false)
noncomputable abbrev ATy:=Ty
theorem afW:ec Tryz.prog ATy:=aT
theorem rvA{i:FuncId}{fn:Func}(hf:Tryz.prog.funcs[i]? =some fn)(A:aW){args:List Value}{w:aiA}{R:Value->aiA->Prop}{V:Prop}(e:Z6 Tryz.prog ATy Fn Ev A fn args w R=V)(h:V):ρ i args w R:=WM afW WQ mixed hf A (e▸h)
def IZ:aW:={ rngs:=[],loops:=[(3,[(8,(.one (.int .i64)))])],joins:=[],blocks:=[] }
def Kj(a:aiz)(b c:Nat)(w:aiA)(R:Value->WP):Prop:=  new w (oC aep 443) λc d=>τ [(8,aN)] λe f=>e 0 d/\∀(_:ν) d g,e d g->br (decide (d<(↑b:Int))) (idx a b d 2 λa=>∃b h,rowAt g a 0 2=some [iI b,iI h]/\new g (oC [iI 0,iI 0] 203) λa i=>bA i (aM a) [iI b,iI h] λb=>∃h,World.cell? b (aM a)=some (iI h)/\br (decide (h<0)) (R (vB false) b) (∃h,World.cell? b (aM a)=some (iI h)/\br (decide (256<=h)) (R (vB false) b) (∃h,World.cell? b (aM a)=some (iI h)/\idx (some (aM c)) 256 h 1 λh=>∃i,World.cell? b h=some (vB i)/\br i (R (vB false) b) (∃h,World.cell? b (aM a)=some (iI h)/\idx (some (aM c)) 256 h 1 λa=>st1 b a (vB true) λa=>aA (d+1)/\nA e f (d+1) a d g)))) (R (vB true) g)
theorem I0(a:aiz)(b c:Nat)(w:aiA)(R:Value->WP)(h:Kj a b c w R):ρ 209 [(vS a b c)] w R:=rvA Tryz.func209 IZ (by kernel_rfl) h
structure Vr(es:List aH):Prop where
 s:∀e∈es,0<=e.sym/\e.sym<256
 d:(es.map (·.sym)).Nodup
 v:∀e∈es,-1000000<=e.to/\e.to<=1000000
 n:es.length<=256
section
variable{w:aiA}{L:List aE}{n c:Nat}{o:aiz}{es:List aH}{rows:List (List aH)}
theorem abQ(hes:aX (hp w) es o n)(hE:Vr es):ρ 209 [vS o n c] w λv w'=>v=vB true/\Gr w w':=by
 refine I0 _ _ _ w _ (ag (St.all w) λk1 w1 h=>?_);have e0:aep=bv (List.replicate 256 false):=by rfl
 rw[e0] at h;have hn:n<=256:=by rw[<-hes.1];exact hE.n
 refine⟨λz u=>∃(j:Nat)(bs:List Bool),z=j/\j<=n/\bs.length=256/\(∀t:Nat,bs[t]? =some true->∃e∈es.take j,e.sym=t)/\St u (az k1 (bv bs)::all w),λz _=>n-z.toNat,⟨0,_,rfl,agP _,σ,λt ht=>?_,h⟩,?_⟩
 ·grind
 clear h e0;rintro _ _ w2⟨j,bs,rfl,hj,hl,hb,h⟩;refine ae (λU=>?_) λU=>⟨rfl,h.aP⟩;have U:j<n:=by simp_all
 obtain⟨e,a4,vs,hx,Y,W,O⟩:=(hes.mono h.aP).get U;have O:vs=[iI e.sym,iI e.to]:=O;subst O;have V:=agL hx;obtain⟨s,X⟩:∃s:Nat,e.sym=s:=⟨e.sym.toNat,by have:=hE.s e V;omega⟩;have J:s<256:=by have:=hE.s e V;omega
 refine aO Y U ⟨_,_,W.at sZZ rfl,ag h λk2 w3 h=>aL h rfl (by simp[aK]) λw4 h=>?_⟩;rw[X] at h
 have a0:bs[s]? =some false:=by
  rw[agM ω];cases hv:bs[s] with
  |false=>rfl
  |true=>
   exfalso;obtain⟨e',Z,a5⟩:=hb s (by simp_all);obtain⟨m,hm⟩:=ahb Z;rw[ahJ] at hm
   split at hm
   ·rename_i hmj;have h5:(es.map (·.sym))[j]? =some e.sym:=by simp_all
    have h6:(es.map (·.sym))[m]? =some e'.sym:=by simp_all
    have:=(List.getElem?_inj (agN.1 h5).1 hE.d).1 (h5.trans (by rw[h6];simp_all));omega
   simp_all
 refine⟨_,h.cell 0,bB σ ⟨_,h.cell 0,bB (by grind) ⟨_,h.cell 0,ax rfl J ⟨false,?_,bB rfl ⟨_,h.cell 0,ax rfl J ?_⟩⟩⟩⟩⟩
 ·exact(af 1 h.l).cell sZZ (by simp_all[bv])
 rw[ak]
 refine aR h.swap (by simp_all[bv]) λw5 h=>⟨ξ,⟨j+1,bs.set s true,σ,U,by simp_all,λt ht=>?_,?_⟩,bR U⟩
 ·grind[List.take_add_one,List.getElem?_set_ne]
 ·have e1:(bv bs).set s (vB true)=bv (bs.set s true):=by simp[bv]
  rw[e1] at h;exact h.pick 3 [0,2]
theorem Y9(hes:aX (hp w) es o n)(hE:Vr es):ρ 208 [vS o n c] w λv w'=>v=vB false/\Gr w w':=by
 refine F1 ((abQ hes hE).mono ?_);simp
theorem afX{H:Hp}{p:Addr}(hr:aX H rows o n)(hE:∀es∈rows,Vr es)(hp1:∀u,sub H (hp u)->u.cell? p=some (vS o n c)):abL J3 [.pointer (some p)] H λz=>0<=z/\z<n:=by
 refine⟨rfl,λx y u hx hy g=>F3 λZ hd=>?_⟩;have g1:sub H (hp Z):=by grind[aQ]
 obtain⟨i,rfl⟩:∃i:Nat,x=i:=⟨x.toNat,ω⟩;obtain⟨j,rfl⟩:∃i:Nat,y=i:=⟨y.toNat,ω⟩;obtain⟨xs,ad,vs,V,ha,U,o1,l1,c1,rfl,_,W⟩:=(hr.mono g1).get (i:=i) ω;obtain⟨ys,a0,vs,X,O,J,o2,l2,c2,rfl,_,Y⟩:=(hr.mono g1).get (i:=j) ω;rw[ha] at O;cases O;have e1:=(hE xs (agL V)).n;have e2:=(hE ys (agL X)).n;have f1:=W.1;have f2:=Y.1;refine⟨λu=>Gr Z u,Gr.refl _,_,_,_,λu s=>hp1 u (sub.trans g1 s),aO ha ω ⟨_,_,_,λu s=>J.cell0 s,_,_,_,λu s=>hp1 u (sub.trans g1 s),aO ha ω ⟨_,_,_,λu s=>U.cell0 s,ξ,_,rfl,ξ,Gr.of_eq (aQ hd)⟩⟩⟩
def qd(rows:List (List aH))(l:List Int)(i:Nat):List aH:=if(i:Int)∈l then rows.getD i [] else[]
theorem acX(hr:aX (hp w) rows o n)(hE:∀es∈rows,Vr es)(hn:n<=256):ρ 111 [vS o n c] w λv w'=>∃(r:fT)(x:CP),v=.tuple #[.agg #[vS x.b r.bs.length x.cb,vS x.v r.vs.length x.cv,vS x.o r.os.length x.co],iI 0]/\
  PX rows r/\r.os.length<=100000/\(∀z∈r.vs,-1000000<=z/\z<=1000000)/\St w' (own 1 x.b r.bs.length x.cb (iv r.bs)::own 1 x.v r.vs.length x.cv (iv r.vs)::own 1 x.o r.os.length x.co (iv r.os)::all w):=by
 have c8:=hr.1
 refine Mv (ag (St.all w) λk1 w1 h=>ag h λk2 w2 h=>⟨λb u=>b=false/\St u (az k2 [zS,zS,zS]::az k1 [vS o n c]::all w),⟨_,_,_,h.tail.cell 0,bB (by grind) ⟨_,_,_,h.tail.cell 0,?_⟩⟩,?_⟩)
 ·refine(abJ (p:=λ_=>false) (hr.mono h.tail.aP) rfl (λes he u g o1 l1 c1 a4=>?_) ω).mono ?_
  ·exact Y9 a4 (hE es he)
  ·rintro _ w3⟨rfl,g⟩;exact⟨_,rfl,σ,h.gr g⟩
 clear h;rintro _ _ w4⟨rfl,h⟩;obtain⟨h0,a7,s0,h⟩:=h.freeze;have V:aq h0 (aM k1) [vS o n c]:=af 0 a7;have b5:sub (hp w) h0:=aC 1 a7;have a5:=hr.mono b5;refine bB rfl ⟨_,_,_,V.cell0 s0,⟨ω,rfl,ω⟩,?_⟩;rw[agZ,cZ];refine ag h λW w6 h=>?_;have hz:List.replicate n (iI 0)=iv ((List.range 0).map (λ(i:Nat)=>(i:Int))++List.replicate (n-0) 0):=by simp[iv]
 rw[hz] at h;refine⟨λz u=>∃j:Nat,z=j/\j<=n/\St u (az W (iv ((List.range j).map (λ(i:Nat)=>(i:Int))++List.replicate (n-j) 0))::az k2 [zS,zS,zS]::[has h0]),λz _=>n-z.toNat,⟨0,rfl,agP _,h⟩,?_⟩;clear h hz;rintro _ _ w7⟨j,rfl,hj,h⟩
 refine ae (λJ=>?_) λJ=>?_
 ·have J:j<n:=by simp_all
  refine ax rfl J ?_;rw[ak];refine aR h (by simp_all[cf]) λw8 h=>⟨ξ,⟨j+1,σ,J,?_⟩,bR J⟩
  have e:(iv ((List.range j).map (λ(i:Nat)=>(i:Int))++List.replicate (n-j) 0)).set j (iI (j:Int))=iv ((List.range (j+1)).map (λ(i:Nat)=>(i:Int))++List.replicate (n-(j+1)) 0):=by
   rw[Gx];congr 1;rw[show n-j=(n-(j+1))+1 from ω,ah1,ahW _ _ σ,ag5,ahL,ah2,List.set_cons_zero,ahA,ag7,ag3];rfl
  simp_all
 have J:j=n:=by grind
 subst J;rw[ah2,List.replicate_zero,ahe] at h;have ho:St w7 (own 1 (some (aM W)) j j (iv ((List.range j).map λ(i:Nat)=>(i:Int)))::az k2 [zS,zS,zS]::[has h0]):=bg (cs:=[]) (by simp_all) (by simp[cf]) (by simp[cf]) (agT _)
 refine(Y7 (afX (p:=aM k1) a5 hE λu s=>V.cell0 s) (λh hh=>aC 1 hh) (λx hx=>?_) ω ho).mono ?_
 ·grind
 rintro _ w9⟨rfl,ys,a8,h⟩;have cd:=qY h;have c5:ys.Nodup:=a8.nodup_iff.2 (ahD.2 (List.nodup_range.imp λb7 he=>b7 ω));have bc:∀z∈ys,∃i:Nat,z=i/\i<j:=λz hz=>by grind
 refine⟨rfl,_,_,_,V.cell0 (aC 2 h.l),⟨ω,rfl,ω⟩,?_⟩;rw[agZ,cZ];refine ag h λbP ca h=>ag h λav bi h=>?_;have aa:List.replicate j (iI 0)=iv (List.replicate j 0):=by simp[iv]
 rw[aa] at h;have hL:∀h,aF (own 1 (some (aM W)) j j (iv ys)::az k2 [zS,zS,zS]::[has h0]) h->sub h0 h:=λh hh=>aC 2 hh
 have b3:St bi (V9 av ⟨List.replicate j 0,[],[]⟩ ⟨some (aM bP),j,none,0,none,0⟩ (own 1 (some (aM W)) j j (iv ys)::az k2 [zS,zS,zS]::[has h0])):=by
  have h2:=bg (sz:=1) (l:=j) (c:=j) (cs:=[]) (by rw[ahe];exact h.swap) (by grind) (by grind) (agT _);have h3:=aI 1 (aI 1 h2);unfold V9 cbC;dsimp only;rw[ahX];exact h3.pick 7 [3,2,0,1,4,5,6]
 have ba:qd rows (ys.take 0)=λ_=>[]:=by rfl
 refine⟨λz u=>∃(m:Nat)(r:fT)(x:CP),z=m/\m<=j/\iT j (qd rows (ys.take m)) r/\(∀b∈r.bs,0<=b)/\r.os.length<=m*257/\(∀z∈r.vs,-1000000<=z/\z<=1000000)/\St u (V9 av r x (own 1 (some (aM W)) j j (iv ys)::az k2 [zS,zS,zS]::[has h0])),λz _=>j-z.toNat,⟨0,_,_,rfl,agP _,by simp_all[iT.new],λb hb=>by simp_all,σ,λz hz=>(by grind),b3⟩,?_⟩;clear h b3 ba aa ho hj;rintro _ _ a6⟨m,r,x,rfl,hm,hC,hb,c6,hv,h⟩;have Z:sub h0 (hp a6):=aC 6 h.l
 refine ae (λJ=>?_) λJ=>?_
 ·have J:m<j:=by simp_all
  obtain⟨y,hy⟩:∃y,ys[m]? =some y:=⟨_,agM ω⟩;obtain⟨i,rfl,U⟩:=bc y (agL hy);obtain⟨es,ad,vs,hx,ha,X,o1,l1,c1,rfl,_,a4⟩:=(a5.mono Z).get U
  have a0:aX h0 es o1 l1:=by
   obtain⟨ch,cp,cg,b4,b1,O,ck,c7,ci,e',_,a0⟩:=a5.get U;rw[hx] at b4;cases b4;rw[ha] at b1;cases b1;have q1:=X.cell0 (w:=a6) sZZ;rw[e'] at O;have q2:=O.cell0 (w:=a6) Z
   simp_all
  have Y:=hE es (agL hx);have cc:es.length=l1:=a4.1
  have bz:qd rows (ys.take m) i=[]:=by
   unfold qd;rw[agW]
   grind[List.getElem?_of_mem,List.getElem?_inj]
  have al:R4 (qd rows (ys.take m)) i es=qd rows (ys.take (m+1)):=by
   funext i'
   unfold R4 qd;rw[agR,hy]
   grind
  have a9:(iv ys)[m]? =some (iI (i:Int)):=by simp_all[iv]
  refine ax rfl J ⟨_,qK (h.pick 5 [4,0,1,2,3]) rfl a9,_,_,_,V.cell0 Z,aO ha U ⟨_,_,_,X.cell0 sZZ,ae (λh2=>?_) λh2=>?_⟩⟩
  ·refine⟨_,_,_,V.cell0 Z,aO ha U ⟨_,_,_,X.cell0 sZZ,(afV hC U bz (λh hh=>a0.mono (hL h hh)) (by have:=Y.n;omega) Y.s Y.d hb ω hv Y.v h).mono ?_⟩⟩;rintro _ c9⟨rfl,r',x',am,bl,be,b6,h⟩;rw[al] at am;exact⟨rfl,ξ,⟨m+1,r',x',σ,J,am,bl,ω,b6,h⟩,bR J⟩
  ·have h2:es=[]:=ag2 (by simp_all);have bb:R4 (qd rows (ys.take m)) i es=qd rows (ys.take m):=by grind
   rw[al] at bb;exact⟨ξ,⟨m+1,r,x,σ,J,by simp_all,hb,ω,hv,h⟩,bR J⟩
 have J:m=j:=by grind
 subst J;rw[ag4 ω] at hC
 have bT:qd rows ys=λi=>rows.getD i []:=by
  funext i
  unfold qd
  grind
 rw[bT] at hC;refine⟨_,_,_,_,_,_,_,_,_,(af 0 h.l).at sZZ rfl,?_⟩;refine aL (h.pick 6 [5,1,2,3]) rfl (by simp[aK]) λb2 h=>⟨_,_,_,_,_,_,_,_,_,(af 0 h.l).at sZZ rfl,r,x,rfl,⟨by simp_all,hb⟩,ω,hv,?_⟩;have h2:St b2 ([own 1 x.b r.bs.length x.cb (iv r.bs),own 1 x.v r.vs.length x.cv (iv r.vs),own 1 x.o r.os.length x.co (iv r.os)]++[has h0]):=h.tail;have h3:St b2 (own 1 x.b r.bs.length x.cb (iv r.bs)::own 1 x.v r.vs.length x.cv (iv r.vs)::own 1 x.o r.os.length x.co (iv r.os)::[az k1 [vS o m c],has (hp w)]):=St.on (N:=[_,_,_]) h2 a7;exact h3.pick 4 [0,1,2]
end
section
variable{g:ah}{nn:List Bool}{ss:List SQ}
def lvP(g:ah)(p:Nat):Int:=match g.prods[p]? with
 |some x=>x.level
 |none=>0
def lvT(g:ah)(t:Nat):Int:=match g.terms[t]? with
 |some x=>x.level
 |none=>0
def lvS(g:ah)(l:Int):Int:=match g.levels[(l-1).toNat]? with
 |some x=>x
 |none=>0
def qe(g:ah)(p t:Nat):Int:=
 if lvP g p=0\/lvT g t=0 then 0 else if lvT g t<lvP g p then 2 else if lvP g p<lvT g t then 1
 else if lvS g (lvP g p)=1 then 2 else if lvS g (lvP g p)=2 then 1 else 3
theorem aeq(hc:aw g){p:Nat}{x:aJ}(h:g.prods[p]? =some x):0<=x.level/\x.level<=g.levels.length:=by
 obtain⟨_,_,u,U,J,_,_,hl⟩:=hc;cases p with
 |zero=>
  simp_all
 |succ p=>
  have O:x∈g.prods.drop 1:=by
   refine agL (i:=p) ?_
   simp_all
  exact(u.2.2.1 x O).1.2.2
theorem aer(hc:aw g){l:Int}(h1:1<=l)(h2:l<=g.levels.length):∃v,g.levels[(l-1).toNat]? =some v/\lvS g l=v/\1<=v/\v<=3:=by
 obtain⟨_,J,_⟩:=hc;obtain⟨v,u⟩:∃v,g.levels[(l-1).toNat]? =some v:=⟨_,agM ω⟩;have:=J.2.2.2.2.2.2.1 _ v u
 simp_all[lvS]
theorem Y_(p t:Nat):0<=qe g p t/\qe g p t<=3:=by grind[qe]
def Lr(n:Nat)(a:aD):Int:=if a.kind=1/\0<=a.to then 0 else if a.kind=3/\a.to=0 then 1 else if a.kind=2/\0<a.to/\a.to<n then 1+a.to else-1
def PZ(n:Nat):Int->List aD->Prop
 |_,[]=>True
 |last,a::l=>last<Lr n a/\PZ n (Lr n a) l
def P0(n:Nat)(l:List aD):Prop:=PZ n (-1) l
theorem P1{n:Nat}:∀{l:List aD}{last:Int},PZ n last l->∀x∈l,last<Lr n x
 |[],_,_,x,h=>by grind
 |a::l,last,ho,x,h=>by
  rcases ag6.1 h with rfl|h
  ·exact ho.1
  ·have:=P1 ho.2 x h
   have:=ho.1
   omega
theorem aes{n:Nat}{l:List aD}(h:P0 n l){x:aD}(hx:x∈l):x.kind=1/\0<=x.to\/x.kind=3/\x.to=0\/x.kind=2/\0<x.to/\x.to<n:=by
 have h:=P1 h x hx
 grind[Lr]
theorem Nk{n:Nat}:∀{l m:List aD}{last:Int},PZ n last l->(∀x∈l,∀y∈m,Lr n x<Lr n y)->(∀y∈m,last<Lr n y)->PZ n last m->PZ n last (l++m)
 |[],m,last,_,_,_,hm=>hm
 |a::l,m,last,hl,h,h2,hm=>⟨hl.1,Nk hl.2 (λx hx=>h x (by grind)) (λy hy=>h a σ y hy) (by
   cases m with
   |nil=>trivial
   |cons b m=>exact⟨h a σ b σ,hm.2⟩)⟩
theorem GR{n:Nat}:∀{l:List aD}{last:Int},(∀x∈l,last<Lr n x)->l.Pairwise (λx y=>Lr n x<Lr n y)->PZ n last l
 |[],_,_,_=>trivial
 |a::l,last,h,hp=>by
  obtain⟨h1,h2⟩:=ahM.1 hp
  exact⟨h a σ,GR h1 h2⟩
theorem Za(hc:aw g)(hA:bC g ss)(q t:Nat):P0 g.prods.length (ee g nn ss q t):=by
 unfold P0 ee
 have X:∀x∈TF ss q t,Lr g.prods.length x=0:=λx u=>by
  obtain⟨V,J⟩:=PF u;have:=(d_ hc hA J).1
  simp_all[Lr]
 have ha:∀x∈Vl ss q t,Lr g.prods.length x=1:=λx u=>by
  obtain⟨rfl,_⟩:=PG u;rfl
 have Y:∀x∈NC (dt g nn ss) q t,1<Lr g.prods.length x/\Lr g.prods.length x=1+x.to:=λx u=>by
  obtain⟨V,l,hl,_,J,_⟩:=PH u;obtain⟨q',m,_,Z,W,rfl⟩:=CS hl;have J:(m:Int)=x.to:=J;unfold Lr;omega
 have U:∀{l:List aD},l.length<=1->l.Pairwise (λx y=>Lr g.prods.length x<Lr g.prods.length y):=λ{l} h=>by
  match l,h with
  |[],_=>simp
  |[a],_=>simp
 rw[ag3]
 refine Nk (GR (λx u=>by simp_all) (U (TG q t))) (λx u y O=>?_) (λy O=>?_) (Nk (GR (λx u=>by simp_all) (U (TH q t))) (λx u y O=>?_) (λy O=>?_) (GR (λx u=>?_) ?_))
 ·grind
 ·grind
 ·grind
 ·grind
 ·grind
 grind[List.Pairwise.imp_of_mem,TI]
def NF(g:ah)(t:Nat)(x:aD):Int:=if x.kind=2 then qe g x.to.toNat t else 0
theorem aet(t:Nat)(x:aD):0<=NF g t x/\NF g t x<=3:=by
 unfold NF
 split
 ·simp[Y_]
 omega
def Vs(g:ah)(t:Nat)(x:aD):Bool:=decide (NF g t x≠2/\NF g t x≠3)
def GS(g:ah)(t:Nat)(x:aD):Bool:=decide (NF g t x=0\/NF g t x=2)
def V_(g:ah)(t:Nat)(x:aD):Bool:=decide (NF g t x=3)
def fU(g:ah)(t:Nat):List aD->List aD×Bool
 |[]=>([],false)
 |a::r=>if a.kind=1 then((if r.all (Vs g t)=true then[a] else[])++r.filter (GS g t),r.any (V_ g t)) else(a::r,false)
def C3:List aD×Bool->aD
 |(a::_,_)=>a
 |([],true)=>⟨4,0⟩
 |([],false)=>⟨0,0⟩
def qf(l:List aD):List aD:=if 2<=l.length then l else[]
theorem qZ{t:Nat}{a:aD}{r:List aD}(h:a.kind=1):fU g t (a::r)=((if r.all (Vs g t)=true then[a] else[])++r.filter (GS g t),r.any (V_ g t)):=by
 show(if a.kind=1 then _ else _)=_
 simp_all
theorem yP{t:Nat}{a:aD}{r:List aD}(h:¬a.kind=1):fU g t (a::r)=(a::r,false):=by
 show(if a.kind=1 then _ else _)=_
 simp_all
theorem Vt{t:Nat}{l:List aD}:(fU g t l).1.length<=l.length:=by
 cases l with
 |nil=>exact agT _
 |cons a r=>
  by_cases h:a.kind=1
  ·grind[qZ,Vs,GS,List.length_filter_le,List.length_append,List.length_cons]
  simp_all[yP]
theorem Lt{t:Nat}{l:List aD}{x:aD}(h:x∈(fU g t l).1):x∈l:=by
 cases l with
 |nil=>exact h
 |cons a r=>
  by_cases u:a.kind=1
  ·rw[qZ u] at h
   rcases agX.1 h with h|h
   ·split at h
    ·simp at h;subst h;exact List.mem_cons_self
    ·cases h
   ·exact ahQ _ (ahi.1 h).1
  ·rw[yP u] at h;exact h
noncomputable def nQ(g:ah)(nn:List Bool)(ss:List SQ)(q t:Nat):aD:=C3 (fU g t (ee g nn ss q t))
noncomputable def C4(g:ah)(nn:List Bool)(ss:List SQ):List (List aD):=(List.range ss.length).map λq=>(List.range g.T).map (nQ g nn ss q)
def ER(g:ah)(ss:List SQ):List (List Int):=(List.range ss.length).map λq=>(List.range g.N).map λj=>CA ss q ((g.T+j:Nat):Int)
def Vu(g:ah)(c:cP):List cP:=if 2<=(fU g c.tm.toNat c.acts).1.length then[⟨c.st,c.tm,(fU g c.tm.toNat c.acts).1⟩] else[]
noncomputable def R5(g:ah)(nn:List Bool)(ss:List SQ):List cP:=(nu g nn ss 1).flatMap (Vu g)
def Nl(g:ah)(n:Nat)(cs:List cP)(A:List (List aD)):Prop:=A.length=n/\∀(q:Nat) r,A[q]? =some r->r.length=g.T/\∀(t:Nat) a,r[t]? =some a->(∀c∈cs,c.st=(q:Int)->c.tm=(t:Int)->a=C3 (fU g t c.acts))/\((∀c∈cs,¬(c.st=(q:Int)/\c.tm=(t:Int)))->a=⟨0,0⟩)
theorem Nl.zero{n:Nat}:Nl g n [] (List.replicate n (List.replicate g.T ⟨0,0⟩)):=by
 refine⟨σ,λq r u=>?_⟩
 grind
theorem Nl.put{n q t:Nat}{cs:List cP}{A:List (List aD)}{r:List aD}{c:cP}(h:Nl g n cs A)(hr:A[q]? =some r)(h1:c.st=(q:Int))(h2:c.tm=(t:Int))(hn:∀d∈cs,¬(d.st=(q:Int)/\d.tm=(t:Int))):Nl g n (cs++[c]) (A.set q (r.set t (C3 (fU g t c.acts)))):=by
 obtain⟨V,U⟩:=h;have J:=(agN.1 hr).1;refine⟨by grind,λO r' u=>?_⟩;rw[ah8] at u
 by_cases e:q=O
 ·subst e;rw[ag0 rfl,ag0 J] at u
  grind
 grind
theorem Nl.all{A:List (List aD)}(h:Nl g ss.length (nu g nn ss 1) A):A=C4 g nn ss:=by
 obtain⟨h1,W⟩:=h;unfold C4;refine ahp λq=>?_;rw[agS]
 by_cases J:q<ss.length
 ·rw[ahV J];obtain⟨r,u⟩:∃r,A[q]? =some r:=⟨_,agM ω⟩;rw[u];obtain⟨X,O⟩:=W q r u
  show some r=some _
  congr 1;refine ahp λt=>?_;rw[agS]
  by_cases ht:t<g.T
  ·rw[ahV ht];obtain⟨a,ha⟩:∃a,r[t]? =some a:=⟨_,agM ω⟩;rw[ha];obtain⟨V,U⟩:=O t a ha
   show some a=some (nQ g nn ss q t)
   congr 1;unfold nQ
   by_cases hl:1<=(ee g nn ss q t).length
   ·exact V ⟨(q:Int),(t:Int),ee g nn ss q t⟩ (pe.2 ⟨q,t,J,ht,hl,rfl⟩) rfl rfl
   ·have e:ee g nn ss q t=[]:=ag2 ω;rw[U λc hc hh=>?_,e];rfl;obtain⟨q',Z,_,_,Y,rfl⟩:=pe.1 hc
    grind
  grind
 simp_all
end
section
variable{P:Program}{w w':aiA}{L:List aE}{b:Nat}{us vs:List Value}{e e':TypeId}{A B C D:aE}{Ty:TypeId->Option dD}
theorem Nn(hT:ec P Ty){t ty:TypeId}(hk:ai Ty t=.slice e)(a:aiz)(l c:Nat)(w:aiA):(Builtin.cap_ (Array.mk [t]) ty (Array.mk [vS a l c])).run P w=.ok (iI (c:Int)) w:=by
 obtain⟨d,J,u⟩:=dJ hT hk σ;rw[fm u] at J;simp[Builtin.cap_,run_underlying J,goInt]
theorem P3{a:aiz}{len cap sz:Nat}{k:aiz->Nat->Nat->Prop}(h2:len<=cap)(hk:k a len cap):lU a len cap (some (0:Int)) none none sz k:=by
 refine dy (lo:=0) (agP _) h2 ?_;rw[XO];exact hk
theorem GU(hT:ec P Ty){t tx ty:TypeId}{i:dD}(hk:ai Ty t=.slice e)(hi:Ty e=some i)(hs:0<i.size)
  {a a2:aiz} {l c k n sl c2 dl dc:Nat} {news:List Value} (h:St w (own i.size a l c us::L)) (hn:news.length=n*i.size) (hx:eE a2 news (hp w)) (h1:∀u∈news,aK u=true) (h0:0<n) (hle:k+n<=l) (hd:Nat.min sl dl=n):
  aY P (Builtin.copy_ (Array.mk [t,tx]) ty (Array.mk [vS (fK a k c i.size) dl dc,vS a2 sl c2])) w λv w'=>v=iI (n:Int)/\St w' (own i.size a l c (us.take (k*i.size)++news++us.drop (k*i.size+news.length))::L):=by
 obtain⟨d,hu,Y⟩:=dJ hT hk σ;rw[fm Y] at hu;obtain⟨V,d2,ha⟩:=sE hT hi;have a4:0<news.length:=by simp_all
 rcases dE h with⟨_,rfl,_,_⟩|⟨b,O,cs,J,rfl,hc,h2,h3,h4⟩
 ·omega
 obtain⟨U,rfl,hr⟩:∃U,a2=some U/\∀j v,news[j]? =some v->vn (hp w) (U.add j)=some v:=by
  rcases hx with hx|⟨U,e,hx⟩
  ·simp_all
  simp_all
 have a0:k*i.size+news.length<=us.length:=by
  rw[hn,h2,<-Nat.add_mul];exact ahO _ hle
 obtain⟨K,hK⟩:∃K,K=k*i.size:=⟨_,rfl⟩
 have Z:fK (some ⟨b,O.length,none⟩) k c i.size=some ⟨b,O.length+K,none⟩:=by
  unfold fK;rw[agW ω]
  grind[Addr.add,ff,bh,add_lit]
 rw[Z];rw[<-hK] at a0 ⊢;have a5:(O++(us++(cs++J))).length=O.length+us.length+(cs++J).length:=by grind
 have X:(Builtin.firstCells V.size n (vS (some U) sl c2)).run P w=.ok news.toArray w:=run_firstCells_some (P:=P) w _ n U sl c2 news (by rw[hn,ha.size]) (λj v hj=>jI (hr j v hj))
 have W:=run_storeCells_cells (P:=P) b (O.length+K) news 0 w (λj hj=>by
   rw[hc.cell,agM ω];rfl) (λj hj=>hc.frozen _ _) (λv hv=>by simp_all[LM])
 have ev:∀(news:List Value)(w0 w:aiA)(o:Nat),Ev w0 w->Ev w0 (w.setCells b o news):=by
  intro news
  induction news with
  |nil=>exactλ_ _ _ h=>h
  |cons v r ih=>exactλw0 w o h=>ih w0 _ (o+1) (h.trans (Ev.setCell w _ v))
 refine⟨iI (n:Int),w.setCells b (O.length+K) news,?_,ev news w w _ (Ev.refl w),rfl,?_⟩
 ·simp[Builtin.copy_,run_underlying hu,Builtin.lenOf,sizeOf,typeInfo,ha.inf,hd,X,W,goInt]
 ·have e0:O++(us++(cs++J))=(O++us.take K)++(us.drop K++(cs++J)):=by grind[List.append_assoc,List.take_append_drop]
  rw[e0] at hc;have h5:=hc.setCells news (O++us.take K) (us.drop K++(cs++J)) (by grind);rw[agV,ahl,ais ω] at h5;have e1:O++us.take K++news++(us.drop K++(cs++J)).drop news.length=O++((us.take K++news++us.drop (K+news.length))++(cs++J)):=by grind[List.length_drop,List.drop_drop,List.append_assoc]
  rw[e1] at h5;have el:(us.take K++news++us.drop (K+news.length)).length=us.length:=by grind
  grind[fp,List.length_append]
theorem Lu(hT:ec P Ty){t tn ty:TypeId}{i:dD}{z:Value}(hk:ai Ty t=.slice e)(hkn:ai Ty tn=.int .i64)(hi:Ty e=some i)(hz:i.zero=some z)(hzs:(cellsOf z).length=i.size)(hs:0<i.size)
  {a:aiz} {c m:Nat} (h:St w L) (h0:0<m) (hg:c<m) (hb:m*i.bytes<=140737488355328) (h63:m<=9223372036854775807):
  aY P (Builtin.append_ (Array.mk [t,tn]) ty (Array.mk [vS a 0 c,iI (m:Int)])) w λv w'=>∃(o:aiz)(c':Nat)(us:List Value),v=vS o m c'/\us.length=m*i.size/\St w' (own i.size o m c' us::L):=by
 obtain⟨d,Z,V⟩:=dJ hT hk σ;rw[fm V] at Z;obtain⟨dn,J,X⟩:=dJ hT hkn σ;rw[QH X] at J;obtain⟨u,d2,ha⟩:=sE hT hi;have W:z.cells.size=u.size:=by rw[<-ha.size,<-hzs,dU];simp
 rw[ha.size] at*;rw[ha.bytes] at hb
 have O:(Builtin.firstCells u.size 0 (vS a 0 c)).run P w.drew=.ok ([]:List Value).toArray w.drew:=by
  cases a with
  |none=>rfl
  |some a=>grind[run_firstCells_some]
 have Y:=Lib.run_append_grow_zeros (P:=P) w t tn ty e u z .i64 .i64 Z J ha.inf (by rw[<-ha.zero,hz]) a 0 c [] O m h0 hs ω ω ω (by simp_all[growslice_fits]);rw[aii] at Y;have U:=grownCap_ge w m c e;refine⟨_,_,Y,(Ev.drew w _).trans (Ev.push _ _),_,_,(Builtin.zeroCells z.cells m).toList,rfl,by grind[size_zeroCells],?_⟩;have h1:St w.drew L:=h.same rfl;have h2:=h1.push (.cells (([]:List Value).toArray++Builtin.zeroCells z.cells m++Builtin.zeroCells z.cells (grownCap w m c e-m)) e)
 have h3:St (w.drew.alloc (.cells (([]:List Value).toArray++Builtin.zeroCells z.cells m++Builtin.zeroCells z.cells (grownCap w m c e-m)) e)) (az w.heap.size ((Builtin.zeroCells z.cells m).toList++(Builtin.zeroCells z.cells (grownCap w m c e-m)).toList)::L):=by
  have:(([]:List Value).toArray++Builtin.zeroCells z.cells m++Builtin.zeroCells z.cells (grownCap w m c e-m))=⟨(Builtin.zeroCells z.cells m).toList++(Builtin.zeroCells z.cells (grownCap w m c e-m)).toList⟩:=σ
  rw[this] at h2 ⊢;exact jM.2 ⟨_,h2⟩
 refine bg h3 (by grind[size_zeroCells]) ?_ U;rw[agV,aiy,aiy,size_zeroCells,size_zeroCells,W,<-Nat.add_mul]
 simp_all
theorem Zb{sz l c m:Nat}{a:aiz}(h:St w (own sz a l c vs::L))(hm:l+m<=c):∃us,us.length=m*sz/\St w (own sz a (l+m) c (vs++us)::L):=by
 rcases dE h with⟨rfl,rfl,rfl,rfl⟩|⟨b,V,cs,u,rfl,hc,W,J,X⟩
 ·simp_all
 ·have U:m*sz<=cs.length:=by
   rw[agV,W] at J;have:=ahO sz hm
   grind
  have O:vs++(cs++u)=(vs++cs.take (m*sz))++(cs.drop (m*sz)++u):=by grind[List.append_assoc,List.take_append_drop]
  rw[O] at hc
  refine⟨cs.take (m*sz),by simp_all,fp hc ?_ ?_ hm⟩
  ·grind
  simp_all
theorem aeu{k:Nat}(h:St w (az k us::az b vs::L)):k≠b:=by
 rintro rfl;obtain⟨X,V,d,s1,s2,⟨Z,ha⟩,O,U,J,u,W,⟨Y,hb⟩,_⟩:=h
 rcases d k with h|h
 ·simp_all
 ·rw[u _ _ hb] at h;grind
theorem P4(hT:ec P Ty){g:FuncId}{fn:Func}{tS tR:TypeId}{i:dD}(hf:P.funcs[g]? =some fn)(hname:(fn.name=="runtime.NumGoroutine")=false)(hb:fn.body.isNone=true)(hn:Extern.findNext fn=none)(he:Extern.find fn=some (Extern.SlicesOverlaps.overlaps #[tS,tS] #[tR]))
  (hk:ai Ty tS=.slice e) (hi:Ty e=some i) {k l2 c2 lb cb o:Nat} (h:St w (az k us::az b vs::L)) (hv:vs≠[]) {K:Value->aiA->Prop} (hK:K (vB false) w):
  ac7 P g [vS (some ⟨k,0,none⟩) l2 c2,vS (some ⟨b,o,none⟩) lb cb] w K:=by
 obtain⟨d,O,J⟩:=dJ hT hk σ;rw[fm J] at O;obtain⟨u,d2,ha⟩:=sE hT hi;obtain⟨V,U⟩:=jM.1 h;obtain⟨W,X⟩:=jM.1 h.tail;have g1:=U.get;have g2:=X.get;refine⟨vB false,w,?_,Ev.refl w,hK⟩
 rw[run_callFunc_extern hf hname hb hn he,show(Extern.SlicesOverlaps.overlaps #[tS,tS] #[tR]) (Array.mk [vS (some ⟨k,0,none⟩) l2 c2,vS (some ⟨b,o,none⟩) lb cb])=(Extern.SlicesOverlaps.overlaps #[tS,tS] #[tR]) #[vS (some ⟨k,0,none⟩) l2 c2,vS (some ⟨b,o,none⟩) lb cb] from rfl,
  Lib.run_overlaps_apart w tS tR e O u.size (λw=>cY ha.inf) ⟨k,0,none⟩ ⟨b,o,none⟩ l2 c2 lb cb (aeu h) V W us.length vs.length (by grind[World.shape?]) (by grind[World.shape?]) (by simp_all) (h.frozen 0 none) (h.frozen _ _)]
 rfl
end
section
variable{a b c d e:aiz}{i j k l m n o p q r:Nat}{A B C:Int}{w:aiA}{R:Value->WP}
theorem Bp(h:new w (ψ a i j b k l c m n A d o p) λa b=>new b (oC [zS,zS,zS] 96) λb c=>χ c (aM a) λd=>rE 105 [d] c λc d=>∃e f g h,c=vU [vS e f g,iI h]/\br (h !=0) (bA d (aM b) [zS,zS,zS] λa=>∃c d e f g i j k l,rA a (aM b) 3 [vS c d e,vS f g i,vS j k l]/\R (vU [vG [vS c d e,vS f g i,vS j k l],iI h]) a) (χ d (aM a) λc=>rE 41 [c] d λc d=>∃g h i j k l,c=vU [vG [vS g h i,iI j,iI k],iI l]/\new d (oC [zS,iI 0,iI 0] 76) λc d=>bA d (aM c) [vS g h i,iI j,iI k] λd=>new d (oC [zS,zS,zS] 96) λd g=>cLs g (aM c) λh i j=>τ [(36,aN)] λc j=>c 0 g/\∀(_:ν) g k,c g k->bQ (g<(i:Int)) (idx h i g 2 λb=>∃e f h i l m,rA k b 2 [vS e f h,vS i l m]/\new k (oC [zS,zS] 199) λb n=>bA n (aM b) [vS e f h,vS i l m] λe=>cLs e (Addr.add (aM a) 1) λf h i=>od (h:Int) (h:Int) 8/\new e (Obj.cells (Array.mk (gD (Int.toNat (h:Int)) [iI 0])) 3) λe f=>τ [(46,aN)] λi l=>i 0 f/\∀(_:ν) f m,i f m->bQ (f<(↑(Int.toNat (h:Int)):Int)) (idx (some (aM e)) (Int.toNat (h:Int)) f 1 λa=>st1 m a (iI (-1)) λa=>aA (f+1)/\nA i l (f+1) a f m) (cLs m (Addr.add (aM b) 1) λf i l=>τ [(56,aN)] λb l=>b 0 m/\∀(_:ν) m n,b m n->bQ (m<(i:Int)) (idx f i m 2 λc=>∃d f,rA n c 2 [iI d,iI f]/\new n (oC [iI 0,iI 0] 203) λc g=>bA g (aM c) [iI d,iI f] λd=>cLi d (aM c) λf=>cLs d (aM a) λg i j=>bQ ((i:Int)<=f) (cLi d (aM c) λf=>cLs d (aM a) λg i j=>aA (f-(i:Int))/\cLi d (Addr.add (aM c) 1) λa=>idx (some (aM e)) (Int.toNat (h:Int)) (f-(i:Int)) 1 λc=>st1 d c (iI a) λa=>aA (m+1)/\nA b l (m+1) a m n) (aA (m+1)/\nA b l (m+1) d m n)) (dW1 n λb f=>dLs f (aM d) λi l m=>dLs f (aM a) λn o p=>od (o:Int) (o:Int) 16/\new b (Obj.cells (Array.mk (gD (Int.toNat (o:Int)) [iI 0,iI 0])) 170) λa b=>f b/\new b (oC [vS (some (aM a)) (Int.toNat (o:Int)) (Int.toNat (o:Int))] 86) λa b=>f b/\rS (fW1 92 [vS i l m,vS (some (aM a)) 1 1]) b λa b=>∃i l m,a=vS i l m/\f b/\st1 b (aM d) (vS i l m) λa=>cLs a (Addr.add (aM d) 1) λb f i=>new a (oC [vS (some (aM e)) (Int.toNat (h:Int)) (Int.toNat (h:Int))] 24) λa e=>rS (fW1 71 [vS b f i,vS (some (aM a)) 1 1]) e λa b=>∃e f h,a=vS e f h/\st1 b (Addr.add (aM d) 1) (vS e f h) λa=>aA (g+1)/\nA c j (g+1) a g k))) (τ [(99,aN)] λc g=>c 0 k/\∀(_:ν) h i,c h i->bQ (h<(f:Int)) (idx e f h 3 λb=>∃e f j k l,rA i b 3 [iI e,iI f,vS j k l]/\new i (oC [iI 0,iI 0,zS] 90) λb m=>bA m (aM b) [iI e,iI f,vS j k l] λe=>χ e (aM a) λa=>∃f j k l m,rA e (aM b) 3 [iI f,iI j,vS k l m]/\rE 106 [a,vG [iI f,iI j,vS k l m]] e λa e=>∃f j k l m,a=vU [vG [iI f,iI j],vS k l m]/\new e (oC [iI 0,iI 0] 170) λa e=>bA e (aM a) [iI f,iI j] λe=>dW1 e λf e=>dLs e (aM d) λj n o=>dLi e (aM b) λo=>idx j n o 1 λj=>dLs e j λn o p=>dLi e (Addr.add (aM b) 1) λj=>∃p q,(∀b,e b->rA b (aM a) 2 [iI p,iI q])/\idx n o j 2 λa=>bA f a [iI p,iI q] λa=>bQ (0<(l:Int)) (cLs a (Addr.add (aM d) 2) λe f j=>cLi a (aM b) λn=>cLi a (Addr.add (aM b) 1) λo=>new a (oC [iI n,iI o,vS k l m] 90) λa b=>rS (fW1 83 [vS e f j,vS (some (aM a)) 1 1]) b λa b=>∃e f j,a=vS e f j/\st1 b (Addr.add (aM d) 2) (vS e f j) λa=>aA (h+1)/\nA c g (h+1) a h i) (aA (h+1)/\nA c g (h+1) a h i)) (∃a c e f g h j k l,rA i (aM d) 3 [vS a c e,vS f g h,vS j k l]/\bA i (aM b) [vS a c e,vS f g h,vS j k l] λa=>∃c d e f g h i j k,rA a (aM b) 3 [vS c d e,vS f g h,vS i j k]/\R (vU [vG [vS c d e,vS f g h,vS i j k],iI 0]) a)))):ρ 43 [φ a i j b k l c m n A d o p] w R:=rv Tryz.func43 h ⟨[(7,[(36,aN)]),(11,[(46,aN)]),(16,[(56,aN)]),(25,[(99,aN)])],[],[],[]⟩
theorem zU(h:new w (ψ a i j b k l c m n A d o p) λa b=>new b (oC [iI B,iI C,vS e q r] 90) λb c=>new c (oC [iI 0,iI 0] 170) λc d=>χ d (aM a) λa=>cLi d (Addr.add (aM b) 1) λe=>cLs d (Addr.add (aM b) 2) λf g h=>rE 201 [a,iI e,vS f g h] d λa b=>∃d e f g,a=vU [vS d e f,vB g]/\bQ (1<(e:Int)) (dW1 b λa b=>idx d e 0 2 λg=>∃h i,(∀a,b a->rA a g 2 [iI h,iI i])/\rEs 202 [vS d e f] a λe f g d=>b d/\bA d (aM c) [iI h,iI i] λa=>∃b d,rA a (aM c) 2 [iI b,iI d]/\R (vU [vG [iI b,iI d],vS e f g]) a) (br ((e:Int)==1) (idx d e 0 2 λa=>∃d e,rA b a 2 [iI d,iI e]/\bA b (aM c) [iI d,iI e] λa=>∃b d,rA a (aM c) 2 [iI b,iI d]/\R (vU [vG [iI b,iI d],zS]) a) (br g (bA b (aM c) [iI 4,iI 0] λa=>∃b d,rA a (aM c) 2 [iI b,iI d]/\R (vU [vG [iI b,iI d],zS]) a) (bA b (aM c) [iI 0,iI 0] λa=>∃b d,rA a (aM c) 2 [iI b,iI d]/\R (vU [vG [iI b,iI d],zS]) a)))):ρ 106 [φ a i j b k l c m n A d o p,(.agg #[iI B,iI C,vS e q r])] w R:=rv Tryz.func106 h
theorem EU(h:new w (ψ a i j b k l c m n A d o p) λa b=>∃(c:lP [(23,yV)]),br ((q:Int)==0) (c true b) (idx e q 0 2 λa=>cLi b a λd=>c (d !=1) b)/\∀(_:ν) b d,c b d->br b (rEs 251 [vS e q r] d λc d e b=>R (vU [vS c d e,vB false]) b) (lU e q r (some 1) none none 2 λ(b:aiz)(c _:Nat)=>τ [(8,yV),(9,yV),(10,kT),(29,aN)] λf g=>f true false none 0 0 0 d/\∀(_:ν) d h i j k l m,f d h i j k l m->bQ (l<(c:Int)) (idx b c l 2 λb=>∃c e,rA m b 2 [iI c,iI e]/\new m (oC [iI 0,iI 0] 170) λb n=>bA n (aM b) [iI c,iI e] λc=>cLi c (aM b) λe=>br (e==2) (χ c (aM a) λa=>cLi c (Addr.add (aM b) 1) λe=>rEi 290 [a,iI e,iI B] c λe c=>br (e==3) (aA (l+1)/\f false true i j k (l+1) c/\g false true i j k (l+1) c<g d h i j k l m) (br (e==2) (∃a e,rA c (aM b) 2 [iI a,iI e]/\new c (oC [iI a,iI e] 170) λa b=>rS (fW1 86 [vS i j k,vS (some (aM a)) 1 1]) b λa b=>∃c e n,a=vS c e n/\aA (l+1)/\f false h c e n (l+1) b/\g false h c e n (l+1) b<g d h i j k l m) (br (e==0) (∃a e,rA c (aM b) 2 [iI a,iI e]/\new c (oC [iI a,iI e] 170) λa b=>rS (fW1 86 [vS i j k,vS (some (aM a)) 1 1]) b λa b=>∃c e n,a=vS c e n/\aA (l+1)/\f d h c e n (l+1) b/\g d h c e n (l+1) b<g d h i j k l m) (aA (l+1)/\f d h i j k (l+1) c/\g d h i j k (l+1) c<g d h i j k l m)))) (br (0==3) (aA (l+1)/\f false true i j k (l+1) c/\g false true i j k (l+1) c<g d h i j k l m) (br (0==2) (∃a e,rA c (aM b) 2 [iI a,iI e]/\new c (oC [iI a,iI e] 170) λa b=>rS (fW1 86 [vS i j k,vS (some (aM a)) 1 1]) b λa b=>∃c e n,a=vS c e n/\aA (l+1)/\f false h c e n (l+1) b/\g false h c e n (l+1) b<g d h i j k l m) (br (0==0) (∃a e,rA c (aM b) 2 [iI a,iI e]/\new c (oC [iI a,iI e] 170) λa b=>rS (fW1 86 [vS i j k,vS (some (aM a)) 1 1]) b λa b=>∃c e n,a=vS c e n/\aA (l+1)/\f d h c e n (l+1) b/\g d h c e n (l+1) b<g d h i j k l m) (aA (l+1)/\f d h i j k (l+1) c/\g d h i j k (l+1) c<g d h i j k l m))))) (br d (idx e q 0 2 λa=>∃b c,rA m a 2 [iI b,iI c]/\new m (oC [iI b,iI c] 170) λa b=>rEs 291 [vS i j k,iI 0,vS (some (aM a)) 1 1] b λc d e b=>R (vU [vS c d e,vB h]) b) (R (vU [vS i j k,vB h]) m)))):ρ 201 [φ a i j b k l c m n A d o p,iI B,vS e q r] w R:=rv Tryz.func201 h ⟨[(7,[(8,yV),(9,yV),(10,kT),(29,aN)])],[(2,[(23,yV)])],[],[]⟩
theorem EW(h:new w (ψ a i j b k l c m n A d o p) λa b=>new b (oC [iI 0,iI 0,iI 0,iI 0] 490) λb c=>bA c (aM b) [iI 0,iI 2,iI 1,iI 3] λc=>cLs c (Addr.add (aM a) 4) λd e f=>idx d e B 3 λd=>cLi c (d.add 2) λe=>cLs c (aM a) λd f g=>idx d f C 2 λd=>cLi c (d.add 1) λf=>br (e==0) (R (iI 0) c) (br (f==0) (R (iI 0) c) (bQ (f<e) (R (iI 2) c) (bQ (e<f) (R (iI 1) c) (cLs c (Addr.add (aM a) 2) λd f g=>aA (e-1)/\idx d f (e-1) 1 λa=>cLi c a λd=>idx (some (aM b)) 4 d 1 λa=>cLi c a λb=>R (iI b) c))))):ρ 290 [φ a i j b k l c m n A d o p,iI B,iI C] w R:=rv Tryz.func290 h
end
theorem Zc{h:Hp}{xs:List aD}{a:aiz}{l:Nat}(r:aX h xs a l):eE a (du xs) h:=by
 cases xs with
 |nil=>exact .inl rfl
 |cons x0 xs'=>
  obtain⟨u,vs,rfl,_⟩:=r.2 0 x0 rfl;refine .inr ⟨u,rfl,yA (n:=2) (λ_=>rfl) _ u λi x U=>?_⟩;obtain⟨J,vs,e,V,O⟩:=r.2 i x U;cases e;rw[show vs=bG x from O] at V;omega
theorem TU(xs:List aD):∀v∈du xs,aK v=true:=λv u=>by
 obtain⟨x,_,u⟩:=ahI.1 u
 rcases ag6.1 u with rfl|u
 ·rfl
 ·rw[ag_] at u;subst u;rfl
section
variable{w:aiA}{L:List aE}{g:ah}{x:GA}
theorem P5{xs:List aD}{a:aiz}{l c:Nat}(hr:aX (hp w) xs a l)(hb:l*16<=140737488355328):ρ 251 [vS a l c] w λv w'=>∃o c',v=vS o l c'/\St w' (own 2 o l c' (du xs)::all w):=by
 have hl:=hr.1
 refine gX (ae (λh=>?_) λh=>?_)
 ·have ha:a=none:=by simp_all
  subst ha
  have J:xs=[]:=by
   cases xs with
   |nil=>rfl
   |cons x _=>obtain⟨O,_,e,_⟩:=hr.2 0 x rfl;grind
  subst J;have:l=0:=hl.symm;subst this;exact⟨_,_,rfl,aI 2 (St.all w)⟩
 ·refine ag (St.all w) λk u h=>?_;have g1:Gr w u:=h.aP;have h:St u (own 2 (some (aM k)) 0 0 []::all w):=bg (cs:=[]) h rfl rfl (agT _);refine(MD (us:=[]) (news:=du xs) aT (rfl:ai Ty _=.slice _) (rfl:ai Ty _=.slice _) rfl rfl rfl h (by rw[oN,hl]) σ (Zc (hr.mono g1)) (TU xs) (by simp_all) ω).mono ?_
  grind
theorem Vv{xs:List aD}{y:aD}{o:aiz}{c k:Nat}(h:St w (az k (bG y)::own 2 o xs.length c (du xs)::L))(hb:xs.length<=100000):
  ρ 291 [vS o xs.length c,iI 0,vS (some (aM k)) 1 1] w λv w'=>∃o' c',v=vS o' (xs.length+1) c'/\St w' (own 2 o' (xs.length+1) c' (du (y::xs))::L):=by
 obtain⟨n,hn⟩:∃n,n=xs.length:=⟨_,rfl⟩;have W:(du xs).length=n*2:=by rw[oN,hn]
 have a6:=bD (h.pick 2 [1]);have he:du (y::xs)=bG y++du xs:=rfl;have aa:0<xs.length->xs≠[]:=λh e=>by simp_all
 rw[<-hn] at h a6 hb ⊢;rw[he];have hy:∀u∈bG y,aK u=true:=by simp[bG,aK]
 have a0:=TU xs;have rk:eE (some (aM k)) (bG y) (hp w):=.inr ⟨_,rfl,af 0 h.l⟩;obtain⟨X,hX⟩:∃X,X=du xs:=⟨_,rfl⟩;rw[<-hX] at h W a0 ⊢
 refine gL (P3 a6 (bB σ (ae (λh1=>?_) λh1=>?_)))
 ·have h1:n=0:=by grind
  subst h1;have e:X=[]:=ag2 ω;subst e;refine(aS (us:=[]) aT (rfl:ai Ty _=.slice _) (rfl:ai Ty _=.slice _) rfl rfl rfl h rfl hy σ ω).mono ?_;rintro _ w2⟨o',c',rfl,h⟩;exact⟨_,_,_,rfl,o',c',rfl,by rw[ahe];exact h.pick 2 [0]⟩
 have h1:0<n:=by grind
 have i1:aA ((n:Int)+((1:Nat):Int)):=ξ
 refine⟨i1,⟨_,w,Nn aT (rfl:ai Ty _=.slice _) o n c w,Ev.refl w,_,rfl,ae (λU=>?_) λU=>?_⟩⟩
 ·have U:c=n:=by grind
  subst U;refine iH (hi:=0) (agP _) ⟨i1,ξ,?_⟩;have ez:(c:Int)+((1:Nat):Int)-0=((c+1:Nat):Int):=by rfl
  rw[ez];refine(Lu (i:=_) aT (rfl:ai Ty _=.slice _) (rfl:ai Ty _=.int .i64) rfl rfl rfl σ h ω ω (by grind) ω).mono ?_;rintro _ w3⟨o4,c4,us,rfl,Y,h⟩;have Y:us.length=(c+1)*2:=Y;have h:St w3 (own 2 o4 (c+1) c4 us::az k (bG y)::own 2 o c c X::L):=h;have V:=bD h;refine⟨_,_,_,rfl,P3 V ?_⟩;have J:=GU (k:=0) (n:=1) (news:=bG y) (t:=bw) (tx:=bw) (ty:=dX) aT (rfl:ai Ty _=.slice _) rfl σ h rfl (.inr ⟨aM k,rfl,af 1 h.l⟩) hy σ ω (sl:=1) (dl:=c+1) (c2:=1) (dc:=c4) (ais ω);rw[XO] at J;refine J.mono ?_;rintro _ w4⟨rfl,h⟩;refine⟨_,rfl,λw5 hd=>?_⟩;have h:=h.drawn hd;refine⟨λ_=>True,trivial,ξ,?_⟩;rw[show(0:Int)+((1:Nat):Int)=((1:Nat):Int) from rfl];refine dy (lo:=1) ω V (P3 (agT _) ?_);have Z:=GU (k:=1) (n:=c) (news:=X) (t:=bw) (tx:=bw) (ty:=dX) aT (rfl:ai Ty _=.slice _) rfl σ h W (dN 2 h.l) a0 h1 ω (sl:=c) (dl:=c+1-1) (c2:=c) (dc:=c4-1) σ;refine Z.mono ?_;rintro _ w6⟨rfl,h⟩;refine⟨_,rfl,o4,c4,rfl,?_⟩;have h:St w6 (own 2 o4 (c+1) c4 ((us.take (0*2)++bG y++us.drop (0*2+(bG y).length)).take (1*2)++X++(us.take (0*2)++bG y++us.drop (0*2+(bG y).length)).drop (1*2+X.length))::az k (bG y)::own 2 o c c X::L):=h;have e1:(us.take (0*2)++bG y++us.drop (0*2+(bG y).length)).take (1*2)=bG y:=by rfl
  have e2:(us.take (0*2)++bG y++us.drop (0*2+(bG y).length)).drop (1*2+X.length)=[]:=List.drop_eq_nil_of_le (by grind);rw[e1,e2,ahe] at h;exact h.pick 3 [0]
 have U:n+1<=c:=by grind
 obtain⟨us,Y,h⟩:=Zb (m:=1) (h.pick 2 [1,0]) U;refine⟨i1,iH (hi:=n+1) U ⟨ξ,?_⟩⟩;rw[XO,show(0:Int)+((1:Nat):Int)=((1:Nat):Int) from rfl];refine dy (lo:=1) ω U ?_
 rcases dE h with⟨_,he,_,_⟩|⟨b,O,cs,a9,rfl,a5,_,_,_⟩
 ·omega
 have a4:fK (some ⟨b,O.length,none⟩) 1 c 2=some ⟨b,O.length+2,none⟩:=by
  unfold fK;rw[agW ω];rfl
 rw[a4];refine P4 (tR:=4) aT l8 (by rfl) (by rfl) (by kernel_rfl) (by kernel_rfl) (rfl:ai Ty bw=.slice _) rfl (a5.pick 2 [1,0]) (λe=>by simp_all) ⟨_,rfl,fM rfl λw8 hd=>?_⟩;clear a5 a4;have h:=h.drawn hd;refine⟨λ_=>True,trivial,ξ,dy (lo:=1) ω U (P3 U ?_)⟩
 have a8:eE (some ⟨b,O.length,none⟩) X (hp w8):=by
  rcases dN 0 h.l with e|⟨ad,e,hr⟩
  ·simp_all
  ·exact .inr ⟨ad,e,λj v hj=>hr j v (by grind)⟩
 have Z:=GU (k:=1) (n:=n) (news:=X) (t:=bw) (tx:=bw) (ty:=dX) aT (rfl:ai Ty _=.slice _) rfl σ h W a8 a0 h1 ω (sl:=n+1) (dl:=n+1-1) (c2:=c) (dc:=c-1) σ;refine Z.mono ?_;rintro _ w9⟨rfl,h⟩;refine⟨_,rfl,P3 U ?_⟩;have h:St w9 (own 2 (some ⟨b,O.length,none⟩) (n+1) c ((X++us).take (1*2)++X++(X++us).drop (1*2+X.length))::az k (bG y)::L):=h;have e2:(X++us).drop (1*2+X.length)=[]:=List.drop_eq_nil_of_le ω;rw[e2,ahe] at h;have J:=GU (k:=0) (n:=1) (news:=bG y) (t:=bw) (tx:=bw) (ty:=dX) aT (rfl:ai Ty _=.slice _) rfl σ h rfl (.inr ⟨aM k,rfl,af 1 h.l⟩) hy σ ω (sl:=1) (dl:=n+1) (c2:=1) (dc:=c) (ais ω);rw[XO] at J;refine J.mono ?_;rintro _ a7⟨rfl,h⟩;refine⟨_,rfl,_,c,rfl,?_⟩;have h:St a7 (own 2 (some ⟨b,O.length,none⟩) (n+1) c (((X++us).take (1*2)++X).take (0*2)++bG y++((X++us).take (1*2)++X).drop (0*2+(bG y).length))::az k (bG y)::L):=h
 have e3:((X++us).take (1*2)++X).drop (0*2+(bG y).length)=X:=by
  have:((X++us).take (1*2)).length=2:=by grind
  simp_all[bG]
 rw[e3,Nat.zero_mul,List.take_zero,ahU] at h;exact h.pick 2 [0]
theorem Vw{h:Hp}{ts:List nf}{a:aiz}{l i:Nat}(r:aX h ts a l)(hi:i<l):∃t ad,ts[i]? =some t/\a=some ad/\aq h (ad.add (ff i 2)) [.string t.name,iI t.level]:=by
 obtain⟨t,ad,vs,O,U,u,J⟩:=r.get hi;exact⟨t,ad,O,U,(show vs=_ from J)▸u⟩
theorem Vx{h:Hp}{ts:List aJ}{a:aiz}{l i:Nat}(r:aX h ts a l)(hi:i<l):∃t ad b m c,ts[i]? =some t/\a=some ad/\aq h (ad.add (ff i 3)) [iI t.left,vS b m c,iI t.level]/\m<=c/\aX h t.right b m:=by
 obtain⟨t,ad,vs,V,W,u,b,m,c,J,O,U⟩:=r.get hi;subst J;exact⟨t,ad,b,m,c,V,W,u,O,U⟩
theorem aev{p t:Nat}(hc:aw g)(hg:gR (hp w) g x)(hp1:p<g.prods.length)(ht:t<g.T):ρ 290 [.agg ⟨x.cells⟩,iI (p:Int),iI (t:Int)] w λv w'=>v=iI (qe g p t)/\Gr w w':=by
 refine EW (gi hg λk1 w1 gw Z B=>ag (St.all w1) λk2 w2 h=>aL h rfl (by simp[aK]) λw3 h=>?_);have J:Gr w1 w3:=h.aP;have r2:aq (hp w3) (aM k2) [iI 0,iI 2,iI 1,iI 3]:=af 0 h.l;clear h;have u:=Z.mono J;have O:=gw.trans J;have pl:=u.p.1;have tl:=u.t.1;have ll:=u.l.1;have eT:g.T=g.terms.length:=rfl;obtain⟨y,ad,_,_,_,hy,ha,ry,_,_⟩:=Vx u.p (i:=p) ω;obtain⟨z,a8,hz,Y,rz⟩:=Vw u.t (i:=t) ω;have ep:lvP g p=y.level:=by simp_all[lvP]
 have et:lvT g t=z.level:=by simp_all[lvT]
 obtain⟨p0,p1⟩:=aeq hc hy;refine⟨_,_,_,B.c4 J,aO ha ω ⟨_,ry.cell sZZ (j:=2) rfl,_,_,_,B.c0 J,aO Y ω ⟨_,rz.cell sZZ (j:=1) rfl,?_⟩⟩⟩;have fin:∀z:Int,z=qe g p t->(iI z:Value)=iI (qe g p t)/\Gr w w3:=λz e=>⟨by rw[e],O⟩
 refine ae (λW=>fin _ ?_) λW=>ae (λV=>fin _ ?_) λV=>ae (λX=>fin _ ?_) λX=>ae (λU=>fin _ ?_) λU=>?_
 ·have W:y.level=0:=by simp_all
  simp_all[qe]
 ·have V:z.level=0:=by simp_all
  simp_all[qe]
 ·have W:¬y.level=0:=by simp_all
  have V:¬z.level=0:=by simp_all
  simp_all[agQ,qe]
 ·have W:¬y.level=0:=by simp_all
  have V:¬z.level=0:=by simp_all
  have U:=agQ U
  simp_all[qe,agW]
 have W:¬y.level=0:=by simp_all
 have V:¬z.level=0:=by simp_all
 have X:=agO X;have U:=agO U;obtain⟨v,hv,ev,v1,v3⟩:=aer hc (l:=y.level) ω p1;obtain⟨a0,a5,rv⟩:=u.l.at hv;have es:qe g p t=if v=1 then 2 else if v=2 then 1 else 3:=by simp_all[qe,agW]
 have a7:=(agN.1 hv).1;have a6:=HD hc.2.1;refine⟨_,_,_,B.c2 J,ξ,a0,a5,ω,ω,v,rv _ sZZ,aM k2,rfl,ω,ω,?_⟩;rw[es];have a4:v=1\/v=2\/v=3:=ω
 rcases a4 with rfl|rfl|rfl
 ·exact⟨2,r2.cell sZZ (j:=1) rfl,rfl,O⟩
 ·exact⟨1,r2.cell sZZ (j:=2) rfl,rfl,O⟩
 ·exact⟨3,r2.cell sZZ (j:=3) rfl,rfl,O⟩
end
section
variable{w:aiA}{L:List aE}
theorem yQ{b i:Nat}{us vs:List Value}{k:aiA->Prop}(h:St w (az b us::L))(hi:i+vs.length<=us.length)(h1:∀v∈vs,aK v=true)(hk:∀w',St w' (az b (us.take i++vs++us.drop (i+vs.length))::L)->k w'):bA w ((aM b).add i) vs k:=by
 rw[ak];refine⟨uv vs 0 (uu h vs _ hi h1),λw' u=>?_⟩;subst u;rw[uw];exact hk _ (qQ vs _ i hi h)
theorem P6{κ:Type}[DecidableEq κ]{k:κ}{v:Value}:∀{m:List (κ×Value)},assoc k m=some v->(k,v)∈m
 |(a,u)::m,h=>by
  unfold assoc at h
  split at h
  ·simp_all
  ·exact ahQ _ (P6 h)
theorem TV{κ:Type}[DecidableEq κ]{k a:κ}{u v:Value}:∀{m:List (κ×Value)},(a,u)∈cV k v m->(a=k/\u=v)\/(a,u)∈m
 |[],h=>by
  unfold cV at h
  simp_all
 |(b,z)::m,h=>by
  unfold cV at h
  split at h
  ·grind
  ·rcases ag6.1 h with h|h
   ·simp_all
   ·rcases TV h with h|h
    ·simp_all
    simp_all
end
def Jb(S:Int->Prop)(B:Nat)(m:List (Int×Value)):Prop:=∀p∈m,S p.1/\∃z:Int,p.2=iI z/\0<=z/\z<=B
theorem Jb.get{S:Int->Prop}{B:Nat}{m:List (Int×Value)}(h:Jb S B m)(k:Int):∃z:Int,(assoc k m).getD (iI 0)=iI z/\0<=z/\z<=B:=by
 cases ha:assoc k m with
 |none=>simp
 |some v=>
  obtain⟨_,z,J,O,u⟩:=h _ (P6 ha)
  simp_all
theorem Jb.put{S:Int->Prop}{B:Nat}{m:List (Int×Value)}(h:Jb S B m){k z:Int}(hk:S k)(h0:0<=z)(h1:z<=(B+1:Nat)):Jb S (B+1) (cV k (iI z) m):=by
 rintro⟨a,u⟩ hp
 rcases TV hp with⟨rfl,rfl⟩|hp
 ·simp_all
 ·obtain⟨U,y,V,O,J⟩:=h _ hp
  grind
theorem Jb.up{S:Int->Prop}{B:Nat}{m:List (Int×Value)}(h:Jb S B m):Jb S (B+1) m:=λp hp=>by
 obtain⟨U,y,O,J,u⟩:=h p hp
 grind
structure Zd(As:List (List aD))(Gs:List (List Int))(T N:Nat):Prop where
 n1:1<=As.length
 n2:As.length<=256
 g:Gs.length=As.length
 t1:1<=T
 t2:T<=65
 s1:1<=N
 s2:N<=65
 a:∀l∈As,l.length=T/\∀a∈l,EP As.length a
 t:∀l∈Gs,l.length=N/\∀z∈l,-1<=z/\z<As.length
section
variable{w:aiA}{L:List aE}{a o:aiz}{n c:Nat}{m:List (Int×Value)}{S:Int->Prop}{B:Nat}
theorem TW{k1:Nat}{f:Int}{R:Value->WP}(hm:Jb S B m)(h:St w (mapA k1 m::L))(hR:∀z u,(z=f\/S z)->St u (mapA k1 m::L)->R (iI z) u):
  aY Tryz.prog (Instr.range dM (Value.map (some k1))) w λv3 w8=>∃o1,v3=vP o1/\τ [(8,aN)] λx4 x5=>x4 f w8/\∀(I2:ν) n8 w9,x4 n8 w9->aY Tryz.prog (Instr.next (vP o1) false 0) w9 λv4 w10=>v4=vT (Array.mk [vB false])/\R (iI n8) w10\/∃n9 v5,v4=vT (Array.mk [vB true,iI n9,v5])/\aY Tryz.prog (Instr.entry (vP o1)) w10 λv6 w11=>∃n10 n11,v6=vT (Array.mk [iI n10,iI n11])/\aY Tryz.prog (Instr.lookup dM (Value.map (some k1)) (iI n8) false) w11 λv7 w12=>∃n12,v7=iI n12/\br (decide (n12<n11)) (x4 n10 w12/\x5 n10 w12<x5 n8 w9) (aY Tryz.prog (Instr.lookup dM (Value.map (some k1)) (iI n8) false) w12 λv8 w13=>∃n13,v8=iI n13/\br (n11==n13) (br (decide (n10<n8)) (x4 n10 w13/\x5 n10 w13<x5 n8 w9) (x4 n8 w13/\x5 n8 w13<x5 n8 w9)) (x4 n8 w13/\x5 n8 w13<x5 n8 w9)):=by
 refine(KX aT (rfl:ai Ty _=.map _ _) h).mono ?_;rintro _ w8⟨r,rfl,h⟩;refine⟨_,rfl,λz u=>(z=f\/S z)/\∃ks:List Int,St u (tI k1 r m ks::L),λ_=>V4 (λ(ks:List Int) u=>St u (tI k1 r m ks::L)) λks=>m.length-ks.length,⟨.inl rfl,[],h⟩,?_⟩;clear h;rintro _ z w9⟨Z,W⟩;obtain⟨ks,h,J⟩:=B5 (P:=λ(ks:List Int) u=>St u (tI k1 r m ks::L)) (f:=λks:List Int=>m.length-ks.length) W;refine(O0 h).mono ?_
 rintro _ w10 (⟨rfl,_,h⟩|⟨k,u,U,rfl,Y,h⟩)
 ·simp_all
 obtain⟨X,y,V,_⟩:=hm _ U;have V:u=iI y:=V;subst V;refine .inr ⟨k,_,rfl,(KY h).mono ?_⟩;rintro _ w11⟨rfl,rfl⟩;have h:=KV h;have lk:=cr (κ:=Int) (P:=Tryz.prog) (z:=iI 0) aT (rfl:ai Ty dM=.map _ _) bL rfl rfl (KW h) z;obtain⟨t,ht,_⟩:=hm.get z
 have fin:∀z',(z'=f\/S z')->((z'=f\/S z')/\∃ks:List Int,St w11 (tI k1 r m ks::L))/\V4 (λ(ks:List Int) u=>St u (tI k1 r m ks::L)) (λks=>m.length-ks.length) w11<V4 (λ(ks:List Int) u=>St u (tI k1 r m ks::L)) (λks=>m.length-ks.length) w9:=λz' O=>by
  refine⟨⟨O,_,h⟩,?_⟩;rw[<-J];refine Nat.lt_of_le_of_lt (AA (P:=λ(ks:List Int) u=>St u (tI k1 r m ks::L)) (f:=λks:List Int=>m.length-ks.length) h) ?_
  grind
 refine⟨k,y,rfl,lk.mono ?_⟩;rintro _ w12⟨rfl,rfl⟩;refine⟨t,ht,ae (λ_=>fin k (.inr X)) λ_=>lk.mono ?_⟩;rintro _ w13⟨rfl,rfl⟩
 simp_all[ae]
theorem afY{x:aD}{u:aiA}:ρ xM [.agg ⟨bG x⟩] u λv u'=>v=.tuple #[iI x.to,vB (x.kind==2)]/\Gr u u':=by
 refine Ec (ag (St.all u) λU V h J O=>?_);have h:=h.drawn O;exact⟨λz=>Gr J z,Gr.refl _,_,λz g=>(af 0 h.l).cell g (j:=1) rfl,_,λz g=>(af 0 h.l).cell0 g,rfl,h.aP⟩
theorem abR{l:List aD}(hr:aX (hp w) l a n)(hn:n<=1000):ρ 108 [vS a n c,.func (.func xM) #[] #[],iI (-1)] w λv w'=>∃z:Int,v=iI z/\(z=-1\/∃x∈l,x.kind=2/\x.to=z)/\Gr w w':=by
 refine nj (nS (St.all w) λX w1 h=>?_);have h:=dW (κ:=Int) h;refine⟨λz u=>∃(j:Nat)(m:List (Int×Value)),z=j/\j<=n/\Jb (λz=>∃x∈l,x.kind=2/\x.to=z) j m/\St u (mapA X m::all w),λz _=>n-z.toNat,⟨0,[],rfl,agP _,λp hp=>(by grind),h⟩,?_⟩;clear h;rintro _ _ w2⟨j,m,rfl,hj,V,h⟩;refine ae (λJ=>?_) λJ=>TW (R:=λv w'=>∃z:Int,v=iI z/\(z=-1\/∃x∈l,x.kind=2/\x.to=z)/\Gr w w') V h λz u Z h=>⟨z,rfl,Z,h.aP⟩;have J:j<n:=by simp_all
 obtain⟨x,ad,vs,Y,ha,U,O⟩:=(hr.mono h.aP).get J;have O:vs=bG x:=O;subst O;refine aO ha J ⟨_,_,U.at sZZ rfl,ag h λk2 w3 h=>aL h rfl (by simp[aK]) λw4 h=>⟨_,_,(af 0 h.l).at sZZ rfl,a_.2 ⟨rfl,(afY (x:=x)).mono ?_⟩⟩⟩;rintro _ w5⟨rfl,g⟩;have h:=(h.gr g).tail;refine⟨_,_,rfl,ae (λW=>?_) λW=>⟨ξ,⟨j+1,m,σ,J,V.up,h⟩,bR J⟩⟩;have W:x.kind=2:=by simp_all
 obtain⟨t,ht,ht0,ht1⟩:=V.get x.to;refine(cr (κ:=Int) (P:=Tryz.prog) (z:=iI 0) aT (rfl:ai Ty dM=.map _ _) bL rfl rfl h x.to).mono ?_;rintro _ w6⟨rfl,rfl⟩;refine⟨t,ht,ξ,(dr (κ:=Int) aT (rfl:ai Ty dM=.map _ _) bL h x.to _).mono ?_⟩;intro _ w7 h;exact⟨ξ,⟨j+1,_,σ,J,V.put ⟨x,agL Y,W,rfl⟩ ω ω,h⟩,bR J⟩
theorem aew{l:List Int}{i d:Nat}{p:Addr}{u:aiA}(hr:aX (hp u) l o n)(hp1:u.cell? p=some (iI (i:Int)))(hp2:∀z,hp z=hp u->z.cell? p=some (iI (i:Int)))(hi:i<n):ρ xO [vS o n c,.pointer (some p)] u λv u'=>v=.tuple #[iI (l.getD i 0),vB (decide (0<=l.getD i 0))]/\Gr u u':=by
 refine Ee λV O=>?_;have J:=aQ O;obtain⟨U,ha,hc⟩:=pH hr hi;refine⟨λz=>hp z=hp u,J,_,λz e=>hp2 z e,ax ha hi ⟨_,λz e=>hc z (by simp_all[sub.refl]),_,λz e=>hp2 z e,ax ha hi ⟨_,λz e=>hc z (by simp_all[sub.refl]),rfl,Gr.of_eq J⟩⟩⟩
theorem abS{Gs:List (List Int)}{i:Nat}{p:Addr}(hr:aX (hp w) Gs a n)(hn:n<=1000)(hi:∀l∈Gs,i<l.length)(hp2:∀z,sub (hp w) (hp z)->z.cell? p=some (iI (i:Int))):ρ 112 [vS a n c,.func (.func xO) #[] #[.pointer (some p)],iI (-1)] w λv w'=>∃z:Int,v=iI z/\(z=-1\/∃l∈Gs,l.getD i 0=z/\0<=z)/\Gr w w':=by
 refine uO (nS (St.all w) λY w1 h=>?_);have h:=dW (κ:=Int) h;refine⟨λz u=>∃(j:Nat)(m:List (Int×Value)),z=j/\j<=n/\Jb (λz=>∃l∈Gs,l.getD i 0=z/\0<=z) j m/\St u (mapA Y m::all w),λz _=>n-z.toNat,⟨0,[],rfl,agP _,λp hp=>(by grind),h⟩,?_⟩;clear h;rintro _ _ w2⟨j,m,rfl,hj,V,h⟩;refine ae (λJ=>?_) λJ=>TW (R:=λv w'=>∃z:Int,v=iI z/\(z=-1\/∃l∈Gs,l.getD i 0=z/\0<=z)/\Gr w w') V h λz u hz h=>⟨z,rfl,hz,h.aP⟩;have J:j<n:=by simp_all
 obtain⟨x,ad,vs,hx,ha,U,o1,Z,c1,rfl,_,O⟩:=(hr.mono h.aP).get J;have X:i<Z:=by rw[<-O.1];grind
 refine aO ha J ⟨_,_,_,U.cell0 sZZ,a_.2 ⟨rfl,(aew (d:=0) O (hp2 _ h.aP) (λz e=>hp2 z (by rw[e];exact h.aP)) X).mono ?_⟩⟩;rintro _ w5⟨rfl,g⟩;have h:=h.gr g;refine⟨_,_,rfl,ae (λW=>?_) λW=>⟨ξ,⟨j+1,m,σ,J,V.up,h⟩,bR J⟩⟩;have W:0<=x.getD i 0:=agQ W;obtain⟨t,ht,ht0,ht1⟩:=V.get (x.getD i 0);refine(cr (κ:=Int) (P:=Tryz.prog) (z:=iI 0) aT (rfl:ai Ty dM=.map _ _) bL rfl rfl h (x.getD i 0)).mono ?_;rintro _ w6⟨rfl,rfl⟩;refine⟨t,ht,ξ,(dr (κ:=Int) aT (rfl:ai Ty dM=.map _ _) bL h (x.getD i 0) _).mono ?_⟩;intro _ w7 h;exact⟨ξ,⟨j+1,_,σ,J,V.put ⟨x,agL hx,rfl,W⟩ ω ω,h⟩,bR J⟩
theorem aex{x:aD}{N:Nat}(hm:EP N x)(hN:N<=1000):ρ Fg [.agg ⟨bG x⟩] w λv w'=>v=iI (wz x)/\Gr w w':=by
 refine J1 (ag (St.all w) λU V h=>?_);have g:=h.aP;unfold wz
 refine⟨_,h.cell 0,ae (λu=>?_) λu=>ae (λJ=>?_) λJ=>ae (λO=>?_) λO=>?_⟩
 ·have u:x.kind=1:=by simp_all
  rw[ag0 u];have:0<=x.to/\x.to<=1000:=by grind[EP]
  exact⟨_,h.cell 1,ξ,rfl,g⟩
 ·have u:¬x.kind=1:=by simp_all
  have J:x.kind=2:=by simp_all
  rw[agW u,ag0 J];have:0<=x.to/\x.to<=1000:=by grind[EP]
  exact⟨_,h.cell 1,ξ,rfl,g⟩
 ·have u:¬x.kind=1:=by simp_all
  have J:¬x.kind=2:=by simp_all
  have O:x.kind=3:=by simp_all
  rw[agW u,agW J,ag0 O];exact⟨rfl,g⟩
 ·have u:¬x.kind=1:=by simp_all
  have J:¬x.kind=2:=by simp_all
  have O:¬x.kind=3:=by simp_all
  rw[agW u,agW J,agW O];exact⟨rfl,g⟩
theorem afZ{x:aD}{N:Nat}(hm:EP N x):ρ 205 [.agg ⟨bG x⟩,iI (N:Int)] w λv w'=>v=vB true/\Gr w w':=by
 refine Mx (ag (St.all w) λV W h=>?_);have g:=h.aP;have O:=hm;unfold EP at hm
 refine⟨_,h.cell 0,ae (λu=>?_) λu=>ae (λJ=>?_) λJ=>?_⟩
 ·have u:x.kind=1:=by simp_all
  exact⟨_,h.cell 1,fM (aht ω) ⟨_,h.cell 1,by simp_all,g⟩⟩
 ·have u:¬x.kind=1:=by simp_all
  have J:x.kind=2:=by simp_all
  exact⟨_,h.cell 1,fM (aht ω) ⟨_,h.cell 1,by simp_all,g⟩⟩
 ·have u:¬x.kind=1:=by simp_all
  have J:¬x.kind=2:=by simp_all
  have U:x.to=0:=ω
  exact⟨_,h.cell 0,fM (aht ω) ⟨_,h.cell 0,fM (aht ω) ⟨_,h.cell 1,by simp_all,g⟩⟩⟩
theorem abT{As:List (List aD)}{Gs:List (List Int)}{T N c' n':Nat}{a':aiz}(hA:aX (hp w) As a n)(hG:aX (hp w) Gs a' n')(hD:Zd As Gs T N):ρ 107 [.agg #[vS a n c,vS a' n' c']] w λv w'=>v=vB true/\Gr w w':=by
 have eA:=hA.1;have eG:=hG.1;obtain⟨n1,n2,eg,t1,t2,s1,s2,ha,ht⟩:=hD;refine HU (ag (St.all w) λk1 w1 h=>⟨_,_,_,h.cell 0,ag h λk4 w2 h=>aR h σ λw3 h=>?_⟩);have W:∀{u:aiA},Gr w3 u->u.cell? (aM k4)=some (iI (n:Int)):=λg=>(af 0 h.l).cell0 g;have V:∀{u:aiA},Gr w3 u->aq (hp u) (aM k1) [vS a n c,vS a' n' c']:=λg=>(af 1 h.l).mono g;have gw:Gr w w3:=h.tail.aP;clear h;refine⟨λb u=>b=false/\Gr w3 u,⟨_,W (Gr.refl _),bB (ahf ω) ⟨_,W (Gr.refl _),bB (ahf ω) ⟨_,_,_,(V (Gr.refl _)).cell sZZ (j:=1) rfl,_,W (Gr.refl _),by simp_all,Gr.refl _⟩⟩⟩,?_⟩;rintro _ _ w4⟨rfl,g4⟩;refine bB rfl λw5 hd=>?_;have g5:Gr w3 w5:=g4.trans (Gr.drawn hd);obtain⟨x,ad,vs,hx,Y,U,o1,l1,c1,rfl,_,Z⟩:=(hA.mono (gw.trans g5)).get (i:=0) ω;obtain⟨y,al,vs,hy,X,J,o2,l2,c2,rfl,_,a4⟩:=(hG.mono (gw.trans g5)).get (i:=0) ω;have e1:l1=T:=by rw[<-Z.1];grind
 have e2:l2=N:=by rw[<-a4.1];grind
 subst e1 e2;refine⟨λu=>Gr w5 u,Gr.refl _,_,_,_,λu g=>(V g5).cell0 g,aO (i:=0) Y ω ⟨_,_,_,λu g=>U.cell0 g,_,_,_,λu g=>(V g5).cell g (j:=1) rfl,aO (i:=0) X ω ⟨_,_,_,λu g=>J.cell0 g,λb u=>b=false/\Gr w3 u,bB (ahf ω) ⟨ahf ω,g5⟩,?_⟩⟩⟩;rintro _ _ b2⟨rfl,a6⟩;refine bB rfl ⟨_,W a6,λz u=>∃j:Nat,z=j/\j<=n/\Gr w3 u,λz _=>n-z.toNat,⟨0,rfl,agP _,a6⟩,?_⟩;clear U J Z a4 hx hy Y X;rintro _ _ a7⟨j,rfl,hj,O⟩;refine ae (λh1=>?_) λh1=>⟨rfl,gw.trans O⟩;have h1:j<n:=by simp_all
 obtain⟨x,ad,vs,hx,Y,U,o1,b1,c1,rfl,_,Z⟩:=(hA.mono (gw.trans O)).get (i:=j) h1;obtain⟨y,al,vs,hy,X,J,o2,b4,c2,rfl,_,a4⟩:=(hG.mono (gw.trans O)).get (i:=j) ω;have a9:=ha x (agL hx);have am:=ht y (agL hy);have e1:=Z.1;have e2:=a4.1;refine⟨λb u=>b=false/\u=a7,⟨_,_,_,(V O).cell0 sZZ,aO Y h1 ⟨_,_,_,U.cell0 sZZ,bB (by simp_all) ⟨_,_,_,(V O).cell sZZ (j:=1) rfl,aO X ω ⟨_,_,_,J.cell0 sZZ,by simp_all,rfl⟩⟩⟩⟩,?_⟩;rintro _ _ b3⟨rfl,rfl⟩
 refine bB rfl ⟨_,_,_,(V O).cell0 sZZ,aO Y h1 ⟨_,_,_,U.cell0 sZZ,(aen (p:=λ_=>false) Z rfl (λz hz u g=>?_) ω).mono ?_⟩⟩
 ·refine Cr (ag (St.all u) λk2 v1 hh=>⟨_,_,(af 0 hh.l).at sZZ rfl,_,W ((O.trans g).trans hh.aP),?_⟩);rw[<-eA];refine(afZ (a9.2 z hz)).mono ?_;rintro _ v2⟨rfl,g2⟩;exact⟨_,rfl,rfl,hh.aP.trans g2⟩
 rintro _ aa⟨rfl,a5⟩;have a0:Gr w3 aa:=O.trans a5
 refine⟨_,rfl,bB σ ⟨_,_,_,(V a0).cell sZZ (j:=1) rfl,aO X ω ⟨_,_,_,(J.mono a5).cell0 sZZ,(R3 (p:=λ_=>false) (a4.mono a5) rfl (λz hz u g=>?_) ω).mono ?_⟩⟩⟩
 ·refine Cu (bB (ahf (by simp_all)) ⟨_,W (a0.trans g),by simp_all,Gr.refl _⟩)
 rintro _ av⟨rfl,a8⟩;exact⟨_,rfl,bB σ ⟨ξ,⟨j+1,σ,h1,a0.trans a8⟩,bR h1⟩⟩
end
section
variable{g:ah}
theorem aey{n:Nat}(hn:1<=n)(a:aD):Lr n a<=n:=by grind[Lr]
theorem P7{n:Nat}(hn:1<=n):∀{l:List aD}{last:Int},PZ n last l->l=[]\/(l.length:Int)+last<=n
 |[],_,_=>.inl rfl
 |a::l,last,h=>by
  right
  have h1:=h.1
  have h2:=aey hn a
  rcases P7 hn h.2 with rfl|h3
  ·grind
  grind
theorem abU{n:Nat}(hn:1<=n){l:List aD}(h:P0 n l):l.length<=n+1:=by
 rcases P7 hn h with rfl|h
 ·simp
 omega
end
section
variable{w:aiA}{L:List aE}{g:ah}{x:GA}
theorem aez{xs:List aD}{a:aiz}{c t:Nat}(hc:aw g)(hg:gR (hp w) g x)(hr:aX (hp w) xs a xs.length)(hcl:xs.length<=c)(ho:P0 g.prods.length xs)(ht:t<g.T):ρ 201 [.agg ⟨x.cells⟩,iI (t:Int),vS a xs.length c] w λv w'=>∃(o:aiz)(c':Nat),v=.tuple #[.slice o (fU g t xs).1.length c',vB (fU g t xs).2]/\St w' (own 2 o (fU g t xs).1.length c' (du (fU g t xs).1)::all w):=by
 obtain⟨sT,sN,sP,bi,_,_⟩:=hc.cK;have b5:=abU ω ho;refine EU (gi hg λk1 X gw b1 B=>?_);have Y:=hr.mono gw
 refine⟨λb u=>X=u/\(b=false↔∃y r,xs=y::r/\y.kind=1),ae (λJ=>⟨rfl,?_⟩) λJ=>?_,?_⟩
 ·simp_all
 ·have J:0<xs.length:=by grind
  obtain⟨y,ad,hy,rfl,ry⟩:=IY Y J
  obtain⟨r,bc⟩:∃r,xs=y::r:=by
   cases xs with
   |nil=>simp_all
   |cons z r=>simp_all
  rw[show(ff 0 2)=0 from rfl] at ry;refine vo rfl J ⟨_,by simpa[Addr.add] using ry.cell0 sZZ,rfl,?_⟩
  simp_all
 rintro _ b _⟨rfl,hb⟩
 refine ae (λJ=>(P5 Y ω).mono ?_) λJ=>?_
 ·rintro _ w3⟨o,c',rfl,h⟩;subst J
  have e:fU g t xs=(xs,false):=by
   cases xs with
   |nil=>rfl
   |cons y r=>exact yP λhk=>by simp_all
  rw[e];exact⟨_,_,_,rfl,o,c',rfl,St.eM h (bF gw)⟩
 obtain⟨y0,r,rfl,am⟩:=hb.1 J;clear hb J;rw[qZ am];have bb:(y0::r).length=r.length+1:=rfl;have aa:aX (hp X) r (fK a 1 c 2) ((y0::r).length-1):=Y.drop (k:=1) (m:=c) σ hcl;refine dy (lo:=1) σ hcl ?_;have a7:∀i,((r.take i).filter (GS g t)).length<=r.length:=λi=>by grind
 refine⟨λb2 b3 o n c' z u=>∃i:Nat,z=i/\i<=r.length/\b2=(r.take i).all (Vs g t)/\b3=(r.take i).any (V_ g t)/\n=((r.take i).filter (GS g t)).length/\St u (own 2 o n c' (du ((r.take i).filter (GS g t)))::all X),λ_ _ _ _ _ z _=>r.length-z.toNat,⟨0,rfl,agP _,rfl,rfl,rfl,aI 2 (St.all X)⟩,?_⟩;rintro _ b2 b3 o3 _ c3 _ w4⟨i,rfl,hi,Z,a4,rfl,h⟩;have a6:Gr X w4:=aC 1 h.l;refine ae (λJ=>?_) λJ=>?_
 rotate_left
 ·have J:i=r.length:=by grind
  rw[J,ag9] at Z a4 h;have a9:=a7 r.length;rw[ag9] at a9;rw[J,ag9]
  refine ae (λW=>?_) λW=>?_
  ·obtain⟨y,ad,hy,rfl,ry⟩:=IY (Y.mono a6) (show 0<(y0::r).length by simp);simp only[aiw,Option.some.injEq] at hy;subst hy;rw[show(ff 0 2)=0 from rfl,show ad.add 0=ad from by rfl] at ry;refine vo rfl σ ⟨_,_,ry.at sZZ rfl,ag h λbe bl h=>(Vv (y:=y0) h ω).mono ?_⟩;rintro _ c5⟨o',c',rfl,h⟩;rw[W] at Z;rw[ag0 Z.symm,a4];exact⟨_,_,_,rfl,o',c',rfl,St.eM h (bF gw)⟩
  ·rw[W] at Z;rw[agW (by simp_all),a4,ahU];exact⟨_,_,rfl,St.eM h (bF gw)⟩
 have J:i<r.length:=by simp_all
 obtain⟨y,ad,hy,av,ry⟩:=IY (aa.mono a6) (show i<(y0::r).length-1 by omega);have al:y∈y0::r:=ahQ _ (agL hy);have ba:r.take (i+1)=r.take i++[y]:=by simp_all[agR]
 have b7:=a7 i;have sd:NF g t y=if y.kind=2 then qe g y.to.toNat t else 0:=rfl
 --the four ends of a round
 have a0:∀{u:aiA}(U O:Bool),St u (own 2 o3 ((r.take i).filter (GS g t)).length c3 (du ((r.take i).filter (GS g t)))::all X)->GS g t y=false->U=(b2&&Vs g t y)->O=(b3||V_ g t y)->
   aA ((i:Int)+1)/\(∃V:Nat,(i:Int)+1=V/\V<=r.length/\U=(r.take V).all (Vs g t)/\O=(r.take V).any (V_ g t)/\((r.take i).filter (GS g t)).length=((r.take V).filter (GS g t)).length/\St u (own 2 o3 ((r.take i).filter (GS g t)).length c3 (du ((r.take V).filter (GS g t)))::all X))/\r.length-((i:Int)+1).toNat<r.length-(i:Int).toNat:=λ{u} U O hu W h3 h4=>by
  have e:(r.take (i+1)).filter (GS g t)=(r.take i).filter (GS g t):=by simp_all
  exact⟨ξ,⟨i+1,σ,J,by simp_all,by simp_all,by rw[e],by simp_all⟩,bR J⟩
 have more:∀{u:aiA}{k:Nat}(U O:Bool),St u (az k (bG y)::own 2 o3 ((r.take i).filter (GS g t)).length c3 (du ((r.take i).filter (GS g t)))::all X)->GS g t y=true->U=(b2&&Vs g t y)->O=(b3||V_ g t y)->
   aY Tryz.prog (Builtin.append_ (Array.mk [bw,bw]) bw (Array.mk [.slice o3 ((r.take i).filter (GS g t)).length c3,vS (some (aM k)) 1 1])) u λv u'=>∃o4 n4 c4,v=vS o4 n4 c4/\aA ((i:Int)+1)/\(∃V:Nat,(i:Int)+1=V/\V<=r.length/\U=(r.take V).all (Vs g t)/\O=(r.take V).any (V_ g t)/\n4=((r.take V).filter (GS g t)).length/\St u' (own 2 o4 n4 c4 (du ((r.take V).filter (GS g t)))::all X))/\r.length-((i:Int)+1).toNat<r.length-(i:Int).toNat:=λ{u k} U O hu W h3 h4=>by
  have e:(r.take (i+1)).filter (GS g t)=(r.take i).filter (GS g t)++[y]:=by simp_all
  refine(aS (us:=du ((r.take i).filter (GS g t))) aT (rfl:ai Ty _=.slice _) (rfl:ai Ty _=.slice _) rfl rfl rfl hu rfl (by simp[bG,aK]) (by grind) ω).mono ?_;rintro _ w9⟨o4,c4,rfl,h⟩;refine⟨_,_,_,rfl,ξ,⟨i+1,σ,J,by simp_all,by simp_all,by simp_all,?_⟩,bR J⟩;rw[e,TK];exact h.pick 2 [0]
 refine aO av ω ⟨_,_,ry.at sZZ rfl,ag h λk8 w5 h=>aL h rfl (by simp[aK]) λw6 h=>?_⟩;have r8:aq (hp w6) (aM k8) (bG y):=af 0 h.l;have a8:Gr X w6:=aC 2 h.l;have c0:=r8.cell0 sZZ
 refine⟨_,c0,ae (λW=>?_) λW=>?_⟩
 ·have W:y.kind=2:=by grind
  obtain⟨b6,bz⟩:0<y.to/\y.to<g.prods.length:=by
   rcases aes ho al with⟨h,_⟩|⟨h,_⟩|⟨_,h⟩
   ·omega
   ·omega
   omega
  obtain⟨p,hp⟩:∃p:Nat,y.to=p:=⟨y.to.toNat,ω⟩;have es:NF g t y=qe g p t:=by rw[sd,ag0 W,hp,agZ]
  refine⟨_,_,_,_,_,_,_,_,_,_,_,_,_,B.row a8,_,r8.cell sZZ (j:=1) rfl,?_⟩;rw[hp];refine(aev hc (b1.mono a8) ω ht).mono ?_;rintro _ w7⟨rfl,a5⟩;have h:=h.gr a5;have r8:=r8.mono a5;rw[<-es];have bT:=aet (g:=g) t y
  refine⟨_,rfl,ae (λh3=>?_) λh3=>ae (λh4=>?_) λh4=>ae (λh5=>?_) λh5=>?_⟩
  ·have h3:NF g t y=3:=by grind
   exact a0 false true (h.pick 2 [1]) (ahf ω) (by grind[Vs,decide_eq_false]) (by grind[V_,decide_eq_true])
  ·have h3:¬NF g t y=3:=by grind
   have h4:NF g t y=2:=by grind
   refine⟨_,_,r8.at sZZ rfl,ag (h.pick 2 [1]) λb4 w8 h=>more false b3 h (aht (.inr h4)) (by grind[Vs,decide_eq_false]) (by grind[V_,decide_eq_false])⟩
  ·have h5:NF g t y=0:=by grind
   refine⟨_,_,r8.at sZZ rfl,ag (h.pick 2 [1]) λb4 w8 h=>more b2 b3 h (aht (.inl h5)) (by grind[Vs,decide_eq_true]) (by grind[V_,decide_eq_false])⟩
  ·have h3:¬NF g t y=3:=by grind
   have h4:¬NF g t y=2:=by grind
   have h5:¬NF g t y=0:=by grind
   exact a0 b2 b3 (h.pick 2 [1]) (ahf ω) (by grind[Vs,decide_eq_true]) (by grind[V_,decide_eq_false])
 ·have W:¬y.kind=2:=by grind
  have es:NF g t y=0:=ω
  refine bB rfl (bB rfl (fM rfl ⟨_,_,r8.at sZZ rfl,ag (h.pick 2 [1]) λk26 bP h=>more b2 b3 h (aht (.inl es)) (by rw[show Vs g t y=true from aht ξ];simp) (by rw[show V_ g t y=false from ahf ω];simp)⟩))
theorem Vy{xs:List aD}{a:aiz}{c t:Nat}{st:Int}(hc:aw g)(hg:gR (hp w) g x)(hr:aX (hp w) xs a xs.length)(hcl:xs.length<=c)(ho:P0 g.prods.length xs)(ht:t<g.T):ρ 106 [.agg ⟨x.cells⟩,.agg #[iI st,iI (t:Int),vS a xs.length c]] w λv w'=>∃(o:aiz)(c':Nat),v=.tuple #[.agg ⟨bG (C3 (fU g t xs))⟩,.slice o (qf (fU g t xs).1).length c']/\St w' (own 2 o (qf (fU g t xs).1).length c' (du (qf (fU g t xs).1))::all w):=by
 refine zU (gi hg λk1 Z gw a0 B=>ag (St.all Z) λk2 w2 h=>ag h λk3 w3 h=>?_);have U:Gr Z w3:=aC 2 h.l;have r2:aq (hp w3) (aM k2) [iI st,iI (t:Int),vS a xs.length c]:=af 1 h.l;refine⟨_,_,_,_,_,_,_,_,_,_,_,_,_,B.row U,_,r2.cell sZZ (j:=1) rfl,_,_,_,r2.cell sZZ (j:=2) rfl,(aez hc (a0.mono U) (hr.mono (gw.trans U)) hcl ho ht).mono ?_⟩;obtain⟨l,hl⟩:∃l,l=fU g t xs:=⟨_,rfl⟩;rw[<-hl];rintro _ w4⟨o,c',rfl,h4⟩;have h:St w4 (own 2 o l.1.length c' (du l.1)::az k3 [iI 0,iI 0]::az k2 [iI st,iI (t:Int),vS a xs.length c]::all Z):=St.eM h4 h.l;clear h4;obtain⟨l,b⟩:=l;have fr:∀{u:aiA}{L':List aE}{h0:Hp},St u (L'++[has h0])->sub h0 (hp u):=λh=>St.gone h
 refine⟨_,_,_,_,rfl,ae (λW=>?_) λW=>ae (λV=>?_) λV=>ae (λJ=>?_) λJ=>?_⟩
 ·have W:1<l.length:=by grind
  have O:qf l=l:=by unfold qf;grind
  intro w5 hd;have h:=h.drawn hd
  obtain⟨y,r,rfl⟩:∃y r,l=y::r:=by
   cases l with
   |nil=>simp_all
   |cons y r=>simp
  obtain⟨Y,rfl⟩:=eQ h (by simp[oN])
  have ry:aq (hp w5) Y (bG y):=aq.take (vs:=du r) (by
   rcases dN 0 h.l with e|⟨a5,e,hr⟩
   ·grind[du,bG]
   ·cases e;exact hr)
  refine⟨λu=>Gr w5 u,Gr.refl _,vo rfl σ ⟨_,_,λu s=>ry.at s rfl,?_⟩⟩;have a4:=bD h;refine b9 (bS a4 ⟨_,_,_,rfl,Gr.refl _,?_⟩);refine aL ((cq h).pick 2 [1,0]) rfl (by simp[aK]) λX h=>⟨_,_,(af 0 h.l).at sZZ rfl,?_⟩
  show∃(o:aiz)(c':Nat),_/\St X (own 2 o (qf (y::r)).length c' (du (qf (y::r)))::all w)
  rw[O];exact⟨_,_,rfl,St.eM (h.pick 3 [1]) (bF gw)⟩
 ·have W:¬1<l.length:=by grind
  have V:l.length=1:=by grind
  have O:qf l=[]:=by simp_all[qf]
  obtain⟨y,rfl⟩:∃y,l=[y]:=by
   match l,V with
   |[y],_=>simp
  obtain⟨Y,rfl⟩:=eQ h (by simp[oN])
  have ry:aq (hp w4) Y (bG y):=by
   rcases dN 0 h.l with e|⟨a5,e,hr⟩
   ·grind[du,bG]
   ·cases e;exact hr
  refine vo rfl σ ⟨_,_,ry.at sZZ rfl,aL (h.pick 2 [1]) rfl (by simp[aK]) λX h=>⟨_,_,(af 0 h.l).at sZZ rfl,none,0,?_,?_⟩⟩
  ·rfl
  ·rw[O];exact aI 2 (St.here (sub.trans gw (aC 2 h.l)))
 ·have W:¬1<l.length:=by grind
  have V:¬l.length=1:=by grind
  have e:l=[]:=ag2 ω;subst e;have J:b=true:=J;subst J;refine aL (h.pick 2 [1]) rfl (by simp[aK]) λX h=>⟨_,_,(af 0 h.l).at sZZ rfl,none,0,rfl,aI 2 (St.here (sub.trans gw (aC 2 h.l)))⟩
 ·have W:¬1<l.length:=by grind
  have V:¬l.length=1:=by grind
  have e:l=[]:=ag2 ω;subst e;have J:b=false:=J;subst J;refine aL (h.pick 2 [1]) rfl (by simp[aK]) λX h=>⟨_,_,(af 0 h.l).at sZZ rfl,none,0,rfl,aI 2 (St.here (sub.trans gw (aC 2 h.l)))⟩
end
theorem Ze{α:Type}{f:α->List Value}{n:Nat}(hf:∀x,(f x).length=n):∀(xs:List α)(i:Nat)(y:α),i<xs.length->(xs.flatMap f).take (i*n)++f y++(xs.flatMap f).drop (i*n+n)=(xs.set i y).flatMap f
 |[],i,y,h=>by grind
 |x::xs,0,y,_=>by simp_all
 |x::xs,i+1,y,h=>by
  have hx:=hf x
  have ih:=Ze hf xs i y (by simp_all)
  simp_all[List.set_cons_succ,aiq,Nat.add_comm,List.take_append,List.drop_append,ag4,List.drop_of_length_le]
theorem aeA{w:aiA}{L:List aE}{n c i:Nat}{o:aiz}{ds:List Fu}{b:Fu}(h:St w (own 3 o n c (Fv ds)::L))(hb:ds[i]? =some b):∃ad,o=some ad/\aq (hp w) (ad.add (ff i 3)) (ckE b):=by
 rcases dN 0 h.l with e|⟨ad,e,hc⟩
 ·have u:=congrArg List.length e
  grind[Nf,List.length_nil,List.getElem?_eq_some_iff]
 ·exact⟨ad,e,cJ (n:=3) (λ_=>rfl) ds ad hc i b hb⟩
section
variable{w:aiA}{L:List aE}{g:ah}{x:GA}
theorem TX{ss:List SQ}{nn:List Bool}{a i f:Int}{l:Nat}(hR:Fh g ss a i f):(nu g nn ss l).length<=16640:=by
 by_cases hf:f=0
 ·obtain⟨hc,hA⟩:=hR.Qs hf;have u:=hA.dn.2.1;obtain⟨J,_⟩:=hc.cK;have O:=Li (g:=g) (nn:=nn) (ss:=ss) (least:=l) (n:=ss.length);have U:ss.length*g.T<=256*65:=ah6 ω J
  grind[nu]
 ·rw[hR.nil hf];exact agP _
end
section
variable{g:ah}{nn:List Bool}{ss ss':List SQ}{w:aiA}{L:List aE}
def Jc(g:ah)(es:List aH):List Int:=(List.range g.N).map λj=>match es.find? λe=>decide (e.sym=((g.T+j:Nat):Int)) with
 |some e=>e.to
 |none=>-1
theorem Zf{es:List aH}:(Jc g es).length=g.N:=by simp[Jc]
theorem Zg:Jc g []=List.replicate g.N (-1):=by
 show(List.range g.N).map (λ_=>(-1:Int))=_
 rw[List.map_const',ahL]
theorem Lv{es:List aH}{e:aH}(hn:∀x∈es,x.sym≠e.sym)(h1:e.sym<g.T+g.N):Jc g (es++[e])=if(g.T:Int)<=e.sym then(Jc g es).set (e.sym-g.T).toNat e.to else Jc g es:=by
 refine ahp λj=>?_
 have base:∀es:List aH,(Jc g es)[j]? =if j<g.N then some (match es.find? λe=>decide (e.sym=((g.T+j:Nat):Int)) with|some e=>e.to|none=>-1) else none:=λes=>by
  unfold Jc
  grind
 have u:e.sym=((g.T+j:Nat):Int)->es.find? (λe=>decide (e.sym=((g.T+j:Nat):Int)))=none:=λJ=>by simp_all
 rw[base,List.find?_append]
 by_cases J:e.sym=((g.T+j:Nat):Int)
 ·grind
 grind
def Kk(g:ah)(ss:List SQ)(q:Nat):List Int:=(List.range g.N).map λj=>CA ss q ((g.T+j:Nat):Int)
theorem Zh{q:Nat}{r:SQ}(hr:ss[q]? =some r):Jc g r.2.2=Kk g ss q:=by grind[Jc,Kk,List.map_congr_left,CA,tQ,decide]
theorem abV(h:cD ss=cD ss'):ER g ss=ER g ss':=by grind[ER,MP,List.map_congr_left,CA,Ih]
theorem TY:∀n,gD n [iI 0,iI 0]=du (List.replicate n ⟨0,0⟩)
 |0=>rfl
 |n+1=>by
  rw[ah1]
  show[iI 0,iI 0]++gD n _=bG ⟨0,0⟩++du (List.replicate n ⟨0,0⟩)
  rw[TY n];rfl
def acY(oa:aiz)(ca:Nat)(og:aiz)(cg:Nat)(oc:aiz)(cc:Nat)(AL:List (Lq aD))(GL:List (Lq Int))(CL:List Fu):List aE:=
 [own 1 oa AL.length ca (AL.map bX),aV (AL.map (bI 2 du)),own 1 og GL.length cg (GL.map bX),aV (GL.map (bI 1 iv)),own 3 oc CL.length cc (Fv CL),aV (Dl CL)]
def agD(g:ah)(w:aiA)(v:Value)(w':aiA):Prop:=∃(ss:List SQ)(ask int f:Int)(nn:List Bool)(oa:aiz)(ca:Nat)(og:aiz)(cg:Nat)(oc:aiz)(cc:Nat)(AL:List (Lq aD))(GL:List (Lq Int))(CL:List Fu),
 v=.tuple #[.agg #[vS oa AL.length ca,vS og GL.length cg,vS oc CL.length cc],iI f]/\Fh g ss ask int f/\(f=0->lE g nn)/\AL.map (·.2)=C4 g nn ss/\GL.map (·.2)=ER g ss/\CL.map oU=R5 g nn ss/\St w' (acY oa ca og cg oc cc AL GL CL++all w)
theorem af0{ds:List Fu}{i:Nat}{b:Fu}(h:St w (aV (Dl ds)::L))(hb:ds[i]? =some b):b.2.2.length<=b.2.1.2/\aX (hp w) b.2.2 b.2.1.1 b.2.2.length:=by
 have hA:(Dl ds)[i]? =some (bI 2 du b.2):=by simp_all[Dl]
 have u:=St.out h hA;exact⟨bD u,CZ rfl (dN 0 u.l)⟩
theorem af3{n c q t:Nat}{o:aiz}{AL:List (Lq aD)}{b:Lq aD}{y:aD}{X:aiA->Prop}(hq:AL[q]? =some b)(ht:t<b.2.length)(h:St w (own 1 o n c (AL.map bX)::aV (AL.map (bI 2 du))::L))
  (hX:∀w',St w' (own 1 o n c ((AL.set q (b.1,b.2.set t y)).map bX)::aV ((AL.set q (b.1,b.2.set t y)).map (bI 2 du))::L)->X w'):idx b.1.1 b.2.length (t:Int) 2 λa=>bA w a [iI y.kind,iI y.to] X:=by
 have O:=(agN.1 hq).1;have hA:(AL.map (bI 2 du))[q]? =some (bI 2 du b):=by simp_all
 have h:=St.Q6 (h.pick 2 [1,0]) hA;have h:St w (own 2 b.1.1 b.2.length b.1.2 (du b.2)::aV ((AL.map (bI 2 du)).take q++(AL.map (bI 2 du)).drop (q+1))::own 1 o n c (AL.map bX)::L):=h;obtain⟨U,ha⟩:=eQ h (by grind[oN]);refine aO ha ht ?_;rw[bh];refine Gy (i:=t*2) h ha (by grind[oN]) (by simp[aK]) σ λw' h=>hX w' ?_;have e:=Ze (f:=bG) (n:=2) (λ_=>rfl) b.2 t y ht;have h:St w' (own 2 b.1.1 b.2.length b.1.2 ((b.2.flatMap bG).take (t*2)++bG y++(b.2.flatMap bG).drop (t*2+2))::aV ((AL.map (bI 2 du)).take q++(AL.map (bI 2 du)).drop (q+1))::own 1 o n c (AL.map bX)::L):=h;rw[e] at h;have u:bI 2 du (b.1,b.2.set t y)=own 2 b.1.1 b.2.length b.1.2 ((b.2.set t y).flatMap bG):=by unfold bI;rw[ahB];rfl
 rw[<-u] at h;have J:(AL.set q (b.1,b.2.set t y)).map bX=AL.map bX:=by simp_all[B8,bX]
 rw[J,ahn];exact(St.Xh (M:=AL.map (bI 2 du)) (n:=q) (by simp_all) h).swap
end
structure No(AL:List (Lq aH))(n:Nat)(F:Nat->List aH):Prop where
 l:AL.length=n
 e:∀(i:Nat)(b:Lq aH),AL[i]? =some b->b.2=F i
section
variable{w:aiA}{L:List aE}{AL:List (Lq aH)}{n q k:Nat}{F:Nat->List aH}
theorem No.new(n:Nat):No (List.replicate n ((none,0),[])) n λ_=>[]:=⟨σ,λi b h=>by grind⟩
theorem No.set(h:No AL n F){o:aiz}{c:Nat}{l:List aH}:No (AL.set q ((o,c),l)) n λi=>if i=q then l else F i:=⟨by rw[ahB];exact h.l,λi b hb=>by
 rw[ah8] at hb
 split at hb
 ·grind
 ·rename_i e
  rw[agW (λx=>e x.symm)]
  exact h.e i b hb⟩
theorem No.ext(h:No AL n F){G:Nat->List aH}(hG:∀i<n,F i=G i):No AL n G:=⟨h.l,λi b hb=>by rw[h.e i b hb];exact hG i (by have:=(agN.1 hb).1;rw[<-h.l];omega)⟩
theorem No.map(h:No AL n F):AL.map (·.2)=(List.range n).map F:=by
 refine ahp λi=>?_;rw[agS,agS]
 by_cases hi:i<n
 ·rw[agM (by rw[h.l];omega),ahV hi];exact congrArg some (h.e i _ (agM (by rw[h.l];omega)))
 ·rw[ahk (by rw[h.l];omega),ahk (by simp_all)];rfl
theorem acZ(h:St w (az k (AL.map bX)::aV (AL.map (bI 2 qo))::L)):aX (hp w) (AL.map (·.2)) (some (aM k)) AL.length:=by
 refine⟨σ,λi x u=>?_⟩;rw[agS] at u;cases hb:AL[i]? with
 |none=>simp_all
 |some b=>
  rw[hb] at u;cases u;have hA:(AL.map (bI 2 qo))[i]? =some (bI 2 qo b):=by grind
  have J:=St.out h.tail hA;have O:=cJ (f:=λb:Lq aH=>[bX b]) (n:=1) (λ_=>rfl) AL (aM k) (by have:=af 0 h.l;rwa [<-List.map_eq_flatMap] ) i b hb;exact⟨_,_,rfl,O,_,_,_,rfl,bD J,Te rfl (dN 0 J.l)⟩
theorem Np:∀n,gD n [zS]=(List.replicate n (((none,0),[]):Lq aH)).map bX
 |0=>rfl
 |n+1=>by
  rw[ah1,ahw,<-Np n]
  rfl
theorem TZ(h:St w L):∀n,St w (aV ((List.replicate n (((none,0),[]):Lq aH)).map (bI 2 qo))::L):=λn=>by simp_all[Lq,bI,qo,List.map_replicate,B6,aI]
end
def C6(by_:Int)(l:List aD)(t:Nat):List aH:=(List.range t).flatMap λt=>RZ by_ t (l.getD t ⟨0,0⟩)
theorem R6(by_:Int)(l:List aD)(t:Nat):C6 by_ l (t+1)=C6 by_ l t++RZ by_ t (l.getD t ⟨0,0⟩):=by simp[C6,ahA]
def Fy(to:Int)(l:List Int)(t:Nat):List aH:=(List.range t).flatMap λq=>TT to q (l.getD q 0)
theorem R7(to:Int)(l:List Int)(t:Nat):Fy to l (t+1)=Fy to l t++TT to t (l.getD t 0):=by simp[Fy,ahA]
theorem C7{α β:Type}(f:α->List β)(h1:∀x,(f x).length<=1):∀l:List α,(l.flatMap f).length<=l.length
 |[]=>σ
 |x::l=>by have:=C7 f h1 l;grind
theorem aeB(b:Int)(t:Nat)(a:aD):(RZ b t a).length<=1:=by grind[RZ]
theorem aeC(b:Int)(t:Nat)(a:Int):(TT b t a).length<=1:=by grind[TT]
theorem P8(b:Int)(l:List aD)(t:Nat):(C6 b l t).length<=t:=by
 have:=C7 (λt=>RZ b t (l.getD t ⟨0,0⟩)) (λx=>aeB ..) (List.range t);rw[ahL] at this;exact this
theorem P9(b:Int)(l:List Int)(t:Nat):(Fy b l t).length<=t:=by
 have:=C7 (λt=>TT b t (l.getD t 0)) (λx=>aeC ..) (List.range t);rw[ahL] at this;exact this
theorem P_{f:Nat->List aH}(h1:∀x,f x=[]\/∃z,f x=[⟨(x:Int),z⟩])(n:Nat):(((List.range n).flatMap f).map (·.sym)).Nodup/\∀e∈(List.range n).flatMap f,0<=e.sym/\e.sym<n:=by
 induction n with
 |zero=>simp
 |succ n ih=>
  rw[ahA,ahh,ag7,ahx];simp only[ahv,List.flatMap_nil,ahe]
  rcases h1 n with e|⟨z,e⟩
  ·grind
  grind
theorem aeD{n:Nat}{a:aD}(h:EP n a)(hn:n<=1000):-1000000<=wz a/\wz a<=1000000:=by grind[wz,EP]
theorem abW{b:Int}{l:List aD}{N:Nat}(hm:∀a∈l,EP N a)(hN:N<=1000)(hl:l.length<=65):Vr (Kh b l):=by
 have J:=P_ (f:=λt=>RZ b t (l.getD t ⟨0,0⟩)) (λx=>by unfold RZ;grind) l.length;refine⟨λe u=>by have:=J.2 e u;omega,J.1,λe u=>?_,by have:=P8 b l l.length;grind[C6,Kh]⟩;obtain⟨t,a,ha,_,_,rfl⟩:=qb.1 u;exact aeD (hm a (agL ha)) hN
theorem abX{b:Int}{l:List Int}{N:Nat}(hm:∀a∈l,a<N)(hN:N<=1000)(hl:l.length<=256):Vr (Ki b l):=by
 have J:=P_ (f:=λt=>TT b t (l.getD t 0)) (λx=>by unfold TT;grind) l.length;refine⟨λe u=>by have:=J.2 e u;omega,J.1,λe u=>?_,by have:=P9 b l l.length;grind[Fy,Ki]⟩;obtain⟨t,a,ha,h0,_,rfl⟩:=ug.1 u;have:=hm a (agL ha)
 grind
section
variable{w:aiA}{L:List aE}{AL:List (Lq aH)}{n q k26:Nat}{b:Lq aH}
theorem T0{k39:Nat}{y:aH}{I:aiA->Prop}{K:aiA->Prop}(hq:AL[q]? =some b)(hn:AL.length=n)(hlen:b.2.length<=1000)(h:St w (az k39 [iI y.sym,iI y.to]::az k26 (AL.map bX)::aV (AL.map (bI 2 qo))::L))
  (hI:∀u,aq (hp u) (aM k26) (AL.map bX)->aF L (hp u)->I u) (hK:∀u o' c',St u (az k26 ((AL.set q ((o',c'),b.2++[y])).map bX)::aV ((AL.set q ((o',c'),b.2++[y])).map (bI 2 qo))::L)->K u):
  aY Tryz.prog (fW Aa (Array.mk [vS b.1.1 b.2.length b.1.2,vS (some (aM k39)) 1 1])) w λv5 w20=>∃o17 k40 k41,v5=vS o17 k40 k41/\I w20/\idx (some (aM k26)) n (q:Int) 1 λa4=>st1 w20 a4 (vS o17 k40 k41) K:=by
 have V:=(agN.1 hq).1;have hA:(AL.map (bI 2 qo))[q]? =some (bI 2 qo b):=by grind
 have h:=St.Q6 (h.pick 3 [2,0,1]) hA;have h:St w (own 2 b.1.1 b.2.length b.1.2 (qo b.2)::aV ((AL.map (bI 2 qo)).take q++(AL.map (bI 2 qo)).drop (q+1))::az k39 [iI y.sym,iI y.to]::az k26 (AL.map bX)::L):=h;refine(aS (us:=qo b.2) (vs:=[iI y.sym,iI y.to]) aT (rfl:ai Ty _=.slice _) (rfl:ai Ty _=.slice _) rfl rfl rfl (h.pick 4 [2,0,3,1]) rfl (by simp[aK]) (by grind) ω).mono ?_;rintro _ w20⟨o',c',rfl,h⟩;refine⟨_,_,_,rfl,hI w20 (af 2 h.l) h.tail.tail.tail.tail.l,ax rfl ω ?_⟩;rw[ak];refine aR (i:=q) (h.pick 4 [2,0,3]) (by simp_all) λJ h=>hK J o' c' ?_
 have O:(AL.map bX).set q (vS o' (b.2.length+1) c')=(AL.set q ((o',c'),b.2++[y])).map bX:=by
  rw[ahn];congr 1
  show _=Value.slice o' (b.2++[y]).length c'
  simp
 have U:bI 2 qo ((o',c'),b.2++[y])=own 2 o' (b.2.length+1) c' (qo b.2++[iI y.sym,iI y.to]):=by simp[bI,qo,U4]
 rw[O,<-U] at h;rw[show(AL.set q ((o',c'),b.2++[y])).map (bI 2 qo)=(AL.map (bI 2 qo)).set q (bI 2 qo ((o',c'),b.2++[y])) from ahn];exact(St.Xh (M:=AL.map (bI 2 qo)) (n:=q) (by simp_all) (h.pick 3 [1,2,0])).swap
theorem Zi{x:aD}{t N k36:Nat}{w14:aiA}{K:aiA->Prop}(hq:AL[q]? =some b)(hn:AL.length=n)(hlen:b.2.length<=1000)(hm:EP N x)(hN:N<=1000)(h:St w14 (az k36 (bG x)::az k26 (AL.map bX)::aV (AL.map (bI 2 qo))::L))
  (hK:∀u o' c',St u (az k26 ((AL.set q ((o',c'),b.2++[⟨(t:Int),wz x⟩])).map bX)::aV ((AL.set q ((o',c'),b.2++[⟨(t:Int),wz x⟩])).map (bI 2 qo))::L)->K u):
  ∀w15,drawn w14 w15->∃(I3:aiA->Prop),I3 w15/\idx (some (aM k26)) n (q:Int) 1 λa3=>∃o16 k37 k38,(∀w16,I3 w16->World.cell? w16 a3=some (vS o16 k37 k38))/\∃n8 n9,(∀w17,I3 w17->rowAt w17 (aM k36) 0 2=some [iI n8,iI n9])/\iA Tryz.prog Ev Fg [vA (Array.mk [iI n8,iI n9])] w15 λv4 w18=>∃n10,v4=iI n10/\I3 w18/\new w18 (oC [iI (t:Int),iI n10] Ox) λk39 w19=>I3 w19/\aY Tryz.prog (fW Aa (Array.mk [vS o16 k37 k38,vS (some (aM k39)) 1 1])) w19 λv5 w20=>∃o17 k40 k41,v5=vS o17 k40 k41/\I3 w20/\idx (some (aM k26)) n (q:Int) 1 λa4=>st1 w20 a4 (vS o17 k40 k41) K:=by
 intro w15 J;have h:=h.drawn J;have O:=(agN.1 hq).1;refine⟨λu=>aq (hp u) (aM k26) (AL.map bX)/\aq (hp u) (aM k36) (bG x),⟨af 1 h.l,af 0 h.l⟩,ax rfl ω ⟨_,_,_,λu r=>r.1.cell sZZ (j:=q) (v:=bX b) (by simp_all),_,_,λu r=>r.2.at sZZ rfl,(aex hm hN).mono ?_⟩⟩;rintro _ w18⟨rfl,g⟩;have h:=h.gr g;refine⟨_,rfl,⟨af 1 h.l,af 0 h.l⟩,ag h λk39 w19 h=>⟨⟨af 2 h.l,af 1 h.l⟩,?_⟩⟩;exact T0 (y:=⟨(t:Int),wz x⟩) (L:=az k36 (bG x)::L) hq hn hlen (h.pick 4 [0,2,3,1]) (λu r s=>⟨r,af 0 s⟩) λu o' c' h=>hK u o' c' (h.pick 3 [0,1])
end
abbrev pkL(p:dB)(x:PA)(L:List aE):List aE:=
 own 1 x.d.1 x.d.2.1 x.d.2.2 (iv p.df)::own 1 x.a1.1 x.a1.2.1 x.a1.2.2 (iv p.ac.bs)::own 1 x.a2.1 x.a2.2.1 x.a2.2.2 (iv p.ac.vs)::own 1 x.a3.1 x.a3.2.1 x.a3.2.2 (iv p.ac.os)::
 own 1 x.t.1 x.t.2.1 x.t.2.2 (iv p.tg)::own 1 x.g1.1 x.g1.2.1 x.g1.2.2 (iv p.gt.bs)::own 1 x.g2.1 x.g2.2.1 x.g2.2.2 (iv p.gt.vs)::own 1 x.g3.1 x.g3.2.1 x.g3.2.2 (iv p.gt.os)::L
structure PkB(p:dB):Prop where
 a1:p.ac.os.length<=100000
 a2:∀z∈p.ac.vs,-1000000<=z/\z<=1000000
 g1:p.gt.os.length<=100000
 g2:∀z∈p.gt.vs,-1000000<=z/\z<=1000000
abbrev z8:List Value:=[zS,zS,zS,zS,zS,zS,zS,zS]
theorem Zj{α:Type}{l m:List α}{i:Nat}{z:α}(h:i<l.length):(l++m).getD i z=l.getD i z:=by grind
section
variable{w:aiA}{a d:aiz}{n c e f:Nat}{As:List (List aD)}{Gs:List (List Int)}{T N:Nat}
theorem aeE(hA:aX (hp w) As a n)(hG:aX (hp w) Gs d e)(hD:Zd As Gs T N):ρ 44 [.agg #[vS a n c,vS d e f]] w λv w'=>∃(p:dB)(x:PA),v=.tuple #[.agg ⟨x.cells⟩,iI 0]/\Fw As Gs N p/\PkB p/\St w' (pkL p x (all w)):=by
 have eA:=hA.1;have eG:=hG.1;have er:=hD;obtain⟨n1,n2,eg,t1,t2,s1,s2,ha,ht⟩:=hD;refine JZ (ag (St.all w) λk1 w1 h=>ag h λk2 w2 h=>⟨_,_,_,_,_,_,(af 1 h.l).at sZZ rfl,?_⟩);have gw:Gr w w2:=h.tail.aP;refine(abT (hA.mono gw) (hG.mono gw) er).mono ?_;rintro _ w3⟨rfl,g3⟩;have h:=h.gr g3;obtain⟨h0,cd,s0,h⟩:=h.freeze;have bb:aq h0 (aM k1) [vS a n c,vS d e f]:=af 0 cd;have cA:sub (hp w) h0:=aC 1 cd;have ep:=hA.mono cA;have ck:=hG.mono cA;refine⟨_,rfl,bB rfl (ag h λW w5 h=>⟨_,_,_,bb.cell0 (aC 2 h.l),⟨ω,rfl,ω⟩,?_⟩)⟩;rw[agZ,Np];refine ag h λk26 w6 h=>?_;have h:=TZ h n;have h:St w6 (az k26 ((List.replicate n (((none,0),[]):Lq aH)).map bX)::aV ((List.replicate n (((none,0),[]):Lq aH)).map (bI 2 qo))::az W z8::own 1 none 0 0 (iv [])::az k2 z8::[has h0]):=(aI 1 h).pick 6 [2,1,3,0,4,5]
 refine⟨_,_,_,bb.cell0 (aC 5 h.l),λz u=>∃(q:Nat)(df:List Int)(AL:List (Lq aH))(o:aiz)(c:Nat),z=q/\q<=n/\df.length=q/\No AL n (λi=>if i<q then Kh (df.getD i 0) (As.getD i []) else[])/\(∀(i:Nat)(l:List aD),i<q->As[i]? =some l->df.getD i 0=-1\/∃a∈l,a.kind=2/\a.to=df.getD i 0)/\
  St u (az k26 (AL.map bX)::aV (AL.map (bI 2 qo))::az W [vS o q c,zS,zS,zS,zS,zS,zS,zS]::own 1 o q c (iv df)::az k2 z8::[has h0]),λz _=>n-z.toNat,⟨0,[],_,none,0,rfl,agP _,rfl,(No.new n).ext λi _=>σ,λi l hi=>absurd hi ω,h⟩,?_⟩
 clear h;rintro _ _ w7⟨q,df,AL,o,cc,rfl,hq,f5,hF,ef,h⟩
 refine ae (λh1=>?_) λh1=>?_
 ·have h1:q<n:=by simp_all
  have s7:sub h0 (hp w7):=aC 5 h.l;obtain⟨l,ad,vs,hl,ch,bl,fC,a0,f3,rfl,_,b2⟩:=ep.get h1;have d7:=agL hl;obtain⟨ey,e2⟩:=ha l d7;have d9:a0=T:=by rw[<-b2.1];omega
  subst d9;have d0:As.getD q []=l:=by simp_all
  refine aO ch h1 ⟨_,_,_,bl.cell0 s7,(abR (b2.mono s7) ω).mono ?_⟩;rintro _ w8⟨bz,rfl,eY,g8⟩;have h:=h.gr g8;refine⟨_,rfl,_,_,_,(af 2 h.l).cell0 sZZ,ag h λfg w9 h=>?_⟩;refine(aS (us:=iv df) (vs:=[iI bz]) aT (rfl:ai Ty _=.slice _) (rfl:ai Ty _=.slice _) rfl rfl rfl (h.pick 5 [0,4,1,2,3]) rfl (by simp[aK]) (by grind) ω).mono ?_;rintro _ eU⟨a5,a6,rfl,h⟩;refine⟨_,_,_,rfl,aR (i:=0) (h.pick 5 [4,0,2,3]) σ λfS h=>?_⟩;have e0:iv df++[iI bz]=iv (df++[bz]):=by simp[iv]
  rw[e0] at h;obtain⟨F,bi⟩:∃F:Nat->List aH,F=λi=>if i<q then Kh (df.getD i 0) (As.getD i []) else[]:=⟨_,rfl⟩
  rw[<-bi] at hF;have cg:F q=[]:=by simp_all
  refine⟨λz u=>∃(t:Nat)(AL:List (Lq aH)),z=t/\t<=a0/\No AL n (λi=>if i=q then C6 bz l t else F i)/\
   St u (az k26 (AL.map bX)::aV (AL.map (bI 2 qo))::az W [vS a5 (q+1) a6,zS,zS,zS,zS,zS,zS,zS]::own 1 a5 (q+1) a6 (iv (df++[bz]))::az k2 z8::[has h0]),λz _=>a0-z.toNat,⟨0,AL,rfl,agP _,hF.ext λi hi=>by
    try dsimp only
    split
    ·rename_i e;rw[e,cg];rfl
    rfl,h.pick 6 [2,3,0,1,4,5]⟩,?_⟩
  clear h hF;rintro _ _ em⟨t,AL,rfl,bP,hF,h⟩;have eb:sub h0 (hp em):=aC 5 h.l
  refine ae (λh2=>?_) λh2=>?_
  ·have h2:t<a0:=by simp_all
   obtain⟨x,f2,vs,hx,d8,c9,c8⟩:=(b2.mono eb).get h2;have c8:vs=bG x:=c8;subst c8;have eI:l.getD t ⟨0,0⟩=x:=by simp_all
   have d3:=e2 x (agL hx);obtain⟨b,hb⟩:∃b,AL[q]? =some b:=⟨_,agM (by rw[hF.l];omega)⟩;have ez:b.2=C6 bz l t:=by have:=hF.e q b hb;simp_all
   have av:b.2.length<=1000:=by grind[P8]
   have Y:=R6 bz l t;rw[eI] at Y;refine aO d8 h2 ⟨_,_,c9.at sZZ rfl,ag h λf4 eT h=>aL h rfl (by simp[aK]) λeC h=>⟨_,(af 0 h.l).cell0 sZZ,?_⟩⟩
   have skip:RZ bz t x=[]->aA ((t:Int)+1)/\(∃(t':Nat)(AL:List (Lq aH)),(t:Int)+1=t'/\t'<=a0/\No AL n (λi=>if i=q then C6 bz l t' else F i)/\St eC (az k26 (AL.map bX)::aV (AL.map (bI 2 qo))::az W [vS a5 (q+1) a6,zS,zS,zS,zS,zS,zS,zS]::own 1 a5 (q+1) a6 (iv (df++[bz]))::az k2 z8::[has h0]))/\a0-((t:Int)+1).toNat<a0-(t:Int).toNat:=λhe=>by
    rw[he,ahe] at Y;exact⟨ξ,⟨t+1,AL,σ,h2,by grind,h.tail⟩,bR h2⟩
   have bT:RZ bz t x=[⟨(t:Int),wz x⟩]->∀u o' c',St u (az k26 ((AL.set q ((o',c'),b.2++[⟨(t:Int),wz x⟩])).map bX)::aV ((AL.set q ((o',c'),b.2++[⟨(t:Int),wz x⟩])).map (bI 2 qo))::az W [vS a5 (q+1) a6,zS,zS,zS,zS,zS,zS,zS]::own 1 a5 (q+1) a6 (iv (df++[bz]))::az k2 z8::[has h0])->aA ((t:Int)+1)/\(∃(t':Nat)(AL:List (Lq aH)),(t:Int)+1=t'/\t'<=a0/\No AL n (λi=>if i=q then C6 bz l t' else F i)/\St u (az k26 (AL.map bX)::aV (AL.map (bI 2 qo))::az W [vS a5 (q+1) a6,zS,zS,zS,zS,zS,zS,zS]::own 1 a5 (q+1) a6 (iv (df++[bz]))::az k2 z8::[has h0]))/\a0-((t:Int)+1).toNat<a0-(t:Int).toNat:=λhe u o' c' h=>by
    rw[he] at Y;refine⟨ξ,⟨t+1,_,σ,h2,(hF.set (q:=q) (o:=o') (c:=c') (l:=b.2++[⟨(t:Int),wz x⟩])).ext λi hi=>?_,h⟩,bR h2⟩
    grind
   refine ae (λh3=>⟨_,(af 0 h.l).cell0 sZZ,ae (λh4=>?_) λh4=>⟨_,(af 0 h.l).cell sZZ (j:=1) rfl,ae (λh5=>?_) λh5=>?_⟩⟩) λh3=>?_
   ·have h3:x.kind≠0:=by grind
    have h4:x.kind≠2:=by grind
    exact Zi (x:=x) (t:=t) hb hF.l av d3 ω h λu o' c' h=>bT (by unfold RZ;grind) u o' c' h
   ·have h3:x.kind≠0:=by grind
    have h5:x.to≠bz:=by grind
    exact Zi (x:=x) (t:=t) hb hF.l av d3 ω h λu o' c' h=>bT (by unfold RZ;grind) u o' c' h
   ·have h4:x.kind=2:=by grind
    have h5:x.to=bz:=by grind
    exact skip (by unfold RZ;grind)
   ·have h3:x.kind=0:=by grind
    exact skip (by unfold RZ;grind)
  ·have h2:t=a0:=by grind
   subst h2
   refine⟨ξ,⟨q+1,df++[bz],AL,a5,a6,σ,h1,by simp_all,hF.ext λi hi=>?_,λi l' hi fs=>?_,h⟩,bR h1⟩
   ·rw[bi]
    rcases Nat.lt_trichotomy i q with a4|a4|a4
    ·grind
    ·subst a4;rw[ag0 rfl,ag0 ω,d0];have:(df++[bz]).getD i 0=bz:=by simp_all
     rw[this,<-ey];rfl
    grind
   grind
 --the actions' rows are laid
 have h1:n=q:=by grind
 subst h1
 have b7:AL.map (·.2)=(List.range As.length).map λi=>Kh (df.getD i 0) (As.getD i []):=by
  rw[hF.map,eA]
  simp_all
 have al:=acZ (L:=_) h;rw[hF.l] at al
 refine(acX al (λes ba=>?_) ω).mono ?_
 ·rw[b7] at ba;obtain⟨i,hi,rfl⟩:=agY.1 ba;have hi:=ahd.1 hi;have hl:As[i]? =some As[i]:=agM hi;have e1:As.getD i []=As[i]:=by simp_all
  rw[e1];obtain⟨q1,q2⟩:=ha _ (ail hi);exact abW q2 ω ω
 rintro _ eo⟨O,J,rfl,d4,eK,e8,cp⟩;rw[b7] at d4;have h:=St.on (N:=[_,_,_]) cp h.l;clear cp al;have h:St eo (az W [vS o n cc,zS,zS,zS,zS,zS,zS,zS]::own 1 J.b O.bs.length J.cb (iv O.bs)::own 1 J.v O.vs.length J.cv (iv O.vs)::own 1 J.o O.os.length J.co (iv O.os)::own 1 o n cc (iv df)::az k2 z8::[has h0]):=St.pick h 9 [5,0,1,2,6,7,8];refine⟨_,_,_,_,_,_,_,_,_,_,rfl,yQ (i:=1) h σ (by simp[aK]) λdF h=>?_⟩;have h:St dF (az W [vS o n cc,vS J.b O.bs.length J.cb,vS J.v O.vs.length J.cv,vS J.o O.os.length J.co,zS,zS,zS,zS]::own 1 J.b O.bs.length J.cb (iv O.bs)::own 1 J.v O.vs.length J.cv (iv O.vs)::own 1 J.o O.os.length J.co (iv O.os)::own 1 o n cc (iv df)::az k2 z8::[has h0]):=h;have dk:sub h0 (hp dF):=aC 6 h.l;obtain⟨l0,f9,vs,eN,cW,c7,fc,U,g0,rfl,_,ej⟩:=ck.get (i:=0) ω;have cu:U=N:=by rw[<-ej.1];grind
 subst cu;refine⟨_,_,_,bb.cell dk (j:=1) rfl,aO (i:=0) cW ω ⟨_,_,_,c7.cell0 dk,⟨ω,rfl,ω⟩,?_⟩⟩;rw[agZ,Np];refine ag h λam ek h=>?_;have h:=TZ h U;obtain⟨M,hM⟩:∃M:List aE,M=own 1 J.b O.bs.length J.cb (iv O.bs)::own 1 J.v O.vs.length J.cv (iv O.vs)::own 1 J.o O.os.length J.co (iv O.os)::own 1 o n cc (iv df)::az k2 z8::[has h0]:=⟨_,rfl⟩;obtain⟨pc,c6⟩:∃pc:aiz->Nat->Nat->List Value,pc=λo' n' c'=>[vS o n cc,vS J.b O.bs.length J.cb,vS J.v O.vs.length J.cv,vS J.o O.os.length J.co,vS o' n' c',zS,zS,zS]:=⟨_,rfl⟩
 have b4:∀{u:aiA}{X:List aE},St u (X++M)->sub h0 (hp u):=λ{u X} hh=>by
  rw[hM] at hh
  induction X with
  |nil=>exact aC 5 hh.l
  |cons A X ih=>exact ih hh.tail
 have h:St ek (az am ((List.replicate U (((none,0),[]):Lq aH)).map bX)::aV ((List.replicate U (((none,0),[]):Lq aH)).map (bI 2 qo))::az W (pc none 0 0)::own 1 none 0 0 (iv [])::M):=by
  rw[hM,c6];exact(aI 1 h).pick 10 [2,1,3,0,4,5,6,7,8,9]
 refine⟨λz u=>∃(i:Nat)(tg:List Int)(AL:List (Lq aH))(o:aiz)(c:Nat),z=i/\i<=U/\tg.length=i/\No AL U (λj=>if j<i then Ki (tg.getD j 0) (Gs.map λl=>l.getD j 0) else[])/\(∀j<i,tg.getD j 0=-1\/∃l∈Gs,l.getD j 0=tg.getD j 0/\0<=tg.getD j 0)/\
  St u (az am (AL.map bX)::aV (AL.map (bI 2 qo))::az W (pc o i c)::own 1 o i c (iv tg)::M),λz _=>U-z.toNat,⟨0,[],_,none,0,rfl,agP _,rfl,(No.new U).ext λi _=>σ,λj hj=>absurd hj ω,h⟩,?_⟩
 clear h;rintro _ _ fd⟨i,tg,b3,o2,c2,rfl,hi,bP,bc,cz,h⟩
 refine ae (λh1=>?_) λh1=>?_
 ·have h1:i<U:=by simp_all
  refine ag h λaa g7 h=>aR h σ λca h=>?_;have h:St ca (az aa [iI (i:Int)]::az am (b3.map bX)::aV (b3.map (bI 2 qo))::az W (pc o2 i c2)::own 1 o2 i c2 (iv tg)::M):=h;have e3:sub h0 (hp ca):=b4 (X:=[_,_,_,_,_]) h;have b5:∀z,sub (hp ca) (hp z)->z.cell? (aM aa)=some (iI (i:Int)):=λz g=>(af 0 h.l).cell0 g;refine⟨_,_,_,bb.cell e3 (j:=1) rfl,(abS (i:=i) (ck.mono e3) ω (λl hl=>by grind) b5).mono ?_⟩;rintro _ ea⟨to,rfl,fw,cT⟩;have h:=h.gr cT;have b5:∀z,sub (hp ea) (hp z)->z.cell? (aM aa)=some (iI (i:Int)):=λz g=>b5 z (sub.trans cT g);have e4:∀o' n' c',(pc o' n' c')[4]? =some (vS o' n' c'):=λo' n' c'=>by grind
  have e5:∀o' n' c' cN cF e7,(pc o' n' c').set 4 (vS cN cF e7)=pc cN cF e7:=λ_ _ _ _ _ _=>by rw[c6];rfl
  have e6:∀o' n' c',4<(pc o' n' c').length:=λ_ _ _=>by grind
  refine⟨_,rfl,_,_,_,(af 3 h.l).cell sZZ (e4 ..),ag h λf6 eX h=>?_⟩;refine(aS (us:=iv tg) (vs:=[iI to]) aT (rfl:ai Ty _=.slice _) (rfl:ai Ty _=.slice _) rfl rfl rfl (h.pick 6 [0,5,1,2,3,4]) rfl (by simp[aK]) (by grind) ω).mono ?_;rintro _ eP⟨a8,a7,rfl,h⟩;refine⟨_,_,_,rfl,?_⟩;rw[ak];refine aR (i:=4) (h.pick 6 [5,0,2,3,4]) (e6 ..) λei h=>?_;have e0:iv tg++[iI to]=iv (tg++[to]):=by simp[iv]
  rw[e0,e5] at h;have h:St ei (az am (b3.map bX)::aV (b3.map (bI 2 qo))::az aa [iI (i:Int)]::az W (pc a8 (i+1) a7)::own 1 a8 (i+1) a7 (iv (tg++[to]))::M):=h.pick 5 [3,4,2,0,1];obtain⟨F,bi⟩:∃F:Nat->List aH,F=λj=>if j<i then Ki (tg.getD j 0) (Gs.map λl=>l.getD j 0) else[]:=⟨_,rfl⟩
  rw[<-bi] at bc;have cg:F i=[]:=by grind
  obtain⟨a9,c5⟩:∃a9,a9=Gs.map λl=>l.getD i 0:=⟨_,rfl⟩
  refine⟨_,_,_,bb.cell (b4 (X:=[_,_,_,_,_]) h) (j:=1) rfl,λz u=>∃(t:Nat)(AL:List (Lq aH)),z=t/\t<=e/\No AL U (λj=>if j=i then Fy to a9 t else F j)/\
   St u (az am (AL.map bX)::aV (AL.map (bI 2 qo))::az aa [iI (i:Int)]::az W (pc a8 (i+1) a7)::own 1 a8 (i+1) a7 (iv (tg++[to]))::M),λz _=>e-z.toNat,⟨0,b3,rfl,agP _,bc.ext λj hj=>by
    try dsimp only
    split
    ·rename_i e;rw[e,cg];rfl
    rfl,h⟩,?_⟩
  clear h bc;rintro _ _ cC⟨t,AL,rfl,fL,hF,h⟩;have ci:sub h0 (hp cC):=b4 (X:=[_,_,_,_,_]) h
  refine ae (λh2=>?_) λh2=>?_
  ·have h2:t<e:=by grind
   obtain⟨l,ad,vs,hl,ch,bl,fz,eD,g5,rfl,_,b2⟩:=ck.get h2;have d7:=agL hl;have d5:U=eD:=by rw[<-b2.1];grind
   subst d5;have d6:a9.getD t 0=l.getD i 0:=by rw[c5,agU,agS,hl];rfl
   obtain⟨eS,b6,b1⟩:=pH b2 h1;obtain⟨x,hx⟩:∃x,x=l.getD i 0:=⟨_,rfl⟩;rw[<-hx] at d6 b1;obtain⟨b,hb⟩:∃b,AL[i]? =some b:=⟨_,agM (by rw[hF.l];omega)⟩;have ez:b.2=Fy to a9 t:=by have:=hF.e i b hb;grind
   have av:b.2.length<=1000:=by grind[P9]
   have Y:=R7 to a9 t;rw[d6] at Y
   have skip:TT to t x=[]->aA ((t:Int)+1)/\(∃(t':Nat)(AL:List (Lq aH)),(t:Int)+1=t'/\t'<=e/\No AL U (λj=>if j=i then Fy to a9 t' else F j)/\St cC (az am (AL.map bX)::aV (AL.map (bI 2 qo))::az aa [iI (i:Int)]::az W (pc a8 (i+1) a7)::own 1 a8 (i+1) a7 (iv (tg++[to]))::M))/\e-((t:Int)+1).toNat<e-(t:Int).toNat:=λhe=>by
    rw[he,ahe] at Y;exact⟨ξ,⟨t+1,AL,σ,h2,by rw[Y];omega,h⟩,bR h2⟩
   refine aO ch h2 ⟨_,_,_,bl.cell0 ci,_,(af 2 h.l).cell0 sZZ,ax b6 h1 ⟨_,b1 _ ci,ae (λh3=>⟨_,(af 2 h.l).cell0 sZZ,ax b6 h1 ⟨_,b1 _ ci,ae (λh4=>?_) λh4=>?_⟩⟩) λh3=>?_⟩⟩
   ·have h3:0<=x:=agQ h3;have h4:x≠to:=by grind
    have he:TT to t x=[⟨(t:Int),x⟩]:=by unfold TT;grind
    rw[he] at Y;intro g6 hd;have h:=h.drawn hd;have f8:i<AL.length:=by grind
    refine⟨λu=>aq (hp u) (aM am) (AL.map bX)/\aq (hp u) (aM aa) [iI (i:Int)]/\sub h0 (hp u),⟨af 0 h.l,af 2 h.l,b4 (X:=[_,_,_,_,_]) h⟩,_,λu r=>r.2.1.cell0 sZZ,_,λu r=>r.2.1.cell0 sZZ,ax rfl h1 ⟨_,_,_,λu r=>r.1.cell sZZ (j:=i) (v:=bX b) (by rw[agS,hb];rfl),_,λu r=>r.2.1.cell0 sZZ,ax b6 h1 ⟨_,λu r=>b1 u r.2.2,ag h λf7 g4 h=>⟨⟨af 1 h.l,af 3 h.l,b4 (X:=[_,_,_,_,_,_]) h⟩,?_⟩⟩⟩⟩
    refine T0 (y:=⟨(t:Int),x⟩) (L:=az aa [iI (i:Int)]::az W (pc a8 (i+1) a7)::own 1 a8 (i+1) a7 (iv (tg++[to]))::M) hb hF.l av h (λu r s=>⟨r,af 0 s,?_⟩) λu o' c' h=>?_
    ·rw[hM] at s;exact aC 8 s
    ·refine⟨ξ,⟨t+1,_,σ,h2,(hF.set (q:=i) (o:=o') (c:=c') (l:=b.2++[⟨(t:Int),x⟩])).ext λj hj=>?_,h⟩,bR h2⟩
     try dsimp only
     split
     ·grind
     rfl
   ·have h4:x=to:=by grind
    exact skip (by unfold TT;grind)
   ·have h3:=agO h3;exact skip (by unfold TT;grind)
  ·have h2:e=t:=by grind
   subst h2
   refine⟨ξ,⟨i+1,tg++[to],AL,a8,a7,σ,h1,by grind,hF.ext λj hj=>?_,λj hj=>?_,h.pick 5 [0,1,3,4]⟩,bR h1⟩
   ·rw[bi]
    rcases Nat.lt_trichotomy j i with a4|a4|a4
    ·rw[agW ω,ag0 ω]
     grind
    ·subst a4;rw[ag0 rfl,ag0 ω,<-c5];have:(tg++[to]).getD j 0=to:=by rw[<-bP];simp
     rw[this];have e9:a9.length=e:=by grind
     rw[<-e9];rfl
    ·rw[agW ω,agW ω]
     grind
   ·rcases Nat.lt_or_ge j i with a4|a4
    ·rw[Zj ω];exact cz j a4
    ·have:j=i:=ω
     subst this;have:(tg++[to]).getD j 0=to:=by rw[<-bP];simp
     rw[this];omega
 --the gotos' rows are laid
 have h1:U=i:=by grind
 subst h1
 have be:b3.map (·.2)=(List.range U).map λj=>Ki (tg.getD j 0) (Gs.map λl=>l.getD j 0):=by
  rw[bc.map];exact ah0 λj hj=>by simp_all
 have al:=acZ (L:=_) h;rw[bc.l] at al
 refine(acX al (λes ba=>?_) ω).mono ?_
 ·rw[be] at ba;obtain⟨j,hj,rfl⟩:=agY.1 ba;have hj:=ahd.1 hj;refine abX (N:=As.length) (λz hz=>?_) ω (by grind);obtain⟨l,hl,rfl⟩:=agY.1 hz
  grind[List.getElem?_eq_getElem,List.getElem_mem]
 rintro _ el⟨Z,V,rfl,cx,eL,eB,dl⟩;rw[be] at cx;have h:=St.on (N:=[_,_,_]) dl h.l;clear dl al;have h:St el (az W (pc o2 U c2)::own 1 V.b Z.bs.length V.cb (iv Z.bs)::own 1 V.v Z.vs.length V.cv (iv Z.vs)::own 1 V.o Z.os.length V.co (iv Z.os)::own 1 o2 U c2 (iv tg)::M):=St.pick h 7 [5,0,1,2,6];rw[c6,hM] at h;refine⟨_,_,_,_,_,_,_,_,_,_,rfl,yQ (i:=5) h σ (by simp[aK]) λdc h=>?_⟩;have h:St dc (az W [vS o n cc,vS J.b O.bs.length J.cb,vS J.v O.vs.length J.cv,vS J.o O.os.length J.co,vS o2 U c2,vS V.b Z.bs.length V.cb,vS V.v Z.vs.length V.cv,vS V.o Z.os.length V.co]::own 1 V.b Z.bs.length V.cb (iv Z.bs)::own 1 V.v Z.vs.length V.cv (iv Z.vs)::own 1 V.o Z.os.length V.co (iv Z.os)::own 1 o2 U c2 (iv tg)::own 1 J.b O.bs.length J.cb (iv O.bs)::own 1 J.v O.vs.length J.cv (iv O.vs)::own 1 J.o O.os.length J.co (iv O.os)::own 1 o n cc (iv df)::az k2 z8::[has h0]):=h;have eu:aq (hp dc) (aM W) [vS o n cc,vS J.b O.bs.length J.cb,vS J.v O.vs.length J.cv,vS J.o O.os.length J.co,vS o2 U c2,vS V.b Z.bs.length V.cb,vS V.v Z.vs.length V.cv,vS V.o Z.os.length V.co]:=af 0 h.l;refine⟨_,_,_,_,_,_,_,_,_,_,_,_,_,_,_,_,_,_,_,_,_,_,_,_,eu.at sZZ rfl,aL (h.pick 10 [9,0,1,2,3,4,5,6,7,8]) rfl (by simp[aK]) λcI h=>?_⟩;have et:aq (hp cI) (aM k2) [vS o n cc,vS J.b O.bs.length J.cb,vS J.v O.vs.length J.cv,vS J.o O.os.length J.co,vS o2 U c2,vS V.b Z.bs.length V.cb,vS V.v Z.vs.length V.cv,vS V.o Z.os.length V.co]:=af 0 h.l
 refine⟨_,_,_,_,_,_,_,_,_,_,_,_,_,_,_,_,_,_,_,_,_,_,_,_,et.at sZZ rfl,⟨df,O,tg,Z⟩,⟨(o,n,cc),(J.b,O.bs.length,J.cb),(J.v,O.vs.length,J.cv),(J.o,O.os.length,J.co),(o2,U,c2),(V.b,Z.bs.length,V.cb),(V.v,Z.vs.length,V.cv),(V.o,Z.os.length,V.co)⟩,rfl,?_,⟨eK,e8,eL,eB⟩,?_⟩
 ·refine⟨by grind,λj l hl=>ef j l (by grind) hl,d4,bP,λj hj=>cz j hj,cx⟩
 ·have h2:St cI ([own 1 o n cc (iv df),own 1 J.b O.bs.length J.cb (iv O.bs),own 1 J.v O.vs.length J.cv (iv O.vs),own 1 J.o O.os.length J.co (iv O.os),own 1 o2 U c2 (iv tg),own 1 V.b Z.bs.length V.cb (iv Z.bs),own 1 V.v Z.vs.length V.cv (iv Z.vs),own 1 V.o Z.os.length V.co (iv Z.os)]++[has h0]):=h.pick 11 [9,6,7,8,5,2,3,4,10];have h3:=St.on (N:=[_,_,_,_,_,_,_,_]) h2 cd;exact St.pick h3 10 [0,1,2,3,4,5,6,7,9]
end
section
variable{w:aiA}{L:List aE}{o:aiz}{n c:Nat}
theorem Jd{sz l c:Nat}{a:aiz}{vs:List Value}{h:Hp}(ha:own sz a l c vs h):vs.length=l*sz:=by
 rcases ha with⟨_,rfl,_,rfl⟩|⟨_,_,_,_,_,_,h,_,_⟩
 ·simp
 omega
theorem C8{α:Type}[uj α]{sz:Nat}{f:List α->List Value}(hf:∀{h:Hp}{q:Lq α},eE q.1.1 (f q.2) h->aX h q.2 q.1.1 q.2.length){AL:List (Lq α)}{h h1 h2:Hp}(s1:sub h1 h)(a1:own 1 o n c (AL.map bX) h1)(s2:sub h2 h)(a2:aV (AL.map (bI sz f)) h2):aX h (AL.map (·.2)) o n:=by
 have hl:AL.length=n:=by grind[Jd,List.length_map]
 refine⟨by simp_all,λi x J=>?_⟩;rw[agS] at J;cases hb:AL[i]? with
 |none=>simp_all
 |some b=>
  rw[hb] at J;cases J;obtain⟨V,U,u⟩:=ju (A:=bI sz f b) (agY.2 ⟨b,agL hb,rfl⟩) a2
  rcases bH a1 with e|⟨O,e,hc⟩
  ·simp_all
  ·exact⟨O,_,e,(cJ (f:=λb:Lq α=>[bX b]) (n:=1) (λ_=>rfl) AL O (by rwa [<-List.map_eq_flatMap]) i b hb).mono s1,_,_,_,rfl,te u,(hf (bH u)).mono (U.trans s2)⟩
theorem T1{α:Type}{AL:List (Lq α)}{q:Lq α}:(AL++[q]).map bX=AL.map bX++[bX q]:=σ
end
section
variable{w:aiA}{a:aiz}{n c:Nat}
theorem T3{xs:List aD}(hr:aX (hp w) xs a n)(hn:n<=100000):ρ eZ [vS a n c] w λv w'=>∃o c',v=vS o n c'/\St w' (own 2 o n c' (du xs)::all w):=by
 refine p8 ((P5 hr ω).mono ?_);rintro _ u⟨o,c',rfl,h⟩;exact⟨_,_,_,rfl,b9 (bS (bD h) ⟨_,_,_,rfl,_,_,rfl,cq h⟩)⟩
theorem yR{xs:List Int}(hr:aX (hp w) xs a n)(hn:n<=1000000):ρ lL [vS a n c] w λv w'=>∃o c',v=vS o n c'/\St w' (own 1 o n c' (iv xs)::all w):=by
 have hl:=hr.1;refine zR ((dL hr ω ω).mono ?_);rintro _ u⟨o,c',rfl,h⟩;rw[hl] at h ⊢;exact⟨_,_,_,rfl,bm (bS (bD h) ⟨_,_,_,rfl,_,_,rfl,cq h⟩)⟩
theorem Vz{As:List (List aD)}(hr:aX (hp w) As a n)(hn:n<=100000)(hl:∀l∈As,l.length<=100000):ρ 158 [vS a n c,.func (.func eZ) #[] #[]] w λv w'=>∃o c',∃AL:List (Lq aD),v=vS o n c'/\AL.map (·.2)=As/\St w' (own 1 o n c' (AL.map bX)::aV (AL.map (bI 2 du))::all w):=by
 have a0:=hr.1;refine nP ⟨λo k c z u=>∃(j:Nat)(AL:List (Lq aD)),z=j/\j=k/\j<=n/\AL.map (·.2)=As.take j/\St u (own 1 o j c (AL.map bX)::aV (AL.map (bI 2 du))::all w),λ_ _ _ z _=>n-z.toNat,⟨0,[],rfl,rfl,agP _,rfl,aI 1 ((St.flat (M:=[])).2 (St.all w))⟩,?_⟩;rintro _ o _ c1 _ w1⟨j,AL,rfl,rfl,hj,hA,h⟩;have X:AL.length=j:=by have:=congrArg List.length hA;grind
 refine ae (λJ=>?_) λJ=>?_
 ·have J:j<n:=by simp_all
  obtain⟨l,ad,vs,hx,ha,V,o2,k3,k4,rfl,_,U⟩:=(hr.mono h.tail.aP).get J;have a4:=hl l (agL hx);have W:=U.1;refine aO ha J ⟨_,_,_,V.cell0 sZZ,a_.2 ⟨rfl,(T3 U ω).mono ?_⟩⟩;rintro _ w2⟨O,c3,rfl,h2⟩;have h:=St.eM h2 h.l;refine⟨_,_,_,rfl,ag h λk7 w3 h=>?_⟩;refine(aS (us:=AL.map bX) (vs:=[vS O k3 c3]) aT (rfl:ai Ty _=.slice _) (rfl:ai Ty _=.slice _) rfl rfl rfl (h.pick 4 [0,2,1,3]) rfl (by simp[aK]) (by grind) ω).mono ?_;rintro _ w4⟨o4,c4,rfl,h⟩;have Z:AL.map bX++[vS O k3 c3]=(AL++[((O,c3),l)]).map bX:=by rw[T1,<-W];rfl
  have Y:(AL++[((O,c3),l)]).map (bI 2 du)=AL.map (bI 2 du)++[own 2 O k3 c3 (du l)]:=by rw[ag7,<-W];rfl
  rw[Z] at h;have h:St _ (own 2 O k3 c3 (du l)::aV (AL.map (bI 2 du))::_):=h.pick 4 [2,3,0];have h:=St.snoc h;rw[<-Y] at h;exact⟨_,_,_,rfl,ξ,⟨j+1,_,σ,rfl,J,by simp_all[agR],h.swap⟩,bR J⟩
 ·have J:n=j:=by grind
  subst J;rw[ag4 ω] at hA;exact gJ (bS (bD h) ⟨_,_,_,rfl,_,_,AL,rfl,hA,cq h⟩)
theorem VA{As:List (List Int)}(hr:aX (hp w) As a n)(hn:n<=100000)(hl:∀l∈As,l.length<=1000000):ρ 160 [vS a n c,.func (.func lL) #[] #[]] w λv w'=>∃o c',∃AL:List (Lq Int),v=vS o n c'/\AL.map (·.2)=As/\St w' (own 1 o n c' (AL.map bX)::aV (AL.map (bI 1 iv))::all w):=by
 have a0:=hr.1;refine wv ⟨λo k c z u=>∃(j:Nat)(AL:List (Lq Int)),z=j/\j=k/\j<=n/\AL.map (·.2)=As.take j/\St u (own 1 o j c (AL.map bX)::aV (AL.map (bI 1 iv))::all w),λ_ _ _ z _=>n-z.toNat,⟨0,[],rfl,rfl,agP _,rfl,aI 1 ((St.flat (M:=[])).2 (St.all w))⟩,?_⟩;rintro _ o _ c1 _ w1⟨j,AL,rfl,rfl,hj,hA,h⟩;have X:AL.length=j:=by have:=congrArg List.length hA;grind
 refine ae (λJ=>?_) λJ=>?_
 ·have J:j<n:=by simp_all
  obtain⟨l,ad,vs,hx,ha,V,o2,k3,k4,rfl,_,U⟩:=(hr.mono h.tail.aP).get J;have a4:=hl l (agL hx);have W:=U.1;refine aO ha J ⟨_,_,_,V.cell0 sZZ,a_.2 ⟨rfl,(yR U ω).mono ?_⟩⟩;rintro _ w2⟨O,c3,rfl,h2⟩;have h:=St.eM h2 h.l;refine⟨_,_,_,rfl,ag h λk7 w3 h=>?_⟩;refine(aS (us:=AL.map bX) (vs:=[vS O k3 c3]) aT (rfl:ai Ty _=.slice _) (rfl:ai Ty _=.slice _) rfl rfl rfl (h.pick 4 [0,2,1,3]) rfl (by simp[aK]) (by grind) ω).mono ?_;rintro _ w4⟨o4,c4,rfl,h⟩;have Z:AL.map bX++[vS O k3 c3]=(AL++[((O,c3),l)]).map bX:=by rw[T1,<-W];rfl
  have Y:(AL++[((O,c3),l)]).map (bI 1 iv)=AL.map (bI 1 iv)++[own 1 O k3 c3 (iv l)]:=by rw[ag7,<-W];rfl
  rw[Z] at h;have h:St _ (own 1 O k3 c3 (iv l)::aV (AL.map (bI 1 iv))::_):=h.pick 4 [2,3,0];have h:=St.snoc h;rw[<-Y] at h;exact⟨_,_,_,rfl,ξ,⟨j+1,_,σ,rfl,J,by simp_all[agR],h.swap⟩,bR J⟩
 ·have J:n=j:=by grind
  subst J;rw[ag4 ω] at hA;exact ik (bS (bD h) ⟨_,_,_,rfl,_,_,AL,rfl,hA,cq h⟩)
theorem aeF{x:cP}{o:aiz}{k c':Nat}(hr:aX (hp w) x.acts o k)(hn:k<=100000):ρ eH [.agg #[iI x.st,iI x.tm,vS o k c']] w λv w'=>∃o' c'',v=.agg ⟨[iI x.st,iI x.tm,vS o' k c'']⟩/\St w' (own 2 o' k c'' (du x.acts)::all w):=by
 refine oR (ag (St.all w) λU Z h=>ag h λk2 w2 h=>⟨_,_,_,h.tail.cell 2,(T3 (hr.mono h.tail.aP) hn).mono ?_⟩);rintro _ Y⟨u,c2,rfl,O⟩;have h:=St.eM O h.l;refine⟨_,_,_,rfl,?_⟩;rw[ak];refine aR (i:=2) (h.pick 3 [2,0,1]) σ λX h=>?_;have J:aq (hp X) (aM U) [iI x.st,iI x.tm,vS u k c2]:=af 0 h.l;refine⟨_,_,_,_,_,J.at sZZ rfl,aL (h.pick 3 [2,0,1]) rfl (by simp[aK]) λW h=>?_⟩;have V:aq (hp W) (aM k2) [iI x.st,iI x.tm,vS u k c2]:=af 0 h.l;exact⟨_,_,_,_,_,V.at sZZ rfl,_,_,rfl,h.pick 3 [2]⟩
theorem VB{Cs:List cP}(hr:aX (hp w) Cs a n)(hn:n<=100000)(hl:∀x∈Cs,x.acts.length<=100000):ρ 162 [vS a n c,.func (.func eH) #[] #[]] w λv w'=>∃o c',∃CL:List Fu,v=vS o n c'/\CL.map oU=Cs/\St w' (own 3 o n c' (Fv CL)::aV (Dl CL)::all w):=by
 have a0:=hr.1;refine p_ ⟨λo k c z u=>∃(j:Nat)(CL:List Fu),z=j/\j=k/\j<=n/\CL.map oU=Cs.take j/\St u (own 3 o j c (Fv CL)::aV (Dl CL)::all w),λ_ _ _ z _=>n-z.toNat,⟨0,[],rfl,rfl,agP _,rfl,aI 3 ((St.flat (M:=[])).2 (St.all w))⟩,?_⟩;rintro _ o _ c1 _ w1⟨j,CL,rfl,rfl,hj,hA,h⟩;have Y:CL.length=j:=by have:=congrArg List.length hA;grind
 refine ae (λJ=>?_) λJ=>?_
 ·have J:j<n:=by simp_all
  obtain⟨x,ad,vs,X,ha,U,o2,c2,rfl,W⟩:=hr.get J;have V:=hl x (agL X);refine aO ha J ⟨_,_,_,_,_,U.at h.tail.aP rfl,ag h λk5 w2 h=>aL h rfl (by simp[aK]) λw3 h=>?_⟩;have Z:aq (hp w3) (aM k5) [iI x.st,iI x.tm,vS o2 x.acts.length c2]:=af 0 h.l;refine⟨_,_,_,_,_,Z.at sZZ rfl,a_.2 ⟨rfl,(aeF (W.mono h.tail.tail.aP) V).mono ?_⟩⟩;rintro _ w4⟨O,c3,rfl,h2⟩;have h:=St.eM h2 h.l;refine⟨_,_,_,_,_,rfl,ag h λa4 w5 h=>?_⟩;refine(aS (us:=Fv CL) (vs:=[iI x.st,iI x.tm,vS O x.acts.length c3]) aT (rfl:ai Ty _=.slice _) (rfl:ai Ty _=.slice _) rfl rfl rfl (h.pick 5 [0,3,1,4]) rfl (by simp[aK]) (by grind) ω).mono ?_;rintro _ w6⟨o4,c4,rfl,h⟩;have e1:Fv CL++[iI x.st,iI x.tm,vS O x.acts.length c3]=Fv (CL++[((x.st,x.tm),((O,c3),x.acts))]):=by rw[Ng];rfl
  have e2:Dl (CL++[((x.st,x.tm),((O,c3),x.acts))])=Dl CL++[own 2 O x.acts.length c3 (du x.acts)]:=by unfold Dl;rw[ag7];rfl
  rw[e1] at h;have h:St _ (own 2 O x.acts.length c3 (du x.acts)::aV (Dl CL)::_):=h.pick 4 [2,3,0];have h:=St.snoc h;rw[<-e2] at h;exact⟨_,_,_,rfl,ξ,⟨j+1,_,σ,rfl,J,by rw[ag7,hA,agR,X];rfl,h.swap⟩,bR J⟩
 ·have J:n=j:=by grind
  subst J;rw[ag4 ω] at hA;exact jQ (bS (bD h) ⟨_,_,_,rfl,_,_,CL,rfl,hA,cq h⟩)
theorem Zk{r:fT}{b d e f i j:Nat}{o1 o2 o3:aiz}(h1:aX (hp w) r.bs o1 b)(h2:aX (hp w) r.vs o2 d)(h3:aX (hp w) r.os o3 e)(hb:b<=1000000)(hd:d<=1000000)(he:e<=1000000):ρ 358 [.agg #[vS o1 b f,vS o2 d i,vS o3 e j]] w λv w'=>∃p1 p2 p3 c1 c2 c3,v=.agg ⟨[vS p1 b c1,vS p2 d c2,vS p3 e c3]⟩/\St w' (own 1 p1 b c1 (iv r.bs)::own 1 p2 d c2 (iv r.vs)::own 1 p3 e c3 (iv r.os)::all w):=by
 refine IW (ag (St.all w) λY w1 h=>ag h λk2 w2 h w3 V=>?_);have h:=h.drawn V;obtain⟨h0,J,W,h⟩:=h.freeze;have O:aq h0 (aM Y) [vS o1 b f,vS o2 d i,vS o3 e j]:=af 0 J;have U:sub (hp w) h0:=aC 1 J;refine⟨λu=>sub h0 (hp u),W,_,_,_,λu s=>O.cell0 s,_,_,_,λu s=>O.cell s (j:=1) rfl,_,_,_,λu s=>O.cell s (j:=2) rfl,(yR (h1.mono (U.trans W)) hb).mono ?_⟩;rintro _ w4⟨p1,c1,rfl,X⟩;have h:=St.eM X h.l;refine⟨_,_,_,rfl,aC 2 h.l,(yR (h2.mono (U.trans (aC 2 h.l))) hd).mono ?_⟩;rintro _ w5⟨p2,c2,rfl,h5⟩;have h:=St.eM h5 h.l;refine⟨_,_,_,rfl,aC 3 h.l,(yR (h3.mono (U.trans (aC 3 h.l))) he).mono ?_⟩;rintro _ w6⟨p3,c3,rfl,Z⟩;have h:=St.eM Z h.l;refine⟨_,_,_,rfl,aC 4 h.l,aL (h.pick 4 [3,2,1,0]) rfl (by simp[aK]) λw7 h=>?_⟩;have r7:aq (hp w7) (aM k2) [vS p1 b c1,vS p2 d c2,vS p3 e c3]:=af 0 h.l;refine⟨_,_,_,_,_,_,_,_,_,r7.at sZZ rfl,p1,p2,p3,c1,c2,c3,rfl,?_⟩;exact(St.on (N:=[_,_,_]) h.tail J).pick 4 [0,1,2]
end
abbrev zz3:List Value:=[zS,zS,zS]
structure Kl where
 x:GA
 st:GN
 ask:Int
 int:Int
 lk:GN
 A:GN
 G:GN
 C:GN
 p:PA
 clr:Bool
abbrev Kl.Wa(y:Kl):List Value:=[gn y.A,gn y.G,gn y.C,gn y.p.d,gn y.p.a1,gn y.p.a2,gn y.p.a3,gn y.p.t,gn y.p.g1,gn y.p.g2,gn y.p.g3,vB y.clr]
abbrev Kl.cells(y:Kl):List Value:=vS y.x.ta y.x.tl y.x.tc::vS y.x.na y.x.nl y.x.nc::vS y.x.la y.x.ll y.x.lc::iI y.x.s::vS y.x.pa y.x.pl y.x.pc::gn y.st::iI y.ask::iI y.int::gn y.lk::y.Wa
structure zV(h:Hp)(k:Nat)(y:Kl)(g:ah)(As:List (List aD))(Gs:List (List Int))(Cs:List cP)(p:dB):Prop where
 row:aq h (aM k) y.cells
 g:gR h g y.x
 A:aX h As y.A.1 y.A.2.1
 G:aX h Gs y.G.1 y.G.2.1
 C:aX h Cs y.C.1 y.C.2.1
 p:Vm h p y.p
 aB:y.A.2.1<=100000/\∀l∈As,l.length<=100000
 gB:y.G.2.1<=100000/\∀l∈Gs,l.length<=1000000
 cB:y.C.2.1<=100000/\∀x∈Cs,x.acts.length<=100000
 pB:y.p.d.2.1<=1000000/\y.p.a1.2.1<=1000000/\y.p.t.2.1<=1000000/\y.p.g1.2.1<=1000000
theorem zV.mono{h h':Hp}{k:Nat}{y:Kl}{g:ah}{As:List (List aD)}{Gs:List (List Int)}{Cs:List cP}{p:dB}(s:sub h h')(r:zV h k y g As Gs Cs p):zV h' k y g As Gs Cs p:=⟨r.row.mono s,r.g.mono s,r.A.mono s,r.G.mono s,r.C.mono s,r.p.mono s,r.aB,r.gB,r.cB,r.pB⟩
theorem zV.Wa{h:Hp}{k:Nat}{y:Kl}{g:ah}{As:List (List aD)}{Gs:List (List Int)}{Cs:List cP}{p:dB}(r:zV h k y g As Gs Cs p):aq h ((aM k).add 9) y.Wa:=aq.drop (us:=[vS y.x.ta y.x.tl y.x.tc,vS y.x.na y.x.nl y.x.nc,vS y.x.la y.x.ll y.x.lc,iI y.x.s,vS y.x.pa y.x.pl y.x.pc,gn y.st,iI y.ask,iI y.int,gn y.lk]) r.row
theorem zV.agE{h:Hp}{k:Nat}{y:Kl}{g:ah}{As:List (List aD)}{Gs:List (List Int)}{Cs:List cP}{p:dB}(r:zV h k y g As Gs Cs p):aq h (aM k) y.x.cells:=aq.take (vs:=gn y.st::iI y.ask::iI y.int::gn y.lk::y.Wa) r.row
section
variable{w:aiA}{k:Nat}{y:Kl}{g:ah}{As:List (List aD)}{Gs:List (List Int)}{Cs:List cP}{p:dB}
theorem Nq:ρ 46 [vP (some (aM k))] w λv w'=>v=vP (some (aM k))/\w'=w:=wq (bB rfl ⟨rfl,rfl⟩)
theorem R8{t:Addr}{x:GA}(hr:aq (hp w) t x.cells)(hg:gR (hp w) g x)(hb:lq g)(hbT:g.terms.length*24<=140737488355328)(hbN:g.cR.length*16<=140737488355328):ρ 47 [.pointer (some t)] w λv w'=>∃(x':GA)(os:List (aiz×Nat)),v=.agg ⟨x'.cells⟩/\DU g x'/\os.length=g.prods.length/\St w' (y7 g x' os++all w):=by
 refine qz (ag (St.all w) λJ Z h=>bB rfl ?_);refine⟨_,_,_,_,_,_,_,_,_,_,_,_,_,hr.at h.aP rfl,(YV (hg.mono h.aP) hb hbT hbN).mono ?_⟩;rintro _ U⟨x',os,rfl,W,Y,u⟩;have u:St U (y7 g x' os++(az J z5::all w)):=St.on u h.l;refine⟨_,_,_,_,_,_,_,_,_,_,_,_,_,rfl,aL (St.pick (show St U [_,_,_,_,_,_,_] from u) 6 [5,0,1,2,3,4]) rfl (by simp[aK]) λX O=>?_⟩;have V:aq (hp X) (aM J) [vS x'.ta x'.tl x'.tc,vS x'.na x'.nl x'.nc,vS x'.la x'.ll x'.lc,iI x'.s,vS x'.pa x'.pl x'.pc]:=af 0 O.l;exact⟨_,_,_,_,_,_,_,_,_,_,_,_,_,V.at sZZ rfl,x',os,rfl,W,Y,O.tail⟩
theorem Lw(hs:zV (hp w) k y g As Gs Cs p)(hb:lq g)(hbT:g.terms.length*24<=140737488355328)(hbN:g.cR.length*16<=140737488355328):ρ 9 [vP (some (aM k))] w λv w'=>∃(x':GA)(os:List (aiz×Nat)),v=.agg ⟨x'.cells⟩/\DU g x'/\os.length=g.prods.length/\St w' (y7 g x' os++all w):=by
 refine sg (ag (St.all w) λJ Z h=>Nq.mono ?_);rintro _ w2⟨rfl,rfl⟩;refine⟨_,rfl,(R8 ((hs.mono h.aP).agE) (hs.mono h.aP).g hb hbT hbN).mono ?_⟩;rintro _ U⟨x',os,rfl,W,Y,u⟩;have u:St U (y7 g x' os++(az J z5::all w)):=St.on u h.l;refine⟨_,_,_,_,_,_,_,_,_,_,_,_,_,rfl,aL (St.pick (show St U [_,_,_,_,_,_,_] from u) 6 [5,0,1,2,3,4]) rfl (by simp[aK]) λX O=>?_⟩;have V:aq (hp X) (aM J) [vS x'.ta x'.tl x'.tc,vS x'.na x'.nl x'.nc,vS x'.la x'.ll x'.lc,iI x'.s,vS x'.pa x'.pl x'.pc]:=af 0 O.l;exact⟨_,_,_,_,_,_,_,_,_,_,_,_,_,V.at sZZ rfl,x',os,rfl,W,Y,O.tail⟩
theorem abY(hs:zV (hp w) k y g As Gs Cs p):ρ 11 [vP (some (aM k))] w λv w'=>v=vB y.clr/\w'=w:=by
 refine vc (Nq.mono ?_);rintro _ u⟨rfl,rfl⟩;refine⟨_,rfl,(@vg (some ((aM k).add 9)) u (λv w'=>v=vB y.clr/\w'=u) (fM rfl ⟨_,hs.Wa.cell sZZ (j:=11) rfl,rfl,rfl⟩)).mono ?_⟩;rintro _ J⟨rfl,rfl⟩;exact⟨_,rfl,rfl,rfl⟩
theorem R9{t:Addr}(ht:aq (hp w) t y.Wa)(hA:aX (hp w) As y.A.1 y.A.2.1)(hG:aX (hp w) Gs y.G.1 y.G.2.1)(hC:aX (hp w) Cs y.C.1 y.C.2.1)(aB:y.A.2.1<=100000/\∀l∈As,l.length<=100000)(gB:y.G.2.1<=100000/\∀l∈Gs,l.length<=1000000)(cB:y.C.2.1<=100000/\∀x∈Cs,x.acts.length<=100000):
  ρ 80 [.pointer (some t)] w λv w'=>∃o1 c1 o2 c2 o3 c3,∃(AL:List (Lq aD))(GL:List (Lq Int))(CL:List Fu),v=.agg ⟨[vS o1 y.A.2.1 c1,vS o2 y.G.2.1 c2,vS o3 y.C.2.1 c3]⟩/\AL.map (·.2)=As/\GL.map (·.2)=Gs/\CL.map oU=Cs/\
   St w' (own 1 o1 y.A.2.1 c1 (AL.map bX)::aV (AL.map (bI 2 du))::own 1 o2 y.G.2.1 c2 (GL.map bX)::aV (GL.map (bI 1 iv))::own 3 o3 y.C.2.1 c3 (Fv CL)::aV (Dl CL)::all w):=by
 refine su (ag (St.all w) λk1 w1 h=>bB rfl λw3 hd=>?_);have h:=h.drawn hd
 have al:∀{u:aiA}{L:List aE}{I:aiA->Prop}{K:aiz->Nat->Nat->aiA->Prop},Gr w u->St u L->(∀u,aF L (hp u)->I u)->(∀o U V,∀AL:List (Lq aD),AL.map (·.2)=As->St V (own 1 o y.A.2.1 U (AL.map bX)::aV (AL.map (bI 2 du))::L)->K o y.A.2.1 U V)->ρ 158 [vS y.A.1 y.A.2.1 y.A.2.2,.func (.func eZ) #[] #[]] u λv V=>∃o k U,v=vS o k U/\I V/\K o k U V:=λg h hI hK=>by
  refine(Vz (hA.mono g) aB.1 aB.2).mono ?_;rintro _ V⟨o,U,AL,rfl,J,h'⟩;have h':=St.Oo h' h.l;exact⟨_,_,_,rfl,hI _ h'.tail.tail.l,hK _ _ _ AL J h'⟩
 have Y:∀{u:aiA}{L:List aE}{I:aiA->Prop}{K:aiz->Nat->Nat->aiA->Prop},Gr w u->St u L->(∀u,aF L (hp u)->I u)->(∀o U V,∀GL:List (Lq Int),GL.map (·.2)=Gs->St V (own 1 o y.G.2.1 U (GL.map bX)::aV (GL.map (bI 1 iv))::L)->K o y.G.2.1 U V)->ρ 160 [vS y.G.1 y.G.2.1 y.G.2.2,.func (.func lL) #[] #[]] u λv V=>∃o k U,v=vS o k U/\I V/\K o k U V:=λg h hI hK=>by
  refine(VA (hG.mono g) gB.1 gB.2).mono ?_;rintro _ V⟨o,U,AL,rfl,J,h'⟩;have h':=St.Oo h' h.l;exact⟨_,_,_,rfl,hI _ h'.tail.tail.l,hK _ _ _ AL J h'⟩
 have fin:∀{u:aiA}{kd:Nat}{o1 o2:aiz}{c1 c2:Nat}{AL:List (Lq aD)}{GL:List (Lq Int)},AL.map (·.2)=As->GL.map (·.2)=Gs->St u (az kd [zS,zS]::own 1 o1 y.A.2.1 c1 (AL.map bX)::aV (AL.map (bI 2 du))::own 1 o2 y.G.2.1 c2 (GL.map bX)::aV (GL.map (bI 1 iv))::az k1 zz3::all w)->
   bA u (aM kd) [vS o1 y.A.2.1 c1,vS o2 y.G.2.1 c2] λw9=>∃o8 b6 a7,w9.cell? (t.add 2)=some (vS o8 b6 a7)/\ρ 162 [vS o8 b6 a7,.func (.func eH) #[] #[]] w9 λv3 X=>∃o9 am b4,v3=vS o9 am b4/\∃a6 Z a0 ad a9 b1,rowAt X (aM kd) 0 2=some [vS a6 Z a0,vS ad a9 b1]/\bA X (aM k1) [vS a6 Z a0,vS ad a9 b1,vS o9 am b4] λW=>∃b2 b5 k26 b3 a8 a4 a5 av aa,rowAt W (aM k1) 0 3=some [vS b2 b5 k26,vS b3 a8 a4,vS a5 av aa]/\
    ∃o1 c1 o2 c2 o3 c3,∃(AL:List (Lq aD))(GL:List (Lq Int))(CL:List Fu),vG [vS b2 b5 k26,vS b3 a8 a4,vS a5 av aa]=.agg ⟨[vS o1 y.A.2.1 c1,vS o2 y.G.2.1 c2,vS o3 y.C.2.1 c3]⟩/\AL.map (·.2)=As/\GL.map (·.2)=Gs/\CL.map oU=Cs/\
     St W (own 1 o1 y.A.2.1 c1 (AL.map bX)::aV (AL.map (bI 2 du))::own 1 o2 y.G.2.1 c2 (GL.map bX)::aV (GL.map (bI 1 iv))::own 3 o3 y.C.2.1 c3 (Fv CL)::aV (Dl CL)::all w):=λ{u kd o1 o2 c1 c2 AL GL} J O h=>by
  refine aL h rfl (by simp[aK]) λw9 h=>?_;have g9:Gr w w9:=aC 6 h.l;refine⟨_,_,_,ht.cell g9 (j:=2) rfl,(VB (hC.mono g9) cB.1 cB.2).mono ?_⟩;rintro _ X⟨o3,c3,CL,rfl,b7,h'⟩;have h:=St.Oo h' h.l;have ba:aq (hp X) (aM kd) [vS o1 y.A.2.1 c1,vS o2 y.G.2.1 c2]:=af 2 h.l;refine⟨_,_,_,rfl,_,_,_,_,_,_,ba.at sZZ rfl,aL (h.pick 8 [7,3,4,5,6,0,1]) rfl (by simp[aK]) λW h=>?_⟩;have bb:aq (hp W) (aM k1) [vS o1 y.A.2.1 c1,vS o2 y.G.2.1 c2,vS o3 y.C.2.1 c3]:=af 0 h.l;exact⟨_,_,_,_,_,_,_,_,_,bb.at sZZ rfl,o1,c1,o2,c2,o3,c3,AL,GL,CL,rfl,J,O,b7,h.tail⟩
 refine⟨λu=>Gr w u,h.aP,_,_,_,λu s=>ht.cell0 s,_,_,_,λu s=>ht.cell s (j:=1) rfl,?_,?_⟩
 ·refine al h.aP h (λu s=>aC 1 s) λo1 c1 u AL J h=>⟨?_,?_⟩
  ·refine Y (aC 3 h.l) h (λu s=>aC 3 s) λo2 c2 u GL O h=>ag h λkd u h=>⟨aC 6 h.l,fin J O (h.pick 6 [0,3,4,1,2,5])⟩
  ·exact ag h λkd u h=>⟨aC 4 h.l,Y (aC 4 h.l) h (λu s=>aC 4 s) λo2 c2 u GL O h=>fin J O (h.pick 6 [2,3,4,0,1,5])⟩
 ·exact ag h λkd u h=>⟨aC 2 h.l,al (aC 2 h.l) h (λu s=>aC 2 s) λo1 c1 u AL J h=>Y (aC 4 h.l) h (λu s=>aC 4 s) λo2 c2 u GL O h=>fin J O (h.pick 6 [4,2,3,0,1,5])⟩
theorem VC(hs:zV (hp w) k y g As Gs Cs p):ρ 37 [vP (some (aM k))] w λv w'=>∃o1 c1 o2 c2 o3 c3,∃(AL:List (Lq aD))(GL:List (Lq Int))(CL:List Fu),v=.agg ⟨[vS o1 y.A.2.1 c1,vS o2 y.G.2.1 c2,vS o3 y.C.2.1 c3]⟩/\AL.map (·.2)=As/\GL.map (·.2)=Gs/\CL.map oU=Cs/\
      St w' (own 1 o1 y.A.2.1 c1 (AL.map bX)::aV (AL.map (bI 2 du))::own 1 o2 y.G.2.1 c2 (GL.map bX)::aV (GL.map (bI 1 iv))::own 3 o3 y.C.2.1 c3 (Fv CL)::aV (Dl CL)::all w):=by
  refine sj (ag (St.all w) λk1 w1 h=>Nq.mono ?_)
  rintro _ w2⟨rfl,rfl⟩
  have hs1:=hs.mono h.aP
  refine⟨_,rfl,(R9 hs1.Wa hs1.A hs1.G hs1.C hs1.aB hs1.gB hs1.cB).mono ?_⟩
  rintro _ w3⟨o1,c1,o2,c2,o3,c3,AL,GL,CL,rfl,hAL,hGL,hCL,h3⟩
  have h:=St.on (N:=[_,_,_,_,_,_]) h3 h.l
  refine⟨_,_,_,_,_,_,_,_,_,rfl,aL (St.pick h 8 [6,0,1,2,3,4,5,7]) rfl (by simp[aK]) λw4 h=>?_⟩
  have r4:aq (hp w4) (aM k1) [vS o1 y.A.2.1 c1,vS o2 y.G.2.1 c2,vS o3 y.C.2.1 c3]:=af 0 h.l
  exact⟨_,_,_,_,_,_,_,_,_,r4.at sZZ rfl,o1,c1,o2,c2,o3,c3,AL,GL,CL,rfl,hAL,hGL,hCL,h.tail⟩
theorem VD{t:Addr}(ht:aq (hp w) t y.Wa)(hp1:Vm (hp w) p y.p)(pB:y.p.d.2.1<=1000000/\y.p.a1.2.1<=1000000/\y.p.t.2.1<=1000000/\y.p.g1.2.1<=1000000):
  ρ 302 [.pointer (some t)] w λv w'=>∃x:PA,v=.agg ⟨x.cells⟩/\St w' (pkL p x (all w)):=by
 refine uf (ag (St.all w) λk1 w1 h=>bB rfl λw3 hd=>?_);have h:=h.drawn hd;have r4:aq (hp w) (t.add 4) [gn y.p.a1,gn y.p.a2,gn y.p.a3]:=(aq.drop (us:=[gn y.A,gn y.G,gn y.C,gn y.p.d]) ht).take (vs:=[gn y.p.t,gn y.p.g1,gn y.p.g2,gn y.p.g3,vB y.clr]);have r8:aq (hp w) (t.add 8) [gn y.p.g1,gn y.p.g2,gn y.p.g3]:=(aq.drop (us:=[gn y.A,gn y.G,gn y.C,gn y.p.d,gn y.p.a1,gn y.p.a2,gn y.p.a3,gn y.p.t]) ht).take (vs:=[vB y.clr]);refine⟨λu=>Gr w u,h.aP,_,_,_,λu s=>ht.cell s (j:=3) rfl,_,_,_,_,_,_,_,_,_,λu s=>by rw[add_add];exact r4.at s rfl,_,_,_,λu s=>by rw[add_add];exact ht.cell s (j:=7) rfl,_,_,_,_,_,_,_,_,_,λu s=>by rw[add_add];exact r8.at s rfl,(yR (hp1.d.mono h.aP) pB.1).mono ?_⟩;rintro _ w8⟨o1,c1,rfl,h8⟩;have h:=St.eM h8 h.l;refine⟨_,_,_,rfl,aC 2 h.l,(Zk (hp1.a.rb.mono (aC 2 h.l)) (hp1.a.rv.mono (aC 2 h.l)) (hp1.a.ro.mono (aC 2 h.l)) pB.2.1 hp1.a.lv hp1.a.lo).mono ?_⟩;rintro _ w9⟨p1,p2,Y,W,Z,X,rfl,h9⟩;have h:=St.on (N:=[_,_,_]) h9 h.l;refine⟨_,_,_,_,_,_,_,_,_,rfl,aC 5 h.l,(yR (hp1.t.mono (aC 5 h.l)) pB.2.2.1).mono ?_⟩;rintro _ a4⟨o2,c2,rfl,J⟩;have h:=St.eM J h.l;refine⟨_,_,_,rfl,aC 6 h.l,(Zk (hp1.g.rb.mono (aC 6 h.l)) (hp1.g.rv.mono (aC 6 h.l)) (hp1.g.ro.mono (aC 6 h.l)) pB.2.2.2 hp1.g.lv hp1.g.lo).mono ?_⟩;rintro _ a0⟨s1,s2,s3,t1,t2,t3,rfl,V⟩;have h:=St.on (N:=[_,_,_]) V h.l;refine⟨_,_,_,_,_,_,_,_,_,rfl,aC 9 h.l,aL (St.pick h 9 [8,0,1,2,3,4,5,6,7]) rfl (by simp[aK]) λO h=>?_⟩;have U:aq (hp O) (aM k1) [vS o1 y.p.d.2.1 c1,vS p1 y.p.a1.2.1 W,vS p2 y.p.a2.2.1 Z,vS Y y.p.a3.2.1 X,vS o2 y.p.t.2.1 c2,vS s1 y.p.g1.2.1 t1,vS s2 y.p.g2.2.1 t2,vS s3 y.p.g3.2.1 t3]:=af 0 h.l;refine⟨_,_,_,_,_,_,_,_,_,_,_,_,_,_,_,_,_,_,_,_,_,_,_,_,U.at sZZ rfl,⟨(o1,y.p.d.2.1,c1),(p1,y.p.a1.2.1,W),(p2,y.p.a2.2.1,Z),(Y,y.p.a3.2.1,X),(o2,y.p.t.2.1,c2),(s1,y.p.g1.2.1,t1),(s2,y.p.g2.2.1,t2),(s3,y.p.g3.2.1,t3)⟩,rfl,h.tail.pick 9 [7,4,5,6,3,0,1,2,8]⟩
theorem Zl(hs:zV (hp w) k y g As Gs Cs p):ρ 218 [vP (some (aM k))] w λv w'=>∃x:PA,v=.agg ⟨x.cells⟩/\St w' (pkL p x (all w)):=by
 refine ud (ag (St.all w) λU X h=>Nq.mono ?_);rintro _ Y⟨rfl,rfl⟩;have u:=hs.mono h.aP;refine⟨_,rfl,(VD u.Wa u.p u.pB).mono ?_⟩;rintro _ W⟨x,rfl,O⟩;have h:=St.on (N:=[_,_,_,_,_,_,_,_]) O h.l;refine⟨_,_,_,_,_,_,_,_,_,_,_,_,_,_,_,_,_,_,_,_,_,_,_,_,rfl,aL (vs:=x.cells) (St.pick h 9 [8,0,1,2,3,4,5,6,7]) rfl (by simp[aK,PA.cells]) λV h=>?_⟩;have J:aq (hp V) (aM U) x.cells:=af 0 h.l;exact⟨_,_,_,_,_,_,_,_,_,_,_,_,_,_,_,_,_,_,_,_,_,_,_,_,J.at sZZ rfl,x,rfl,h.tail⟩
end
structure SkP where
 s:aiz
 cs:Nat
 n:aiz
 cn:Nat
abbrev T4(k:Nat)(st ids:List Int)(x:SkP)(L:List aE):List aE:=az k [iI 0,vS x.s st.length x.cs,vS x.n ids.length x.cn]::own 1 x.s st.length x.cs (iv st)::own 1 x.n ids.length x.cn (iv ids)::L
abbrev VE:=(Int×Int×Int)×Lq Int
def Qv(b:VE):List Value:=[iI b.1.1,iI b.1.2.1,iI b.1.2.2,bX b.2]
def C9(bs:List VE):List Value:=bs.flatMap Qv
def ndO(bs:List VE):List aE:=bs.map λb=>bI 1 iv b.2
def ym(b:VE):NdT:=⟨b.1.1,b.1.2.1,b.1.2.2,b.2.2⟩
theorem C_(xs:List VE):(C9 xs).length=xs.length*4:=pJ (f:=Qv) (n:=4) (λ_=>rfl) xs
structure ArP where
 n:aiz
 cn:Nat
 t:aiz
 ct:Nat
abbrev Qw(k:Nat)(nd:List VE)(tk:List Bool)(x:ArP)(L:List aE):List aE:=az k [vS x.n nd.length x.cn,vS x.t tk.length x.ct]::own 4 x.n nd.length x.cn (C9 nd)::aV (ndO nd)::own 1 x.t tk.length x.ct (bv tk)::L
section
variable{w:aiA}{L:List aE}{k:Nat}{st ids:List Int}{x:SkP}{q i:Int}
theorem af4(h:St w L):ρ 124 [iI 0] w λv w'=>∃b,v=vP (some (aM b))/\St w' (T4 b [] [] ⟨none,0,none,0⟩ L):=
 JW (ag h λb u h=>⟨b,rfl,(aI 1 (aI 1 h)).pick 3 [2,0,1]⟩)
theorem Zm(h:St w (T4 k st ids x L))(hl:st.length<64)(hi:ids.length<=1000):ρ 223 [vP (some (aM k)),iI q,iI i] w λv w'=>v=iI 0/\∃x',St w' (T4 k (st++[q]) (ids++[i]) x' L):=by
 refine xJ (bB rfl ⟨_,_,_,by rw[ak];exact h.cell 1,bB (ahf ω) ⟨_,_,_,by rw[ak];exact h.cell 1,ag h λk5 w1 h=>?_⟩⟩);refine(aS (us:=iv st) (vs:=[iI q]) aT (rfl:ai Ty _=.slice _) (rfl:ai Ty _=.slice _) rfl rfl rfl (h.pick 4 [0,2,1,3]) rfl (by simp[aK]) (by grind) ω).mono ?_;rintro _ w2⟨O,c3,rfl,h⟩;refine⟨_,_,_,rfl,?_⟩
 show st1 _ ((aM k).add 1) _ _
 rw[ak];refine aR (h.pick 4 [2,0,3]) σ λY h=>⟨_,_,_,by rw[ak];exact h.cell 2,ag h λu Z h=>?_⟩;refine(aS (us:=iv ids) (vs:=[iI i]) aT (rfl:ai Ty _=.slice _) (rfl:ai Ty _=.slice _) rfl rfl rfl (h.pick 4 [0,3,1,2]) rfl (by simp[aK]) (by grind) ω).mono ?_;rintro _ X⟨W,J,rfl,h⟩;refine⟨_,_,_,rfl,?_⟩
 show st1 _ ((aM k).add 2) _ _
 rw[ak];refine aR (h.pick 4 [2,3,0]) σ λw6 h=>⟨rfl,⟨O,c3,W,J⟩,?_⟩;have V:iv (st++[q])=iv st++[iI q]:=by simp[iv]
 have U:iv (ids++[i])=iv ids++[iI i]:=by simp[iv]
 unfold T4;rw[V,U,agV,agV];exact h
theorem af5{n:Nat}(h:St w (T4 k st ids x L))(hl:st.length<=64)(hi:ids.length=st.length)(hn:n<=st.length):ρ 225 [vP (some (aM k)),iI (n:Int)] w λv w'=>∃o c x',v=.tuple #[vS o n c,iI 0]/\St w' (own 1 o n c (iv (ids.drop (st.length-n)))::T4 k (st.take (st.length-n)) (ids.take (st.length-n)) x' L):=by
 refine zf ⟨λb u=>b=false/\u=w,bB rfl (bB (ahf ω) ⟨_,_,_,by rw[ak];exact h.cell 1,ahf ω,rfl⟩),?_⟩;rintro _ _ Z⟨rfl,rfl⟩;obtain⟨m,X⟩:∃m,m=st.length-n:=⟨_,rfl⟩;have W:(st.length:Int)-n=(m:Int):=ω
 have Y:=bD h.tail;have J:=bD h.tail.tail;rw[<-X];refine bB rfl ⟨_,_,_,by rw[ak];exact h.cell 1,ξ,_,_,_,by rw[ak];exact h.cell 2,?_⟩;rw[W];refine dy ω J ?_;have V:aX (hp Z) (ids.drop m) (fK x.n m x.cn 1) (ids.length-m):=(iD (h.pick 3 [2])).drop ω J;have U:ids.length-m=n:=ω
 rw[U] at V ⊢;refine(dL V (by grind) (by grind)).mono ?_;rintro _ w2⟨o5,c5,rfl,O⟩;rw[show(ids.drop m).length=n from by simp_all] at O ⊢;have h:=St.eM O h.l;refine⟨_,_,_,rfl,bm (bS (bD h) ?_)⟩;have h:=cq h;refine⟨_,_,_,rfl,_,_,_,by rw[ak];exact h.tail.cell 1,iH ω ?_⟩
 show st1 w2 ((aM k).add 1) _ _
 rw[ak];refine aR (h.pick 4 [1,0,2,3]) σ λw4 h=>⟨_,_,_,by rw[ak];exact h.cell 2,iH ω ?_⟩
 show st1 w4 ((aM k).add 2) _ _
 rw[ak];refine aR h σ λw5 h=>⟨_,_,⟨fK x.s 0 x.cs 1,x.cs,fK x.n 0 x.cn 1,x.cn⟩,rfl,?_⟩;have h1:=qS (k:=m) (h.pick 4 [2,0,1,3]) ω;have O:=qS (k:=m) (h1.pick 4 [3,0,1,2]) ω;rw[ahH] at O;unfold T4;rw[ahl,ahl,show min m st.length=m by omega,show min m ids.length=m by omega];have e1:iv (st.take m)=(iv st).take m:=by simp[iv,List.map_take]
 have e2:iv (ids.take m)=(iv ids).take m:=by simp[iv,List.map_take]
 rw[e1,e2];exact O.pick 4 [3,2,1,0]
theorem af6(h:St w (T4 k st ids x L))(hl:st.length<=64):ρ 228 [vP (some (aM k))] w λv w'=>v=iI (oO st)/\hp w'=hp w:=by
 refine zj (bB rfl ⟨_,_,_,by rw[ak];exact h.cell 1,ae (λJ=>?_) λJ=>?_⟩)
 ·have J:st=[]:=ag2 (by simp_all);subst J;exact⟨_,h.cell 0,rfl,rfl⟩
 ·have J:0<st.length:=by grind
  intro V O;have h:=h.drawn O;obtain⟨W,ha,hc⟩:=pH (iD (h.pick 3 [1])) (i:=st.length-1) ω;have U:(st.length:Int)-1=((st.length-1:Nat):Int):=ω
  refine⟨λu=>Gr V u,Gr.refl _,_,_,_,λu g=>by rw[ak];exact(af 0 h.l).cell g (j:=1) rfl,_,_,_,λu g=>by rw[ak];exact(af 0 h.l).cell g (j:=1) rfl,ξ,?_⟩;rw[U];refine ax ha ω ⟨_,λu g=>hc u g,?_,aQ O⟩
  grind[oO,List.getLast_cons,List.getElem?_eq_getElem]
theorem Qa(h:St w (T4 k st ids x L))(hl:st.length<=64):ρ 61 [vP (some (aM k))] w λv w'=>∃o c,v=vS o (1+st.length) c/\St w' (own 1 o (1+st.length) c (iv (0::st))::T4 k st ids x L):=by
 refine uz (bB rfl λX O=>?_);have h:=h.drawn O;refine⟨λu=>aq (hp u) (aM k) [iI 0,vS x.s st.length x.cs,vS x.n ids.length x.cn],af 0 h.l,_,λu g=>g.cell0 sZZ,_,_,_,λu g=>by rw[ak];exact g.cell sZZ (j:=1) rfl,ag h λk3 W h=>⟨af 1 h.l,?_⟩⟩;have J:=iD (h.pick 4 [2]);have h:=bg (sz:=1) (l:=1) (c:=1) (vs:=[iI 0]) (cs:=[]) h rfl rfl (agT _);refine(W4 aT (rfl:ai Ty _=.slice _) (rfl:ai Ty _=.slice _) rfl rfl rfl h rfl J (λ_=>rfl) (by grind) ω).mono ?_;rintro _ V⟨U,c2,rfl,h⟩;refine⟨_,_,_,rfl,af 1 h.l,bm (bS (bD h) ⟨_,_,_,rfl,af 1 h.l,_,_,rfl,?_⟩)⟩
 grind[iv,kZ.val,kZ.SP,cq]
theorem af7(h:St w L):ρ 125 [] w λv w'=>∃b,v=vP (some (aM b))/\St w' (Qw b [] [] ⟨none,0,none,0⟩ L):=
 Ms (ag h λb u h=>⟨b,rfl,(aI 4 ((St.flat (M:=[])).2 (aI 1 h))).pick 4 [3,0,1,2]⟩)
variable{nd:List VE}{tk:List Bool}{z:ArP}
theorem ac0{b:VE}(h:St w (bI 1 iv b.2::Qw k nd tk z L))(hl:nd.length<=1000000)(ht:tk.length=nd.length):ρ 311 [vP (some (aM k)),.agg ⟨Qv b⟩] w λv w'=>v=.tuple #[iI (nd.length:Int),iI 0]/\∃z',St w' (Qw k (nd++[b]) (tk++[false]) z' L):=by
 refine AY (ag h λJ w1 h X hd=>?_);have h:=h.drawn hd;have h:St X (az J (Qv b)::az k [vS z.n nd.length z.cn,vS z.t tk.length z.ct]::own 4 z.n nd.length z.cn (C9 nd)::aV (ndO nd)::own 1 z.t tk.length z.ct (bv tk)::bI 1 iv b.2::L):=h.pick 6 [0,2,3,4,5,1];refine⟨λu=>aq (hp u) (aM J) (Qv b)/\aq (hp u) (aM k) [vS z.n nd.length z.cn,vS z.t tk.length z.ct],⟨af 0 h.l,af 1 h.l⟩,_,_,_,λu g=>g.2.cell0 sZZ,_,_,_,_,_,_,λu g=>g.1.at sZZ rfl,ag h λk6 w5 h=>⟨⟨af 1 h.l,af 2 h.l⟩,?_⟩⟩;refine(aS (us:=C9 nd) (vs:=Qv b) aT (rfl:ai Ty _=.slice _) (rfl:ai Ty _=.slice _) rfl rfl rfl (h.pick 7 [0,3,1,2,4,5,6]) rfl (by simp[aK,Qv,bX]) (by grind) ω).mono ?_;rintro _ w6⟨o3,c3,rfl,h⟩;refine⟨_,_,_,rfl,⟨af 2 h.l,af 3 h.l⟩,aR (i:=0) (h.pick 7 [3,0,4,5,6]) σ λw7 h=>⟨_,_,_,by rw[ak];exact h.cell 1,ag h λU w8 h=>?_⟩⟩;refine(aS (us:=bv tk) (vs:=[vB false]) aT (rfl:ai Ty _=.slice _) (rfl:ai Ty _=.slice _) rfl rfl rfl (h.pick 6 [0,4,1,2,3,5]) rfl (by simp[aK]) (by grind) ω).mono ?_;rintro _ w9⟨Y,c5,rfl,h⟩;refine⟨_,_,_,rfl,?_⟩
 show st1 _ ((aM k).add 1) _ _
 rw[ak]
 refine aR (i:=1) (h.pick 6 [2,0,3,4,5]) σ λZ h=>⟨_,_,_,h.cell 0,ξ,?_,⟨o3,c3,Y,c5⟩,?_⟩
 ·simp
 ·have W:C9 (nd++[b])=C9 nd++Qv b:=by simp[C9]
  have V:bv (tk++[false])=bv tk++[vB false]:=by simp[bv]
  have O:ndO (nd++[b])=ndO nd++[bI 1 iv b.2]:=by simp[ndO]
  unfold Qw;rw[W,V,O,agV,agV];have h:St _ (bI 1 iv b.2::aV (ndO nd)::_):=h.pick 5 [4,3,0,1,2];exact(St.snoc h).pick 4 [1,3,0,2]
theorem aeG{s t:Nat}(h:St w (Qw k nd tk z L))(hl:nd.length<=1000000)(ht:tk.length=nd.length):ρ 222 [vP (some (aM k)),iI (s:Int),iI (t:Int)] w λv w'=>v=.tuple #[iI (nd.length:Int),iI 0]/\∃z',St w' (Qw k (nd++[(((s:Int),(-1:Int),(t:Int)),((none,0),[]))]) (tk++[false]) z' L):=by
 refine zd (bB rfl (bB (ahf ω) (bB (ahf ω) ((ac0 (b:=(((s:Int),(-1:Int),(t:Int)),((none,0),[]))) (aI 1 h) hl ht).mono ?_))))
 simp_all
theorem abZ{i:Int}{p:Addr}{m:Nat}(hp1:w.cell? p=some (vP (some (aM k))))(hk:aq (hp w) (aM k) [vS z.n nd.length z.cn,vS z.t tk.length z.ct])(ht:aX (hp w) tk z.t tk.length)(hi:i=m)(hm:m<nd.length)(hf:tk[m]? =some false):ρ 360 [iI i,.pointer (some p)] w λv w'=>v=vB false/\Gr w w':=by
 subst hi;obtain⟨u,ha,hc⟩:=ht.at hf;exact uK (bB (ahf ω) ⟨_,hp1,_,_,_,hk.cell0 sZZ,bB (ahf ω) ⟨_,hp1,_,_,_,hk.cell sZZ (j:=1) rfl,ax ha (agN.1 hf).1 ⟨_,hc w sZZ,rfl,Gr.refl w⟩⟩⟩)
theorem ab0{i:Nat}{b:Bool}(h:tk[i]? =some b):(bv tk)[i]? =some (vB b):=by simp_all[bv]
theorem aeH{ks:List Nat}{o:aiz}{n c:Nat}(h:St w (own 1 o n c (iv (ks.map λ(j:Nat)=>(j:Int)))::Qw k nd tk z L))(hl:nd.length<=1000000)(ht:tk.length=nd.length)(hk:∀j∈ks,j<nd.length/\tk[j]? =some false)(hd:ks.Nodup)(hn:ks.length<=1000):
  ρ 312 [vP (some (aM k)),vS o n c] w λv w'=>v=vB true/\St w' (own 1 o n c (iv (ks.map λ(j:Nat)=>(j:Int)))::Qw k nd (yi tk ks) z L):=by
 have a0:ks.length=n:=by have:=qY h;simp_all
 refine zo (ag h λX w1 h=>?_);have h:St w1 (az X [vP (some (aM k))]::own 1 o n c (iv (ks.map λ(j:Nat)=>(j:Int)))::az k [vS z.n nd.length z.cn,vS z.t tk.length z.ct]::own 4 z.n nd.length z.cn (C9 nd)::aV (ndO nd)::own 1 z.t tk.length z.ct (bv tk)::L):=h
 refine(R3 (p:=λ_=>false) (iD h.tail) rfl (λx hx u g=>?_) ω).mono ?_
 ·obtain⟨j,hj,rfl⟩:=agY.1 hx;obtain⟨Y,Z⟩:=hk j hj;exact abZ (k:=k) (nd:=nd) (tk:=tk) (z:=z) ((af 0 h.l).cell0 g) ((af 2 h.l).mono g) ((SX (h.pick 6 [5])).mono g) rfl Y Z
 rintro _ w2⟨rfl,g2⟩;have h:=h.gr g2;refine⟨_,rfl,bB σ ⟨λx u=>∃j:Nat,x=j/\j<=n/\St u (az X [vP (some (aM k))]::own 1 o n c (iv (ks.map λ(j:Nat)=>(j:Int)))::Qw k nd (yi tk (ks.take j)) z L),λx _=>n-x.toNat,⟨0,rfl,agP _,h⟩,?_⟩⟩;clear h;rintro _ _ w3⟨j,rfl,hj,h⟩
 refine ae (λO=>?_) λO=>?_
 ·have O:j<n:=by simp_all
  obtain⟨m,hm⟩:∃m,ks[j]? =some m:=⟨_,agM ω⟩;have V:=agL hm;obtain⟨Y,Z⟩:=hk m V;have a4:(ks.map λ(j:Nat)=>(j:Int))[j]? =some (m:Int):=by simp_all
  have W:(yi tk (ks.take j))[m]? =some false:=by grind[TQ,List.getElem?_of_mem,List.getElem?_inj,List.getElem?_eq_some_iff]
  have U:m<(yi tk (ks.take j)).length:=by grind
  obtain⟨ad,ha⟩:=eQ h.tail (by grind[cf,List.length_map]);obtain⟨at_,J⟩:=eQ (h.pick 6 [5,0,1,2,3,4]) (by grind[pz]);refine ax ha O ⟨_,qK h.tail ha (by simp_all[iv]),_,h.cell 0,_,_,_,by rw[ak];exact h.tail.tail.cell 1,ax J U ⟨false,qK (h.pick 6 [5,0,1,2,3,4]) J (ab0 W),bB rfl ⟨_,h.cell 0,_,_,_,by rw[ak];exact h.tail.tail.cell 1,ax J U (fX (h.pick 6 [5,0,1,2,3,4]) J (by simp_all[pz]) λw6 h=>⟨ξ,⟨j+1,σ,O,?_⟩,bR O⟩)⟩⟩⟩;have e:(bv (yi tk (ks.take j))).set m (vB true)=bv (yi tk (ks.take (j+1))):=by simp_all[agR,yi,bv]
  rw[e] at h;have el:(yi tk (ks.take j)).length=(yi tk (ks.take (j+1))).length:=by simp[CY]
  unfold Qw;rw[<-el];exact h.pick 6 [1,2,3,4,5,0]
 ·have O:n=j:=by grind
  subst O;rw[ag4 ω] at h;exact⟨rfl,h.tail⟩
theorem aeI{s p:Nat}{ks:List Nat}{o:aiz}{n c:Nat}(h:St w (own 1 o n c (iv (ks.map λ(j:Nat)=>(j:Int)))::Qw k nd tk z L))(hl:nd.length<=1000000)(ht:tk.length=nd.length)(hk:∀j∈ks,j<nd.length/\tk[j]? =some false)(hd:ks.Nodup)(hn:ks.length<=1000):
  ρ 226 [vP (some (aM k)),iI (s:Int),iI (p:Int),vS o n c] w λv w'=>v=.tuple #[iI (nd.length:Int),iI 0]/\∃z',∃q:aiz×Nat,St w' (Qw k (nd++[(((s:Int),(p:Int),(0:Int)),(q,ks.map λ(j:Nat)=>(j:Int)))]) (yi tk ks++[false]) z' L):=by
 have O:ks.length=n:=by have:=qY h;simp_all
 refine zh ⟨λb u=>b=false/\St u (own 1 o n c (iv (ks.map λ(j:Nat)=>(j:Int)))::Qw k nd (yi tk ks) z L),bB rfl (bB (ahf ω) (bB (ahf ω) ((aeH h hl ht hk hd hn).mono ?_))),?_⟩
 ·simp
 rintro _ _ V⟨rfl,h⟩;refine bB rfl ((dL (iD h) (by grind) (by grind)).mono ?_);rintro _ U⟨o1,c1,rfl,J⟩;have h:=St.eM J h.l;refine⟨_,_,_,rfl,(ac0 (b:=(((s:Int),(p:Int),(0:Int)),((o1,c1),ks.map λ(j:Nat)=>(j:Int)))) (h.pick 2 [0]) hl (by simp_all[CY])).mono ?_⟩
 grind
end
section
variable{w:aiA}{L:List aE}
theorem aeJ{n:Nat}(h:St w L)(hn:n<=1000000):ρ 359 [zS,iI (n:Int)] w λv w'=>∃o c,v=vS o 0 c/\St w' (own 1 o 0 c []::L):=by
 refine rY (bB σ ⟨_,_,Nn aT (rfl:ai Ty _=.slice _) _ _ _ _,Ev.refl w,_,rfl,ξ,ξ,ae (λu=>?_) λu=>⟨_,_,rfl,aI 1 h⟩⟩);have u:0<n:=by have:=agQ u;omega
 refine⟨_,_,Nn aT (rfl:ai Ty _=.slice _) _ _ _ _,Ev.refl w,_,rfl,iH (agT 0) ?_⟩;rw[show(n:Int)-(((0:Nat):Int)-((0:Nat):Int))=(n:Int) by omega,show fK none 0 0 1=none from rfl];refine(Lu (i:=_) aT (rfl:ai Ty _=.slice _) (rfl:ai Ty _=.int _) rfl rfl rfl (by decide) h u ω (by show n*8<=_;omega) ω).mono ?_;rintro _ U⟨o,O,us,rfl,hl,J⟩;have hc:=bD J;have:=qS (k:=0) J (agP _);exact⟨_,_,_,rfl,iH (hi:=0) (agP _) ⟨_,_,rfl,by simpa using this⟩⟩
theorem Lx{xss:List (List Int)}{j:Nat}{xs:List Int}(h:xss[j]? =some xs):(xss.take (j+1)).flatten=(xss.take j).flatten++xs:=by
 rw[agR,h];simp
theorem GV{xss:List (List Int)}(j:Nat):(xss.take j).flatten.length<=xss.flatten.length:=by
 have:=congrArg List.flatten (aha j xss);rw[List.flatten_append] at this;have:=congrArg List.length this;rw[agV] at this;omega
theorem Zn{xss:List (List Int)}{a:aiz}{b c:Nat}(hr:aX (hp w) xss a b)(hb:b<=1000)(hl:xss.flatten.length<=1000000):ρ 309 [vS a b c] w λv w'=>∃o c',v=vS o xss.flatten.length c'/\St w' (own 1 o xss.flatten.length c' (iv xss.flatten)::all w):=by
 have a4:=hr.1;refine pF ⟨λn i u=>∃j:Nat,i=j/\j<=b/\n=((xss.take j).flatten.length:Int)/\u=w,λ_ i _=>b-i.toNat,⟨0,rfl,agP _,σ,rfl⟩,?_⟩;rintro _ _ _ w1⟨j,rfl,hj,rfl,rfl⟩;have a0:=GV (xss:=xss) j
 refine ae (λU=>?_) λU=>?_
 ·have U:j<b:=by have:=agQ U;omega
  obtain⟨xs,ad,vs,hx,ha,J,o1,l1,c1,rfl,_,V⟩:=hr.get U;have Y:=Lx hx;have e2:=congrArg List.length Y;rw[agV,V.1] at e2;have W:=GV (xss:=xss) (j+1);refine aO ha U ⟨o1,l1,c1,J.cell0 sZZ,ξ,bB (by simp;omega) ⟨ξ,⟨j+1,σ,U,ω,rfl⟩,?_⟩⟩
  show b-((j:Int)+1).toNat<b-(j:Int).toNat
  omega
 ·have U:j=b:=by have:=agO U;omega
  subst U;have Z:(xss.take j).flatten=xss.flatten:=by rw[ag4 ω]
  rw[Z];refine(aeJ (St.all w1) hl).mono ?_;rintro _ w2⟨o,c2,rfl,h2⟩;refine⟨_,_,_,rfl,λo n c i u=>∃k:Nat,i=k/\k<=j/\n=(xss.take k).flatten.length/\St u (own 1 o n c (iv (xss.take k).flatten)::all w1),λ_ _ _ i _=>j-i.toNat,⟨0,rfl,agP _,σ,by simpa[iv] using h2⟩,?_⟩;rintro _ o n c3 _ w3⟨k,rfl,hk,rfl,X⟩;have a0:=GV (xss:=xss) k
  refine ae (λO=>?_) λO=>?_
  ·have O:k<j:=by have:=agQ O;omega
   obtain⟨xs,ad,vs,hx,ha,J,o1,l1,c1,rfl,_,V⟩:=(hr.mono X.aP).get O;have Y:=Lx hx;have e2:=congrArg List.length Y;rw[agV,V.1] at e2;have W:=GV (xss:=xss) (k+1);refine aO ha O ⟨o1,l1,c1,J.cell0 sZZ,(W4 aT (rfl:ai Ty _=.slice _) (rfl:ai Ty _=.slice _) rfl rfl rfl X rfl V (λ_=>rfl) (by show(_+_)*8<=_;omega) ω).mono ?_⟩;rintro _ w4⟨o',c',rfl,h5⟩
   refine⟨_,_,_,rfl,ξ,⟨k+1,σ,O,ω,?_⟩,?_⟩
   ·rw[Y];simpa[iv,kZ.SP] using h5
   ·show j-((k:Int)+1).toNat<j-(k:Int).toNat
    omega
  ·have O:k=j:=by have:=agO O;omega
   subst O;rw[Z] at X;exact⟨o,c3,by rw[Z],by rw[Z] at*;exact X⟩
end
abbrev tbC(x:GA)(A G:GN)(xp:PA):List Value:=[vS x.ta x.tl x.tc,vS x.na x.nl x.nc,vS x.la x.ll x.lc,iI x.s,vS x.pa x.pl x.pc,.iface wW (.agg ⟨[gn A,gn G]⟩),.iface gh (.agg ⟨xp.cells⟩)]
structure Bq(h:Hp)(b:Nat)(x:GA)(A G:GN)(xp:PA)(g:ah)(As:List (List aD))(Gs:List (List Int))(p:dB):Prop where
 row:aq h (aM b) (tbC x A G xp)
 g:gR h g x
 A:aX h As A.1 A.2.1
 G:aX h Gs G.1 G.2.1
 p:Vm h p xp
theorem Bq.mono{h h':Hp}{b:Nat}{x:GA}{A G:GN}{xp:PA}{g:ah}{As:List (List aD)}{Gs:List (List Int)}{p:dB}(s:sub h h')(r:Bq h b x A G xp g As Gs p):Bq h' b x A G xp g As Gs p:=⟨r.row.mono s,r.g.mono s,r.A.mono s,r.G.mono s,r.p.mono s⟩
section
variable{w:aiA}{k:Nat}{y:Kl}{g:ah}{As:List (List aD)}{Gs:List (List Int)}{Cs:List cP}{p:dB}
theorem VF(hs:zV (hp w) k y g As Gs Cs p)(hb:lq g)(hbT:g.terms.length*24<=140737488355328)(hbN:g.cR.length*16<=140737488355328)(hne:g.prods.length≠0):ρ 123 [vP (some (aM k))] w λv w'=>∃(b:Nat)(x:GA)(A G:GN)(xp:PA)(H:Hp),v=vP (some (aM b))/\Bq H b x A G xp g As Gs p/\St w' (has H::all w):=by
 refine Mq ((Lw hs hb hbT hbN).mono ?_);rintro _ w1⟨O,os,rfl,hx,ho,h⟩;have h:St w1 (_::_::_::_::_::all w):=h;refine⟨_,_,_,_,_,_,_,_,_,_,_,_,_,rfl,ag h λk9 w2 h=>aL h rfl (by simp[aK]) λw3 h=>⟨_,_,_,h.cell 4,bB (by have:=hx.p;simp_all) λw4 hd=>?_⟩⟩;have h:=h.drawn hd;have g4:Gr w w4:=aC 6 h.l;have r9:=af 0 h.l;refine⟨λu=>aq (hp u) (aM k9) [vS O.ta O.tl O.tc,vS O.na O.nl O.nc,vS O.la O.ll O.lc,iI O.s,vS O.pa O.pl O.pc],r9,_,_,_,_,_,_,_,_,_,_,_,_,_,λu s=>s.at sZZ rfl,(VC (hs.mono g4)).mono ?_⟩;rintro _ w6⟨o1,c1,o2,c2,o3,c3,AL,GL,CL,rfl,U,V,a0,X⟩;have g6:Gr w4 w6:=aC 6 X.l;have h:=St.on (N:=[_,_,_,_,_,_]) X h.l;refine⟨_,_,_,_,_,_,_,_,_,rfl,af 6 h.l,(Zl (hs.mono (g4.trans g6))).mono ?_⟩;rintro _ w7⟨xp,rfl,h7⟩;have h:=St.on (N:=[_,_,_,_,_,_,_,_]) h7 h.l;refine⟨_,_,_,_,_,_,_,_,_,_,_,_,_,_,_,_,_,_,_,_,_,_,_,_,rfl,af 14 h.l,ag h λW w8 h=>?_⟩;have l2:=qY (St.pick h 22 [3]);have l3:=qY (St.pick h 22 [4]);have Y:=qY (St.pick h 22 [7]);have Z:=qY (St.pick h 22 [8]);have l1:=qY (St.pick h 22 [2]);have l0:=qY (St.pick h 22 [1]);have l4:=qY (St.pick h 22 [5]);have l5:=qY (St.pick h 22 [6]);obtain⟨H,J,hf⟩:=St.mP [has (hp w)] (St.pick h 22 [21,0,1,2,3,4,5,6,7,8,9,10,11,12,13,14,15,16,17,18,19,20])
 refine⟨af 15 h.l,W,O,(o1,y.A.2.1,c1),(o2,y.G.2.1,c2),xp,H,rfl,⟨af 0 J,?_,?_,?_,?_⟩,hf.swap⟩
 ·exact Mc (L:=[]) hx ho (aj (aj (aj (aj (aj (aj (aj (aj (aj (aj (aj (aj (aj (aj (aj (aj J))))))))))))))))
 ·obtain⟨h1,s1,a1⟩:=Az (A:=own 1 o1 y.A.2.1 c1 (AL.map bX)) 9 J;obtain⟨h2,s2,a2⟩:=Az (A:=aV (AL.map (bI 2 du))) 10 J;rw[<-U];exact C8 (λr=>CZ rfl r) s1 a1 s2 a2
 ·obtain⟨h1,s1,a1⟩:=Az (A:=own 1 o2 y.G.2.1 c2 (GL.map bX)) 11 J;obtain⟨h2,s2,a2⟩:=Az (A:=aV (GL.map (bI 1 iv))) 12 J;rw[<-V];exact C8 (λr=>bt rfl r) s1 a1 s2 a2
 ·have r:=hs.p;exact⟨bt l0 (dN 1 J),⟨bt l1 (dN 2 J),bt l2 (dN 3 J),bt l3 (dN 4 J),by rw[<-l2,r.a.rv.1];exact r.a.lv,by rw[<-l3,r.a.ro.1];exact r.a.lo,r.a.bd⟩,bt l4 (dN 5 J),⟨bt l5 (dN 6 J),bt Y (dN 7 J),bt Z (dN 8 J),by rw[<-Y,r.g.rv.1];exact r.g.lv,by rw[<-Z,r.g.ro.1];exact r.g.lo,r.g.bd⟩⟩
variable{L:List aE}{b:Nat}{x:GA}{A G:GN}{xp:PA}{H:Hp}{st ab:List Int}{m kept:Nat}
theorem T5(hT:Bq (hp w) b x A G xp g As Gs p):ρ 128 [vP (some (aM b))] w λv w'=>v=iI (g.T:Int)/\w'=w:=by
 refine uD ⟨_,_,_,hT.row.cell0 sZZ,?_,rfl⟩;have:(g.T:Int)=(x.tl:Int):=by have:=hT.g.t.1;show(g.terms.length:Int)=_;omega
 grind
theorem Zo(hT:Bq (hp w) b x A G xp g As Gs p){i:Nat}{q:aJ}(hq:g.prods[i]? =some q):ρ 224 [vP (some (aM b)),iI (i:Int)] w λv w'=>v=.tuple #[iI (q.right.length:Int),iI q.left]/\hp w'=hp w:=by
 refine tq λU W=>?_;obtain⟨X,vs,ha,J,pa,pl,pc,rfl,_,O⟩:=hT.g.p.2 i q hq;have hi:i<x.pl:=by rw[<-hT.g.p.1];grind
 have V:=aQ W;have s1:∀{u:aiA},hp u=hp U->sub (hp w) (hp u):=λe=>by simp_all[sub.refl]
 have hl:(q.right.length:Int)=(pl:Int):=by rw[O.1]
 exact⟨λu=>hp u=hp U,rfl,_,_,_,λu e=>hT.row.cell (s1 e) (j:=4) rfl,aO ha hi ⟨_,_,_,λu e=>J.cell (s1 e) (j:=1) rfl,_,_,_,λu e=>hT.row.cell (s1 e) (j:=4) rfl,aO ha hi ⟨_,λu e=>J.cell0 (s1 e),by grind,V⟩⟩⟩
theorem aeK{l:List Int}{q n:Nat}{z:Int}(hA:G.2.1=G.2.1)(hG:aX (hp w) Gs G.1 G.2.1)(hq:Gs[q]? =some l)(hn:l[n]? =some z):ρ nh [.agg ⟨[gn A,gn G]⟩,iI (q:Int),iI (n:Int)] w λv w'=>v=iI z/\Gr w w':=by
 refine uM (ag (St.all w) λX W h=>?_);obtain⟨Z,vs,ha,u,Y,l2,c2,rfl,_,U⟩:=(hG.mono h.aP).2 q l hq;have J:q<G.2.1:=by rw[<-hG.1];grind
 obtain⟨V,O,hc⟩:=U.at hn;refine⟨_,_,_,h.cell 1,aO ha J ⟨_,_,_,u.cell0 sZZ,ax O (by rw[<-U.1];grind) ⟨_,hc W sZZ,rfl,h.aP⟩⟩⟩
theorem Zp(hT:Bq (hp w) b x A G xp g As Gs p){l:List Int}{q n:Nat}{z s:Int}(hs:s=((g.T+n:Nat):Int))(hn2:n<=1000000)(hT2:g.T<=1000000)(hq:Gs[q]? =some l)(hn:l[n]? =some z):ρ 227 [vP (some (aM b)),iI (q:Int),iI s] w λv w'=>v=iI z/\Gr w w':=by
 subst hs;refine tu λO V=>?_;have g1:Gr w O:=Gr.drawn V;have U:(x.tl:Int)=(g.T:Int):=by have:=hT.g.t.1;show _=(g.terms.length:Int);omega
 refine⟨λu=>Gr O u,Gr.refl _,_,_,λu s=>hT.row.cell (sub.trans g1 s) (j:=5) rfl,_,_,_,λu s=>hT.row.cell0 (sub.trans g1 s),ξ,?_⟩;have e:((g.T+n:Nat):Int)-(x.tl:Int)=(n:Int):=ω
 rw[e];refine⟨nh,[.agg ⟨[gn A,gn G]⟩,iI (q:Int),iI (n:Int)],by kernel_rfl,(aeK rfl (hT.G.mono g1) hq hn).mono ?_⟩;rintro _ W⟨rfl,J⟩;exact⟨_,rfl,J,rfl,g1.trans J⟩
theorem R_(h:St w (JX m k kept ab::L))(hs:∀h,aF L h->Ea h k st)(hk:kept<=st.length)(ha:ab.length<=1000):ρ 221 [vP (some (aM m))] w λv w'=>∃o n c,v=vS o n c/\n<=c/\St w' (JX m k kept ab::L):=by
 have a7:=h;obtain⟨o,c,h⟩:=mN.1 h;refine rQ ((yE (h.cell 0)).mono ?_);rintro _ _⟨rfl,rfl⟩;refine⟨_,rfl,bB rfl λO hd=>?_⟩;have h:=h.drawn hd;have h0:=a7.drawn hd;clear a7;obtain⟨o2,n2,c2,r,q1,q2,q3⟩:=hs _ h.tail.tail.l;have e2:=q2.1;have a8:min kept st.length=kept:=ω
 have aa:=bD h.tail
 --what is put together
 have fin:∀{u:aiA}{J U:Nat},Gr O u->aq (hp u) (aM J) [iI 0]->aq (hp u) (aM U) [vS (some (aM J)) 1 1,vS (fK o2 0 c2 1) kept c2,vS o ab.length c]->aX (hp u) [[0],st.take kept,ab] (some (aM U)) 3:=λ{u J U} g h5 W=>by
  have p1:aX (hp u) ([0]:List Int) (some (aM J)) 1:=bt rfl (.inr ⟨_,rfl,h5⟩);have p2:aX (hp u) (st.take kept) (fK o2 0 c2 1) kept:=by rw[XO];exact(q2.mono g).take ω
  have p3:aX (hp u) ab o ab.length:=(iD h.tail).mono g;refine⟨rfl,λi xs Y=>?_⟩
  match i,Y with
  |0,Y=>cases Y;exact⟨_,_,rfl,λj v hj=>by rw[add_add];exact W (0+j) v (by grind),_,_,_,rfl,agT _,p1⟩
  |1,Y=>cases Y;exact⟨_,_,rfl,λj v hj=>by rw[add_add];exact W (1+j) v (by cases j with|zero=>exact hj|succ j=>grind),_,_,_,rfl,ω,p2⟩
  |2,Y=>cases Y;exact⟨_,_,rfl,λj v hj=>by rw[add_add];exact W (2+j) v (by grind),_,_,_,rfl,aa,p3⟩
 have a4:∀{u:aiA}{X:List aE}{J U:Nat},St u (X++(az J [iI 0]::az U [vS (some (aM J)) 1 1,vS (fK o2 0 c2 1) kept c2,vS o ab.length c]::[has (hp O)]))->ρ 309 [vS (some (aM U)) 3 3] u λv u'=>∃o n c',v=vS o n c'/\n<=c'/\Gr O u':=λ{u X J U} h=>by
  have hh:St u (az J [iI 0]::az U [vS (some (aM J)) 1 1,vS (fK o2 0 c2 1) kept c2,vS o ab.length c]::[has (hp O)]):=by
   induction X with
   |nil=>grind
   |cons A X ih=>exact ih h.tail
  have g:Gr O u:=aC 2 hh.l;refine(Zn (fin g (af 0 hh.l) (af 1 hh.l)) ω (by grind)).mono ?_;rintro _ u'⟨o',c',rfl,h'⟩;exact⟨_,_,_,rfl,bD h',g.trans h'.aP⟩
 have r0:aq (hp O) (aM m) [vP (some (aM k)),iI (kept:Int),vS o ab.length c]:=af 0 h.l
 refine⟨λu=>Gr O u,Gr.refl _,some (aM k),λu g=>r0.cell0 g,_,λu g=>q1.cell0 g,some (aM k),λu g=>r0.cell0 g,_,_,_,λu g=>q1.cell g (j:=1) rfl,_,_,_,λu g=>r0.cell g (j:=2) rfl,?_,?_⟩
 ·refine ag (St.all O) λJ w8 W=>⟨W.aP,(GC (h0.gr W.aP) hs).mono ?_⟩;rintro _ w9⟨rfl,e9⟩;have h9:=W.eq e9;rw[a8];refine⟨_,rfl,h9.aP,iH ω (ag h9 λU b2 Z=>⟨Z.tail.aP,(a4 (X:=[]) (Z.pick 2 [1,0])).mono ?_⟩)⟩;rintro _ b4⟨o',n',c',rfl,V,g⟩;exact⟨_,_,_,rfl,g,_,_,_,rfl,V,h0.gr g⟩
 ·refine(GC h0 hs).mono ?_;rintro _ b3⟨rfl,a0⟩;have a9:=(St.all O).eq a0;rw[a8];refine⟨_,rfl,Gr.of_eq a0,iH ω (ag a9 λav b1 a6=>⟨a6.aP,ag a6 λad am a5=>⟨a5.tail.aP,(a4 (X:=[]) (a5.pick 2 [1,0])).mono ?_⟩⟩)⟩;rintro _ al⟨o',n',c',rfl,V,g⟩;exact⟨_,_,_,rfl,g,_,_,_,rfl,V,h0.gr g⟩
def agF(L:List aE)(r0:TrR)(v:Value)(w':aiA):Prop:=
 (r0=none/\v=.tuple #[.agg #[vB false,zS,zS],iI 15]/\St w' L)\/
 ∃(f:Bool)(ms:List aD)(l:List Int)(o o2:aiz)(c n c2:Nat),r0=some (f,ms,l)/\v=.tuple #[.agg #[vB f,vS o ms.length c,vS o2 n c2],iI 0]/\ms.length<=1025/\St w' (own 2 o ms.length c (du ms)::L)
theorem Zq{t:Int}{Q:List Int->Prop}(hT:Bq H b x A G xp g As Gs p)(hb:lq g)(hQ:Saf g (bq p) (bW p) t Q)(hq:Q st)(hl:st.length<=64)(hL:∀h,aF L h->Ea h k st/\sub H h)(h:St w L):
  ρ 129 [vP (some (aM b)),vB true,vP (some (aM k)),iI t] w (agF L (V6 g (bq p) (bW p) t 1024 st [])):=by
 obtain⟨r0,Z⟩:∃r0,r0=V6 g (bq p) (bW p) t 1024 st []:=⟨_,rfl⟩;rw[<-Z];refine xD (ag h λW w1 h w2 hd=>?_);have h:=h.drawn hd
 have V:∀{u:aiA}{X:List aE},St u (X++L)->sub H (hp u):=λ{u X} J=>by
  induction X with
  |nil=>exact(hL _ J.l).2
  |cons A X ih=>exact ih J.tail
 have rp:aq H (aM b) x.cells:=aq.take (vs:=[.iface wW (.agg ⟨[gn A,gn G]⟩),.iface gh (.agg ⟨xp.cells⟩)]) hT.row;refine⟨λu=>sub H (hp u),V (X:=[_]) h,_,_,_,_,_,_,_,_,_,_,_,_,_,λu s=>rp.at s rfl,_,_,λu s=>hT.row.cell s (j:=5) rfl,(adJ h λh J=>(hL _ (aj J)).1).mono ?_⟩;rintro _ w5⟨m,rfl,h⟩
 refine⟨_,rfl,V (X:=[_,_]) h,ag h λU w6 h=>⟨V (X:=[_,_,_]) h,λu=>St u (az U (Qt m x gh (.agg ⟨xp.cells⟩) none 0 0)::JX m k st.length []::az W [vB false,zS,zS]::L),fM rfl ⟨_,_,hT.row.cell (V (X:=[_,_,_]) h) (j:=6) rfl,?_⟩,?_⟩⟩
 ·rw[ak];exact aR (i:=6) h σ λw7 h=>h
 clear h;intro _ w8 h
 have a6:TrI g (bq p) (bW p) t Q m k U x gh (.agg ⟨xp.cells⟩) st r0 (az W [vB false,zS,zS]::L) ⟨st.length,[],[],none,0⟩ w8:=by
  refine⟨agT _,ω,σ,?_,?_,(aI 2 h).pick 4 [2,1,0,3]⟩
  ·dsimp only;rw[ag9,ahe];exact hq
  simp_all
 refine(aej (aec hT.p) hQ hb (λh J=>⟨(hL _ (aj J)).1,(hL _ (aj J)).2,hT.g.mono (hL _ (aj J)).2⟩) a6).mono ?_
 rintro _ w9 (⟨hn,rfl,h⟩|⟨y,f,hn,rfl,y1,y2,y3,_,h⟩)
 ·refine⟨_,_,rfl,fM rfl (aL h rfl (by simp[aK]) λaa h=>⟨_,_,_,_,_,_,_,(af 0 h.l).at sZZ rfl,.inl ⟨hn,rfl,h.tail⟩⟩)⟩
 ·refine⟨_,_,rfl,bB rfl λa7 hd=>?_⟩;have h:=h.drawn hd;refine⟨λu=>aq (hp u) (aM U) (Qt m x gh (.agg ⟨xp.cells⟩) y.o y.ms.length y.c),af 1 h.l,_,_,_,λu r=>r.cell sZZ (j:=7) rfl,_,λu r=>r.cell0 sZZ,?_⟩;refine b9 (bS (bD h.tail.tail) ⟨_,_,_,rfl,af 1 h.l,?_⟩);refine(R_ h (λh J=>(hL _ (aj (aj (aj J)))).1) y1 ω).mono ?_;rintro _ a8⟨a4,O,a9,rfl,Y,h⟩;refine⟨_,_,_,rfl,af 1 h.l,bm (bS Y ⟨_,_,_,rfl,af 1 h.l,?_⟩)⟩;refine aL (h.pick 4 [3,2]) rfl (by simp[aK]) λa0 h=>?_;have a5:aq (hp a0) (aM W) [vB f,vS (fK y.o 0 y.ms.length 2) y.ms.length y.ms.length,vS (fK a4 0 O 1) O O]:=af 0 h.l;exact⟨_,_,_,_,_,_,_,a5.at sZZ rfl,.inr ⟨f,y.ms,_,_,_,_,_,_,hn,rfl,y3,cq h.tail⟩⟩
theorem ab1{Q:List Int->Prop}(hT:Bq H b x A G xp g As Gs p)(hb:lq g)(hQ:∀t:Nat,t<g.T->Saf g (bq p) (bW p) t Q)(hq:Q st)(hl:st.length<=64)(hT2:g.T<=1000)(hL:∀h,aF L h->Ea h k st/\sub H h)(h:St w L):
  ρ 116 [vP (some (aM b)),vB true,vP (some (aM k))] w λv w'=>(∃(o:aiz)(n c:Nat)(e:Int),v=.tuple #[vS o n c,iI e]/\(e=0\/e=15))/\St w' L:=by
 refine uB ((T5 (hT.mono (hL _ h.l).2)).mono ?_);rintro _ Y⟨rfl,rfl⟩;refine⟨_,rfl,λo n c z u=>∃(j:Nat)(xs:List Int),z=j/\j<=g.T/\n<=j/\St u (own 1 o n c (iv xs)::L),λ_ _ _ z _=>g.T-z.toNat,⟨0,[],rfl,agP _,agT _,aI 1 h⟩,?_⟩;clear h;rintro _ o n c _ w2⟨j,xs,rfl,hj,hn,h⟩
 refine ae (λJ=>?_) λJ=>?_
 ·have J:j<g.T:=by have:=agQ J;omega
  refine(Zq hT hb (hQ j J) hq hl (λh V=>hL _ (aj V)) h).mono ?_
  rintro _ w3 (⟨_,rfl,h⟩|⟨f,ms,l,o1,o2,c1,n2,c2,_,rfl,_,h⟩)
  ·refine⟨_,_,_,_,_,_,_,_,rfl,ag h λO X h=>aL h rfl (by simp[aK]) λW h=>fM rfl ⟨⟨none,0,0,15,rfl,.inr rfl⟩,h.tail.tail⟩⟩
  ·refine⟨_,_,_,_,_,_,_,_,rfl,ag h.tail λO X h=>aL h rfl (by simp[aK]) λW h=>bB rfl ⟨_,h.cell 0,ae (λU=>?_) λU=>⟨ξ,⟨j+1,xs,σ,J,ω,h.tail⟩,bR J⟩⟩⟩;refine ag h.tail λk8 Z h=>?_;refine(aS (us:=iv xs) (vs:=[iI (j:Int)]) aT (rfl:ai Ty _=.slice _) (rfl:ai Ty _=.slice _) rfl rfl rfl h rfl (by simp[aK]) (by show(n+1)*8<=_;omega) ω).mono ?_;rintro _ w7⟨o4,c4,rfl,h⟩;have e:iv xs++[iI (j:Int)]=iv (xs++[(j:Int)]):=by simp[iv]
   rw[e] at h;exact⟨_,_,_,rfl,ξ,⟨j+1,_,σ,J,ω,h.pick 2 [0]⟩,bR J⟩
 ·exact bm (bS (bD h) ⟨_,_,_,rfl,⟨_,_,_,0,rfl,.inl rfl⟩,h.tail⟩)
end
def mvE(m:aD×Nat):List Value:=[iI m.1.kind,iI m.1.to,iI (m.2:Int)]
def mvV(l:List (aD×Nat)):List Value:=l.flatMap mvE
abbrev Wb(l:List Nat):List Int:=l.map λ(j:Nat)=>(j:Int)
abbrev T6(s a b:Nat)(y:cE)(mo:aiz)(mc:Nat):List Value:=[vP (some (aM s)),vP (some (aM a)),vP (some (aM b)),vB true,vS mo y.mv.length mc,iI (y.dp:Int),vB y.ov]
def nR(r s a b:Nat)(y:cE)(L:List aE)(u:aiA):Prop:=∃(nq:List VE)(x:SkP)(z:ArP)(mo:aiz)(mc:Nat),nq.map ym=y.nd/\
 St u (az r (T6 s a b y mo mc)::own 3 mo y.mv.length mc (mvV y.mv)::T4 s (yg y.es) (Wb y.ids.reverse) x (Qw a nq y.tk z L))
def GtI(g:ah)(ss:List SQ)(Gs:List (List Int)):Prop:=∀(q n:Nat)(j:Int),n<g.N->dh ss q ((g.T+n:Nat):Int)=some j->∃l,Gs[q]? =some l/\l[n]? =some j
section
variable{w:aiA}{L:List aE}{r s a b:Nat}{y:cE}{g:ah}{ss:List SQ}{G:Nat->Int->Nat}{H:Hp}{x:GA}{oA oG:GN}{xp:PA}{As:List (List aD)}{Gs:List (List Int)}{p:dB}
theorem Sa{c:aD}{K:aiA->Nat->Prop}(hm:y.mv.length<=1000000)(h:nR r s a b y L w)
  (hK:∀(u:aiA)(k1:Nat)(nq:List VE)(x:SkP)(z:ArP)(mo:aiz)(mc:Nat),nq.map ym=y.nd->St u (az k1 (bG c)::az r (T6 s a b { y with mv:=y.mv++[(c,y.dp)] } mo mc)::own 3 mo (y.mv++[(c,y.dp)]).length mc (mvV (y.mv++[(c,y.dp)]))::T4 s (yg y.es) (Wb y.ids.reverse) x (Qw a nq y.tk z L))->K u k1):
  new w (oC (bG c) rq) λk1 w1=>∀w2,drawn w1 w2->∃I1:aiA->Prop,I1 w2/\nn (some (aM r)) λa1=>∃o1 k2 k3,(∀w3,I1 w3->World.cell? w3 (Addr.add a1 4)=some (vS o1 k2 k3))/\∃n1 n2,(∀w4,I1 w4->rowAt w4 (aM k1) 0 2=some [iI n1,iI n2])/\nn (some (aM r)) λa2=>∃n3,(∀w5,I1 w5->World.cell? w5 (Addr.add a2 5)=some (iI n3))/\new w2 (oC [iI n1,iI n2,iI n3] Oy) λk4 w6=>I1 w6/\aY Tryz.prog (fW JK (Array.mk [vS o1 k2 k3,vS (some (aM k4)) 1 1])) w6 λv1 w7=>∃o2 k5 k6,v1=vS o2 k5 k6/\I1 w7/\nn (some (aM r)) λa3=>st1 w7 (Addr.add a3 4) (vS o2 k5 k6) λw8=>K w8 k1:=by
 obtain⟨nq,O,z,mo,mc,J,h⟩:=h;refine ag h λk1 w1 h w2 V=>?_;have h:=h.drawn V;refine⟨λu=>aq (hp u) (aM r) (T6 s a b y mo mc)/\aq (hp u) (aM k1) (bG c),⟨af 1 h.l,af 0 h.l⟩,_,_,_,λu e=>e.1.cell sZZ (j:=4) rfl,_,_,λu e=>e.2.at sZZ rfl,_,λu e=>e.1.cell sZZ (j:=5) rfl,ag h λk4 w6 h=>⟨⟨af 2 h.l,af 1 h.l⟩,?_⟩⟩;refine(aS (us:=mvV y.mv) (vs:=mvE (c,y.dp)) aT (rfl:ai Ty _=.slice _) (rfl:ai Ty _=.slice _) rfl rfl rfl (h.pick 4 [0,3,1,2]) rfl (by simp[aK,mvE]) (by grind) ω).mono ?_;rintro _ w7⟨o2,c2,rfl,h⟩;refine⟨_,_,_,rfl,⟨af 3 h.l,af 2 h.l⟩,?_⟩
 show st1 _ ((aM r).add 4) _ _
 rw[ak];refine aR (i:=4) (h.pick 4 [3,0,2]) σ λw8 h=>hK w8 k1 nq O z o2 c2 J ?_;have U:mvV (y.mv++[(c,y.dp)])=mvV y.mv++mvE (c,y.dp):=by simp[mvV]
 unfold T6;rw[U,agV];exact h.pick 3 [2,0,1]
theorem aeL{t q:Nat}(hI:mH g ss y)(hl:y.es.length<64)(hm:y.mv.length<=1000000)(h:nR r s a b y L w):ρ fx [vP (some (aM r)),.agg ⟨bG ⟨1,q⟩⟩,iI (t:Int)] w λv w'=>v=.tuple #[]/\nR r s a b (Bn t q y) L w':=by
 refine j5 (Sa hm h (c:=⟨1,q⟩) λu X nq sk z V O U h=>⟨_,h.cell 0,fM rfl λw9 W=>?_⟩);have h:=h.drawn W;have J:nq.length=y.nd.length:=by grind
 have Z:=hI.nl;refine⟨λu=>aq (hp u) (aM r) (T6 s a b { y with mv:=y.mv++[(⟨1,q⟩,y.dp)] } V O)/\aq (hp u) (aM X) (bG ⟨1,q⟩),⟨af 1 h.l,af 0 h.l⟩,_,λu e=>e.1.cell sZZ (j:=1) rfl,_,λu e=>e.1.cell sZZ (j:=5) rfl,?_⟩;refine(aeG (s:=t) (t:=y.dp) (h.pick 10 [6,7,8,9,0,1,2,3,4,5]) ω (by rw[hI.tl,J])).mono ?_;rintro _ a5⟨rfl,z',h⟩;refine⟨_,_,rfl,⟨af 5 h.l,af 4 h.l⟩,λa4 W=>?_⟩;have h:=h.drawn W;refine⟨λu=>aq (hp u) (aM r) (T6 s a b { y with mv:=y.mv++[(⟨1,q⟩,y.dp)] } V O)/\aq (hp u) (aM X) (bG ⟨1,q⟩),⟨af 5 h.l,af 4 h.l⟩,_,λu e=>e.1.cell0 sZZ,_,λu e=>e.2.cell sZZ (j:=1) rfl,?_⟩;have a0:=hI.il;refine(Zm (h.pick 10 [7,8,9,0,1,2,3,4,5,6]) (by simp_all[gb]) (by grind)).mono ?_;rintro _ Y⟨rfl,x',h⟩
 refine⟨_,rfl,rfl,nq++[(((t:Int),(-1:Int),(y.dp:Int)),((none,0),[]))],x',z',V,O,?_,?_⟩
 ·show(nq++_).map ym=y.nd++[⟨t,-1,y.dp,[]⟩]
  rw[ag7,U];rfl
 ·have e1:yg (((t:Int),q,Tr.lf t y.dp)::y.es)=yg y.es++[(q:Int)]:=yh _ _;have e2:Wb (y.nd.length::y.ids).reverse=Wb y.ids.reverse++[(nq.length:Int)]:=by simp_all
  unfold Bn;dsimp only;rw[e1,e2];exact h.pick 10 [8,9,0,1,2,3,4,5,6]
theorem aeM{t:Int}{m:Nat}{q:aJ}(hT:Bq H b x oA oG xp g As Gs p)(hL:∀h,aF L h->sub H h)(hGt:GtI g ss Gs)(hI:mH g ss y)(hq:g.prods[m]? =some q)(hk:q.right.length<=y.es.length)(hl:(y.es.drop q.right.length).length<64)(h1:(g.T:Int)<=q.left)(h2:q.left<((g.T+g.N:Nat):Int))(hsz:g.T<=1000/\g.N<=1000)
  (hn:dh ss (b8 (y.es.drop q.right.length)) q.left=some (G (b8 (y.es.drop q.right.length)) q.left:Int)) (hm:y.mv.length<=1000000) (h:nR r s a b y L w):ρ fx [vP (some (aM r)),.agg ⟨bG ⟨2,(m:Int)⟩⟩,iI t] w λv w'=>v=.tuple #[]/\nR r s a b (CX G m q y) L w':=by
 refine j5 (Sa hm h (c:=⟨2,(m:Int)⟩) λu k1 nq sk z mo mc a6 h=>⟨_,h.cell 0,bB rfl (fM rfl λb2 Y=>?_)⟩);have h:=h.drawn Y;have Z:nq.length=y.nd.length:=by grind
 have av:=hI.nl;have V:=hI.il;have b7:=hI.hl;obtain⟨n,O⟩:∃n,n=q.right.length:=⟨_,rfl⟩;obtain⟨R,hR⟩:∃R,R=T6 s a b { y with mv:=y.mv++[(⟨2,(m:Int)⟩,y.dp)] } mo mc:=⟨_,rfl⟩;have R0:R[0]? =some (vP (some (aM s))):=by simp_all
 have R1:R[1]? =some (vP (some (aM a))):=by simp_all
 have R2:R[2]? =some (vP (some (aM b))):=by simp_all
 rw[<-hR] at h;have z0:∀{u:aiA},aq (hp u) (aM r) R->u.cell? (aM r)=some (vP (some (aM s))):=λe=>by have:=e.cell sZZ R0;rwa [show(aM r).add 0=aM r from rfl] at this
 have W:∀{u:aiA}{X:List aE},St u (X++L)->sub H (hp u):=λ{u X} hh=>by
  induction X with
  |nil=>exact hL _ hh.l
  |cons A X ih=>exact ih hh.tail
 refine⟨λu=>aq (hp u) (aM r) R/\aq (hp u) (aM k1) (bG ⟨2,(m:Int)⟩),⟨af 1 h.l,af 0 h.l⟩,_,λu e=>e.1.cell sZZ R2,_,λu e=>e.2.cell sZZ (j:=1) rfl,?_⟩;refine(Zo (hT.mono (W (X:=[_,_,_,_,_,_,_,_,_,_]) h)) hq).mono ?_;rintro _ bb⟨rfl,a9⟩;have h:=h.eq a9;rw[<-O];refine⟨_,_,rfl,⟨af 1 h.l,af 0 h.l⟩,_,z0 (af 1 h.l),?_⟩;refine(af5 (n:=n) (h.pick 10 [3,4,5,0,1,2,6,7,8,9]) (by simp_all[gb]) (by simp_all[gb]) (by grind[gb])).mono ?_;rintro _ b5⟨o7,c7,x',rfl,h⟩;have eS:(yg y.es).take ((yg y.es).length-n)=yg (y.es.drop n):=IS _ _ ω
 have eD:(Wb y.ids.reverse).drop ((yg y.es).length-n)=Wb (y.ids.take n).reverse:=by
  rw[gb,<-List.map_drop,List.drop_reverse,V]
  grind
 have eI:(Wb y.ids.reverse).take ((yg y.es).length-n)=Wb (y.ids.drop n).reverse:=by
  rw[gb,<-List.map_take,List.take_reverse,V]
  grind
 rw[eS,eD,eI] at h;obtain⟨left,J⟩:∃left:Nat,q.left=left:=⟨q.left.toNat,ω⟩;refine⟨_,_,_,_,rfl,λal Y=>?_⟩;have h:=h.drawn Y;refine⟨λu=>aq (hp u) (aM r) R/\aq (hp u) (aM k1) (bG ⟨2,(m:Int)⟩),⟨af 5 h.l,af 4 h.l⟩,_,λu e=>e.1.cell sZZ R1,_,λu e=>e.2.cell sZZ (j:=1) rfl,?_⟩;have b6:=hI.nd;rw[J]
 refine(aeI (s:=left) (p:=m) (h.pick 11 [0,7,8,9,10,1,2,3,4,5,6]) ω (by rw[hI.tl,Z]) (λj U=>?_) ?_ (by grind)).mono ?_
 ·have U:=List.mem_of_mem_take (List.mem_reverse.1 U);exact⟨by simp_all,hI.tk j U⟩
 ·grind[List.reverse_perm,List.take_sublist]
 rintro _ b3⟨rfl,z',q',h⟩;refine⟨_,_,rfl,⟨af 8 h.l,af 7 h.l⟩,λba Y=>?_⟩;have h:=h.drawn Y;refine⟨λu=>aq (hp u) (aM r) R,af 8 h.l,_,λu e=>z0 e,_,λu e=>e.cell sZZ R2,_,λu e=>z0 e,?_⟩;have ad:(yg (y.es.drop n)).length=(y.es.drop n).length:=gb _;refine(af6 (h.pick 10 [4,5,6,7,8,9,0,1,2,3]) (by grind)).mono ?_;rintro _ b4⟨rfl,a7⟩;have h:=h.eq a7;obtain⟨j,U⟩:∃j:Nat,q.left=((g.T+j:Nat):Int):=⟨(q.left-g.T).toNat,ω⟩;have a4:j<g.N:=ω
 rw[U] at hn;obtain⟨l,am,a5⟩:=hGt _ j _ a4 hn;rw[yO];refine⟨_,rfl,af 8 h.l,(Zp (hT.mono (W (X:=[_,_,_,_,_,_,_,_,_,_]) h)) (n:=j) (s:=left) ω ω ω (by simp_all) a5).mono ?_⟩;rintro _ b1⟨rfl,a0⟩;have h:=h.gr a0;refine⟨_,rfl,af 8 h.l,?_⟩;refine(Zm (h.pick 10 [4,5,6,7,8,9,0,1,2,3]) (by simp_all) (by grind)).mono ?_;rintro _ aa⟨rfl,a8,h⟩
 refine⟨_,rfl,rfl,nq++[(((left:Int),(m:Int),(0:Int)),(q',Wb (y.ids.take n).reverse))],a8,z',mo,mc,?_,?_⟩
 ·show(nq++_).map ym=y.nd++[⟨q.left,m,0,Wb (y.ids.take q.right.length).reverse⟩]
  rw[ag7,a6,J,<-O];rfl
 ·have e1:yg (Gi G m q y.es)=yg (y.es.drop n)++[(G (b8 (y.es.drop q.right.length)) ((g.T+j:Nat):Int):Int)]:=by
   rw[<-U,O];exact yh (q.left,G (b8 (y.es.drop q.right.length)) q.left,Tr.nd m ((y.es.take q.right.length).map (·.2.2)).reverse) (y.es.drop q.right.length)
  have e2:Wb (y.nd.length::y.ids.drop q.right.length).reverse=Wb (y.ids.drop n).reverse++[(nq.length:Int)]:=by simp_all
  unfold CX;dsimp only;rw[e1,e2];rw[hR] at h;subst O;exact h.pick 10 [4,5,0,1,2,6,7,8,9]
theorem aeN{t:Int}{c:aD}(hc:c.kind=3)(hm:y.mv.length<=1000000)(h:nR r s a b y L w):ρ fx [vP (some (aM r)),.agg ⟨bG c⟩,iI t] w λv w'=>v=.tuple #[]/\nR r s a b (PO c y) L w':=by
 refine j5 (Sa hm h (c:=c) λu W nq O z U J u h=>⟨_,h.cell 0,bB (by simp_all) (bB (by simp_all) (fM (by simp_all) ?_))⟩)
 show st1 _ ((aM r).add 6) _ _
 rw[ak];refine aR (i:=6) h.tail σ λV h=>⟨rfl,nq,O,z,U,J,u,h⟩
end
def jH(g:ah)(A':Int->Int->aD)(G':Int->Int->Int)(G:Nat->Int->Nat)(t:Nat)(y:cE):Option (Bool×cE):=match V6 g A' G' t 1024 (yg y.es) [] with
 |none=>none
 |some (false,_,_)=>some (false,y)
 |some (true,ms,_)=>some (true,EO t (ms.foldl (zK g G t) y))
structure EX(g:ah)(ss:List SQ)(A:Nat->Int->aD)(G:Nat->Int->Nat)(Gs:List (List Int))(p:dB):Prop where
 hc:aw g
 hA:bC g ss
 hb:lq g
 hS:Sd g ss A G
 hN:aem g ss A G (bq p) (bW p)
 hG:GtI g ss Gs
section
variable{g:ah}{ss:List SQ}{A:Nat->Int->aD}{G:Nat->Int->Nat}{Gs:List (List Int)}{p:dB}{y:cE}
theorem aeO(hc:aw g)(hA:bC g ss){q:Nat}{s j:Int}(h:dh ss q s=some j):s<((g.T+g.N:Nat):Int):=by
 obtain⟨V,k,e,u,O,J,U⟩:=lB h;have:=(dm hc hA u O).2.1;omega
theorem Nr(h:aw g):∀q∈g.prods,q.left<((g.T+g.N:Nat):Int):=λq O=>by
 have V:=h.cK
 obtain⟨_,W,U,X,u,hl,_⟩:=h
 obtain⟨n,hn⟩:=ahb O
 cases n with
 |zero=>grind
 |succ n=>
  have J:q∈g.prods.drop 1:=by
   refine agL (i:=n) ?_
   simp_all
  have:=((U.2.2.1 q J).1).2.1
  omega
theorem aeP(t:Nat)(a:aD):(zK g G t y a).mv.length<=y.mv.length+1:=by grind[zK,Bn,CX,PO]
theorem T7(t:Nat):∀(ms:List aD)(y:cE),(ms.foldl (zK g G t) y).mv.length<=y.mv.length+ms.length
 |[],y=>agT _
 |a::ms,y=>by
  have h1:=T7 t ms (zK g G t y a)
  grind[aeP,List.length_cons]
theorem Da(t:Nat):∀(ms:List aD)(y:cE),(ms.foldl (zK g G t) y).dp=y.dp
 |[],y=>rfl
 |a::ms,y=>by
  rw[List.foldl_cons,Da t ms]
  unfold zK
  split
  ·rfl
  ·split
   ·split<;>rfl
   rfl
inductive Je (g:ah) (A:Nat->Int->aD) (G:Nat->Int->Nat) (t:Nat):List yN->List aD->Prop
 |sh (l:List yN):(A (b8 l) t).kind=1->l.length<64->Je g A G t l [A (b8 l) t]
 |ac (l:List yN):(A (b8 l) t).kind=3->Je g A G t l [A (b8 l) t]
 |rd (l:List yN) (m:Nat) (q:aJ) (ms:List aD):A (b8 l) t=⟨2,(m:Int)⟩->g.prods[m]? =some q->q.right.length<=l.length->(l.drop q.right.length).length<64->Je g A G t (Gi G m q l) ms->Je g A G t l (⟨2,(m:Int)⟩::ms)
theorem T8{t:Nat}{l l':List yN}{rs ms:List aD}{t':Int}(ht:(t:Int)=t')(h:PN g A G t' l rs l')(he:Je g A G t l' ms):Je g A G t l (rs++ms):=by
 induction h with
 |nil=>grind
 |cons l m q ms' l' h1 h2 h3 h4 _ ih=>
  subst ht;exact .rd l m q _ h1 h2 h3 h4 (ih he)
theorem Zr(h:EX g ss A G Gs p){t n:Nat}(ht:t<g.T){l:List yN}{ms:List aD}{st:List Int}(hw:oP ss l)(hr:V6 g (bq p) (bW p) t n (yg l) []=some (true,ms,st)):Je g A G t l ms:=by
 obtain⟨rs,l',J,U,V,O⟩:=RT h.hc h.hA h.hS h.hN ht n hw hr
 rcases O with⟨_,u,k2,rfl⟩|⟨_,u,rfl⟩|⟨hf,_⟩
 ·exact T8 rfl J (.sh l' u k2)
 ·exact T8 rfl J (.ac l' u)
 simp_all
end
section
variable{w:aiA}{L:List aE}{r s a b:Nat}{y:cE}{g:ah}{ss:List SQ}{A:Nat->Int->aD}{G:Nat->Int->Nat}{H:Hp}{x:GA}{oA oG:GN}{xp:PA}{As:List (List aD)}{Gs:List (List Int)}{p:dB}{t:Nat}
theorem Sb{A B:aE}{st ids:List Int}{x:SkP}{h:Hp}(hh:aF (A::B::T4 s st ids x L) h)(hl:st.length<=64):Ea h s st:=by
 obtain⟨J,s1,u⟩:=Az (A:=own 1 x.s st.length x.cs (iv st)) 3 hh;exact⟨x.s,st.length,x.cs,_,af 2 hh,(bt rfl (bH u)).mono s1,hl,te u⟩
theorem aeQ(hD:EX g ss A G Gs p)(hT:Bq H b x oA oG xp g As Gs p)(hL:∀h,aF L h->sub H h)(ht:t<g.T)(hI:mH g ss y){c:aD}{ms:List aD}(hd:Je g A G t y.es (c::ms))(hm:y.mv.length<=1000000)(h:nR r s a b y L w):
  ρ fx [vP (some (aM r)),.agg ⟨bG c⟩,iI (t:Int)] w λv w'=>v=.tuple #[]/\mH g ss (zK g G t y c)/\(ms=[]\/Je g A G t (zK g G t y c).es ms)/\nR r s a b (zK g G t y c) L w':=by
 have u:=hD.hc.cK;generalize hcm:c::ms=cm at hd;cases hd with
 |sh _ hk hl=>
  cases hcm;have hn:=hD.hS.sh _ t (by obtain⟨r,W⟩:=IP hD.hA hD.hc hI.PK;grind) ht hk;have h0:=(d_ hD.hc hD.hA hn).1;obtain⟨q,J⟩:∃q:Nat,(A (b8 y.es) t).to=q:=⟨(A (b8 y.es) t).to.toNat,ω⟩;have ha:A (b8 y.es) t=⟨1,(q:Int)⟩:=by cases hh:A (b8 y.es) t;simp_all
  rw[J] at hn;have e:zK g G t y (A (b8 y.es) t)=Bn t q y:=by rw[ha];rfl
  rw[e,ha];refine(aeL hI hl hm h).mono ?_;rintro _ w'⟨rfl,h⟩;exact⟨rfl,hI.sh hn hl,.inl rfl,h⟩
 |ac _ hk=>
  cases hcm;have e:zK g G t y (A (b8 y.es) t)=PO (A (b8 y.es) t) y:=by simp_all[zK]
  rw[e];refine(aeN hk hm h).mono ?_;rintro _ w'⟨rfl,h⟩;exact⟨rfl,hI.ac _,.inl rfl,h⟩
 |rd _ m q ms' h1 h2 h3 h4 h5=>
  cases hcm;obtain⟨m',X,g1,g2,g3,V,O,U⟩:=hD.hS.PK hD.hc hD.hA hI.PK ht (by grind);rw[h1] at g1;have:m=m':=by grind
  subst this;rw[h2] at g2;cases g2;have e:zK g G t y ⟨2,(m:Int)⟩=CX G m q y:=by unfold zK;simp_all
  rw[e];refine(aeM hT hL hD.hG hI h2 h3 h4 O (Nr hD.hc q (agL h2)) ξ U hm h).mono ?_;rintro _ w'⟨rfl,h⟩;exact⟨rfl,hI.rd h2 h3 V h4,.inr h5,h⟩
abbrev T9(g:ah)(ss:List SQ)(r s a b:Nat)(y:cE)(F:Option (Bool×cE))(L:List aE)(v:Value)(w':aiA):Prop:=
 (F=none/\v=.tuple #[vB false,iI 15]/\nR r s a b y L w')\/∃f y',F=some (f,y')/\v=.tuple #[vB f,iI 0]/\mH g ss y'/\y'.mv.length<=y.mv.length+1025/\nR r s a b y' L w'
theorem T_(hD:EX g ss A G Gs p)(hT:Bq H b x oA oG xp g As Gs p)(hL:∀h,aF L h->sub H h)(ht:t<g.T)(hI:mH g ss y)(hm:y.mv.length<=900000)(hcn:y.dp<=1000000){f:Bool}{ms:List aD}{st:List Int}(hr:V6 g (bq p) (bW p) t 1024 (yg y.es) []=some (f,ms,st))(hml:ms.length<=1025){k5:Nat}{om o2:aiz}{mc n2 c2:Nat}{w7:aiA}
  (h:nR r s a b y (az k5 [vB f,vS om ms.length mc,vS o2 n2 c2]::own 2 om ms.length mc (du ms)::L) w7):
  ∃(x1:lP [(33,yV)]),br ((0:Int) !=0) (x1 true w7) (∃b3,World.cell? w7 (aM k5)=some (vB b3)/\x1 (!b3) w7)/\∀(I2:ν) b4 w8,x1 b4 w8->br b4 (T9 g ss r s a b y (jH g (bq p) (bW p) G t y) L (vT (Array.mk [vB false,iI 0])) w8) (∃o5 k6 k7,World.cell? w8 (Addr.add (aM k5) 1)=some (vS o5 k6 k7)/\τ [(38,aN)] λx2 x3=>x2 0 w8/\∀(I3:ν) n2 w9,x2 n2 w9->br (decide (n2<(↑k6:Int))) (idx o5 k6 n2 2 λa4=>∃n3 n4,rowAt w9 a4 0 2=some [iI n3,iI n4]/\new w9 (oC [iI 0,iI 0] rq) λk8 w10=>bA w10 (aM k8) [iI n3,iI n4] λw11=>∃n5 n6,rowAt w11 (aM k8) 0 2=some [iI n5,iI n6]/\iA Tryz.prog Ev fx [vP (some (aM r)),vA (Array.mk [iI n5,iI n6]),iI (t:Int)] w11 λv2 w12=>v2=vT (Array.mk [])/\aA (n2+1)/\x2 (n2+1) w12/\x3 (n2+1) w12<x3 n2 w9) (br (decide (0<(t:Int))) (nn (some (aM r)) λa5=>∃n7,World.cell? w9 (Addr.add a5 5)=some (iI n7)/\aA (n7+1)/\nn (some (aM r)) λa6=>st1 w9 (Addr.add a6 5) (iI (n7+1)) λw13=>T9 g ss r s a b y (jH g (bq p) (bW p) G t y) L (vT (Array.mk [vB true,iI 0])) w13) (T9 g ss r s a b y (jH g (bq p) (bW p) G t y) L (vT (Array.mk [vB true,iI 0])) w9))):=by
 have hF:jH g (bq p) (bW p) G t y=if f then some (true,EO t (ms.foldl (zK g G t) y)) else some (false,y):=by grind[jH]
 have V:∀{J:cE}{u:aiA},nR r s a b J (az k5 [vB f,vS om ms.length mc,vS o2 n2 c2]::own 2 om ms.length mc (du ms)::L) u->nR r s a b J L u:=λh=>by
  obtain⟨nq,Z,z,mo,U,O,h⟩:=h;exact⟨nq,Z,z,mo,U,O,h.pick 11 [0,1,2,3,4,5,6,7,8]⟩
 have h5:∀{J:cE}{u:aiA},nR r s a b J (az k5 [vB f,vS om ms.length mc,vS o2 n2 c2]::own 2 om ms.length mc (du ms)::L) u->aq (hp u) (aM k5) [vB f,vS om ms.length mc,vS o2 n2 c2]/\aX (hp u) ms om ms.length:=λh=>by
  obtain⟨nq,Z,z,mo,U,O,h⟩:=h;exact⟨af 9 h.l,CZ rfl (dN 10 h.l)⟩
 refine⟨λz u=>z= !f/\u=w7,bB rfl ⟨_,(h5 h).1.cell0 sZZ,rfl,rfl⟩,?_⟩;rintro _ _ w8⟨rfl,rfl⟩;cases f with
 |false=>exact fM rfl (.inr ⟨false,y,by simp_all,rfl,hI,ω,V h⟩)
 |true=>
 have hW:=Zr hD ht hI.PK hr;refine bB rfl ⟨_,_,_,(h5 h).1.cell sZZ (j:=1) rfl,λz u=>∃(j:Nat)(J:cE),z=j/\j<=ms.length/\J=(ms.take j).foldl (zK g G t) y/\mH g ss J/\(ms.drop j=[]\/Je g A G t J.es (ms.drop j))/\nR r s a b J (az k5 [vB true,vS om ms.length mc,vS o2 n2 c2]::own 2 om ms.length mc (du ms)::L) u,λz _=>ms.length-z.toNat,⟨0,y,rfl,agP _,rfl,hI,.inr hW,h⟩,?_⟩;clear h hW;rintro _ _ w9⟨j,J,rfl,hj,hy,Y,hW,h⟩;have a9:J.mv.length<=y.mv.length+j:=by grind[T7,List.length_take]
 refine ae (λX=>?_) λX=>?_
 ·have X:j<ms.length:=by simp_all
  obtain⟨c,ad,vs,hx,ha,a0,W⟩:=(h5 h).2.get X;have W:vs=bG c:=W;subst W;have aa:ms.drop j=c::ms.drop (j+1):=by grind[List.drop_eq_getElem_cons,List.getElem?_eq_getElem]
  have hW:Je g A G t J.es (c::ms.drop (j+1)):=by simp_all
  have a7:(ms.take (j+1)).foldl (zK g G t) y=zK g G t J c:=by grind
  refine aO ha X ⟨_,_,a0.at sZZ rfl,?_⟩;obtain⟨nq,Z,z,mo,U,O,h⟩:=h;refine ag h λk8 w10 h=>aL h rfl (by simp[aK]) λw11 h=>⟨_,_,(af 0 h.l).at sZZ rfl,?_⟩;refine(aeQ hD hT (L:=az k5 [vB true,vS om ms.length mc,vS o2 n2 c2]::own 2 om ms.length mc (du ms)::L) (λh hh=>hL _ (aj (aj hh))) ht Y hW ω ⟨nq,Z,z,mo,U,O,h.tail⟩).mono ?_;rintro _ w12⟨rfl,q1,q2,h⟩;exact⟨rfl,ξ,⟨j+1,_,σ,X,a7.symm,q1,q2,h⟩,bR X⟩
 ·have X:ms.length=j:=by grind
  rw[ag4 ω] at hy;have hF:jH g (bq p) (bW p) G t y=some (true,EO t J):=by simp_all
  have h:=V h;have a8:J.dp=y.dp:=by simp_all[Da]
  refine ae (λh2=>?_) λh2=>?_
  ·have h2:0<t:=by simp_all
   obtain⟨nq,Z,z,mo,U,O,h⟩:=h;refine⟨_,by rw[ak];exact h.cell 5,ξ,?_⟩
   show st1 _ ((aM r).add 5) _ _
   rw[ak]
   refine aR (i:=5) h σ λw13 h=>.inr ⟨true,_,hF,rfl,Y.fin t,?_,?_⟩
   ·unfold EO;grind
   ·unfold EO;rw[ag0 h2];exact⟨nq,Z,z,mo,U,O,h⟩
  ·have h2:¬0<t:=by simp_all
   refine .inr ⟨true,_,hF,rfl,Y.fin t,?_,?_⟩
   ·unfold EO;grind
   simp_all[EO]
theorem aeR(hD:EX g ss A G Gs p)(hT:Bq H b x oA oG xp g As Gs p)(hL:∀h,aF L h->sub H h)(ht:t<g.T)(hI:mH g ss y)(hm:y.mv.length<=900000)(hcn:y.dp<=1000000)(h:nR r s a b y L w):
  ρ 58 [vP (some (aM r)),iI (t:Int)] w (T9 g ss r s a b y (jH g (bq p) (bW p) G t y) L):=by
 refine AP λw1 hd=>?_;obtain⟨nq,sk,z,mo,X,O,h⟩:=h;have h:=h.drawn hd;have hQ:=YR hD.hc hD.hA hD.hb hD.hS hD.hN ht λq hq=>by have:=Nr hD.hc q hq;have:=hD.hc.cK;omega
 have Y:∀{A B:aE}{st ids:List Int}{x:SkP}{h:Hp},aF (A::B::T4 s st ids x (Qw a nq y.tk z L)) h->sub H h:=λV=>hL _ (aj (aj (aj (aj (aj (aj (aj (aj (aj V)))))))));have J:(yg y.es).length<=64:=by rw[gb];exact hI.hl
 have Z:∃es,oP ss es/\yg y.es=yg es:=⟨y.es,hI.PK,rfl⟩
 refine⟨λu=>aq (hp u) (aM r) (T6 s a b y mo X),af 0 h.l,_,λu e=>e.cell sZZ (j:=2) rfl,_,λu e=>e.cell sZZ (j:=3) rfl,_,λu e=>e.cell0 sZZ,?_,?_⟩
 ·refine(Zq hT hD.hb hQ Z J (λh V=>⟨Sb V J,Y V⟩) h).mono ?_
  rintro _ w5 (⟨hn,rfl,h⟩|⟨f,ms,l,o,o2,c,n,c2,hr,rfl,U,h⟩)
  ·refine⟨_,_,_,_,_,_,_,_,rfl,af 0 h.l,ag h λk5 w6 h=>⟨af 1 h.l,aL h rfl (by simp[aK]) λw7 h=>⟨af 1 h.l,λz u=>z=true/\u=w7,fM rfl ⟨rfl,rfl⟩,?_⟩⟩⟩;rintro _ _ _⟨rfl,rfl⟩;exact fM rfl (.inl ⟨by simp_all[jH],rfl,nq,sk,z,mo,X,O,h.tail⟩)
  ·refine⟨_,_,_,_,_,_,_,_,rfl,af 1 h.l,ag h λk5 w6 h=>⟨af 2 h.l,aL h rfl (by simp[aK]) λw7 h=>⟨af 2 h.l,?_⟩⟩⟩;exact T_ hD hT hL ht hI hm hcn hr U ⟨nq,sk,z,mo,X,O,h.pick 11 [2,3,4,5,6,7,8,9,10,0,1]⟩
 ·refine ag h λk9 a4 h=>⟨af 1 h.l,(Zq hT hD.hb hQ Z J (λh V=>⟨Sb (aj V) J,Y (aj V)⟩) h).mono ?_⟩
  rintro _ a0 (⟨hn,rfl,h⟩|⟨f,ms,l,o,o2,c,n,c2,hr,rfl,U,h⟩)
  ·refine⟨_,_,_,_,_,_,_,_,rfl,af 1 h.l,aL h rfl (by simp[aK]) λW h=>⟨af 1 h.l,λz u=>z=true/\u=W,fM rfl ⟨rfl,rfl⟩,?_⟩⟩;rintro _ _ _⟨rfl,rfl⟩;exact fM rfl (.inl ⟨by simp_all[jH],rfl,nq,sk,z,mo,X,O,h.tail⟩)
  ·refine⟨_,_,_,_,_,_,_,_,rfl,af 2 h.l,aL h.swap rfl (by simp[aK]) λW h=>⟨af 2 h.l,?_⟩⟩;exact T_ hD hT hL ht hI hm hcn hr U ⟨nq,sk,z,mo,X,O,h.pick 11 [2,3,4,5,6,7,8,9,10,0,1]⟩
end
end Go.Proofs.YtaoaemnefghnbaaGreatDoor
